/-
  MADE BY PROGRAM (gen.py) out of the loaded translation.
-/
import Derived.Test.YtocdfkeflakemaaTab
set_option linter.unusedSimpArgs false
set_option linter.unusedVariables false
set_option maxRecDepth 100000
set_option linter.unusedVariables false
namespace Go.Proofs.Ytocdfkeflakemaa
open Go Go.Vx

/-- copyist/copyistlaw11.RegisterLast -/
noncomputable def F3 (a0 : Sl) (a1 : Int) (a2 : Int) (a3 : Sl) (a4 : Bool) (K : Bool → World → Prop) : World → Prop :=
  callT Try.prog 12 #[] (.one (.one .bool)) fun (x1 : Bool) =>
  sif (!x1) (
    K false) (
    join (S := Bool × Unit) (fun J2 =>
      sif (decide (a1 ≥ (97 : Int))) (
        sif (decide (a1 ≤ (122 : Int))) (
          J2 (true, ())) (
          sif (decide (a1 ≥ (48 : Int))) (
            sif (decide (a1 ≤ (57 : Int))) (
              J2 (true, ())) (
              sif (a1 == (45 : Int)) (
                J2 (true, ())) (
                sif (a1 == (34 : Int)) (
                  J2 (true, ())) (
                  J2 ((a1 == (0 : Int)), ()))))) (
            sif (a1 == (45 : Int)) (
              J2 (true, ())) (
              sif (a1 == (34 : Int)) (
                J2 (true, ())) (
                J2 ((a1 == (0 : Int)), ())))))) (
        sif (decide (a1 ≥ (48 : Int))) (
          sif (decide (a1 ≤ (57 : Int))) (
            J2 (true, ())) (
            sif (a1 == (45 : Int)) (
              J2 (true, ())) (
              sif (a1 == (34 : Int)) (
                J2 (true, ())) (
                J2 ((a1 == (0 : Int)), ()))))) (
          sif (a1 == (45 : Int)) (
            J2 (true, ())) (
            sif (a1 == (34 : Int)) (
              J2 (true, ())) (
              J2 ((a1 == (0 : Int)), ())))))) fun (s3 : Bool × Unit) =>
    join (S := Bool × Unit) (fun J4 =>
      sif (!s3.1) (
        J4 (true, ())) (
        sif (a2 != (0 : Int)) (
          sif (a2 != (1 : Int)) (
            J4 (true, ())) (
            sif (((a3.len : Nat) : Int) == (0 : Int)) (
              J4 (true, ())) (
              J4 ((decide (((a3.len : Nat) : Int) > (100000 : Int))), ())))) (
          sif (((a3.len : Nat) : Int) == (0 : Int)) (
            J4 (true, ())) (
            J4 ((decide (((a3.len : Nat) : Int) > (100000 : Int))), ()))))) fun (s5 : Bool × Unit) =>
    sif s5.1 (
      K true) (
      callT Try.prog 13 #[(.slice a0.a a0.len a0.cap)] (.one (.one .ptr)) fun (x6 : Option Addr) =>
      sif (Option.isNone x6) (
        K false) (
        rawT Try.prog (.one (.one .sl)) (Builtin.append_ #[23, 23] 23 #[(.slice none 0 0), (.slice a3.a a3.len a3.cap)]) fun (x7 : Sl) =>
        newO (.cells #[(.int .i64 (0 : Int)), (.slice none 0 0)] 28) fun b8 =>
        aggSt (at0 b8) (.agg #[(.int .i64 a2), (.slice x7.a x7.len x7.cap)]) 2 <|
        join (S := Bool × Unit) (fun J9 =>
          sloop (S := Bool × Int × Unit) (fun (s11 : Bool × Int × Unit) again12 =>
            sif (decide (s11.2.1 < ((a3.len : Nat) : Int))) (
              join (S := Bool × Unit) (fun J13 =>
                sif s11.1 (
                  J13 (true, ())) (
                  ix a3.a a3.len s11.2.1 fun p15 =>
                  ld (.int .i64) (p15.add (scaled (Int.toNat s11.2.1) 1)) fun (x16 : Int) =>
                  sif (x16 == (10 : Int)) (
                    J13 (true, ())) (
                    ix a3.a a3.len s11.2.1 fun p17 =>
                    ld (.int .i64) (p17.add (scaled (Int.toNat s11.2.1) 1)) fun (x18 : Int) =>
                    J13 ((x18 == (13 : Int)), ())))) fun (s14 : Bool × Unit) =>
              again12 (s14.1, (IntKind.wrap .i64 (s11.2.1 + (1 : Int))), ())) (
              J9 (s11.1, ()))) ((a2 == (1 : Int)), (0 : Int), ())) fun (s10 : Bool × Unit) =>
        join (S := Int × Int × Unit) (fun J19 =>
          sif a4 (
            lds c28 (at0 b8) fun (x21 : (Int × Sl × Unit)) =>
            callT Try.prog 14 #[(.pointer x6), (.int .i64 a1), (.agg (Cells.vals c28 x21).toArray)] (.one (.one (.int .i64))) fun (x22 : Int) =>
            join (S := Bool × Unit) (fun J23 =>
              sif (a1 == (0 : Int)) (
                J23 (true, ())) (
                J23 ((a1 == (34 : Int)), ()))) fun (s24 : Bool × Unit) =>
            sif s24.1 (
              J19 ((48 : Int), x22, ())) (
              J19 (a1, x22, ()))) (
            lds c28 (at0 b8) fun (x25 : (Int × Sl × Unit)) =>
            callT Try.prog 15 #[(.pointer x6), (.int .i64 a1), (.agg (Cells.vals c28 x25).toArray)] (.one (.one (.int .i64))) fun (x26 : Int) =>
            join (S := Bool × Unit) (fun J27 =>
              sif (a1 == (0 : Int)) (
                J27 (true, ())) (
                J27 ((a1 == (34 : Int)), ()))) fun (s28 : Bool × Unit) =>
            sif s28.1 (
              sif s10.1 (
                J19 ((49 : Int), x26, ())) (
                J19 ((45 : Int), x26, ()))) (
              J19 (a1, x26, ())))) fun (s20 : Int × Int × Unit) =>
        callT Try.prog 16 #[(.int .i64 a2), (.slice a3.a a3.len a3.cap)] (.one (.one .sl)) fun (x29 : Sl) =>
        sif (s20.2.1 == (0 : Int)) (
          callT Try.prog 17 #[(.pointer x6), (.int .i64 s20.1), (.int .i64 a2), (.slice x29.a x29.len x29.cap)] (.one (.one .bool)) fun (x30 : Bool) =>
          sif x30 (
            callT Try.prog 17 #[(.pointer x6), (.int .i64 (0 : Int)), (.int .i64 a2), (.slice x29.a x29.len x29.cap)] (.one (.one .bool)) fun (x31 : Bool) =>
            sif x31 (
              callT Try.prog 17 #[(.pointer x6), (.int .i64 (34 : Int)), (.int .i64 a2), (.slice x29.a x29.len x29.cap)] (.one (.one .bool)) fun (x32 : Bool) =>
              K x32) (
              K false)) (
            K false)) (
          K false))))
noncomputable def h3 : Hint := (.seq none (.region [] (.ops 1 .done)) (.seq none (.seq none (.region [] (.ops 2 .done)) (.cond none (.seq none (.region [] (.ops 1 .done)) .leaf) .leaf)) (.seq (some (140737486260224, [(11, (.one .bool))])) (.region [] (.ops 3 (.split 23 (.ops 4 (.split 27 (.skips 6 (.ops 2 (.skips 2 (.ops 2 (.skips 2 (.ops 2 (.skips 2 (.ops 2 .done)))))))) (.ops 3 (.split 30 (.ops 5 (.split 35 (.skips 2 (.ops 2 (.skips 2 (.ops 2 (.skips 2 (.ops 2 .done)))))) (.ops 4 (.split 39 (.skips 2 (.ops 2 (.skips 2 (.ops 2 .done)))) (.ops 4 (.split 43 (.skips 2 (.ops 2 .done)) (.ops 4 .done))))))) (.skips 2 (.ops 7 (.split 39 (.skips 2 (.ops 2 (.skips 2 (.ops 2 .done)))) (.ops 4 (.split 43 (.skips 2 (.ops 2 .done)) (.ops 4 .done)))))))))) (.skips 2 (.ops 5 (.split 30 (.ops 5 (.split 35 (.skips 2 (.ops 2 (.skips 2 (.ops 2 (.skips 2 (.ops 2 .done)))))) (.ops 4 (.split 39 (.skips 2 (.ops 2 (.skips 2 (.ops 2 .done)))) (.ops 4 (.split 43 (.skips 2 (.ops 2 .done)) (.ops 4 .done))))))) (.skips 2 (.ops 7 (.split 39 (.skips 2 (.ops 2 (.skips 2 (.ops 2 .done)))) (.ops 4 (.split 43 (.skips 2 (.ops 2 .done)) (.ops 4 .done)))))))))))) (.seq none (.seq (some (147573811852188057600, [(66, (.one .bool))])) (.region [] (.ops 3 (.split 49 (.skips 6 (.ops 2 (.skips 3 (.ops 2 (.skips 3 (.ops 1 .done)))))) (.ops 3 (.split 52 (.ops 5 (.split 57 (.skips 3 (.ops 2 (.skips 3 (.ops 1 .done)))) (.ops 5 (.split 62 (.skips 3 (.ops 1 .done)) (.ops 4 .done))))) (.skips 2 (.ops 8 (.split 62 (.skips 3 (.ops 1 .done)) (.ops 4 .done))))))))) (.cond none (.seq none (.region [] (.ops 1 .done)) .leaf) .leaf)) (.seq none (.region [] (.ops 3 .done)) (.seq none (.seq none (.region [] (.ops 2 .done)) (.cond none (.seq none (.region [] (.ops 1 .done)) .leaf) .leaf)) (.seq none (.region [] (.ops 6 .done)) (.seq none (.region [] (.ops 3 .done)) (.seq (some (316912498941329898545529012224, [(14, (.one .bool))])) (.seq none (.region [] (.ops 1 .done)) (.block (.loop 316912498941329898545529012224 [(14, (.one .bool)), (15, (.one (.int .i64)))] (.seq none (.seq none (.region [] (.ops 4 .done)) (.cond none .leaf .leaf)) (.seq (some (316902978650500433340778168320, [(14, (.one .bool))])) (.block (.region [] (.ops 2 (.split 84 (.skips 5 (.ops 2 (.skips 5 (.ops 2 .done)))) (.ops 7 (.split 91 (.skips 5 (.ops 2 .done)) (.ops 7 .done))))))) (.region [] (.ops 3 .done))))))) (.seq none (.region [] (.ops 2 .done)) (.seq none (.region [] (.ops 1 .done)) (.seq (some (2658455357744531631692913372209283072, [(16, (.one (.int .i64))), (17, (.one (.int .i64)))])) (.seq none (.region [] (.ops 1 .done)) (.cond none (.seq none (.region [] (.ops 5 .done)) (.seq (some (1277791805030055236708676831019008, [(109, (.one .bool))])) (.region [] (.ops 3 (.split 106 (.skips 2 (.ops 1 .done)) (.ops 3 .done)))) (.cond none (.region [] (.ops 1 .done)) .leaf))) (.seq none (.region [] (.ops 5 .done)) (.seq (some (1308458808350776562389685074963464192, [(119, (.one .bool))])) (.region [] (.ops 3 (.split 116 (.skips 2 (.ops 1 .done)) (.ops 3 .done)))) (.cond none (.seq none (.region [] (.ops 1 .done)) (.seq none (.region [] (.ops 1 .done)) (.cond none (.region [] (.ops 1 .done)) .leaf))) .leaf))))) (.seq none (.region [] (.ops 4 .done)) (.seq none (.region [] (.ops 3 (.split 126 (.ops 7 (.split 133 (.ops 6 (.split 139 (.ops 6 .done) (.skips 4 (.ops 2 .done)))) (.skips 4 (.ops 2 (.skips 4 (.ops 2 .done)))))) (.skips 5 (.ops 2 (.skips 4 (.ops 2 (.skips 4 (.ops 2 .done))))))))) .leaf))))))))))))))
theorem F3_tie (a0 : Sl) (a1 : Int) (a2 : Int) (a3 : Sl) (a4 : Bool) (K : Bool → World → Prop) : vcgF tab Try.prog Try.f3 h3 [(.slice a0.a a0.len a0.cap), (.int .i64 a1), (.int .i64 a2), (.slice a3.a a3.len a3.cap), (.bool a4)] (.one (.one .bool)) K = F3 a0 a1 a2 a3 a4 K := by kernel_rfl
theorem F3_calls {a0 : Sl} {a1 : Int} {a2 : Int} {a3 : Sl} {a4 : Bool} {K : Bool → World → Prop} {w : World} (h : F3 a0 a1 a2 a3 a4 K w) : callT Try.prog 3 #[(.slice a0.a a0.len a0.cap), (.int .i64 a1), (.int .i64 a2), (.slice a3.a a3.len a3.cap), (.bool a4)] (.one (.one .bool)) K w :=
  vcgF_sound tabOk Try.func3 h3 [(.slice a0.a a0.len a0.cap), (.int .i64 a1), (.int .i64 a2), (.slice a3.a a3.len a3.cap), (.bool a4)] (.one (.one .bool)) K w (Eq.mpr (congrFun (F3_tie a0 a1 a2 a3 a4 K) w) h)

/-- copyist/copyistlaw11.RegisterRing -/
noncomputable def F4 (a0 : Sl) (a1 : Sl) (K : Bool → World → Prop) : World → Prop :=
  callT Try.prog 12 #[] (.one (.one .bool)) fun (x1 : Bool) =>
  sif (!x1) (
    K false) (
    callT Try.prog 13 #[(.slice a0.a a0.len a0.cap)] (.one (.one .ptr)) fun (x2 : Option Addr) =>
    join (S := Bool × Unit) (fun J3 =>
      sif (Option.isNone x2) (
        J3 (true, ())) (
        J3 ((decide (((a1.len : Nat) : Int) > (200 : Int))), ()))) fun (s4 : Bool × Unit) =>
    sif s4.1 (
      K (!(Option.isNone x2))) (
      join (S := Sl × Unit) (fun J5 =>
        sloop (S := Sl × Int × Unit) (fun (s7 : Sl × Int × Unit) again8 =>
          sif (decide (s7.2.1 < ((a1.len : Nat) : Int))) (
            join (S := Sl × Unit) (fun J9 =>
              ix a1.a a1.len s7.2.1 fun p11 =>
              ld (.sl) (p11.add (scaled (Int.toNat s7.2.1) 1)) fun (x12 : Sl) =>
              sif (decide (((x12.len : Nat) : Int) > (1000 : Int))) (
                J9 (s7.1, ())) (
                join (S := Bool × Unit) (fun J13 =>
                  ix a1.a a1.len s7.2.1 fun p15 =>
                  ld (.sl) (p15.add (scaled (Int.toNat s7.2.1) 1)) fun (x16 : Sl) =>
                  rawT Try.prog (.one (.one .sl)) (Builtin.append_ #[23, 23] 23 #[(.slice none 0 0), (.slice x16.a x16.len x16.cap)]) fun (x17 : Sl) =>
                  callT Try.prog 15 #[(.pointer x2), (.int .i64 (0 : Int)), (.agg #[(.int .i64 (1 : Int)), (.slice x17.a x17.len x17.cap)])] (.one (.one (.int .i64))) fun (x18 : Int) =>
                  sif (x18 != (0 : Int)) (
                    J13 (true, ())) (
                    newO (.cells #[(.int .i64 s7.2.1)] 3) fun b19 =>
                    callT Try.prog 14 #[(.pointer x2), (.int .i64 (0 : Int)), (.agg #[(.int .i64 (0 : Int)), (.slice (some (at0 b19)) 1 1)])] (.one (.one (.int .i64))) fun (x20 : Int) =>
                    J13 ((x20 != (0 : Int)), ()))) fun (s14 : Bool × Unit) =>
                sif s14.1 (
                  K false) (
                  ix a1.a a1.len s7.2.1 fun p21 =>
                  ld (.sl) (p21.add (scaled (Int.toNat s7.2.1) 1)) fun (x22 : Sl) =>
                  callT Try.prog 16 #[(.int .i64 (1 : Int)), (.slice x22.a x22.len x22.cap)] (.one (.one .sl)) fun (x23 : Sl) =>
                  newO (.cells #[(.slice x23.a x23.len x23.cap)] 23) fun b24 =>
                  rawT Try.prog (.one (.one .sl)) (Builtin.append_ #[34, 34] 34 #[(.slice s7.1.a s7.1.len s7.1.cap), (.slice (some (at0 b24)) 1 1)]) fun (x25 : Sl) =>
                  J9 (x25, ())))) fun (s10 : Sl × Unit) =>
            again8 (s10.1, (IntKind.wrap .i64 (s7.2.1 + (1 : Int))), ())) (
            J5 (s7.1, ()))) (⟨none, 0, 0⟩, (0 : Int), ())) fun (s6 : Sl × Unit) =>
      join (S := Unit) (fun J26 =>
        sloop (S := Int × Unit) (fun (s28 : Int × Unit) again29 =>
          join (S := Bool × Unit) (fun J30 =>
            sif (decide (s28.1 < (9 : Int))) (
              J30 ((decide (s28.1 < ((s6.1.len : Nat) : Int))), ())) (
              J30 (false, ()))) fun (s31 : Bool × Unit) =>
          sif s31.1 (
            ix s6.1.a s6.1.len (IntKind.wrap .i64 ((IntKind.wrap .i64 (((s6.1.len : Nat) : Int) - (1 : Int))) - s28.1)) fun p32 =>
            ld (.sl) (p32.add (scaled (Int.toNat (IntKind.wrap .i64 ((IntKind.wrap .i64 (((s6.1.len : Nat) : Int) - (1 : Int))) - s28.1))) 1)) fun (x33 : Sl) =>
            callT Try.prog 17 #[(.pointer x2), (.int .i64 (IntKind.wrap .i64 ((49 : Int) + s28.1))), (.int .i64 (1 : Int)), (.slice x33.a x33.len x33.cap)] (.one (.one .bool)) fun (x34 : Bool) =>
            sif (!x34) (
              K false) (
              again29 ((IntKind.wrap .i64 (s28.1 + (1 : Int))), ()))) (
            J26 ())) ((0 : Int), ())) fun (s27 : Unit) =>
      K true))
noncomputable def h4 : Hint := (.seq none (.region [] (.ops 1 .done)) (.seq none (.seq none (.region [] (.ops 2 .done)) (.cond none (.seq none (.region [] (.ops 1 .done)) .leaf) .leaf)) (.seq none (.region [] (.ops 3 .done)) (.seq none (.seq (some (1040384, [(19, (.one .bool))])) (.region [] (.ops 3 (.split 15 (.skips 3 (.ops 1 .done)) (.ops 4 .done)))) (.cond none (.seq none (.region [] (.ops 3 .done)) .leaf) .leaf)) (.seq none (.region [] (.ops 1 .done)) (.seq (some (576460752299229392, [(6, (.one .sl))])) (.seq none (.region [] (.ops 1 .done)) (.block (.loop 576460752299229392 [(6, (.one .sl)), (7, (.one (.int .i64)))] (.seq none (.seq none (.region [] (.ops 4 .done)) (.cond none .leaf .leaf)) (.seq (some (576460752034988112, [(6, (.one .sl))])) (.block (.seq none (.seq none (.region [] (.ops 6 .done)) (.cond none .leaf .leaf)) (.seq none (.seq (some (2251782633816064, [(50, (.one .bool))])) (.region [] (.ops 10 (.split 43 (.skips 6 (.ops 1 .done)) (.ops 7 .done)))) (.cond none (.seq none (.region [] (.ops 1 .done)) .leaf) .leaf)) (.region [] (.ops 9 .done))))) (.region [] (.ops 3 .done))))))) (.seq (some (4835702701997764395401488, [])) (.seq none (.region [] (.ops 1 .done)) (.block (.loop 4835702701997764395401488 [(8, (.one (.int .i64)))] (.seq none (.seq (some (146997491837372989440, [(66, (.one .bool))])) (.region [] (.ops 3 (.split 61 (.ops 5 .done) (.skips 4 (.ops 1 .done))))) (.cond none .leaf .leaf)) (.seq none (.block (.seq none (.region [] (.ops 13 .done)) (.cond none (.seq none (.region [] (.ops 1 .done)) .leaf) .leaf))) (.region [] (.ops 3 .done))))))) (.seq none (.region [] (.ops 1 .done)) .leaf))))))))
theorem F4_tie (a0 : Sl) (a1 : Sl) (K : Bool → World → Prop) : vcgF tab Try.prog Try.f4 h4 [(.slice a0.a a0.len a0.cap), (.slice a1.a a1.len a1.cap)] (.one (.one .bool)) K = F4 a0 a1 K := by kernel_rfl
theorem F4_calls {a0 : Sl} {a1 : Sl} {K : Bool → World → Prop} {w : World} (h : F4 a0 a1 K w) : callT Try.prog 4 #[(.slice a0.a a0.len a0.cap), (.slice a1.a a1.len a1.cap)] (.one (.one .bool)) K w :=
  vcgF_sound tabOk Try.func4 h4 [(.slice a0.a a0.len a0.cap), (.slice a1.a a1.len a1.cap)] (.one (.one .bool)) K w (Eq.mpr (congrFun (F4_tie a0 a1 K) w) h)

/-- copyist/copyistlaw11.RegisterAppend -/
noncomputable def F5 (a0 : Sl) (a1 : Int) (a2 : Sl) (K : Bool → World → Prop) : World → Prop :=
  callT Try.prog 12 #[] (.one (.one .bool)) fun (x1 : Bool) =>
  sif (!x1) (
    K false) (
    join (S := Bool × Unit) (fun J2 =>
      sif (decide (a1 < (97 : Int))) (
        J2 (true, ())) (
        sif (decide (a1 > (122 : Int))) (
          J2 (true, ())) (
          J2 ((decide (((a2.len : Nat) : Int) > (1000 : Int))), ())))) fun (s3 : Bool × Unit) =>
    sif s3.1 (
      K true) (
      callT Try.prog 13 #[(.slice a0.a a0.len a0.cap)] (.one (.one .ptr)) fun (x4 : Option Addr) =>
      join (S := Bool × Unit) (fun J5 =>
        sif (Option.isNone x4) (
          J5 (true, ())) (
          newO (.cells #[(.int .i64 (7 : Int))] 3) fun b7 =>
          callT Try.prog 14 #[(.pointer x4), (.int .i64 a1), (.agg #[(.int .i64 (0 : Int)), (.slice (some (at0 b7)) 1 1)])] (.one (.one (.int .i64))) fun (x8 : Int) =>
          J5 ((x8 != (0 : Int)), ()))) fun (s6 : Bool × Unit) =>
      sif s6.1 (
        K false) (
        newO (.cells #[(.int .i64 (7 : Int))] 3) fun b9 =>
        join (S := Sl × Unit) (fun J10 =>
          sloop (S := Sl × Int × Unit) (fun (s12 : Sl × Int × Unit) again13 =>
            sif (decide (s12.2.1 < ((a2.len : Nat) : Int))) (
              ix a2.a a2.len s12.2.1 fun p14 =>
              ld (.sl) (p14.add (scaled (Int.toNat s12.2.1) 1)) fun (x15 : Sl) =>
              sif (decide ((IntKind.wrap .i64 (((s12.1.len : Nat) : Int) + ((x15.len : Nat) : Int))) > (140000 : Int))) (
                ix a2.a a2.len s12.2.1 fun p16 =>
                ld (.sl) (p16.add (scaled (Int.toNat s12.2.1) 1)) fun (x17 : Sl) =>
                rawT Try.prog (.one (.one .sl)) (Builtin.append_ #[23, 23] 23 #[(.slice none 0 0), (.slice x17.a x17.len x17.cap)]) fun (x18 : Sl) =>
                callT Try.prog 14 #[(.pointer x4), (.int .i64 (IntKind.wrap .i64 (a1 - (32 : Int)))), (.agg #[(.int .i64 (0 : Int)), (.slice x18.a x18.len x18.cap)])] (.one (.one (.int .i64))) fun (x19 : Int) =>
                sif (x19 == (3 : Int)) (
                  callT Try.prog 17 #[(.pointer x4), (.int .i64 a1), (.int .i64 (0 : Int)), (.slice s12.1.a s12.1.len s12.1.cap)] (.one (.one .bool)) fun (x20 : Bool) =>
                  K x20) (
                  K false)) (
                join (S := Int × Unit) (fun J21 =>
                  chk ((2 : Int) ≠ 0) <|
                  sif ((Int.tmod s12.2.1 (2 : Int)) == (0 : Int)) (
                    ix a2.a a2.len s12.2.1 fun p23 =>
                    ld (.sl) (p23.add (scaled (Int.toNat s12.2.1) 1)) fun (x24 : Sl) =>
                    rawT Try.prog (.one (.one .sl)) (Builtin.append_ #[23, 23] 23 #[(.slice none 0 0), (.slice x24.a x24.len x24.cap)]) fun (x25 : Sl) =>
                    callT Try.prog 14 #[(.pointer x4), (.int .i64 (IntKind.wrap .i64 (a1 - (32 : Int)))), (.agg #[(.int .i64 (0 : Int)), (.slice x25.a x25.len x25.cap)])] (.one (.one (.int .i64))) fun (x26 : Int) =>
                    J21 (x26, ())) (
                    ix a2.a a2.len s12.2.1 fun p27 =>
                    ld (.sl) (p27.add (scaled (Int.toNat s12.2.1) 1)) fun (x28 : Sl) =>
                    rawT Try.prog (.one (.one .sl)) (Builtin.append_ #[23, 23] 23 #[(.slice none 0 0), (.slice x28.a x28.len x28.cap)]) fun (x29 : Sl) =>
                    callT Try.prog 15 #[(.pointer x4), (.int .i64 (IntKind.wrap .i64 (a1 - (32 : Int)))), (.agg #[(.int .i64 (0 : Int)), (.slice x29.a x29.len x29.cap)])] (.one (.one (.int .i64))) fun (x30 : Int) =>
                    J21 (x30, ()))) fun (s22 : Int × Unit) =>
                sif (s22.1 != (0 : Int)) (
                  K false) (
                  ix a2.a a2.len s12.2.1 fun p31 =>
                  ld (.sl) (p31.add (scaled (Int.toNat s12.2.1) 1)) fun (x32 : Sl) =>
                  rawT Try.prog (.one (.one .sl)) (Builtin.append_ #[23, 23] 23 #[(.slice s12.1.a s12.1.len s12.1.cap), (.slice x32.a x32.len x32.cap)]) fun (x33 : Sl) =>
                  again13 (x33, (IntKind.wrap .i64 (s12.2.1 + (1 : Int))), ())))) (
              J10 (s12.1, ()))) (⟨(some (at0 b9)), 1, 1⟩, (0 : Int), ())) fun (s11 : Sl × Unit) =>
        callT Try.prog 17 #[(.pointer x4), (.int .i64 a1), (.int .i64 (0 : Int)), (.slice s11.1.a s11.1.len s11.1.cap)] (.one (.one .bool)) fun (x34 : Bool) =>
        sif x34 (
          callT Try.prog 17 #[(.pointer x4), (.int .i64 (IntKind.wrap .i64 (a1 - (32 : Int)))), (.int .i64 (0 : Int)), (.slice s11.1.a s11.1.len s11.1.cap)] (.one (.one .bool)) fun (x35 : Bool) =>
          K x35) (
          K false))))
noncomputable def h5 : Hint := (.seq none (.region [] (.ops 1 .done)) (.seq none (.seq none (.region [] (.ops 2 .done)) (.cond none (.seq none (.region [] (.ops 1 .done)) .leaf) .leaf)) (.seq none (.seq (some (16769024, [(23, (.one .bool))])) (.region [] (.ops 3 (.split 15 (.skips 2 (.ops 2 (.skips 3 (.ops 1 .done)))) (.ops 4 (.split 19 (.skips 3 (.ops 1 .done)) (.ops 4 .done)))))) (.cond none (.seq none (.region [] (.ops 1 .done)) .leaf) .leaf)) (.seq none (.region [] (.ops 3 .done)) (.seq none (.seq (some (68652367872, [(35, (.one .bool))])) (.region [] (.ops 3 (.split 28 (.skips 6 (.ops 1 .done)) (.ops 7 .done)))) (.cond none (.seq none (.region [] (.ops 1 .done)) .leaf) .leaf)) (.seq none (.region [] (.ops 2 .done)) (.seq (some (1267650600228229401359264253760, [(8, (.one .sl))])) (.seq none (.region [] (.ops 1 .done)) (.block (.loop 1267650600228229401359264253760 [(8, (.one .sl)), (9, (.one (.int .i64)))] (.seq none (.seq none (.region [] (.ops 4 .done)) (.cond none .leaf .leaf)) (.seq none (.block (.seq none (.seq none (.region [] (.ops 9 .done)) (.cond none (.seq none (.region [] (.ops 12 (.split 63 (.ops 6 .done) (.skips 4 (.ops 2 .done))))) .leaf) .leaf)) (.seq none (.region [] (.ops 1 .done)) (.seq (some (4951759566845710740890846208, [(10, (.one (.int .i64)))])) (.seq none (.region [] (.ops 3 .done)) (.cond none (.region [] (.ops 11 .done)) (.region [] (.ops 11 .done)))) (.seq none (.seq none (.region [] (.ops 2 .done)) (.cond none (.seq none (.region [] (.ops 1 .done)) .leaf) .leaf)) (.region [] (.ops 7 .done))))))) (.region [] (.ops 3 .done))))))) (.seq none (.region [] (.ops 5 (.split 104 (.ops 7 .done) (.skips 5 (.ops 2 .done))))) .leaf))))))))
theorem F5_tie (a0 : Sl) (a1 : Int) (a2 : Sl) (K : Bool → World → Prop) : vcgF tab Try.prog Try.f5 h5 [(.slice a0.a a0.len a0.cap), (.int .i64 a1), (.slice a2.a a2.len a2.cap)] (.one (.one .bool)) K = F5 a0 a1 a2 K := by kernel_rfl
theorem F5_calls {a0 : Sl} {a1 : Int} {a2 : Sl} {K : Bool → World → Prop} {w : World} (h : F5 a0 a1 a2 K w) : callT Try.prog 5 #[(.slice a0.a a0.len a0.cap), (.int .i64 a1), (.slice a2.a a2.len a2.cap)] (.one (.one .bool)) K w :=
  vcgF_sound tabOk Try.func5 h5 [(.slice a0.a a0.len a0.cap), (.int .i64 a1), (.slice a2.a a2.len a2.cap)] (.one (.one .bool)) K w (Eq.mpr (congrFun (F5_tie a0 a1 a2 K) w) h)

/-- copyist/copyistlaw11.RegisterHole -/
noncomputable def F6 (a0 : Sl) (a1 : Int) (a2 : Int) (a3 : Sl) (K : Bool → World → Prop) : World → Prop :=
  callT Try.prog 12 #[] (.one (.one .bool)) fun (x1 : Bool) =>
  sif (!x1) (
    K false) (
    callT Try.prog 13 #[(.slice a0.a a0.len a0.cap)] (.one (.one .ptr)) fun (x2 : Option Addr) =>
    sif (Option.isNone x2) (
      K false) (
      callT Try.prog 18 #[(.pointer x2)] (.tup [(.one .sl), (.one .sl)]) fun (x3 : (Sl × Sl × Unit)) =>
      rawT Try.prog (.one (.one .sl)) (Builtin.append_ #[23, 23] 23 #[(.slice none 0 0), (.slice a3.a a3.len a3.cap)]) fun (x4 : Sl) =>
      newO (.cells #[(.int .i64 (0 : Int)), (.slice none 0 0)] 28) fun b5 =>
      aggSt (at0 b5) (.agg #[(.int .i64 a2), (.slice x4.a x4.len x4.cap)]) 2 <|
      join (S := Bool × Unit) (fun J6 =>
        sif (a2 == (0 : Int)) (
          J6 (true, ())) (
          J6 ((a2 == (1 : Int)), ()))) fun (s7 : Bool × Unit) =>
      join (S := Bool × Unit) (fun J8 =>
        lds c28 (at0 b5) fun (x10 : (Int × Sl × Unit)) =>
        callT Try.prog 14 #[(.pointer x2), (.int .i64 (95 : Int)), (.agg (Cells.vals c28 x10).toArray)] (.one (.one (.int .i64))) fun (x11 : Int) =>
        rdB Try.prog (do eqGuard .neq 4 (Operand.tmp 42) (Operand.tmp 43) (.bool (x11 == (0 : Int))) (.bool s7.1); binOp .neq 4 (.bool (x11 == (0 : Int))) (.bool s7.1) : Sem Value) fun r12 =>
        sif r12 (
          J8 (true, ())) (
          lds c28 (at0 b5) fun (x13 : (Int × Sl × Unit)) =>
          callT Try.prog 15 #[(.pointer x2), (.int .i64 (95 : Int)), (.agg (Cells.vals c28 x13).toArray)] (.one (.one (.int .i64))) fun (x14 : Int) =>
          rdB Try.prog (do eqGuard .neq 4 (Operand.tmp 49) (Operand.tmp 50) (.bool (x14 == (0 : Int))) (.bool s7.1); binOp .neq 4 (.bool (x14 == (0 : Int))) (.bool s7.1) : Sem Value) fun r15 =>
          sif r15 (
            J8 (true, ())) (
            ld (.sl) (⟨b5, 1, none⟩ : Addr) fun (x16 : Sl) =>
            callT Try.prog 19 #[(.pointer x2), (.int .i64 (95 : Int)), (.slice x16.a x16.len x16.cap)] (.one (.one (.int .i64))) fun (x17 : Int) =>
            sif (x17 != (0 : Int)) (
              J8 (true, ())) (
              callT Try.prog 20 #[(.pointer x2), (.slice x3.1.a x3.1.len x3.1.cap), (.slice x3.2.1.a x3.2.1.len x3.2.1.cap)] (.one (.one .bool)) fun (x18 : Bool) =>
              J8 ((!x18), ()))))) fun (s9 : Bool × Unit) =>
      sif s9.1 (
        K false) (
        join (S := Bool × Unit) (fun J19 =>
          lds c28 (at0 b5) fun (x21 : (Int × Sl × Unit)) =>
          callT Try.prog 14 #[(.pointer x2), (.int .i64 (63 : Int)), (.agg (Cells.vals c28 x21).toArray)] (.one (.one (.int .i64))) fun (x22 : Int) =>
          sif (x22 != (110 : Int)) (
            J19 (true, ())) (
            lds c28 (at0 b5) fun (x23 : (Int × Sl × Unit)) =>
            callT Try.prog 15 #[(.pointer x2), (.int .i64 (-1 : Int)), (.agg (Cells.vals c28 x23).toArray)] (.one (.one (.int .i64))) fun (x24 : Int) =>
            sif (x24 != (110 : Int)) (
              J19 (true, ())) (
              ld (.sl) (⟨b5, 1, none⟩ : Addr) fun (x25 : Sl) =>
              callT Try.prog 19 #[(.pointer x2), (.int .i64 (0 : Int)), (.slice x25.a x25.len x25.cap)] (.one (.one (.int .i64))) fun (x26 : Int) =>
              sif (x26 != (110 : Int)) (
                J19 (true, ())) (
                lds c28 (at0 b5) fun (x27 : (Int × Sl × Unit)) =>
                callT Try.prog 14 #[(.pointer x2), (.int .i64 (58 : Int)), (.agg (Cells.vals c28 x27).toArray)] (.one (.one (.int .i64))) fun (x28 : Int) =>
                sif (x28 != (111 : Int)) (
                  J19 (true, ())) (
                  lds c28 (at0 b5) fun (x29 : (Int × Sl × Unit)) =>
                  callT Try.prog 15 #[(.pointer x2), (.int .i64 (46 : Int)), (.agg (Cells.vals c28 x29).toArray)] (.one (.one (.int .i64))) fun (x30 : Int) =>
                  sif (x30 != (111 : Int)) (
                    J19 (true, ())) (
                    callT Try.prog 20 #[(.pointer x2), (.slice x3.1.a x3.1.len x3.1.cap), (.slice x3.2.1.a x3.2.1.len x3.2.1.cap)] (.one (.one .bool)) fun (x31 : Bool) =>
                    J19 ((!x31), ()))))))) fun (s20 : Bool × Unit) =>
        sif s20.1 (
          K false) (
          join (S := Bool × Unit) (fun J32 =>
            callT Try.prog 14 #[(.pointer x2), (.int .i64 (0 : Int)), (.agg #[(.int .i64 (0 : Int)), (.slice none 0 0)])] (.one (.one (.int .i64))) fun (x34 : Int) =>
            sif (x34 != (0 : Int)) (
              J32 (true, ())) (
              callT Try.prog 15 #[(.pointer x2), (.int .i64 (34 : Int)), (.agg #[(.int .i64 (0 : Int)), (.slice none 0 0)])] (.one (.one (.int .i64))) fun (x35 : Int) =>
              sif (x35 != (0 : Int)) (
                J32 (true, ())) (
                callT Try.prog 20 #[(.pointer x2), (.slice x3.1.a x3.1.len x3.1.cap), (.slice x3.2.1.a x3.2.1.len x3.2.1.cap)] (.one (.one .bool)) fun (x36 : Bool) =>
                J32 ((!x36), ())))) fun (s33 : Bool × Unit) =>
          sif s33.1 (
            K false) (
            join (S := Bool × Unit) (fun J37 =>
              lds c28 (at0 b5) fun (x39 : (Int × Sl × Unit)) =>
              callT Try.prog 14 #[(.pointer x2), (.int .i64 a1), (.agg (Cells.vals c28 x39).toArray)] (.one (.one (.int .i64))) fun (x40 : Int) =>
              sif (x40 != (0 : Int)) (
                callT Try.prog 20 #[(.pointer x2), (.slice x3.1.a x3.1.len x3.1.cap), (.slice x3.2.1.a x3.2.1.len x3.2.1.cap)] (.one (.one .bool)) fun (x41 : Bool) =>
                J37 ((!x41), ())) (
                J37 (false, ()))) fun (s38 : Bool × Unit) =>
            sif s38.1 (
              K false) (
              callT Try.prog 18 #[(.pointer x2)] (.tup [(.one .sl), (.one .sl)]) fun (x42 : (Sl × Sl × Unit)) =>
              join (S := Bool × Unit) (fun J43 =>
                lds c28 (at0 b5) fun (x45 : (Int × Sl × Unit)) =>
                callT Try.prog 15 #[(.pointer x2), (.int .i64 a1), (.agg (Cells.vals c28 x45).toArray)] (.one (.one (.int .i64))) fun (x46 : Int) =>
                sif (x46 != (0 : Int)) (
                  callT Try.prog 20 #[(.pointer x2), (.slice x42.1.a x42.1.len x42.1.cap), (.slice x42.2.1.a x42.2.1.len x42.2.1.cap)] (.one (.one .bool)) fun (x47 : Bool) =>
                  J43 ((!x47), ())) (
                  J43 (false, ()))) fun (s44 : Bool × Unit) =>
              sif s44.1 (
                K false) (
                callT Try.prog 21 #[(.pointer x2), (.int .i64 (95 : Int))] (.tup [(.agg c28), (.one (.int .i64))]) fun (x48 : ((Int × Sl × Unit) × Int × Unit)) =>
                newO (.cells #[(.int .i64 (0 : Int)), (.slice none 0 0)] 28) fun b49 =>
                aggSt (at0 b49) (.agg (Cells.vals c28 x48.1).toArray) 2 <|
                callT Try.prog 21 #[(.pointer x2), (.int .i64 (63 : Int))] (.tup [(.agg c28), (.one (.int .i64))]) fun (x50 : ((Int × Sl × Unit) × Int × Unit)) =>
                newO (.cells #[(.int .i64 (0 : Int)), (.slice none 0 0)] 28) fun b51 =>
                aggSt (at0 b51) (.agg (Cells.vals c28 x50.1).toArray) 2 <|
                sif (x48.2.1 == (112 : Int)) (
                  K (x50.2.1 == (110 : Int))) (
                  K false))))))))
noncomputable def h6 : Hint := (.seq none (.region [] (.ops 1 .done)) (.seq none (.seq none (.region [] (.ops 2 .done)) (.cond none (.seq none (.region [] (.ops 1 .done)) .leaf) .leaf)) (.seq none (.region [] (.ops 3 .done)) (.seq none (.seq none (.region [] (.ops 2 .done)) (.cond none (.seq none (.region [] (.ops 1 .done)) .leaf) .leaf)) (.seq none (.region [] (.ops 7 .done)) (.seq none (.region [] (.ops 6 .done)) (.seq (some (541165887488, [(13, (.one .bool))])) (.region [] (.ops 3 (.split 35 (.skips 2 (.ops 2 .done)) (.ops 4 .done)))) (.seq none (.seq (some (147573952039920599040, [(66, (.one .bool))])) (.region [] (.ops 7 (.split 45 (.skips 6 (.ops 2 (.skips 5 (.ops 2 (.skips 5 (.ops 1 .done)))))) (.ops 8 (.split 53 (.skips 5 (.ops 2 (.skips 5 (.ops 1 .done)))) (.ops 7 (.split 60 (.skips 5 (.ops 1 .done)) (.ops 6 .done)))))))) (.cond none (.seq none (.region [] (.ops 1 .done)) .leaf) .leaf)) (.seq none (.seq (some (10141204801678261259383949230080, [(102, (.one .bool))])) (.region [] (.ops 5 (.split 71 (.skips 4 (.ops 2 (.skips 5 (.ops 2 (.skips 4 (.ops 2 (.skips 4 (.ops 2 (.skips 5 (.ops 1 .done)))))))))) (.ops 6 (.split 77 (.skips 5 (.ops 2 (.skips 4 (.ops 2 (.skips 4 (.ops 2 (.skips 5 (.ops 1 .done)))))))) (.ops 7 (.split 84 (.skips 4 (.ops 2 (.skips 4 (.ops 2 (.skips 5 (.ops 1 .done)))))) (.ops 6 (.split 90 (.skips 4 (.ops 2 (.skips 5 (.ops 1 .done)))) (.ops 6 (.split 96 (.skips 5 (.ops 1 .done)) (.ops 6 .done)))))))))))) (.cond none (.seq none (.region [] (.ops 1 .done)) .leaf) .leaf)) (.seq none (.seq (some (1329217854580114047068595086654701568, [(119, (.one .bool))])) (.region [] (.ops 5 (.split 107 (.skips 4 (.ops 2 (.skips 5 (.ops 1 .done)))) (.ops 6 (.split 113 (.skips 5 (.ops 1 .done)) (.ops 6 .done)))))) (.cond none (.seq none (.region [] (.ops 1 .done)) .leaf) .leaf)) (.seq none (.seq (some (5443188642739230499541089911848011038720, [(131, (.one .bool))])) (.region [] (.ops 6 (.split 125 (.ops 6 .done) (.skips 5 (.ops 1 .done))))) (.cond none (.seq none (.region [] (.ops 1 .done)) .leaf) .leaf)) (.seq none (.region [] (.ops 7 .done)) (.seq none (.seq (some (713449621781116420035849736925742502867107840, [(148, (.one .bool))])) (.region [] (.ops 6 (.split 142 (.ops 6 .done) (.skips 5 (.ops 1 .done))))) (.cond none (.seq none (.region [] (.ops 1 .done)) .leaf) .leaf)) (.seq none (.region [] (.ops 8 .done)) (.seq none (.region [] (.ops 8 .done)) (.seq none (.region [] (.ops 3 (.split 161 (.ops 4 .done) (.skips 2 (.ops 2 .done))))) .leaf))))))))))))))))
theorem F6_tie (a0 : Sl) (a1 : Int) (a2 : Int) (a3 : Sl) (K : Bool → World → Prop) : vcgF tab Try.prog Try.f6 h6 [(.slice a0.a a0.len a0.cap), (.int .i64 a1), (.int .i64 a2), (.slice a3.a a3.len a3.cap)] (.one (.one .bool)) K = F6 a0 a1 a2 a3 K := by kernel_rfl
theorem F6_calls {a0 : Sl} {a1 : Int} {a2 : Int} {a3 : Sl} {K : Bool → World → Prop} {w : World} (h : F6 a0 a1 a2 a3 K w) : callT Try.prog 6 #[(.slice a0.a a0.len a0.cap), (.int .i64 a1), (.int .i64 a2), (.slice a3.a a3.len a3.cap)] (.one (.one .bool)) K w :=
  vcgF_sound tabOk Try.func6 h6 [(.slice a0.a a0.len a0.cap), (.int .i64 a1), (.int .i64 a2), (.slice a3.a a3.len a3.cap)] (.one (.one .bool)) K w (Eq.mpr (congrFun (F6_tie a0 a1 a2 a3 K) w) h)

/-- copyist/copyistlaw11.RegisterYank -/
noncomputable def F7 (a0 : Sl) (K : Bool → World → Prop) : World → Prop :=
  callT Try.prog 22 #[(.slice a0.a a0.len a0.cap), (.int .i64 (1 : Int))] (.one (.one .bool)) fun (x1 : Bool) =>
  K x1
noncomputable def h7 : Hint := (.seq none (.region [] (.ops 1 .done)) (.seq none (.region [] (.ops 3 .done)) .leaf))
theorem F7_tie (a0 : Sl) (K : Bool → World → Prop) : vcgF tab Try.prog Try.f7 h7 [(.slice a0.a a0.len a0.cap)] (.one (.one .bool)) K = F7 a0 K := by kernel_rfl
theorem F7_calls {a0 : Sl} {K : Bool → World → Prop} {w : World} (h : F7 a0 K w) : callT Try.prog 7 #[(.slice a0.a a0.len a0.cap)] (.one (.one .bool)) K w :=
  vcgF_sound tabOk Try.func7 h7 [(.slice a0.a a0.len a0.cap)] (.one (.one .bool)) K w (Eq.mpr (congrFun (F7_tie a0 K) w) h)

/-- copyist/copyistlaw11.RegisterDelete -/
noncomputable def F8 (a0 : Sl) (K : Bool → World → Prop) : World → Prop :=
  callT Try.prog 22 #[(.slice a0.a a0.len a0.cap), (.int .i64 (2 : Int))] (.one (.one .bool)) fun (x1 : Bool) =>
  K x1
noncomputable def h8 : Hint := (.seq none (.region [] (.ops 1 .done)) (.seq none (.region [] (.ops 3 .done)) .leaf))
theorem F8_tie (a0 : Sl) (K : Bool → World → Prop) : vcgF tab Try.prog Try.f8 h8 [(.slice a0.a a0.len a0.cap)] (.one (.one .bool)) K = F8 a0 K := by kernel_rfl
theorem F8_calls {a0 : Sl} {K : Bool → World → Prop} {w : World} (h : F8 a0 K w) : callT Try.prog 8 #[(.slice a0.a a0.len a0.cap)] (.one (.one .bool)) K w :=
  vcgF_sound tabOk Try.func8 h8 [(.slice a0.a a0.len a0.cap)] (.one (.one .bool)) K w (Eq.mpr (congrFun (F8_tie a0 K) w) h)

/-- copyist/copyistlaw11.RegisterSet -/
noncomputable def F9 (a0 : Sl) (K : Bool → World → Prop) : World → Prop :=
  callT Try.prog 22 #[(.slice a0.a a0.len a0.cap), (.int .i64 (3 : Int))] (.one (.one .bool)) fun (x1 : Bool) =>
  K x1
noncomputable def h9 : Hint := (.seq none (.region [] (.ops 1 .done)) (.seq none (.region [] (.ops 3 .done)) .leaf))
theorem F9_tie (a0 : Sl) (K : Bool → World → Prop) : vcgF tab Try.prog Try.f9 h9 [(.slice a0.a a0.len a0.cap)] (.one (.one .bool)) K = F9 a0 K := by kernel_rfl
theorem F9_calls {a0 : Sl} {K : Bool → World → Prop} {w : World} (h : F9 a0 K w) : callT Try.prog 9 #[(.slice a0.a a0.len a0.cap)] (.one (.one .bool)) K w :=
  vcgF_sound tabOk Try.func9 h9 [(.slice a0.a a0.len a0.cap)] (.one (.one .bool)) K w (Eq.mpr (congrFun (F9_tie a0 K) w) h)

/-- copyist/copyistlaw11.RegisterAll -/
noncomputable def F10 (a0 : Sl) (K : Bool → World → Prop) : World → Prop :=
  newO (.cells #[(.pointer none), (.pointer none), (.pointer none), (.pointer none), (.slice none 0 0)] 52) fun b1 =>
  join (S := Bool × Unit) (fun J2 =>
    callT Try.prog 12 #[] (.one (.one .bool)) fun (x4 : Bool) =>
    sif (!x4) (
      J2 (true, ())) (
      callT Try.prog 23 #[(.pointer (some (at0 b1)))] (.one (.one .bool)) fun (x5 : Bool) =>
      J2 ((!x5), ()))) fun (s3 : Bool × Unit) =>
  sif s3.1 (
    K false) (
    join (S := Unit) (fun J6 =>
      sloop (S := Int × Unit) (fun (s8 : Int × Unit) again9 =>
        sif (decide (s8.1 < ((a0.len : Nat) : Int))) (
          ix a0.a a0.len s8.1 fun p10 =>
          lds c55 (p10.add (scaled (Int.toNat s8.1) 5)) fun (x11 : (Int × Int × Int × Int × Sl × Unit)) =>
          callT Try.prog 24 #[(.pointer (some (at0 b1))), (.agg (Cells.vals c55 x11).toArray)] (.one (.one .bool)) fun (x12 : Bool) =>
          sif (!x12) (
            K false) (
            again9 ((IntKind.wrap .i64 (s8.1 + (1 : Int))), ()))) (
          J6 ())) ((0 : Int), ())) fun (s7 : Unit) =>
    join (S := Unit) (fun J13 =>
      sloop (S := Int × Unit) (fun (s15 : Int × Unit) again16 =>
        sif (decide (s15.1 < (2 : Int))) (
          join (S := Unit) (fun J17 =>
            sloop (S := Int × Unit) (fun (s19 : Int × Unit) again20 =>
              sif (decide (s19.1 < (130 : Int))) (
                callT Try.prog 25 #[(.pointer (some (at0 b1))), (.int .i64 s15.1), (.int .i64 s19.1)] (.one (.one .bool)) fun (x21 : Bool) =>
                sif (!x21) (
                  K false) (
                  again20 ((IntKind.wrap .i64 (s19.1 + (1 : Int))), ()))) (
                J17 ())) ((-1 : Int), ())) fun (s18 : Unit) =>
          again16 ((IntKind.wrap .i64 (s15.1 + (1 : Int))), ())) (
          J13 ())) ((0 : Int), ())) fun (s14 : Unit) =>
    K true)
noncomputable def h10 : Hint := (.seq none (.region [] (.ops 1 .done)) (.seq none (.region [] (.ops 3 .done)) (.seq none (.seq (some (65024, [(15, (.one .bool))])) (.region [] (.ops 3 (.split 11 (.skips 3 (.ops 1 .done)) (.ops 4 .done)))) (.cond none (.seq none (.region [] (.ops 1 .done)) .leaf) .leaf)) (.seq (some (536805396, [])) (.seq none (.region [] (.ops 1 .done)) (.block (.loop 536805396 [(4, (.one (.int .i64)))] (.seq none (.seq none (.region [] (.ops 4 .done)) (.cond none .leaf .leaf)) (.seq none (.block (.seq none (.region [] (.ops 7 .done)) (.cond none (.seq none (.region [] (.ops 1 .done)) .leaf) .leaf))) (.region [] (.ops 3 .done))))))) (.seq (some (4397509640292, [])) (.seq none (.region [] (.ops 1 .done)) (.block (.loop 4397509640292 [(5, (.one (.int .i64)))] (.seq none (.seq none (.region [] (.ops 2 .done)) (.cond none .leaf .leaf)) (.seq (some (4389456576580, [])) (.block (.seq none (.region [] (.ops 1 .done)) (.block (.loop 4389456576580 [(6, (.one (.int .i64)))] (.seq none (.seq none (.region [] (.ops 2 .done)) (.cond none .leaf .leaf)) (.seq none (.block (.seq none (.region [] (.ops 5 .done)) (.cond none (.seq none (.region [] (.ops 1 .done)) .leaf) .leaf))) (.region [] (.ops 3 .done)))))))) (.region [] (.ops 3 .done))))))) (.seq none (.region [] (.ops 1 .done)) .leaf))))))
theorem F10_tie (a0 : Sl) (K : Bool → World → Prop) : vcgF tab Try.prog Try.f10 h10 [(.slice a0.a a0.len a0.cap)] (.one (.one .bool)) K = F10 a0 K := by kernel_rfl
theorem F10_calls {a0 : Sl} {K : Bool → World → Prop} {w : World} (h : F10 a0 K w) : callT Try.prog 10 #[(.slice a0.a a0.len a0.cap)] (.one (.one .bool)) K w :=
  vcgF_sound tabOk Try.func10 h10 [(.slice a0.a a0.len a0.cap)] (.one (.one .bool)) K w (Eq.mpr (congrFun (F10_tie a0 K) w) h)

/-- copyist/copyistlaw11.RegisterApart -/
noncomputable def F11 (a0 : Sl) (a1 : Sl) (K : Bool → World → Prop) : World → Prop :=
  callT Try.prog 12 #[] (.one (.one .bool)) fun (x1 : Bool) =>
  sif (!x1) (
    K false) (
    callT Try.prog 13 #[(.slice a0.a a0.len a0.cap)] (.one (.one .ptr)) fun (x2 : Option Addr) =>
    sif (Option.isNone x2) (
      K false) (
      callT Try.prog 18 #[(.pointer x2)] (.tup [(.one .sl), (.one .sl)]) fun (x3 : (Sl × Sl × Unit)) =>
      callT Try.prog 26 #[(.pointer x2)] (.one (.one .ptr)) fun (x4 : Option Addr) =>
      callT Try.prog 26 #[(.pointer x2)] (.one (.one .ptr)) fun (x5 : Option Addr) =>
      join (S := Bool × Unit) (fun J6 =>
        sif (Option.isNone x4) (
          J6 (true, ())) (
          sif (Option.isNone x5) (
            J6 (true, ())) (
            callT Try.prog 20 #[(.pointer x4), (.slice x3.1.a x3.1.len x3.1.cap), (.slice x3.2.1.a x3.2.1.len x3.2.1.cap)] (.one (.one .bool)) fun (x8 : Bool) =>
            sif (!x8) (
              J6 (true, ())) (
              callT Try.prog 20 #[(.pointer x5), (.slice x3.1.a x3.1.len x3.1.cap), (.slice x3.2.1.a x3.2.1.len x3.2.1.cap)] (.one (.one .bool)) fun (x9 : Bool) =>
              J6 ((!x9), ()))))) fun (s7 : Bool × Unit) =>
      sif s7.1 (
        K false) (
        join (S := Sl × Sl × Sl × Sl × Unit) (fun J10 =>
          sloop (S := Sl × Sl × Sl × Sl × Int × Unit) (fun (s12 : Sl × Sl × Sl × Sl × Int × Unit) again13 =>
            join (S := Bool × Unit) (fun J14 =>
              sif (decide (s12.2.2.2.2.1 < ((a1.len : Nat) : Int))) (
                J14 ((decide (s12.2.2.2.2.1 < (30 : Int))), ())) (
                J14 (false, ()))) fun (s15 : Bool × Unit) =>
            sif s15.1 (
              ix a1.a a1.len s12.2.2.2.2.1 fun p16 =>
              lds c55 (p16.add (scaled (Int.toNat s12.2.2.2.2.1) 5)) fun (x17 : (Int × Int × Int × Int × Sl × Unit)) =>
              newO (.cells #[(.int .i64 (0 : Int)), (.int .i64 (0 : Int)), (.int .i64 (0 : Int)), (.int .i64 (0 : Int)), (.slice none 0 0)] 55) fun b18 =>
              aggSt (at0 b18) (.agg (Cells.vals c55 x17).toArray) 5 <|
              join (S := Unit) (fun J19 =>
                ld (.int .i64) (at0 b18) fun (x21 : Int) =>
                sif (x21 == (1 : Int)) (
                  drew <|
                  ld (.int .i64) (⟨b18, 2, none⟩ : Addr) fun (x22 : Int) =>
                  ld (.int .i64) (⟨b18, 3, none⟩ : Addr) fun (x23 : Int) =>
                  ld (.sl) (⟨b18, 4, none⟩ : Addr) fun (x24 : Sl) =>
                  rawT Try.prog (.one (.one .sl)) (Builtin.append_ #[23, 23] 23 #[(.slice none 0 0), (.slice x24.a x24.len x24.cap)]) fun (x25 : Sl) =>
                  keep (fun w => w.cell? (⟨b18, 3, none⟩ : Addr) = some (Cell.val (.int .i64) x23)) <|
                  keep (fun w => w.cell? (⟨b18, 2, none⟩ : Addr) = some (Cell.val (.int .i64) x22)) <|
                  callT Try.prog 14 #[(.pointer x4), (.int .i64 x22), (.agg #[(.int .i64 x23), (.slice x25.a x25.len x25.cap)])] (.one (.one (.int .i64))) fun (x26 : Int) =>
                  J19 ()) (
                  sif (x21 == (2 : Int)) (
                    drew <|
                    ld (.int .i64) (⟨b18, 2, none⟩ : Addr) fun (x27 : Int) =>
                    ld (.int .i64) (⟨b18, 3, none⟩ : Addr) fun (x28 : Int) =>
                    ld (.sl) (⟨b18, 4, none⟩ : Addr) fun (x29 : Sl) =>
                    rawT Try.prog (.one (.one .sl)) (Builtin.append_ #[23, 23] 23 #[(.slice none 0 0), (.slice x29.a x29.len x29.cap)]) fun (x30 : Sl) =>
                    keep (fun w => w.cell? (⟨b18, 3, none⟩ : Addr) = some (Cell.val (.int .i64) x28)) <|
                    keep (fun w => w.cell? (⟨b18, 2, none⟩ : Addr) = some (Cell.val (.int .i64) x27)) <|
                    callT Try.prog 15 #[(.pointer x4), (.int .i64 x27), (.agg #[(.int .i64 x28), (.slice x30.a x30.len x30.cap)])] (.one (.one (.int .i64))) fun (x31 : Int) =>
                    J19 ()) (
                    sif (x21 == (3 : Int)) (
                      drew <|
                      ld (.int .i64) (⟨b18, 2, none⟩ : Addr) fun (x32 : Int) =>
                      ld (.sl) (⟨b18, 4, none⟩ : Addr) fun (x33 : Sl) =>
                      rawT Try.prog (.one (.one .sl)) (Builtin.append_ #[23, 23] 23 #[(.slice none 0 0), (.slice x33.a x33.len x33.cap)]) fun (x34 : Sl) =>
                      keep (fun w => w.cell? (⟨b18, 2, none⟩ : Addr) = some (Cell.val (.int .i64) x32)) <|
                      callT Try.prog 19 #[(.pointer x4), (.int .i64 x32), (.slice x34.a x34.len x34.cap)] (.one (.one (.int .i64))) fun (x35 : Int) =>
                      J19 ()) (
                      J19 ())))) fun (s20 : Unit) =>
              join (S := Bool × Unit) (fun J36 =>
                callT Try.prog 20 #[(.pointer x2), (.slice x3.1.a x3.1.len x3.1.cap), (.slice x3.2.1.a x3.2.1.len x3.2.1.cap)] (.one (.one .bool)) fun (x38 : Bool) =>
                sif (!x38) (
                  J36 (true, ())) (
                  callT Try.prog 20 #[(.pointer x5), (.slice x3.1.a x3.1.len x3.1.cap), (.slice x3.2.1.a x3.2.1.len x3.2.1.cap)] (.one (.one .bool)) fun (x39 : Bool) =>
                  J36 ((!x39), ()))) fun (s37 : Bool × Unit) =>
              sif s37.1 (
                K false) (
                callT Try.prog 18 #[(.pointer x4)] (.tup [(.one .sl), (.one .sl)]) fun (x40 : (Sl × Sl × Unit)) =>
                join (S := Sl × Sl × Unit) (fun J41 =>
                  sloop (S := Sl × Sl × Int × Unit) (fun (s43 : Sl × Sl × Int × Unit) again44 =>
                    sif (decide (s43.2.2.1 < (2 : Int))) (
                      join (S := Sl × Sl × Unit) (fun J45 =>
                        ld (.int .i64) (⟨b18, 2, none⟩ : Addr) fun (x47 : Int) =>
                        callT Try.prog 21 #[(.pointer x2), (.int .i64 x47)] (.tup [(.agg c28), (.one (.int .i64))]) fun (x48 : ((Int × Sl × Unit) × Int × Unit)) =>
                        newO (.cells #[(.int .i64 (0 : Int)), (.slice none 0 0)] 28) fun b49 =>
                        aggSt (at0 b49) (.agg (Cells.vals c28 x48.1).toArray) 2 <|
                        ld (.int .i64) (⟨b18, 2, none⟩ : Addr) fun (x50 : Int) =>
                        callT Try.prog 21 #[(.pointer x4), (.int .i64 x50)] (.tup [(.agg c28), (.one (.int .i64))]) fun (x51 : ((Int × Sl × Unit) × Int × Unit)) =>
                        newO (.cells #[(.int .i64 (0 : Int)), (.slice none 0 0)] 28) fun b52 =>
                        aggSt (at0 b52) (.agg (Cells.vals c28 x51.1).toArray) 2 <|
                        drew <|
                        ld (.sl) (⟨b49, 1, none⟩ : Addr) fun (x53 : Sl) =>
                        ld (.sl) (⟨b52, 1, none⟩ : Addr) fun (x54 : Sl) =>
                        callT Try.prog 27 #[(.pointer x4)] (.one (.one .sl)) fun (x55 : Sl) =>
                        keep (fun w => w.cell? (⟨b52, 1, none⟩ : Addr) = some (Cell.val (.sl) x54)) <|
                        keep (fun w => w.cell? (⟨b49, 1, none⟩ : Addr) = some (Cell.val (.sl) x53)) <|
                        callT Try.prog 27 #[(.pointer x2)] (.one (.one .sl)) fun (x56 : Sl) =>
                        keep (fun w => w.cell? (⟨b52, 1, none⟩ : Addr) = some (Cell.val (.sl) x54)) <|
                        keep (fun w => w.cell? (⟨b49, 1, none⟩ : Addr) = some (Cell.val (.sl) x53)) <|
                        newO (.cells #[(.slice x53.a x53.len x53.cap), (.slice x54.a x54.len x54.cap), (.slice x55.a x55.len x55.cap), (.slice x56.a x56.len x56.cap)] 23) fun b57 =>
                        sloop (S := Sl × Sl × Int × Unit) (fun (s58 : Sl × Sl × Int × Unit) again59 =>
                          sif (decide (s58.2.2.1 < ((4 : Nat) : Int))) (
                            ix (some (at0 b57)) 4 s58.2.2.1 fun p60 =>
                            ld (.sl) (p60.add (scaled (Int.toNat s58.2.2.1) 1)) fun (x61 : Sl) =>
                            newO (.cells #[(.slice x61.a x61.len x61.cap)] 23) fun b62 =>
                            rawT Try.prog (.one (.one .sl)) (Builtin.append_ #[34, 34] 34 #[(.slice s58.1.a s58.1.len s58.1.cap), (.slice (some (at0 b62)) 1 1)]) fun (x63 : Sl) =>
                            rawT Try.prog (.one (.one .sl)) (Builtin.append_ #[23, 23] 23 #[(.slice none 0 0), (.slice x61.a x61.len x61.cap)]) fun (x64 : Sl) =>
                            newO (.cells #[(.slice x64.a x64.len x64.cap)] 23) fun b65 =>
                            rawT Try.prog (.one (.one .sl)) (Builtin.append_ #[34, 34] 34 #[(.slice s58.2.1.a s58.2.1.len s58.2.1.cap), (.slice (some (at0 b65)) 1 1)]) fun (x66 : Sl) =>
                            again59 (x63, x66, (IntKind.wrap .i64 (s58.2.2.1 + (1 : Int))), ())) (
                            J45 (s58.1, s58.2.1, ()))) (s43.1, s43.2.1, (0 : Int), ())) fun (s46 : Sl × Sl × Unit) =>
                      again44 (s46.1, s46.2.1, (IntKind.wrap .i64 (s43.2.2.1 + (1 : Int))), ())) (
                      J41 (s43.1, s43.2.1, ()))) (s12.2.2.1, s12.2.2.2.1, (0 : Int), ())) fun (s42 : Sl × Sl × Unit) =>
                ld (.int .i64) (⟨b18, 2, none⟩ : Addr) fun (x67 : Int) =>
                callT Try.prog 21 #[(.pointer x2), (.int .i64 x67)] (.tup [(.agg c28), (.one (.int .i64))]) fun (x68 : ((Int × Sl × Unit) × Int × Unit)) =>
                newO (.cells #[(.int .i64 (0 : Int)), (.slice none 0 0)] 28) fun b69 =>
                aggSt (at0 b69) (.agg (Cells.vals c28 x68.1).toArray) 2 <|
                ld (.int .i64) (⟨b18, 2, none⟩ : Addr) fun (x70 : Int) =>
                callT Try.prog 21 #[(.pointer x4), (.int .i64 x70)] (.tup [(.agg c28), (.one (.int .i64))]) fun (x71 : ((Int × Sl × Unit) × Int × Unit)) =>
                newO (.cells #[(.int .i64 (0 : Int)), (.slice none 0 0)] 28) fun b72 =>
                aggSt (at0 b72) (.agg (Cells.vals c28 x71.1).toArray) 2 <|
                join (S := Sl × Sl × Unit) (fun J73 =>
                  drew <|
                  ld (.sl) (⟨b69, 1, none⟩ : Addr) fun (x75 : Sl) =>
                  ld (.sl) (⟨b72, 1, none⟩ : Addr) fun (x76 : Sl) =>
                  callT Try.prog 27 #[(.pointer x4)] (.one (.one .sl)) fun (x77 : Sl) =>
                  keep (fun w => w.cell? (⟨b72, 1, none⟩ : Addr) = some (Cell.val (.sl) x76)) <|
                  keep (fun w => w.cell? (⟨b69, 1, none⟩ : Addr) = some (Cell.val (.sl) x75)) <|
                  callT Try.prog 27 #[(.pointer x2)] (.one (.one .sl)) fun (x78 : Sl) =>
                  keep (fun w => w.cell? (⟨b72, 1, none⟩ : Addr) = some (Cell.val (.sl) x76)) <|
                  keep (fun w => w.cell? (⟨b69, 1, none⟩ : Addr) = some (Cell.val (.sl) x75)) <|
                  newO (.cells #[(.slice x75.a x75.len x75.cap), (.slice x76.a x76.len x76.cap), (.slice x77.a x77.len x77.cap), (.slice x78.a x78.len x78.cap)] 23) fun b79 =>
                  sloop (S := Sl × Sl × Int × Unit) (fun (s80 : Sl × Sl × Int × Unit) again81 =>
                    sif (decide (s80.2.2.1 < ((4 : Nat) : Int))) (
                      ix (some (at0 b79)) 4 s80.2.2.1 fun p82 =>
                      ld (.sl) (p82.add (scaled (Int.toNat s80.2.2.1) 1)) fun (x83 : Sl) =>
                      callT Try.prog 28 #[(.slice x83.a x83.len x83.cap), (.int .i64 (IntKind.wrap .i64 ((5000 : Int) + ((s80.1.len : Nat) : Int))))] (.one (.one .sl)) fun (x84 : Sl) =>
                      rawT Try.prog (.one (.one .sl)) (Builtin.append_ #[34, 34] 34 #[(.slice s80.1.a s80.1.len s80.1.cap), (.slice x84.a x84.len x84.cap)]) fun (x85 : Sl) =>
                      newO (.cells #[(.int .i64 (IntKind.wrap .i64 ((5000 : Int) + ((s80.1.len : Nat) : Int)))), (.int .i64 (IntKind.wrap .i64 ((5000 : Int) + ((s80.1.len : Nat) : Int)))), (.int .i64 (IntKind.wrap .i64 ((5000 : Int) + ((s80.1.len : Nat) : Int)))), (.int .i64 (IntKind.wrap .i64 ((5000 : Int) + ((s80.1.len : Nat) : Int))))] 3) fun b86 =>
                      rawT Try.prog (.one (.one .sl)) (Builtin.append_ #[23, 23] 23 #[(.slice s80.2.1.a s80.2.1.len s80.2.1.cap), (.slice (some (at0 b86)) 4 4)]) fun (x87 : Sl) =>
                      again81 (x85, x87, (IntKind.wrap .i64 (s80.2.2.1 + (1 : Int))), ())) (
                      J73 (s80.1, s80.2.1, ()))) (s12.1, s12.2.1, (0 : Int), ())) fun (s74 : Sl × Sl × Unit) =>
                join (S := Bool × Unit) (fun J88 =>
                  callT Try.prog 20 #[(.pointer x4), (.slice x40.1.a x40.1.len x40.1.cap), (.slice x40.2.1.a x40.2.1.len x40.2.1.cap)] (.one (.one .bool)) fun (x90 : Bool) =>
                  sif (!x90) (
                    J88 (true, ())) (
                    callT Try.prog 20 #[(.pointer x2), (.slice x3.1.a x3.1.len x3.1.cap), (.slice x3.2.1.a x3.2.1.len x3.2.1.cap)] (.one (.one .bool)) fun (x91 : Bool) =>
                    sif (!x91) (
                      J88 (true, ())) (
                      callT Try.prog 29 #[(.slice s74.1.a s74.1.len s74.1.cap), (.slice s74.2.1.a s74.2.1.len s74.2.1.cap)] (.one (.one .bool)) fun (x92 : Bool) =>
                      J88 ((!x92), ())))) fun (s89 : Bool × Unit) =>
                sif s89.1 (
                  K false) (
                  again13 (s74.1, s74.2.1, s42.1, s42.2.1, (IntKind.wrap .i64 (s12.2.2.2.2.1 + (1 : Int))), ())))) (
              J10 (s12.1, s12.2.1, s12.2.2.1, s12.2.2.2.1, ()))) (⟨none, 0, 0⟩, ⟨none, 0, 0⟩, ⟨none, 0, 0⟩, ⟨none, 0, 0⟩, (0 : Int), ())) fun (s11 : Sl × Sl × Sl × Sl × Unit) =>
        join (S := Unit) (fun J93 =>
          sloop (S := Int × Unit) (fun (s95 : Int × Unit) again96 =>
            sif (decide (s95.1 < ((s11.2.2.1.len : Nat) : Int))) (
              drew <|
              ix s11.2.2.1.a s11.2.2.1.len s95.1 fun p97 =>
              ld (.sl) (p97.add (scaled (Int.toNat s95.1) 1)) fun (x98 : Sl) =>
              ix s11.2.2.2.1.a s11.2.2.2.1.len s95.1 fun p99 =>
              ld (.sl) (p99.add (scaled (Int.toNat s95.1) 1)) fun (x100 : Sl) =>
              callT Try.prog 30 #[(.slice x98.a x98.len x98.cap), (.slice x100.a x100.len x100.cap)] (.one (.one .bool)) fun (x101 : Bool) =>
              sif (!x101) (
                K false) (
                again96 ((IntKind.wrap .i64 (s95.1 + (1 : Int))), ()))) (
              J93 ())) ((0 : Int), ())) fun (s94 : Unit) =>
        join (S := Sl × Sl × Unit) (fun J102 =>
          sloop (S := Sl × Sl × Int × Unit) (fun (s104 : Sl × Sl × Int × Unit) again105 =>
            sif (decide (s104.2.2.1 < ((s11.2.2.1.len : Nat) : Int))) (
              ix s11.2.2.1.a s11.2.2.1.len s104.2.2.1 fun p106 =>
              ld (.sl) (p106.add (scaled (Int.toNat s104.2.2.1) 1)) fun (x107 : Sl) =>
              callT Try.prog 28 #[(.slice x107.a x107.len x107.cap), (.int .i64 (IntKind.wrap .i64 ((5000 : Int) + ((s104.1.len : Nat) : Int))))] (.one (.one .sl)) fun (x108 : Sl) =>
              rawT Try.prog (.one (.one .sl)) (Builtin.append_ #[34, 34] 34 #[(.slice s104.1.a s104.1.len s104.1.cap), (.slice x108.a x108.len x108.cap)]) fun (x109 : Sl) =>
              newO (.cells #[(.int .i64 (IntKind.wrap .i64 ((5000 : Int) + ((s104.1.len : Nat) : Int)))), (.int .i64 (IntKind.wrap .i64 ((5000 : Int) + ((s104.1.len : Nat) : Int)))), (.int .i64 (IntKind.wrap .i64 ((5000 : Int) + ((s104.1.len : Nat) : Int)))), (.int .i64 (IntKind.wrap .i64 ((5000 : Int) + ((s104.1.len : Nat) : Int))))] 3) fun b110 =>
              rawT Try.prog (.one (.one .sl)) (Builtin.append_ #[23, 23] 23 #[(.slice s104.2.1.a s104.2.1.len s104.2.1.cap), (.slice (some (at0 b110)) 4 4)]) fun (x111 : Sl) =>
              again105 (x109, x111, (IntKind.wrap .i64 (s104.2.2.1 + (1 : Int))), ())) (
              J102 (s104.1, s104.2.1, ()))) (s11.1, s11.2.1, (0 : Int), ())) fun (s103 : Sl × Sl × Unit) =>
        callT Try.prog 29 #[(.slice s103.1.a s103.1.len s103.1.cap), (.slice s103.2.1.a s103.2.1.len s103.2.1.cap)] (.one (.one .bool)) fun (x112 : Bool) =>
        sif x112 (
          callT Try.prog 20 #[(.pointer x2), (.slice x3.1.a x3.1.len x3.1.cap), (.slice x3.2.1.a x3.2.1.len x3.2.1.cap)] (.one (.one .bool)) fun (x113 : Bool) =>
          sif x113 (
            callT Try.prog 20 #[(.pointer x5), (.slice x3.1.a x3.1.len x3.1.cap), (.slice x3.2.1.a x3.2.1.len x3.2.1.cap)] (.one (.one .bool)) fun (x114 : Bool) =>
            K x114) (
            K false)) (
          K false))))
noncomputable def h11 : Hint := (.seq none (.region [] (.ops 1 .done)) (.seq none (.seq none (.region [] (.ops 2 .done)) (.cond none (.seq none (.region [] (.ops 1 .done)) .leaf) .leaf)) (.seq none (.region [] (.ops 3 .done)) (.seq none (.seq none (.region [] (.ops 2 .done)) (.cond none (.seq none (.region [] (.ops 1 .done)) .leaf) .leaf)) (.seq none (.region [] (.ops 7 .done)) (.seq none (.region [] (.ops 3 .done)) (.seq none (.region [] (.ops 3 .done)) (.seq none (.seq (some (1180590494817504460800, [(69, (.one .bool))])) (.region [] (.ops 3 (.split 52 (.skips 2 (.ops 2 (.skips 5 (.ops 2 (.skips 5 (.ops 1 .done)))))) (.ops 4 (.split 56 (.skips 5 (.ops 2 (.skips 5 (.ops 1 .done)))) (.ops 7 (.split 63 (.skips 5 (.ops 1 .done)) (.ops 6 .done)))))))) (.cond none (.seq none (.region [] (.ops 1 .done)) .leaf) .leaf)) (.seq none (.region [] (.ops 1 .done)) (.seq none (.region [] (.ops 1 .done)) (.seq none (.region [] (.ops 2 .done)) (.seq (some (1766847064778384329583297500742918515827483896875617777529985487631023120, [(10, (.one .sl)), (11, (.one .sl)), (12, (.one .sl)), (13, (.one .sl))])) (.seq none (.region [] (.ops 1 .done)) (.block (.loop 1766847064778384329583297500742918515827483896875617777529985487631023120 [(10, (.one .sl)), (11, (.one .sl)), (12, (.one .sl)), (13, (.one .sl)), (14, (.one (.int .i64)))] (.seq none (.seq (some (301050863282939882373120, [(77, (.one .bool))])) (.region [] (.ops 5 (.split 74 (.ops 3 .done) (.skips 2 (.ops 1 .done))))) (.cond none .leaf .leaf)) (.seq none (.block (.seq none (.region [] (.ops 6 .done)) (.seq (some (664613997873115123338069463344873472, [])) (.seq none (.region [] (.ops 2 .done)) (.block (.seq none (.region [] (.ops 2 .done)) (.cond none (.region [0, 1, 2, 3, 4, 5, 6, 7, 8, 9] (.ops 10 .done)) (.seq none (.region [] (.ops 2 .done)) (.cond none (.region [0, 1, 2, 3, 4, 5, 6, 7, 8, 9] (.ops 10 .done)) (.seq none (.region [] (.ops 2 .done)) (.cond none (.region [0, 1, 2, 3, 4, 5, 6] (.ops 7 .done)) .leaf)))))))) (.seq none (.seq (some (2721594321369615249770544955924005519360, [(130, (.one .bool))])) (.region [] (.ops 6 (.split 124 (.skips 5 (.ops 1 .done)) (.ops 6 .done)))) (.cond none (.seq none (.region [] (.ops 1 .done)) .leaf) .leaf)) (.seq none (.region [] (.ops 7 .done)) (.seq (some (383123885216385102303654996540930672005182247908683776, [(12, (.one .sl)), (13, (.one .sl))])) (.seq none (.region [] (.ops 1 .done)) (.block (.loop 383123885216385102303654996540930672005182247908683776 [(12, (.one .sl)), (13, (.one .sl)), (18, (.one (.int .i64)))] (.seq none (.seq none (.region [] (.ops 2 .done)) (.cond none .leaf .leaf)) (.seq (some (383123885215078418014678592841231313512644257976430592, [(12, (.one .sl)), (13, (.one .sl))])) (.block (.seq none (.region [] (.ops 10 .done)) (.seq none (.region [] (.ops 10 .done)) (.seq none (.region [0, 1, 2, 3, 4, 6, 10, 5, 7, 8, 9] (.ops 11 .done)) (.block (.loop 383100501190274920142895497830253835376370285642002432 [(12, (.one .sl)), (13, (.one .sl)), (164, (.one (.int .i64)))] (.seq none (.region [] (.ops 1 .done)) (.seq none (.cond none .leaf .leaf) (.seq none (.block (.seq none (.region [] (.ops 3 .done)) (.seq none (.region [] (.ops 5 .done)) (.region [] (.ops 6 .done))))) (.region [] (.ops 2 .done))))))))))) (.region [] (.ops 3 .done))))))) (.seq none (.region [] (.ops 10 .done)) (.seq none (.region [] (.ops 10 .done)) (.seq (some (6739986660510558213280073007919118245201619689532787675815089277952, [(10, (.one .sl)), (11, (.one .sl))])) (.seq none (.region [0, 1, 2, 3, 4, 6, 10, 5, 7, 8, 9] (.ops 11 .done)) (.block (.loop 6739980239035482912705651603906538303758876016823167989107782585344 [(10, (.one .sl)), (11, (.one .sl)), (202, (.one (.int .i64)))] (.seq none (.region [] (.ops 1 .done)) (.seq none (.cond none .leaf .leaf) (.seq none (.block (.seq none (.region [] (.ops 3 .done)) (.seq none (.region [] (.ops 4 .done)) (.seq none (.region [] (.ops 6 .done)) (.region [] (.ops 8 .done)))))) (.region [] (.ops 2 .done)))))))) (.seq (some (1766840324791717541923348833989146760919815487589513322978485925390057472, [(239, (.one .bool))])) (.region [] (.ops 6 (.split 227 (.skips 5 (.ops 2 (.skips 4 (.ops 1 .done)))) (.ops 7 (.split 234 (.skips 4 (.ops 1 .done)) (.ops 5 .done)))))) (.cond none (.seq none (.region [] (.ops 1 .done)) .leaf) .leaf))))))))))) (.region [] (.ops 3 .done))))))) (.seq (some (115790322390251417039241401711187164934754157181743688420499462401716131987472, [])) (.seq none (.region [] (.ops 1 .done)) (.block (.loop 115790322390251417039241401711187164934754157181743688420499462401716131987472 [(32, (.one (.int .i64)))] (.seq none (.seq none (.region [] (.ops 4 .done)) (.cond none .leaf .leaf)) (.seq none (.block (.seq none (.region [0, 1, 2, 3, 4, 5, 6, 7, 8, 9] (.ops 10 .done)) (.cond none (.seq none (.region [] (.ops 1 .done)) .leaf) .leaf))) (.region [] (.ops 3 .done))))))) (.seq (some (1942668776433639833603266483252533897954498985782154855611248370281320277317848665088, [(10, (.one .sl)), (11, (.one .sl))])) (.seq none (.region [] (.ops 1 .done)) (.block (.loop 1942668776433639833603266483252533897954498985782154855611248370281320277317848665088 [(10, (.one .sl)), (11, (.one .sl)), (33, (.one (.int .i64)))] (.seq none (.seq none (.region [] (.ops 4 .done)) (.cond none .leaf .leaf)) (.seq none (.block (.seq none (.region [] (.ops 4 .done)) (.seq none (.region [] (.ops 9 .done)) (.region [] (.ops 8 .done))))) (.region [] (.ops 3 .done))))))) (.seq none (.region [] (.ops 4 (.split 283 (.ops 6 (.split 289 (.ops 6 .done) (.skips 4 (.ops 2 .done)))) (.skips 4 (.ops 2 (.skips 4 (.ops 2 .done))))))) .leaf)))))))))))))))
theorem F11_tie (a0 : Sl) (a1 : Sl) (K : Bool → World → Prop) : vcgF tab Try.prog Try.f11 h11 [(.slice a0.a a0.len a0.cap), (.slice a1.a a1.len a1.cap)] (.one (.one .bool)) K = F11 a0 a1 K := by kernel_rfl
theorem F11_calls {a0 : Sl} {a1 : Sl} {K : Bool → World → Prop} {w : World} (h : F11 a0 a1 K w) : callT Try.prog 11 #[(.slice a0.a a0.len a0.cap), (.slice a1.a a1.len a1.cap)] (.one (.one .bool)) K w :=
  vcgF_sound tabOk Try.func11 h11 [(.slice a0.a a0.len a0.cap), (.slice a1.a a1.len a1.cap)] (.one (.one .bool)) K w (Eq.mpr (congrFun (F11_tie a0 a1 K) w) h)

/-- copyist/copyistlaw11.able -/
noncomputable def F12  (K : Bool → World → Prop) : World → Prop :=
  callT Try.prog 31 #[] (.one (.one .ptr)) fun (x1 : Option Addr) =>
  join (S := Bool × Unit) (fun J2 =>
    sif (Option.isNone x1) (
      J2 (true, ())) (
      newO (.cells #[(.int .i64 (1 : Int)), (.int .i64 (2 : Int))] 3) fun b4 =>
      callT Try.prog 14 #[(.pointer x1), (.int .i64 (97 : Int)), (.agg #[(.int .i64 (0 : Int)), (.slice (some (at0 b4)) 2 2)])] (.one (.one (.int .i64))) fun (x5 : Int) =>
      J2 ((x5 != (0 : Int)), ()))) fun (s3 : Bool × Unit) =>
  sif s3.1 (
    K false) (
    callT Try.prog 21 #[(.pointer x1), (.int .i64 (97 : Int))] (.tup [(.agg c28), (.one (.int .i64))]) fun (x6 : ((Int × Sl × Unit) × Int × Unit)) =>
    newO (.cells #[(.int .i64 (0 : Int)), (.slice none 0 0)] 28) fun b7 =>
    aggSt (at0 b7) (.agg (Cells.vals c28 x6.1).toArray) 2 <|
    sif (x6.2.1 == (0 : Int)) (
      ld (.int .i64) (at0 b7) fun (x8 : Int) =>
      sif (x8 == (0 : Int)) (
        ld (.sl) (⟨b7, 1, none⟩ : Addr) fun (x9 : Sl) =>
        newO (.cells #[(.int .i64 (1 : Int)), (.int .i64 (2 : Int))] 3) fun b10 =>
        callT Try.prog 30 #[(.slice x9.a x9.len x9.cap), (.slice (some (at0 b10)) 2 2)] (.one (.one .bool)) fun (x11 : Bool) =>
        K x11) (
        K false)) (
      K false))
noncomputable def h12 : Hint := (.seq none (.region [] (.ops 1 .done)) (.seq none (.region [] (.ops 2 .done)) (.seq none (.seq (some (16352, [(13, (.one .bool))])) (.region [] (.ops 3 (.split 7 (.skips 5 (.ops 1 .done)) (.ops 6 .done)))) (.cond none (.seq none (.region [] (.ops 1 .done)) .leaf) .leaf)) (.seq none (.region [] (.ops 8 .done)) (.seq none (.region [] (.ops 3 (.split 21 (.ops 5 (.split 26 (.ops 6 .done) (.skips 4 (.ops 2 .done)))) (.skips 3 (.ops 2 (.skips 4 (.ops 2 .done))))))) .leaf)))))
theorem F12_tie  (K : Bool → World → Prop) : vcgF tab Try.prog Try.f12 h12 [] (.one (.one .bool)) K = F12  K := by kernel_rfl
theorem F12_calls {K : Bool → World → Prop} {w : World} (h : F12  K w) : callT Try.prog 12 #[] (.one (.one .bool)) K w :=
  vcgF_sound tabOk Try.func12 h12 [] (.one (.one .bool)) K w (Eq.mpr (congrFun (F12_tie  K) w) h)

/-- copyist/copyistlaw11.bank -/
noncomputable def F13 (a0 : Sl) (K : Option Addr → World → Prop) : World → Prop :=
  callT Try.prog 31 #[] (.one (.one .ptr)) fun (x1 : Option Addr) =>
  join (S := Unit) (fun J2 =>
    sloop (S := Int × Unit) (fun (s4 : Int × Unit) again5 =>
      join (S := Bool × Unit) (fun J6 =>
        sif (!(Option.isNone x1)) (
          J6 ((decide (s4.1 < ((a0.len : Nat) : Int))), ())) (
          J6 (false, ()))) fun (s7 : Bool × Unit) =>
      sif s7.1 (
        join (S := Unit) (fun J8 =>
          ix a0.a a0.len s4.1 fun p10 =>
          lds c55 (p10.add (scaled (Int.toNat s4.1) 5)) fun (x11 : (Int × Int × Int × Int × Sl × Unit)) =>
          newO (.cells #[(.int .i64 (0 : Int)), (.int .i64 (0 : Int)), (.int .i64 (0 : Int)), (.int .i64 (0 : Int)), (.slice none 0 0)] 55) fun b12 =>
          aggSt (at0 b12) (.agg (Cells.vals c55 x11).toArray) 5 <|
          ld (.int .i64) (at0 b12) fun (x13 : Int) =>
          sif (x13 == (1 : Int)) (
            drew <|
            ld (.int .i64) (⟨b12, 2, none⟩ : Addr) fun (x14 : Int) =>
            ld (.int .i64) (⟨b12, 3, none⟩ : Addr) fun (x15 : Int) =>
            ld (.sl) (⟨b12, 4, none⟩ : Addr) fun (x16 : Sl) =>
            rawT Try.prog (.one (.one .sl)) (Builtin.append_ #[23, 23] 23 #[(.slice none 0 0), (.slice x16.a x16.len x16.cap)]) fun (x17 : Sl) =>
            keep (fun w => w.cell? (⟨b12, 3, none⟩ : Addr) = some (Cell.val (.int .i64) x15)) <|
            keep (fun w => w.cell? (⟨b12, 2, none⟩ : Addr) = some (Cell.val (.int .i64) x14)) <|
            callT Try.prog 14 #[(.pointer x1), (.int .i64 x14), (.agg #[(.int .i64 x15), (.slice x17.a x17.len x17.cap)])] (.one (.one (.int .i64))) fun (x18 : Int) =>
            J8 ()) (
            sif (x13 == (2 : Int)) (
              drew <|
              ld (.int .i64) (⟨b12, 2, none⟩ : Addr) fun (x19 : Int) =>
              ld (.int .i64) (⟨b12, 3, none⟩ : Addr) fun (x20 : Int) =>
              ld (.sl) (⟨b12, 4, none⟩ : Addr) fun (x21 : Sl) =>
              rawT Try.prog (.one (.one .sl)) (Builtin.append_ #[23, 23] 23 #[(.slice none 0 0), (.slice x21.a x21.len x21.cap)]) fun (x22 : Sl) =>
              keep (fun w => w.cell? (⟨b12, 3, none⟩ : Addr) = some (Cell.val (.int .i64) x20)) <|
              keep (fun w => w.cell? (⟨b12, 2, none⟩ : Addr) = some (Cell.val (.int .i64) x19)) <|
              callT Try.prog 15 #[(.pointer x1), (.int .i64 x19), (.agg #[(.int .i64 x20), (.slice x22.a x22.len x22.cap)])] (.one (.one (.int .i64))) fun (x23 : Int) =>
              J8 ()) (
              sif (x13 == (3 : Int)) (
                drew <|
                ld (.int .i64) (⟨b12, 2, none⟩ : Addr) fun (x24 : Int) =>
                ld (.sl) (⟨b12, 4, none⟩ : Addr) fun (x25 : Sl) =>
                rawT Try.prog (.one (.one .sl)) (Builtin.append_ #[23, 23] 23 #[(.slice none 0 0), (.slice x25.a x25.len x25.cap)]) fun (x26 : Sl) =>
                keep (fun w => w.cell? (⟨b12, 2, none⟩ : Addr) = some (Cell.val (.int .i64) x24)) <|
                callT Try.prog 19 #[(.pointer x1), (.int .i64 x24), (.slice x26.a x26.len x26.cap)] (.one (.one (.int .i64))) fun (x27 : Int) =>
                J8 ()) (
                J8 ())))) fun (s9 : Unit) =>
        again5 ((IntKind.wrap .i64 (s4.1 + (1 : Int))), ())) (
        J2 ())) ((0 : Int), ())) fun (s3 : Unit) =>
  K x1
noncomputable def h13 : Hint := (.seq none (.region [] (.ops 1 .done)) (.seq none (.region [] (.ops 2 .done)) (.seq (some (72057594037927856, [])) (.seq none (.region [] (.ops 1 .done)) (.block (.loop 72057594037927856 [(4, (.one (.int .i64)))] (.seq none (.seq (some (32640, [(14, (.one .bool))])) (.region [] (.ops 3 (.split 9 (.ops 5 .done) (.skips 4 (.ops 1 .done))))) (.cond none .leaf .leaf)) (.seq (some (72057594037796896, [])) (.block (.seq none (.region [] (.ops 6 .done)) (.seq none (.region [] (.ops 2 .done)) (.block (.seq none (.region [] (.ops 2 .done)) (.cond none (.region [0, 1, 2, 3, 4, 5, 6, 7, 8, 9] (.ops 10 .done)) (.seq none (.region [] (.ops 2 .done)) (.cond none (.region [0, 1, 2, 3, 4, 5, 6, 7, 8, 9] (.ops 10 .done)) (.seq none (.region [] (.ops 2 .done)) (.cond none (.region [0, 1, 2, 3, 4, 5, 6] (.ops 7 .done)) .leaf)))))))))) (.region [] (.ops 3 .done))))))) (.seq none (.region [] (.ops 2 .done)) .leaf))))
theorem F13_tie (a0 : Sl) (K : Option Addr → World → Prop) : vcgF tab Try.prog Try.f13 h13 [(.slice a0.a a0.len a0.cap)] (.one (.one .ptr)) K = F13 a0 K := by kernel_rfl
theorem F13_calls {a0 : Sl} {K : Option Addr → World → Prop} {w : World} (h : F13 a0 K w) : callT Try.prog 13 #[(.slice a0.a a0.len a0.cap)] (.one (.one .ptr)) K w :=
  vcgF_sound tabOk Try.func13 h13 [(.slice a0.a a0.len a0.cap)] (.one (.one .ptr)) K w (Eq.mpr (congrFun (F13_tie a0 K) w) h)

/-- (*copyist/register.Bank).Yank -/
noncomputable def F14 (a0 : Option Addr) (a1 : Int) (a2 : (Int × Sl × Unit)) (K : Int → World → Prop) : World → Prop :=
  newO (.cells #[(.int .i64 a2.1), (.slice a2.2.1.a a2.2.1.len a2.2.1.cap)] 28) fun b1 =>
  lds c28 (at0 b1) fun (x2 : (Int × Sl × Unit)) =>
  callT Try.prog 32 #[(.int .i64 a1), (.agg (Cells.vals c28 x2).toArray)] (.tup [(.agg c64), (.one (.int .i64))]) fun (x3 : ((Int × Bool × Unit) × Int × Unit)) =>
  newO (.cells #[(.int .i64 (0 : Int)), (.bool false)] 64) fun b4 =>
  aggSt (at0 b4) (.agg (Cells.vals c64 x3.1).toArray) 2 <|
  sif (x3.2.1 != (0 : Int)) (
    K x3.2.1) (
    lds c28 (at0 b1) fun (x5 : (Int × Sl × Unit)) =>
    callT Try.prog 33 #[(.agg (Cells.vals c28 x5).toArray)] (.one (.agg c28)) fun (x6 : (Int × Sl × Unit)) =>
    newO (.cells #[(.int .i64 (0 : Int)), (.slice none 0 0)] 28) fun b7 =>
    aggSt (at0 b7) (.agg (Cells.vals c28 x6).toArray) 2 <|
    join (S := Bool × Unit) (fun J8 =>
      ld (.int .i64) (at0 b4) fun (x10 : Int) =>
      sif (x10 == (95 : Int)) (
        J8 (true, ())) (
        ld (.sl) (⟨b7, 1, none⟩ : Addr) fun (x11 : Sl) =>
        J8 ((((x11.len : Nat) : Int) == (0 : Int)), ()))) fun (s9 : Bool × Unit) =>
    sif s9.1 (
      K (0 : Int)) (
      join (S := Unit) (fun J12 =>
        ld (.int .i64) (at0 b4) fun (x14 : Int) =>
        sif (x14 == (34 : Int)) (
          stC (at0 b4) (.int .i64 (48 : Int)) <|
          J12 ()) (
          J12 ())) fun (s13 : Unit) =>
      lds c64 (at0 b4) fun (x15 : (Int × Bool × Unit)) =>
      lds c28 (at0 b7) fun (x16 : (Int × Sl × Unit)) =>
      callT Try.prog 34 #[(.pointer a0), (.agg (Cells.vals c64 x15).toArray), (.agg (Cells.vals c28 x16).toArray)] (.one (.one (.int .i64))) fun (x17 : Int) =>
      K x17))
noncomputable def h14 : Hint := (.seq none (.region [] (.ops 2 .done)) (.seq none (.region [] (.ops 9 .done)) (.seq none (.seq none (.region [] (.ops 2 .done)) (.cond none (.seq none (.region [] (.ops 2 .done)) .leaf) .leaf)) (.seq none (.region [] (.ops 4 .done)) (.seq none (.seq (some (1071644672, [(29, (.one .bool))])) (.region [] (.ops 4 (.split 24 (.skips 4 (.ops 1 .done)) (.ops 5 .done)))) (.cond none (.seq none (.region [] (.ops 1 .done)) .leaf) .leaf)) (.seq (some (16106127360, [])) (.seq none (.region [] (.ops 3 .done)) (.cond none (.region [] (.ops 2 .done)) .leaf)) (.seq none (.region [] (.ops 5 .done)) .leaf)))))))
theorem F14_tie (a0 : Option Addr) (a1 : Int) (a2 : (Int × Sl × Unit)) (K : Int → World → Prop) : vcgF tab Try.prog Try.f14 h14 [(.pointer a0), (.int .i64 a1), (.agg (Cells.vals c28 a2).toArray)] (.one (.one (.int .i64))) K = F14 a0 a1 a2 K := by kernel_rfl
theorem F14_calls {a0 : Option Addr} {a1 : Int} {a2 : (Int × Sl × Unit)} {K : Int → World → Prop} {w : World} (h : F14 a0 a1 a2 K w) : callT Try.prog 14 #[(.pointer a0), (.int .i64 a1), (.agg (Cells.vals c28 a2).toArray)] (.one (.one (.int .i64))) K w :=
  vcgF_sound tabOk Try.func14 h14 [(.pointer a0), (.int .i64 a1), (.agg (Cells.vals c28 a2).toArray)] (.one (.one (.int .i64))) K w (Eq.mpr (congrFun (F14_tie a0 a1 a2 K) w) h)

/-- (*copyist/register.Bank).Delete -/
noncomputable def F15 (a0 : Option Addr) (a1 : Int) (a2 : (Int × Sl × Unit)) (K : Int → World → Prop) : World → Prop :=
  newO (.cells #[(.int .i64 a2.1), (.slice a2.2.1.a a2.2.1.len a2.2.1.cap)] 28) fun b1 =>
  lds c28 (at0 b1) fun (x2 : (Int × Sl × Unit)) =>
  callT Try.prog 32 #[(.int .i64 a1), (.agg (Cells.vals c28 x2).toArray)] (.tup [(.agg c64), (.one (.int .i64))]) fun (x3 : ((Int × Bool × Unit) × Int × Unit)) =>
  newO (.cells #[(.int .i64 (0 : Int)), (.bool false)] 64) fun b4 =>
  aggSt (at0 b4) (.agg (Cells.vals c64 x3.1).toArray) 2 <|
  sif (x3.2.1 != (0 : Int)) (
    K x3.2.1) (
    lds c28 (at0 b1) fun (x5 : (Int × Sl × Unit)) =>
    callT Try.prog 33 #[(.agg (Cells.vals c28 x5).toArray)] (.one (.agg c28)) fun (x6 : (Int × Sl × Unit)) =>
    newO (.cells #[(.int .i64 (0 : Int)), (.slice none 0 0)] 28) fun b7 =>
    aggSt (at0 b7) (.agg (Cells.vals c28 x6).toArray) 2 <|
    join (S := Bool × Unit) (fun J8 =>
      ld (.int .i64) (at0 b4) fun (x10 : Int) =>
      sif (x10 == (95 : Int)) (
        J8 (true, ())) (
        ld (.sl) (⟨b7, 1, none⟩ : Addr) fun (x11 : Sl) =>
        J8 ((((x11.len : Nat) : Int) == (0 : Int)), ()))) fun (s9 : Bool × Unit) =>
    sif s9.1 (
      K (0 : Int)) (
      ld (.int .i64) (at0 b4) fun (x12 : Int) =>
      sif (x12 != (34 : Int)) (
        lds c64 (at0 b4) fun (x13 : (Int × Bool × Unit)) =>
        lds c28 (at0 b7) fun (x14 : (Int × Sl × Unit)) =>
        callT Try.prog 34 #[(.pointer a0), (.agg (Cells.vals c64 x13).toArray), (.agg (Cells.vals c28 x14).toArray)] (.one (.one (.int .i64))) fun (x15 : Int) =>
        K x15) (
        join (S := Bool × Unit) (fun J16 =>
          ld (.int .i64) (at0 b7) fun (x18 : Int) =>
          sif (x18 == (0 : Int)) (
            ld (.sl) (⟨b7, 1, none⟩ : Addr) fun (x19 : Sl) =>
            callT Try.prog 35 #[(.slice x19.a x19.len x19.cap), (.int .i64 (10 : Int))] (.one (.one .bool)) fun (x20 : Bool) =>
            sif (!x20) (
              ld (.sl) (⟨b7, 1, none⟩ : Addr) fun (x21 : Sl) =>
              callT Try.prog 35 #[(.slice x21.a x21.len x21.cap), (.int .i64 (13 : Int))] (.one (.one .bool)) fun (x22 : Bool) =>
              J16 ((!x22), ())) (
              J16 (false, ()))) (
            J16 (false, ()))) fun (s17 : Bool × Unit) =>
        sif s17.1 (
          lds c28 (at0 b7) fun (x23 : (Int × Sl × Unit)) =>
          callT Try.prog 34 #[(.pointer a0), (.agg #[(.int .i64 (45 : Int)), (.bool false)]), (.agg (Cells.vals c28 x23).toArray)] (.one (.one (.int .i64))) fun (x24 : Int) =>
          K x24) (
          ld (.sl) (⟨b7, 1, none⟩ : Addr) fun (x25 : Sl) =>
          sif (decide (((x25.len : Nat) : Int) > (140000 : Int))) (
            K (3 : Int)) (
            join (S := Unit) (fun J26 =>
              sloop (S := Int × Unit) (fun (s28 : Int × Unit) again29 =>
                sif (decide (s28.1 > (49 : Int))) (
                  join (S := Unit) (fun J30 =>
                    nn a0 fun p32 =>
                    ld (.map) p32 fun (x33 : Option Nat) =>
                    rdT Try.prog (.tup [(.agg c28), (.one .bool)]) (Instr.lookup 71 (.map x33) (.int .i64 (IntKind.wrap .i64 (s28.1 - (1 : Int)))) true) fun (x34 : ((Int × Sl × Unit) × Bool × Unit)) =>
                    newO (.cells #[(.int .i64 (0 : Int)), (.slice none 0 0)] 28) fun b35 =>
                    aggSt (at0 b35) (.agg (Cells.vals c28 x34.1).toArray) 2 <|
                    sif x34.2.1 (
                      drew <|
                      nn a0 fun p36 =>
                      ld (.map) p36 fun (x37 : Option Nat) =>
                      lds c28 (at0 b35) fun (x38 : (Int × Sl × Unit)) =>
                      rawU Try.prog (Instr.mapUpdate 71 (.map x37) (.int .i64 s28.1) (.agg (Cells.vals c28 x38).toArray)) <|
                      J30 ()) (
                      nn a0 fun p39 =>
                      ld (.map) p39 fun (x40 : Option Nat) =>
                      rawT Try.prog (.tup []) (Builtin.delete_ #[71, 3] 0 #[(.map x40), (.int .i64 s28.1)]) fun (x41 : (Unit)) =>
                      J30 ())) fun (s31 : Unit) =>
                  again29 ((IntKind.wrap .i64 (s28.1 - (1 : Int))), ())) (
                  J26 ())) ((57 : Int), ())) fun (s27 : Unit) =>
            lds c28 (at0 b7) fun (x42 : (Int × Sl × Unit)) =>
            callT Try.prog 34 #[(.pointer a0), (.agg #[(.int .i64 (49 : Int)), (.bool false)]), (.agg (Cells.vals c28 x42).toArray)] (.one (.one (.int .i64))) fun (x43 : Int) =>
            K x43)))))
noncomputable def h15 : Hint := (.seq none (.region [] (.ops 2 .done)) (.seq none (.region [] (.ops 9 .done)) (.seq none (.seq none (.region [] (.ops 2 .done)) (.cond none (.seq none (.region [] (.ops 2 .done)) .leaf) .leaf)) (.seq none (.region [] (.ops 4 .done)) (.seq none (.block (.seq (some (17163091968, [(24, (.one .bool))])) (.region [] (.ops 4 (.split 28 (.skips 4 (.ops 2 .done)) (.ops 6 .done)))) (.cond none (.seq none (.region [] (.ops 1 .done)) .leaf) (.seq none (.region [] (.ops 4 .done)) (.cond none (.seq none (.region [] (.ops 5 .done)) .leaf) (.seq (some (288225978105200640, [(42, (.one .bool))])) (.region [] (.ops 4 (.split 46 (.ops 6 (.split 52 (.ops 6 .done) (.skips 4 (.ops 2 .done)))) (.skips 4 (.ops 2 (.skips 4 (.ops 2 .done))))))) (.cond none (.seq none (.region [] (.ops 5 .done)) .leaf) (.seq none (.region [] (.ops 5 .done)) (.cond none (.seq none (.region [] (.ops 1 .done)) .leaf) .leaf))))))))) (.seq (some (9903520166709089609516588032, [])) (.seq none (.region [] (.ops 1 .done)) (.block (.loop 9903520166709089609516588032 [(10, (.one (.int .i64)))] (.seq none (.seq none (.region [] (.ops 2 .done)) (.cond none .leaf .leaf)) (.seq (some (9903517953099800764370393088, [])) (.block (.seq none (.region [] (.ops 13 .done)) (.seq none (.region [] (.ops 1 .done)) (.cond none (.region [0, 1, 2, 3, 4, 5, 6] (.ops 7 .done)) (.region [] (.ops 6 .done)))))) (.region [] (.ops 3 .done))))))) (.seq none (.region [] (.ops 5 .done)) .leaf)))))))
theorem F15_tie (a0 : Option Addr) (a1 : Int) (a2 : (Int × Sl × Unit)) (K : Int → World → Prop) : vcgF tab Try.prog Try.f15 h15 [(.pointer a0), (.int .i64 a1), (.agg (Cells.vals c28 a2).toArray)] (.one (.one (.int .i64))) K = F15 a0 a1 a2 K := by kernel_rfl
theorem F15_calls {a0 : Option Addr} {a1 : Int} {a2 : (Int × Sl × Unit)} {K : Int → World → Prop} {w : World} (h : F15 a0 a1 a2 K w) : callT Try.prog 15 #[(.pointer a0), (.int .i64 a1), (.agg (Cells.vals c28 a2).toArray)] (.one (.one (.int .i64))) K w :=
  vcgF_sound tabOk Try.func15 h15 [(.pointer a0), (.int .i64 a1), (.agg (Cells.vals c28 a2).toArray)] (.one (.one (.int .i64))) K w (Eq.mpr (congrFun (F15_tie a0 a1 a2 K) w) h)

/-- copyist/copyistlaw11.kept -/
noncomputable def F16 (a0 : Int) (a1 : Sl) (K : Sl → World → Prop) : World → Prop :=
  rawT Try.prog (.one (.one .sl)) (Builtin.append_ #[23, 23] 23 #[(.slice none 0 0), (.slice a1.a a1.len a1.cap)]) fun (x1 : Sl) =>
  join (S := Sl × Unit) (fun J2 =>
    join (S := Bool × Unit) (fun J4 =>
      sif (a0 == (1 : Int)) (
        callT Try.prog 36 #[(.slice a1.a a1.len a1.cap)] (.one (.one .bool)) fun (x6 : Bool) =>
        J4 ((!x6), ())) (
        J4 (false, ()))) fun (s5 : Bool × Unit) =>
    sif s5.1 (
      newO (.cells #[(.int .i64 (10 : Int))] 3) fun b7 =>
      rawT Try.prog (.one (.one .sl)) (Builtin.append_ #[23, 23] 23 #[(.slice x1.a x1.len x1.cap), (.slice (some (at0 b7)) 1 1)]) fun (x8 : Sl) =>
      J2 (x8, ())) (
      J2 (x1, ()))) fun (s3 : Sl × Unit) =>
  K s3.1
noncomputable def h16 : Hint := (.seq none (.region [] (.ops 1 .done)) (.seq none (.region [] (.ops 3 .done)) (.seq (some (261920, [(5, (.one .sl))])) (.seq (some (32512, [(14, (.one .bool))])) (.region [] (.ops 3 (.split 10 (.ops 4 .done) (.skips 3 (.ops 1 .done))))) (.cond none (.region [] (.ops 4 .done)) .leaf)) (.seq none (.region [] (.ops 2 .done)) .leaf))))
theorem F16_tie (a0 : Int) (a1 : Sl) (K : Sl → World → Prop) : vcgF tab Try.prog Try.f16 h16 [(.int .i64 a0), (.slice a1.a a1.len a1.cap)] (.one (.one .sl)) K = F16 a0 a1 K := by kernel_rfl
theorem F16_calls {a0 : Int} {a1 : Sl} {K : Sl → World → Prop} {w : World} (h : F16 a0 a1 K w) : callT Try.prog 16 #[(.int .i64 a0), (.slice a1.a a1.len a1.cap)] (.one (.one .sl)) K w :=
  vcgF_sound tabOk Try.func16 h16 [(.int .i64 a0), (.slice a1.a a1.len a1.cap)] (.one (.one .sl)) K w (Eq.mpr (congrFun (F16_tie a0 a1 K) w) h)

/-- copyist/copyistlaw11.holds -/
noncomputable def F17 (a0 : Option Addr) (a1 : Int) (a2 : Int) (a3 : Sl) (K : Bool → World → Prop) : World → Prop :=
  callT Try.prog 21 #[(.pointer a0), (.int .i64 a1)] (.tup [(.agg c28), (.one (.int .i64))]) fun (x1 : ((Int × Sl × Unit) × Int × Unit)) =>
  newO (.cells #[(.int .i64 (0 : Int)), (.slice none 0 0)] 28) fun b2 =>
  aggSt (at0 b2) (.agg (Cells.vals c28 x1.1).toArray) 2 <|
  sif (x1.2.1 == (0 : Int)) (
    ld (.int .i64) (at0 b2) fun (x3 : Int) =>
    sif (x3 == a2) (
      ld (.sl) (⟨b2, 1, none⟩ : Addr) fun (x4 : Sl) =>
      callT Try.prog 30 #[(.slice x4.a x4.len x4.cap), (.slice a3.a a3.len a3.cap)] (.one (.one .bool)) fun (x5 : Bool) =>
      K x5) (
      K false)) (
    K false)
noncomputable def h17 : Hint := (.seq none (.region [] (.ops 1 .done)) (.seq none (.region [] (.ops 9 .done)) (.seq none (.region [] (.ops 3 (.split 19 (.ops 6 (.split 25 (.ops 6 .done) (.skips 4 (.ops 2 .done)))) (.skips 4 (.ops 2 (.skips 4 (.ops 2 .done))))))) .leaf)))
theorem F17_tie (a0 : Option Addr) (a1 : Int) (a2 : Int) (a3 : Sl) (K : Bool → World → Prop) : vcgF tab Try.prog Try.f17 h17 [(.pointer a0), (.int .i64 a1), (.int .i64 a2), (.slice a3.a a3.len a3.cap)] (.one (.one .bool)) K = F17 a0 a1 a2 a3 K := by kernel_rfl
theorem F17_calls {a0 : Option Addr} {a1 : Int} {a2 : Int} {a3 : Sl} {K : Bool → World → Prop} {w : World} (h : F17 a0 a1 a2 a3 K w) : callT Try.prog 17 #[(.pointer a0), (.int .i64 a1), (.int .i64 a2), (.slice a3.a a3.len a3.cap)] (.one (.one .bool)) K w :=
  vcgF_sound tabOk Try.func17 h17 [(.pointer a0), (.int .i64 a1), (.int .i64 a2), (.slice a3.a a3.len a3.cap)] (.one (.one .bool)) K w (Eq.mpr (congrFun (F17_tie a0 a1 a2 a3 K) w) h)

/-- copyist/copyistlaw11.shown -/
noncomputable def F18 (a0 : Option Addr) (K : (Sl × Sl × Unit) → World → Prop) : World → Prop :=
  join (S := Sl × Sl × Unit) (fun J1 =>
    sloop (S := Sl × Sl × Int × Unit) (fun (s3 : Sl × Sl × Int × Unit) again4 =>
      sif (decide (s3.2.2.1 < (130 : Int))) (
        callT Try.prog 21 #[(.pointer a0), (.int .i64 s3.2.2.1)] (.tup [(.agg c28), (.one (.int .i64))]) fun (x5 : ((Int × Sl × Unit) × Int × Unit)) =>
        newO (.cells #[(.int .i64 (0 : Int)), (.slice none 0 0)] 28) fun b6 =>
        aggSt (at0 b6) (.agg (Cells.vals c28 x5.1).toArray) 2 <|
        drew <|
        ld (.int .i64) (at0 b6) fun (x7 : Int) =>
        ld (.sl) (⟨b6, 1, none⟩ : Addr) fun (x8 : Sl) =>
        rawT Try.prog (.one (.one .sl)) (Builtin.append_ #[23, 23] 23 #[(.slice none 0 0), (.slice x8.a x8.len x8.cap)]) fun (x9 : Sl) =>
        keep (fun w => w.cell? (at0 b6) = some (Cell.val (.int .i64) x7)) <|
        newO (.cells #[(.int .i64 x7), (.slice x9.a x9.len x9.cap)] 28) fun b10 =>
        rawT Try.prog (.one (.one .sl)) (Builtin.append_ #[37, 37] 37 #[(.slice s3.1.a s3.1.len s3.1.cap), (.slice (some (at0 b10)) 1 1)]) fun (x11 : Sl) =>
        newO (.cells #[(.int .i64 x5.2.1)] 3) fun b12 =>
        rawT Try.prog (.one (.one .sl)) (Builtin.append_ #[23, 23] 23 #[(.slice s3.2.1.a s3.2.1.len s3.2.1.cap), (.slice (some (at0 b12)) 1 1)]) fun (x13 : Sl) =>
        again4 (x11, x13, (IntKind.wrap .i64 (s3.2.2.1 + (1 : Int))), ())) (
        J1 (s3.1, s3.2.1, ()))) (⟨none, 0, 0⟩, ⟨none, 0, 0⟩, (-2 : Int), ())) fun (s2 : Sl × Sl × Unit) =>
  K (s2.1, s2.2.1, ())
noncomputable def h18 : Hint := (.seq none (.region [] (.ops 2 .done)) (.seq none (.region [] (.ops 1 .done)) (.seq none (.region [] (.ops 1 .done)) (.seq (some (4294967280, [(4, (.one .sl)), (5, (.one .sl))])) (.seq none (.region [] (.ops 1 .done)) (.block (.loop 4294967280 [(4, (.one .sl)), (5, (.one .sl)), (6, (.one (.int .i64)))] (.seq none (.seq none (.region [] (.ops 2 .done)) (.cond none .leaf .leaf)) (.seq none (.block (.seq none (.region [] (.ops 9 .done)) (.seq none (.region [0, 1, 2, 3, 4, 5, 6, 7, 8, 9] (.ops 10 .done)) (.region [] (.ops 5 .done))))) (.region [] (.ops 3 .done))))))) (.seq none (.region [] (.ops 4 .done)) .leaf)))))
theorem F18_tie (a0 : Option Addr) (K : (Sl × Sl × Unit) → World → Prop) : vcgF tab Try.prog Try.f18 h18 [(.pointer a0)] (.tup [(.one .sl), (.one .sl)]) K = F18 a0 K := by kernel_rfl
theorem F18_calls {a0 : Option Addr} {K : (Sl × Sl × Unit) → World → Prop} {w : World} (h : F18 a0 K w) : callT Try.prog 18 #[(.pointer a0)] (.tup [(.one .sl), (.one .sl)]) K w :=
  vcgF_sound tabOk Try.func18 h18 [(.pointer a0)] (.tup [(.one .sl), (.one .sl)]) K w (Eq.mpr (congrFun (F18_tie a0 K) w) h)

/-- (*copyist/register.Bank).Set -/
noncomputable def F19 (a0 : Option Addr) (a1 : Int) (a2 : Sl) (K : Int → World → Prop) : World → Prop :=
  callT Try.prog 37 #[(.int .i64 a1)] (.tup [(.agg c64), (.one .bool)]) fun (x1 : ((Int × Bool × Unit) × Bool × Unit)) =>
  newO (.cells #[(.int .i64 (0 : Int)), (.bool false)] 64) fun b2 =>
  aggSt (at0 b2) (.agg (Cells.vals c64 x1.1).toArray) 2 <|
  join (S := Bool × Unit) (fun J3 =>
    sif (!x1.2.1) (
      J3 (true, ())) (
      ld (.int .i64) (at0 b2) fun (x5 : Int) =>
      J3 ((x5 == (34 : Int)), ()))) fun (s4 : Bool × Unit) =>
  sif s4.1 (
    K (110 : Int)) (
    ld (.int .i64) (at0 b2) fun (x6 : Int) =>
    sif (x6 == (95 : Int)) (
      K (0 : Int)) (
      drew <|
      lds c64 (at0 b2) fun (x7 : (Int × Bool × Unit)) =>
      callT Try.prog 33 #[(.agg #[(.int .i64 (0 : Int)), (.slice a2.a a2.len a2.cap)])] (.one (.agg c28)) fun (x8 : (Int × Sl × Unit)) =>
      keep (fun w => cellsAt w (at0 b2) 0 (Cells.vals c64 x7)) <|
      callT Try.prog 38 #[(.pointer a0), (.agg (Cells.vals c64 x7).toArray), (.agg (Cells.vals c28 x8).toArray)] (.one (.one (.int .i64))) fun (x9 : Int) =>
      K x9))
noncomputable def h19 : Hint := (.seq none (.region [] (.ops 1 .done)) (.seq none (.region [] (.ops 8 .done)) (.seq none (.block (.seq (some (4177920, [(14, (.one .bool))])) (.region [] (.ops 3 (.split 17 (.skips 3 (.ops 2 .done)) (.ops 5 .done)))) (.cond none (.seq none (.region [] (.ops 1 .done)) .leaf) (.seq none (.region [] (.ops 4 .done)) (.cond none (.seq none (.region [] (.ops 1 .done)) .leaf) .leaf))))) (.seq none (.region [0, 1, 2, 3, 4, 5, 6] (.ops 7 .done)) .leaf))))
theorem F19_tie (a0 : Option Addr) (a1 : Int) (a2 : Sl) (K : Int → World → Prop) : vcgF tab Try.prog Try.f19 h19 [(.pointer a0), (.int .i64 a1), (.slice a2.a a2.len a2.cap)] (.one (.one (.int .i64))) K = F19 a0 a1 a2 K := by kernel_rfl
theorem F19_calls {a0 : Option Addr} {a1 : Int} {a2 : Sl} {K : Int → World → Prop} {w : World} (h : F19 a0 a1 a2 K w) : callT Try.prog 19 #[(.pointer a0), (.int .i64 a1), (.slice a2.a a2.len a2.cap)] (.one (.one (.int .i64))) K w :=
  vcgF_sound tabOk Try.func19 h19 [(.pointer a0), (.int .i64 a1), (.slice a2.a a2.len a2.cap)] (.one (.one (.int .i64))) K w (Eq.mpr (congrFun (F19_tie a0 a1 a2 K) w) h)

/-- copyist/copyistlaw11.sameShown -/
noncomputable def F20 (a0 : Option Addr) (a1 : Sl) (a2 : Sl) (K : Bool → World → Prop) : World → Prop :=
  callT Try.prog 18 #[(.pointer a0)] (.tup [(.one .sl), (.one .sl)]) fun (x1 : (Sl × Sl × Unit)) =>
  join (S := Unit) (fun J2 =>
    sloop (S := Int × Unit) (fun (s4 : Int × Unit) again5 =>
      sif (decide (s4.1 < ((a1.len : Nat) : Int))) (
        join (S := Bool × Unit) (fun J6 =>
          drew <|
          ix a1.a a1.len s4.1 fun p8 =>
          ld (.int .i64) (p8.add (scaled (Int.toNat s4.1) 2)) fun (x9 : Int) =>
          ix x1.1.a x1.1.len s4.1 fun p10 =>
          ld (.int .i64) (p10.add (scaled (Int.toNat s4.1) 2)) fun (x11 : Int) =>
          sif (x9 != x11) (
            J6 (true, ())) (
            ix a1.a a1.len s4.1 fun p12 =>
            ld (.sl) ((p12.add (scaled (Int.toNat s4.1) 2)).add 1) fun (x13 : Sl) =>
            ix x1.1.a x1.1.len s4.1 fun p14 =>
            ld (.sl) ((p14.add (scaled (Int.toNat s4.1) 2)).add 1) fun (x15 : Sl) =>
            callT Try.prog 30 #[(.slice x13.a x13.len x13.cap), (.slice x15.a x15.len x15.cap)] (.one (.one .bool)) fun (x16 : Bool) =>
            J6 ((!x16), ()))) fun (s7 : Bool × Unit) =>
        sif s7.1 (
          K false) (
          again5 ((IntKind.wrap .i64 (s4.1 + (1 : Int))), ()))) (
        J2 ())) ((0 : Int), ())) fun (s3 : Unit) =>
  callT Try.prog 30 #[(.slice a2.a a2.len a2.cap), (.slice x1.2.1.a x1.2.1.len x1.2.1.cap)] (.one (.one .bool)) fun (x17 : Bool) =>
  K x17
noncomputable def h20 : Hint := (.seq none (.region [] (.ops 1 .done)) (.seq none (.region [] (.ops 7 .done)) (.seq (some (70368744145472, [])) (.seq none (.region [] (.ops 1 .done)) (.block (.loop 70368744145472 [(9, (.one (.int .i64)))] (.seq none (.seq none (.region [] (.ops 4 .done)) (.cond none .leaf .leaf)) (.seq none (.block (.seq (some (70368742080512, [(45, (.one .bool))])) (.region [0, 1, 2, 3, 4, 5, 6, 7, 8, 9, 10, 11, 12, 13, 14, 15, 16, 17, 18, 19, 20, 21, 22, 23, 24] (.ops 12 (.split 32 (.skips 12 (.ops 1 .done)) (.ops 13 .done)))) (.cond none (.seq none (.region [] (.ops 1 .done)) .leaf) .leaf))) (.region [] (.ops 3 .done))))))) (.seq none (.region [] (.ops 4 .done)) .leaf))))
theorem F20_tie (a0 : Option Addr) (a1 : Sl) (a2 : Sl) (K : Bool → World → Prop) : vcgF tab Try.prog Try.f20 h20 [(.pointer a0), (.slice a1.a a1.len a1.cap), (.slice a2.a a2.len a2.cap)] (.one (.one .bool)) K = F20 a0 a1 a2 K := by kernel_rfl
theorem F20_calls {a0 : Option Addr} {a1 : Sl} {a2 : Sl} {K : Bool → World → Prop} {w : World} (h : F20 a0 a1 a2 K w) : callT Try.prog 20 #[(.pointer a0), (.slice a1.a a1.len a1.cap), (.slice a2.a a2.len a2.cap)] (.one (.one .bool)) K w :=
  vcgF_sound tabOk Try.func20 h20 [(.pointer a0), (.slice a1.a a1.len a1.cap), (.slice a2.a a2.len a2.cap)] (.one (.one .bool)) K w (Eq.mpr (congrFun (F20_tie a0 a1 a2 K) w) h)

/-- (*copyist/register.Bank).Get -/
noncomputable def F21 (a0 : Option Addr) (a1 : Int) (K : ((Int × Sl × Unit) × Int × Unit) → World → Prop) : World → Prop :=
  newO (.cells #[(.int .i64 (0 : Int)), (.slice none 0 0)] 28) fun b1 =>
  callT Try.prog 37 #[(.int .i64 a1)] (.tup [(.agg c64), (.one .bool)]) fun (x2 : ((Int × Bool × Unit) × Bool × Unit)) =>
  newO (.cells #[(.int .i64 (0 : Int)), (.bool false)] 64) fun b3 =>
  aggSt (at0 b3) (.agg (Cells.vals c64 x2.1).toArray) 2 <|
  sif (!x2.2.1) (
    aggSt (at0 b1) (.agg #[(.int .i64 (0 : Int)), (.slice none 0 0)]) 2 <|
    lds c28 (at0 b1) fun (x4 : (Int × Sl × Unit)) =>
    K (x4, (110 : Int), ())) (
    join (S := Unit) (fun J5 =>
      ld (.int .i64) (at0 b3) fun (x7 : Int) =>
      sif (x7 == (34 : Int)) (
        nn a0 fun p8 =>
        ld (.int .i64) (p8.add 1) fun (x9 : Int) =>
        stC (at0 b3) (.int .i64 x9) <|
        J5 ()) (
        J5 ())) fun (s6 : Unit) =>
    drew <|
    nn a0 fun p10 =>
    ld (.map) p10 fun (x11 : Option Nat) =>
    ld (.int .i64) (at0 b3) fun (x12 : Int) =>
    rdT Try.prog (.tup [(.agg c28), (.one .bool)]) (Instr.lookup 71 (.map x11) (.int .i64 x12) true) fun (x13 : ((Int × Sl × Unit) × Bool × Unit)) =>
    newO (.cells #[(.int .i64 (0 : Int)), (.slice none 0 0)] 28) fun b14 =>
    keep (fun w => (Instr.lookup 71 (.map x11) (.int .i64 x12) true).run Try.prog w = .ok (RTy.val (.tup [(.agg c28), (.one .bool)]) x13) w) <|
    keep (fun w => w.cell? (at0 b3) = some (Cell.val (.int .i64) x12)) <|
    keep (fun w => w.cell? p10 = some (Cell.val (.map) x11)) <|
    aggSt (at0 b14) (.agg (Cells.vals c28 x13.1).toArray) 2 <|
    sif (!x13.2.1) (
      aggSt (at0 b1) (.agg #[(.int .i64 (0 : Int)), (.slice none 0 0)]) 2 <|
      lds c28 (at0 b1) fun (x15 : (Int × Sl × Unit)) =>
      K (x15, (112 : Int), ())) (
      drew <|
      ld (.int .i64) (at0 b14) fun (x16 : Int) =>
      ld (.sl) (⟨b14, 1, none⟩ : Addr) fun (x17 : Sl) =>
      callT Try.prog 39 #[(.slice x17.a x17.len x17.cap)] (.one (.one .sl)) fun (x18 : Sl) =>
      keep (fun w => w.cell? (at0 b14) = some (Cell.val (.int .i64) x16)) <|
      aggSt (at0 b1) (.agg #[(.int .i64 x16), (.slice x18.a x18.len x18.cap)]) 2 <|
      lds c28 (at0 b1) fun (x19 : (Int × Sl × Unit)) =>
      K (x19, (0 : Int), ())))
noncomputable def h21 : Hint := (.seq none (.region [] (.ops 2 .done)) (.seq none (.region [] (.ops 8 .done)) (.seq none (.seq none (.region [] (.ops 2 .done)) (.cond none (.seq none (.region [] (.ops 3 .done)) .leaf) .leaf)) (.seq (some (33423360, [])) (.seq none (.region [] (.ops 3 .done)) (.cond none (.region [] (.ops 6 .done)) .leaf)) (.seq none (.region [0, 1, 2, 3, 4, 5, 6, 7, 8, 9, 10, 11, 12] (.ops 13 .done)) (.seq none (.seq none (.region [] (.ops 2 .done)) (.cond none (.seq none (.region [] (.ops 3 .done)) .leaf) .leaf)) (.seq none (.region [0, 1, 2, 3, 4, 5, 6, 7] (.ops 8 .done)) .leaf)))))))
theorem F21_tie (a0 : Option Addr) (a1 : Int) (K : ((Int × Sl × Unit) × Int × Unit) → World → Prop) : vcgF tab Try.prog Try.f21 h21 [(.pointer a0), (.int .i64 a1)] (.tup [(.agg c28), (.one (.int .i64))]) K = F21 a0 a1 K := by kernel_rfl
theorem F21_calls {a0 : Option Addr} {a1 : Int} {K : ((Int × Sl × Unit) × Int × Unit) → World → Prop} {w : World} (h : F21 a0 a1 K w) : callT Try.prog 21 #[(.pointer a0), (.int .i64 a1)] (.tup [(.agg c28), (.one (.int .i64))]) K w :=
  vcgF_sound tabOk Try.func21 h21 [(.pointer a0), (.int .i64 a1)] (.tup [(.agg c28), (.one (.int .i64))]) K w (Eq.mpr (congrFun (F21_tie a0 a1 K) w) h)

/-- copyist/copyistlaw11.plays -/
noncomputable def F22 (a0 : Sl) (a1 : Int) (K : Bool → World → Prop) : World → Prop :=
  newO (.cells #[(.pointer none), (.pointer none), (.pointer none), (.pointer none), (.slice none 0 0)] 52) fun b1 =>
  join (S := Bool × Unit) (fun J2 =>
    callT Try.prog 12 #[] (.one (.one .bool)) fun (x4 : Bool) =>
    sif (!x4) (
      J2 (true, ())) (
      callT Try.prog 23 #[(.pointer (some (at0 b1)))] (.one (.one .bool)) fun (x5 : Bool) =>
      J2 ((!x5), ()))) fun (s3 : Bool × Unit) =>
  sif s3.1 (
    K false) (
    join (S := Unit) (fun J6 =>
      sloop (S := Int × Unit) (fun (s8 : Int × Unit) again9 =>
        sif (decide (s8.1 < ((a0.len : Nat) : Int))) (
          ix a0.a a0.len s8.1 fun p10 =>
          lds c55 (p10.add (scaled (Int.toNat s8.1) 5)) fun (x11 : (Int × Int × Int × Int × Sl × Unit)) =>
          callT Try.prog 24 #[(.pointer (some (at0 b1))), (.agg (Cells.vals c55 x11).toArray)] (.one (.one .bool)) fun (x12 : Bool) =>
          ix a0.a a0.len s8.1 fun p13 =>
          ld (.int .i64) (p13.add (scaled (Int.toNat s8.1) 5)) fun (x14 : Int) =>
          join (S := Bool × Unit) (fun J15 =>
            nn (some (at0 b1)) fun p17 =>
            chk (0 ≤ (0 : Int) ∧ (0 : Int) < ((2 : Nat) : Int)) <|
            ld (.ptr) (p17.add (scaled (Int.toNat (0 : Int)) 1)) fun (x18 : Option Addr) =>
            sif (Option.isNone x18) (
              J15 (true, ())) (
              nn (some (at0 b1)) fun p19 =>
              chk (0 ≤ (1 : Int) ∧ (1 : Int) < ((2 : Nat) : Int)) <|
              ld (.ptr) (p19.add (scaled (Int.toNat (1 : Int)) 1)) fun (x20 : Option Addr) =>
              sif (Option.isNone x20) (
                J15 (true, ())) (
                sif (!x12) (
                  sif (x14 == a1) (
                    J15 (true, ())) (
                    J15 ((decide (x14 ≥ (4 : Int))), ()))) (
                  J15 (false, ()))))) fun (s16 : Bool × Unit) =>
          sif s16.1 (
            K false) (
            again9 ((IntKind.wrap .i64 (s8.1 + (1 : Int))), ()))) (
          J6 ())) ((0 : Int), ())) fun (s7 : Unit) =>
    K true)
noncomputable def h22 : Hint := (.seq none (.region [] (.ops 1 .done)) (.seq none (.region [] (.ops 3 .done)) (.seq none (.seq (some (260096, [(17, (.one .bool))])) (.region [] (.ops 3 (.split 13 (.skips 3 (.ops 1 .done)) (.ops 4 .done)))) (.cond none (.seq none (.region [] (.ops 1 .done)) .leaf) .leaf)) (.seq (some (4611686018427126224, [])) (.seq none (.region [] (.ops 1 .done)) (.block (.loop 4611686018427126224 [(6, (.one (.int .i64)))] (.seq none (.seq none (.region [] (.ops 4 .done)) (.cond none .leaf .leaf)) (.seq none (.block (.seq none (.region [] (.ops 7 .done)) (.seq none (.region [] (.ops 6 .done)) (.seq (some (4611685984067649536, [(61, (.one .bool))])) (.region [] (.ops 7 (.split 41 (.skips 6 (.ops 2 (.skips 11 (.ops 1 .done)))) (.ops 8 (.split 49 (.skips 11 (.ops 1 .done)) (.ops 3 (.split 52 (.ops 4 (.split 56 (.skips 2 (.ops 3 .done)) (.ops 5 .done))) (.skips 7 (.ops 2 .done))))))))) (.cond none (.seq none (.region [] (.ops 1 .done)) .leaf) .leaf))))) (.region [] (.ops 3 .done))))))) (.seq none (.region [] (.ops 1 .done)) .leaf)))))
theorem F22_tie (a0 : Sl) (a1 : Int) (K : Bool → World → Prop) : vcgF tab Try.prog Try.f22 h22 [(.slice a0.a a0.len a0.cap), (.int .i64 a1)] (.one (.one .bool)) K = F22 a0 a1 K := by kernel_rfl
theorem F22_calls {a0 : Sl} {a1 : Int} {K : Bool → World → Prop} {w : World} (h : F22 a0 a1 K w) : callT Try.prog 22 #[(.slice a0.a a0.len a0.cap), (.int .i64 a1)] (.one (.one .bool)) K w :=
  vcgF_sound tabOk Try.func22 h22 [(.slice a0.a a0.len a0.cap), (.int .i64 a1)] (.one (.one .bool)) K w (Eq.mpr (congrFun (F22_tie a0 a1 K) w) h)

/-- (*copyist/copyistlaw11.world).begin -/
noncomputable def F23 (a0 : Option Addr) (K : Bool → World → Prop) : World → Prop :=
  join (S := Unit) (fun J1 =>
    sloop (S := Int × Unit) (fun (s3 : Int × Unit) again4 =>
      sif (decide (s3.1 < (2 : Int))) (
        drew <|
        nn a0 fun p5 =>
        callT Try.prog 31 #[] (.one (.one .ptr)) fun (x6 : Option Addr) =>
        chk (0 ≤ s3.1 ∧ s3.1 < ((2 : Nat) : Int)) <|
        stC (p5.add (scaled (Int.toNat s3.1) 1)) (.pointer x6) <|
        drew <|
        nn a0 fun p7 =>
        callT Try.prog 40 #[] (.one (.one .ptr)) fun (x8 : Option Addr) =>
        chk (0 ≤ s3.1 ∧ s3.1 < ((2 : Nat) : Int)) <|
        stC ((p7.add 2).add (scaled (Int.toNat s3.1) 1)) (.pointer x8) <|
        join (S := Bool × Unit) (fun J9 =>
          nn a0 fun p11 =>
          chk (0 ≤ s3.1 ∧ s3.1 < ((2 : Nat) : Int)) <|
          ld (.ptr) (p11.add (scaled (Int.toNat s3.1) 1)) fun (x12 : Option Addr) =>
          sif (Option.isNone x12) (
            J9 (true, ())) (
            nn a0 fun p13 =>
            chk (0 ≤ s3.1 ∧ s3.1 < ((2 : Nat) : Int)) <|
            ld (.ptr) (p13.add (scaled (Int.toNat s3.1) 1)) fun (x14 : Option Addr) =>
            callT Try.prog 27 #[(.pointer x14)] (.one (.one .sl)) fun (x15 : Sl) =>
            J9 ((((x15.len : Nat) : Int) != (0 : Int)), ()))) fun (s10 : Bool × Unit) =>
        sif s10.1 (
          K false) (
          again4 ((IntKind.wrap .i64 (s3.1 + (1 : Int))), ()))) (
        J1 ())) ((0 : Int), ())) fun (s2 : Unit) =>
  K true
noncomputable def h23 : Hint := (.seq none (.region [] (.ops 1 .done)) (.seq (some (274877906940, [])) (.seq none (.region [] (.ops 1 .done)) (.block (.loop 274877906940 [(3, (.one (.int .i64)))] (.seq none (.seq none (.region [] (.ops 2 .done)) (.cond none .leaf .leaf)) (.seq none (.block (.seq none (.region [0, 1, 3, 4, 2, 5, 6] (.ops 7 .done)) (.seq none (.region [0, 1, 3, 4, 2, 5, 6] (.ops 7 .done)) (.seq (some (274876858368, [(37, (.one .bool))])) (.region [] (.ops 8 (.split 27 (.skips 9 (.ops 1 .done)) (.ops 10 .done)))) (.cond none (.seq none (.region [] (.ops 1 .done)) .leaf) .leaf))))) (.region [] (.ops 3 .done))))))) (.seq none (.region [] (.ops 1 .done)) .leaf)))
theorem F23_tie (a0 : Option Addr) (K : Bool → World → Prop) : vcgF tab Try.prog Try.f23 h23 [(.pointer a0)] (.one (.one .bool)) K = F23 a0 K := by kernel_rfl
theorem F23_calls {a0 : Option Addr} {K : Bool → World → Prop} {w : World} (h : F23 a0 K w) : callT Try.prog 23 #[(.pointer a0)] (.one (.one .bool)) K w :=
  vcgF_sound tabOk Try.func23 h23 [(.pointer a0)] (.one (.one .bool)) K w (Eq.mpr (congrFun (F23_tie a0 K) w) h)

/-- (*copyist/copyistlaw11.world).step -/
noncomputable def F24 (a0 : Option Addr) (a1 : (Int × Int × Int × Int × Sl × Unit)) (K : Bool → World → Prop) : World → Prop :=
  newO (.cells #[(.int .i64 a1.1), (.int .i64 a1.2.1), (.int .i64 a1.2.2.1), (.int .i64 a1.2.2.2.1), (.slice a1.2.2.2.2.1.a a1.2.2.2.2.1.len a1.2.2.2.2.1.cap)] 55) fun b1 =>
  ld (.int .i64) (⟨b1, 1, none⟩ : Addr) fun (x2 : Int) =>
  ld (.int .i64) (at0 b1) fun (x3 : Int) =>
  join (S := Bool × Unit) (fun J4 =>
    sif (x3 == (1 : Int)) (
      J4 ((x3 == (1 : Int)), ())) (
      sif (x3 == (2 : Int)) (
        J4 ((x3 == (2 : Int)), ())) (
        J4 ((x3 == (3 : Int)), ())))) fun (s5 : Bool × Unit) =>
  sif s5.1 (
    lds c55 (at0 b1) fun (x6 : (Int × Int × Int × Int × Sl × Unit)) =>
    callT Try.prog 41 #[(.pointer a0), (.int .i64 (IntKind.wrap .i64 ((BitVec.toNat (BitVec.ofInt (IntKind.bits .i64) x2 &&& BitVec.ofInt (IntKind.bits .i64) (1 : Int)) : Nat) : Int))), (.agg (Cells.vals c55 x6).toArray)] (.one (.one .bool)) fun (x7 : Bool) =>
    K x7) (
    sif (x3 == (4 : Int)) (
      ld (.int .i64) (⟨b1, 2, none⟩ : Addr) fun (x8 : Int) =>
      callT Try.prog 25 #[(.pointer a0), (.int .i64 (IntKind.wrap .i64 ((BitVec.toNat (BitVec.ofInt (IntKind.bits .i64) x2 &&& BitVec.ofInt (IntKind.bits .i64) (1 : Int)) : Nat) : Int))), (.int .i64 x8)] (.one (.one .bool)) fun (x9 : Bool) =>
      K x9) (
      sif (x3 == (5 : Int)) (
        drew <|
        nn a0 fun p10 =>
        chk (0 ≤ (IntKind.wrap .i64 ((BitVec.toNat (BitVec.ofInt (IntKind.bits .i64) x2 &&& BitVec.ofInt (IntKind.bits .i64) (1 : Int)) : Nat) : Int)) ∧ (IntKind.wrap .i64 ((BitVec.toNat (BitVec.ofInt (IntKind.bits .i64) x2 &&& BitVec.ofInt (IntKind.bits .i64) (1 : Int)) : Nat) : Int)) < ((2 : Nat) : Int)) <|
        ld (.ptr) (p10.add (scaled (Int.toNat (IntKind.wrap .i64 ((BitVec.toNat (BitVec.ofInt (IntKind.bits .i64) x2 &&& BitVec.ofInt (IntKind.bits .i64) (1 : Int)) : Nat) : Int))) 1)) fun (x11 : Option Addr) =>
        nn a0 fun p12 =>
        chk (0 ≤ (IntKind.wrap .i64 ((BitVec.toNat (BitVec.ofInt (IntKind.bits .i64) x2 &&& BitVec.ofInt (IntKind.bits .i64) (1 : Int)) : Nat) : Int)) ∧ (IntKind.wrap .i64 ((BitVec.toNat (BitVec.ofInt (IntKind.bits .i64) x2 &&& BitVec.ofInt (IntKind.bits .i64) (1 : Int)) : Nat) : Int)) < ((2 : Nat) : Int)) <|
        ld (.ptr) ((p12.add 2).add (scaled (Int.toNat (IntKind.wrap .i64 ((BitVec.toNat (BitVec.ofInt (IntKind.bits .i64) x2 &&& BitVec.ofInt (IntKind.bits .i64) (1 : Int)) : Nat) : Int))) 1)) fun (x13 : Option Addr) =>
        callT Try.prog 27 #[(.pointer x11)] (.one (.one .sl)) fun (x14 : Sl) =>
        keep (fun w => w.cell? ((p12.add 2).add (scaled (Int.toNat (IntKind.wrap .i64 ((BitVec.toNat (BitVec.ofInt (IntKind.bits .i64) x2 &&& BitVec.ofInt (IntKind.bits .i64) (1 : Int)) : Nat) : Int))) 1)) = some (Cell.val (.ptr) x13)) <|
        callT Try.prog 42 #[(.pointer x13)] (.one (.one .sl)) fun (x15 : Sl) =>
        callT Try.prog 30 #[(.slice x14.a x14.len x14.cap), (.slice x15.a x15.len x15.cap)] (.one (.one .bool)) fun (x16 : Bool) =>
        K x16) (
        sif (x3 == (6 : Int)) (
          drew <|
          nn a0 fun p17 =>
          chk (0 ≤ (IntKind.wrap .i64 ((BitVec.toNat (BitVec.ofInt (IntKind.bits .i64) x2 &&& BitVec.ofInt (IntKind.bits .i64) (1 : Int)) : Nat) : Int)) ∧ (IntKind.wrap .i64 ((BitVec.toNat (BitVec.ofInt (IntKind.bits .i64) x2 &&& BitVec.ofInt (IntKind.bits .i64) (1 : Int)) : Nat) : Int)) < ((2 : Nat) : Int)) <|
          ld (.ptr) (p17.add (scaled (Int.toNat (IntKind.wrap .i64 ((BitVec.toNat (BitVec.ofInt (IntKind.bits .i64) x2 &&& BitVec.ofInt (IntKind.bits .i64) (1 : Int)) : Nat) : Int))) 1)) fun (x18 : Option Addr) =>
          nn a0 fun p19 =>
          callT Try.prog 26 #[(.pointer x18)] (.one (.one .ptr)) fun (x20 : Option Addr) =>
          chk (0 ≤ (IntKind.wrap .i64 ((1 : Int) - (IntKind.wrap .i64 ((BitVec.toNat (BitVec.ofInt (IntKind.bits .i64) x2 &&& BitVec.ofInt (IntKind.bits .i64) (1 : Int)) : Nat) : Int)))) ∧ (IntKind.wrap .i64 ((1 : Int) - (IntKind.wrap .i64 ((BitVec.toNat (BitVec.ofInt (IntKind.bits .i64) x2 &&& BitVec.ofInt (IntKind.bits .i64) (1 : Int)) : Nat) : Int)))) < ((2 : Nat) : Int)) <|
          stC (p19.add (scaled (Int.toNat (IntKind.wrap .i64 ((1 : Int) - (IntKind.wrap .i64 ((BitVec.toNat (BitVec.ofInt (IntKind.bits .i64) x2 &&& BitVec.ofInt (IntKind.bits .i64) (1 : Int)) : Nat) : Int))))) 1)) (.pointer x20) <|
          drew <|
          nn a0 fun p21 =>
          chk (0 ≤ (IntKind.wrap .i64 ((BitVec.toNat (BitVec.ofInt (IntKind.bits .i64) x2 &&& BitVec.ofInt (IntKind.bits .i64) (1 : Int)) : Nat) : Int)) ∧ (IntKind.wrap .i64 ((BitVec.toNat (BitVec.ofInt (IntKind.bits .i64) x2 &&& BitVec.ofInt (IntKind.bits .i64) (1 : Int)) : Nat) : Int)) < ((2 : Nat) : Int)) <|
          ld (.ptr) ((p21.add 2).add (scaled (Int.toNat (IntKind.wrap .i64 ((BitVec.toNat (BitVec.ofInt (IntKind.bits .i64) x2 &&& BitVec.ofInt (IntKind.bits .i64) (1 : Int)) : Nat) : Int))) 1)) fun (x22 : Option Addr) =>
          nn a0 fun p23 =>
          callT Try.prog 43 #[(.pointer x22)] (.one (.one .ptr)) fun (x24 : Option Addr) =>
          chk (0 ≤ (IntKind.wrap .i64 ((1 : Int) - (IntKind.wrap .i64 ((BitVec.toNat (BitVec.ofInt (IntKind.bits .i64) x2 &&& BitVec.ofInt (IntKind.bits .i64) (1 : Int)) : Nat) : Int)))) ∧ (IntKind.wrap .i64 ((1 : Int) - (IntKind.wrap .i64 ((BitVec.toNat (BitVec.ofInt (IntKind.bits .i64) x2 &&& BitVec.ofInt (IntKind.bits .i64) (1 : Int)) : Nat) : Int)))) < ((2 : Nat) : Int)) <|
          stC ((p23.add 2).add (scaled (Int.toNat (IntKind.wrap .i64 ((1 : Int) - (IntKind.wrap .i64 ((BitVec.toNat (BitVec.ofInt (IntKind.bits .i64) x2 &&& BitVec.ofInt (IntKind.bits .i64) (1 : Int)) : Nat) : Int))))) 1)) (.pointer x24) <|
          nn a0 fun p25 =>
          chk (0 ≤ (IntKind.wrap .i64 ((1 : Int) - (IntKind.wrap .i64 ((BitVec.toNat (BitVec.ofInt (IntKind.bits .i64) x2 &&& BitVec.ofInt (IntKind.bits .i64) (1 : Int)) : Nat) : Int)))) ∧ (IntKind.wrap .i64 ((1 : Int) - (IntKind.wrap .i64 ((BitVec.toNat (BitVec.ofInt (IntKind.bits .i64) x2 &&& BitVec.ofInt (IntKind.bits .i64) (1 : Int)) : Nat) : Int)))) < ((2 : Nat) : Int)) <|
          ld (.ptr) (p25.add (scaled (Int.toNat (IntKind.wrap .i64 ((1 : Int) - (IntKind.wrap .i64 ((BitVec.toNat (BitVec.ofInt (IntKind.bits .i64) x2 &&& BitVec.ofInt (IntKind.bits .i64) (1 : Int)) : Nat) : Int))))) 1)) fun (x26 : Option Addr) =>
          K (!(Option.isNone x26))) (
          K true))))
noncomputable def h24 : Hint := (.seq none (.region [] (.ops 2 .done)) (.seq none (.region [] (.ops 4 .done)) (.seq none (.seq none (.region [] (.ops 2 .done)) (.block (.seq (some (30720, [(11, (.one .bool))])) (.seq none (.region [] (.ops 2 .done)) (.cond none .leaf (.seq none (.region [] (.ops 2 .done)) (.cond none .leaf (.region [] (.ops 2 .done)))))) (.cond none (.seq none (.region [] (.ops 5 .done)) .leaf) (.seq none (.region [] (.ops 2 .done)) (.cond none (.seq none (.region [] (.ops 6 .done)) .leaf) (.seq none (.region [] (.ops 2 .done)) (.cond none (.seq none (.region [0, 1, 2, 3, 4, 5, 7, 8, 9, 10, 11, 12, 6, 13, 14, 15] (.ops 16 .done)) .leaf) (.seq none (.region [] (.ops 2 .done)) (.cond none (.seq none (.region [0, 1, 2, 3, 4, 5, 6, 7, 8, 10, 11, 9, 12, 13] (.ops 14 .done)) (.seq none (.region [0, 1, 2, 3, 4, 5, 6, 7, 8, 10, 11, 9, 12, 13] (.ops 14 .done)) (.seq none (.region [] (.ops 9 .done)) .leaf))) .leaf)))))))))) (.seq none (.region [] (.ops 1 .done)) .leaf))))
theorem F24_tie (a0 : Option Addr) (a1 : (Int × Int × Int × Int × Sl × Unit)) (K : Bool → World → Prop) : vcgF tab Try.prog Try.f24 h24 [(.pointer a0), (.agg (Cells.vals c55 a1).toArray)] (.one (.one .bool)) K = F24 a0 a1 K := by kernel_rfl
theorem F24_calls {a0 : Option Addr} {a1 : (Int × Int × Int × Int × Sl × Unit)} {K : Bool → World → Prop} {w : World} (h : F24 a0 a1 K w) : callT Try.prog 24 #[(.pointer a0), (.agg (Cells.vals c55 a1).toArray)] (.one (.one .bool)) K w :=
  vcgF_sound tabOk Try.func24 h24 [(.pointer a0), (.agg (Cells.vals c55 a1).toArray)] (.one (.one .bool)) K w (Eq.mpr (congrFun (F24_tie a0 a1 K) w) h)

/-- (*copyist/copyistlaw11.world).get -/
noncomputable def F25 (a0 : Option Addr) (a1 : Int) (a2 : Int) (K : Bool → World → Prop) : World → Prop :=
  nn a0 fun p1 =>
  chk (0 ≤ a1 ∧ a1 < ((2 : Nat) : Int)) <|
  ld (.ptr) (p1.add (scaled (Int.toNat a1) 1)) fun (x2 : Option Addr) =>
  callT Try.prog 21 #[(.pointer x2), (.int .i64 a2)] (.tup [(.agg c28), (.one (.int .i64))]) fun (x3 : ((Int × Sl × Unit) × Int × Unit)) =>
  newO (.cells #[(.int .i64 (0 : Int)), (.slice none 0 0)] 28) fun b4 =>
  aggSt (at0 b4) (.agg (Cells.vals c28 x3.1).toArray) 2 <|
  nn a0 fun p5 =>
  chk (0 ≤ a1 ∧ a1 < ((2 : Nat) : Int)) <|
  ld (.ptr) ((p5.add 2).add (scaled (Int.toNat a1) 1)) fun (x6 : Option Addr) =>
  callT Try.prog 44 #[(.pointer x6), (.int .i64 a2)] (.tup [(.one (.int .i64)), (.one .sl), (.one (.int .i64))]) fun (x7 : (Int × Sl × Int × Unit)) =>
  sif (x3.2.1 == x7.2.2.1) (
    ld (.int .i64) (at0 b4) fun (x8 : Int) =>
    sif (x8 == x7.1) (
      ld (.sl) (⟨b4, 1, none⟩ : Addr) fun (x9 : Sl) =>
      callT Try.prog 30 #[(.slice x9.a x9.len x9.cap), (.slice x7.2.1.a x7.2.1.len x7.2.1.cap)] (.one (.one .bool)) fun (x10 : Bool) =>
      K x10) (
      K false)) (
    K false)
noncomputable def h25 : Hint := (.seq none (.region [] (.ops 1 .done)) (.seq none (.region [] (.ops 14 .done)) (.seq none (.region [] (.ops 15 .done)) (.seq none (.region [] (.ops 4 (.split 38 (.ops 6 (.split 44 (.ops 6 .done) (.skips 4 (.ops 2 .done)))) (.skips 4 (.ops 2 (.skips 4 (.ops 2 .done))))))) .leaf))))
theorem F25_tie (a0 : Option Addr) (a1 : Int) (a2 : Int) (K : Bool → World → Prop) : vcgF tab Try.prog Try.f25 h25 [(.pointer a0), (.int .i64 a1), (.int .i64 a2)] (.one (.one .bool)) K = F25 a0 a1 a2 K := by kernel_rfl
theorem F25_calls {a0 : Option Addr} {a1 : Int} {a2 : Int} {K : Bool → World → Prop} {w : World} (h : F25 a0 a1 a2 K w) : callT Try.prog 25 #[(.pointer a0), (.int .i64 a1), (.int .i64 a2)] (.one (.one .bool)) K w :=
  vcgF_sound tabOk Try.func25 h25 [(.pointer a0), (.int .i64 a1), (.int .i64 a2)] (.one (.one .bool)) K w (Eq.mpr (congrFun (F25_tie a0 a1 a2 K) w) h)

/-- (*copyist/register.Bank).Copy -/
noncomputable def F26 (a0 : Option Addr) (K : Option Addr → World → Prop) : World → Prop :=
  callT Try.prog 31 #[] (.one (.one .ptr)) fun (x1 : Option Addr) =>
  nn a0 fun p2 =>
  ld (.int .i64) (p2.add 1) fun (x3 : Int) =>
  nn x1 fun p4 =>
  stC (p4.add 1) (.int .i64 x3) <|
  join (S := Unit) (fun J5 =>
    nn a0 fun p7 =>
    ld (.map) p7 fun (x8 : Option Nat) =>
    rawT Try.prog (.one (.one .ptr)) (Instr.range 71 (.map x8)) fun (x9 : Option Addr) =>
    sloop (S := Unit) (fun (s10 : Unit) again11 =>
      nextE Try.prog (Instr.next (.pointer x9) false 0) fun r12 rest13 =>
      sif r12 (
        rawT Try.prog (.tup [(.one (.int .i64)), (.agg c28)]) (Instr.entry (.pointer x9)) fun (x14 : Int × (Int × Sl × Unit) × Unit) =>
        newO (.cells #[(.int .i64 (0 : Int)), (.slice none 0 0)] 28) fun b15 =>
        aggSt (at0 b15) (.agg (Cells.vals c28 x14.2.1).toArray) 2 <|
        drew <|
        nn x1 fun p16 =>
        ld (.map) p16 fun (x17 : Option Nat) =>
        lds c28 (at0 b15) fun (x18 : (Int × Sl × Unit)) =>
        rawU Try.prog (Instr.mapUpdate 71 (.map x17) (.int .i64 x14.1) (.agg (Cells.vals c28 x18).toArray)) <|
        again11 ()) (
        J5 ())) ()) fun (s6 : Unit) =>
  K x1
noncomputable def h26 : Hint := (.seq none (.region [] (.ops 1 .done)) (.seq none (.region [] (.ops 2 .done)) (.seq none (.region [] (.ops 8 .done)) (.seq (some (1073725488, [])) (.seq none (.region [] (.ops 5 .done)) (.block (.loop 1073217584 [] (.seq none (.region [] (.ops 2 .done)) (.seq none (.cond none .leaf .leaf) (.block (.seq none (.region [] (.op (some (.tup [(.one (.int .i64)), (.agg c28)])) (.ops 5 .done))) (.region [0, 1, 2, 3, 4, 5, 6] (.ops 7 .done))))))))) (.seq none (.region [] (.ops 2 .done)) .leaf)))))
theorem F26_tie (a0 : Option Addr) (K : Option Addr → World → Prop) : vcgF tab Try.prog Try.f26 h26 [(.pointer a0)] (.one (.one .ptr)) K = F26 a0 K := by kernel_rfl
theorem F26_calls {a0 : Option Addr} {K : Option Addr → World → Prop} {w : World} (h : F26 a0 K w) : callT Try.prog 26 #[(.pointer a0)] (.one (.one .ptr)) K w :=
  vcgF_sound tabOk Try.func26 h26 [(.pointer a0)] (.one (.one .ptr)) K w (Eq.mpr (congrFun (F26_tie a0 K) w) h)

/-- (*copyist/register.Bank).Names -/
noncomputable def F27 (a0 : Option Addr) (K : Sl → World → Prop) : World → Prop :=
  join (S := Sl × Unit) (fun J1 =>
    nn a0 fun p3 =>
    ld (.map) p3 fun (x4 : Option Nat) =>
    rawT Try.prog (.one (.one .ptr)) (Instr.range 71 (.map x4)) fun (x5 : Option Addr) =>
    sloop (S := Sl × Unit) (fun (s6 : Sl × Unit) again7 =>
      nextE Try.prog (Instr.next (.pointer x5) false 0) fun r8 rest9 =>
      sif r8 (
        rawT Try.prog (.tup [(.one (.int .i64)), (.agg c28)]) (Instr.entry (.pointer x5)) fun (x10 : Int × (Int × Sl × Unit) × Unit) =>
        newO (.cells #[(.int .i64 x10.1)] 3) fun b11 =>
        rawT Try.prog (.one (.one .sl)) (Builtin.append_ #[23, 23] 23 #[(.slice s6.1.a s6.1.len s6.1.cap), (.slice (some (at0 b11)) 1 1)]) fun (x12 : Sl) =>
        again7 (x12, ())) (
        J1 (s6.1, ()))) (⟨none, 0, 0⟩, ())) fun (s2 : Sl × Unit) =>
  callT Try.prog 45 #[(.slice s2.1.a s2.1.len s2.1.cap)] (.tup []) fun (x13 : (Unit)) =>
  K s2.1
noncomputable def h27 : Hint := (.seq none (.region [] (.ops 1 .done)) (.seq none (.region [] (.ops 1 .done)) (.seq (some (262136, [(3, (.one .sl))])) (.seq none (.region [] (.ops 5 .done)) (.block (.loop 261144 [(3, (.one .sl))] (.seq none (.region [] (.ops 2 .done)) (.seq none (.cond none .leaf .leaf) (.block (.seq none (.region [] (.op (some (.tup [(.one (.int .i64)), (.agg c28)])) (.ops 2 .done))) (.region [] (.ops 5 .done))))))))) (.seq none (.region [] (.ops 2 .done)) (.seq none (.region [] (.ops 2 .done)) .leaf)))))
theorem F27_tie (a0 : Option Addr) (K : Sl → World → Prop) : vcgF tab Try.prog Try.f27 h27 [(.pointer a0)] (.one (.one .sl)) K = F27 a0 K := by kernel_rfl
theorem F27_calls {a0 : Option Addr} {K : Sl → World → Prop} {w : World} (h : F27 a0 K w) : callT Try.prog 27 #[(.pointer a0)] (.one (.one .sl)) K w :=
  vcgF_sound tabOk Try.func27 h27 [(.pointer a0)] (.one (.one .sl)) K w (Eq.mpr (congrFun (F27_tie a0 K) w) h)

/-- copyist/copyistlaw11.grown -/
noncomputable def F28 (a0 : Sl) (a1 : Int) (K : Sl → World → Prop) : World → Prop :=
  join (S := Unit) (fun J1 =>
    sloop (S := Int × Unit) (fun (s3 : Int × Unit) again4 =>
      sif (decide (s3.1 < ((a0.len : Nat) : Int))) (
        ix a0.a a0.len s3.1 fun p5 =>
        stC (p5.add (scaled (Int.toNat s3.1) 1)) (.int .i64 a1) <|
        again4 ((IntKind.wrap .i64 (s3.1 + (1 : Int))), ())) (
        J1 ())) ((0 : Int), ())) fun (s2 : Unit) =>
  newO (.cells #[(.int .i64 a1), (.int .i64 a1), (.int .i64 a1)] 3) fun b6 =>
  rawT Try.prog (.one (.one .sl)) (Builtin.append_ #[23, 23] 23 #[(.slice a0.a a0.len a0.cap), (.slice (some (at0 b6)) 3 3)]) fun (x7 : Sl) =>
  join (S := Sl × Unit) (fun J8 =>
    sloop (S := Sl × Int × Unit) (fun (s10 : Sl × Int × Unit) again11 =>
      sif (decide (s10.2.1 < (100 : Int))) (
        newO (.cells #[(.int .i64 a1)] 3) fun b12 =>
        rawT Try.prog (.one (.one .sl)) (Builtin.append_ #[23, 23] 23 #[(.slice s10.1.a s10.1.len s10.1.cap), (.slice (some (at0 b12)) 1 1)]) fun (x13 : Sl) =>
        again11 (x13, (IntKind.wrap .i64 (s10.2.1 + (1 : Int))), ())) (
        J8 (s10.1, ()))) (x7, (0 : Int), ())) fun (s9 : Sl × Unit) =>
  newO (.cells #[(.int .i64 a1)] 3) fun b14 =>
  rawT Try.prog (.one (.one .sl)) (Builtin.append_ #[23, 23] 23 #[(.slice a0.a a0.len a0.cap), (.slice (some (at0 b14)) 1 1)]) fun (x15 : Sl) =>
  newO (.cells #[(.int .i64 a1), (.int .i64 a1)] 3) fun b16 =>
  rawT Try.prog (.one (.one .sl)) (Builtin.append_ #[23, 23] 23 #[(.slice a0.a a0.len a0.cap), (.slice (some (at0 b16)) 2 2)]) fun (x17 : Sl) =>
  newO (.cells #[(.slice a0.a a0.len a0.cap), (.slice x15.a x15.len x15.cap), (.slice x17.a x17.len x17.cap), (.slice s9.1.a s9.1.len s9.1.cap)] 23) fun b18 =>
  K ⟨(some (at0 b18)), 4, 4⟩
noncomputable def h28 : Hint := (.seq none (.region [] (.ops 1 .done)) (.seq (some (261920, [])) (.seq none (.region [] (.ops 1 .done)) (.block (.loop 261920 [(5, (.one (.int .i64)))] (.seq none (.seq none (.region [] (.ops 4 .done)) (.cond none .leaf .leaf)) (.seq none (.block (.region [] (.ops 5 .done))) (.region [] (.ops 3 .done))))))) (.seq none (.region [] (.ops 7 .done)) (.seq (some (4278190272, [(6, (.one .sl))])) (.seq none (.region [] (.ops 1 .done)) (.block (.loop 4278190272 [(6, (.one .sl)), (7, (.one (.int .i64)))] (.seq none (.seq none (.region [] (.ops 2 .done)) (.cond none .leaf .leaf)) (.seq none (.block (.region [] (.ops 5 .done))) (.region [] (.ops 3 .done))))))) (.seq none (.region [] (.ops 13 .done)) .leaf)))))
theorem F28_tie (a0 : Sl) (a1 : Int) (K : Sl → World → Prop) : vcgF tab Try.prog Try.f28 h28 [(.slice a0.a a0.len a0.cap), (.int .i64 a1)] (.one (.one .sl)) K = F28 a0 a1 K := by kernel_rfl
theorem F28_calls {a0 : Sl} {a1 : Int} {K : Sl → World → Prop} {w : World} (h : F28 a0 a1 K w) : callT Try.prog 28 #[(.slice a0.a a0.len a0.cap), (.int .i64 a1)] (.one (.one .sl)) K w :=
  vcgF_sound tabOk Try.func28 h28 [(.slice a0.a a0.len a0.cap), (.int .i64 a1)] (.one (.one .sl)) K w (Eq.mpr (congrFun (F28_tie a0 a1 K) w) h)

/-- copyist/copyistlaw11.whole -/
noncomputable def F29 (a0 : Sl) (a1 : Sl) (K : Bool → World → Prop) : World → Prop :=
  join (S := Unit) (fun J1 =>
    sloop (S := Int × Unit) (fun (s3 : Int × Unit) again4 =>
      sif (decide (s3.1 < ((a0.len : Nat) : Int))) (
        join (S := Unit) (fun J5 =>
          sloop (S := Int × Unit) (fun (s7 : Int × Unit) again8 =>
            ix a0.a a0.len s3.1 fun p9 =>
            ld (.sl) (p9.add (scaled (Int.toNat s3.1) 1)) fun (x10 : Sl) =>
            sif (decide (s7.1 < ((x10.len : Nat) : Int))) (
              drew <|
              ix a0.a a0.len s3.1 fun p11 =>
              ld (.sl) (p11.add (scaled (Int.toNat s3.1) 1)) fun (x12 : Sl) =>
              ix x12.a x12.len s7.1 fun p13 =>
              ld (.int .i64) (p13.add (scaled (Int.toNat s7.1) 1)) fun (x14 : Int) =>
              ix a1.a a1.len s3.1 fun p15 =>
              ld (.int .i64) (p15.add (scaled (Int.toNat s3.1) 1)) fun (x16 : Int) =>
              sif (x14 != x16) (
                K false) (
                again8 ((IntKind.wrap .i64 (s7.1 + (1 : Int))), ()))) (
              J5 ())) ((0 : Int), ())) fun (s6 : Unit) =>
        again4 ((IntKind.wrap .i64 (s3.1 + (1 : Int))), ())) (
        J1 ())) ((0 : Int), ())) fun (s2 : Unit) =>
  K true
noncomputable def h29 : Hint := (.seq none (.region [] (.ops 1 .done)) (.seq (some (17179869168, [])) (.seq none (.region [] (.ops 1 .done)) (.block (.loop 17179869168 [(5, (.one (.int .i64)))] (.seq none (.seq none (.region [] (.ops 4 .done)) (.cond none .leaf .leaf)) (.seq (some (17179861072, [])) (.block (.seq none (.region [] (.ops 1 .done)) (.block (.loop 17179861072 [(6, (.one (.int .i64)))] (.seq none (.seq none (.region [] (.ops 7 .done)) (.cond none .leaf .leaf)) (.seq none (.block (.seq none (.region [0, 1, 2, 3, 4, 5, 6, 7, 8, 9, 10, 11] (.ops 12 .done)) (.cond none (.seq none (.region [] (.ops 1 .done)) .leaf) .leaf))) (.region [] (.ops 3 .done)))))))) (.region [] (.ops 3 .done))))))) (.seq none (.region [] (.ops 1 .done)) .leaf)))
theorem F29_tie (a0 : Sl) (a1 : Sl) (K : Bool → World → Prop) : vcgF tab Try.prog Try.f29 h29 [(.slice a0.a a0.len a0.cap), (.slice a1.a a1.len a1.cap)] (.one (.one .bool)) K = F29 a0 a1 K := by kernel_rfl
theorem F29_calls {a0 : Sl} {a1 : Sl} {K : Bool → World → Prop} {w : World} (h : F29 a0 a1 K w) : callT Try.prog 29 #[(.slice a0.a a0.len a0.cap), (.slice a1.a a1.len a1.cap)] (.one (.one .bool)) K w :=
  vcgF_sound tabOk Try.func29 h29 [(.slice a0.a a0.len a0.cap), (.slice a1.a a1.len a1.cap)] (.one (.one .bool)) K w (Eq.mpr (congrFun (F29_tie a0 a1 K) w) h)

/-- copyist/copyistlaw11.sameInts -/
noncomputable def F30 (a0 : Sl) (a1 : Sl) (K : Bool → World → Prop) : World → Prop :=
  sif (((a0.len : Nat) : Int) != ((a1.len : Nat) : Int)) (
    K false) (
    join (S := Unit) (fun J1 =>
      sloop (S := Int × Unit) (fun (s3 : Int × Unit) again4 =>
        sif (decide (s3.1 < ((a0.len : Nat) : Int))) (
          drew <|
          ix a0.a a0.len s3.1 fun p5 =>
          ld (.int .i64) (p5.add (scaled (Int.toNat s3.1) 1)) fun (x6 : Int) =>
          ix a1.a a1.len s3.1 fun p7 =>
          ld (.int .i64) (p7.add (scaled (Int.toNat s3.1) 1)) fun (x8 : Int) =>
          sif (x6 != x8) (
            K false) (
            again4 ((IntKind.wrap .i64 (s3.1 + (1 : Int))), ()))) (
          J1 ())) ((0 : Int), ())) fun (s2 : Unit) =>
    K true)
noncomputable def h30 : Hint := (.seq none (.region [] (.ops 1 .done)) (.seq none (.seq none (.region [] (.ops 5 .done)) (.cond none (.seq none (.region [] (.ops 1 .done)) .leaf) .leaf)) (.seq (some (67106864, [])) (.seq none (.region [] (.ops 1 .done)) (.block (.loop 67106864 [(5, (.one (.int .i64)))] (.seq none (.seq none (.region [] (.ops 4 .done)) (.cond none .leaf .leaf)) (.seq none (.block (.seq none (.region [0, 1, 2, 3, 4, 5, 6, 7, 8] (.ops 9 .done)) (.cond none (.seq none (.region [] (.ops 1 .done)) .leaf) .leaf))) (.region [] (.ops 3 .done))))))) (.seq none (.region [] (.ops 1 .done)) .leaf))))
theorem F30_tie (a0 : Sl) (a1 : Sl) (K : Bool → World → Prop) : vcgF tab Try.prog Try.f30 h30 [(.slice a0.a a0.len a0.cap), (.slice a1.a a1.len a1.cap)] (.one (.one .bool)) K = F30 a0 a1 K := by kernel_rfl
theorem F30_calls {a0 : Sl} {a1 : Sl} {K : Bool → World → Prop} {w : World} (h : F30 a0 a1 K w) : callT Try.prog 30 #[(.slice a0.a a0.len a0.cap), (.slice a1.a a1.len a1.cap)] (.one (.one .bool)) K w :=
  vcgF_sound tabOk Try.func30 h30 [(.slice a0.a a0.len a0.cap), (.slice a1.a a1.len a1.cap)] (.one (.one .bool)) K w (Eq.mpr (congrFun (F30_tie a0 a1 K) w) h)

/-- copyist/register.New -/
noncomputable def F31  (K : Option Addr → World → Prop) : World → Prop :=
  newO (.map #[] 0) fun b1 =>
  newO (.cells #[(.map (some b1)), (.int .i64 (0 : Int))] 73) fun b2 =>
  K (some (at0 b2))
noncomputable def h31 : Hint := (.seq none (.region [] (.ops 1 .done)) (.seq none (.region [] (.ops 4 .done)) .leaf))
theorem F31_tie  (K : Option Addr → World → Prop) : vcgF tab Try.prog Try.f31 h31 [] (.one (.one .ptr)) K = F31  K := by kernel_rfl
theorem F31_calls {K : Option Addr → World → Prop} {w : World} (h : F31  K w) : callT Try.prog 31 #[] (.one (.one .ptr)) K w :=
  vcgF_sound tabOk Try.func31 h31 [] (.one (.one .ptr)) K w (Eq.mpr (congrFun (F31_tie  K) w) h)

/-- copyist/register.refuse -/
noncomputable def F32 (a0 : Int) (a1 : (Int × Sl × Unit)) (K : ((Int × Bool × Unit) × Int × Unit) → World → Prop) : World → Prop :=
  newO (.cells #[(.int .i64 a1.1), (.slice a1.2.1.a a1.2.1.len a1.2.1.cap)] 28) fun b1 =>
  newO (.cells #[(.int .i64 (0 : Int)), (.bool false)] 64) fun b2 =>
  callT Try.prog 37 #[(.int .i64 a0)] (.tup [(.agg c64), (.one .bool)]) fun (x3 : ((Int × Bool × Unit) × Bool × Unit)) =>
  newO (.cells #[(.int .i64 (0 : Int)), (.bool false)] 64) fun b4 =>
  aggSt (at0 b4) (.agg (Cells.vals c64 x3.1).toArray) 2 <|
  sif (!x3.2.1) (
    lds c64 (at0 b4) fun (x5 : (Int × Bool × Unit)) =>
    aggSt (at0 b2) (.agg (Cells.vals c64 x5).toArray) 2 <|
    lds c64 (at0 b2) fun (x6 : (Int × Bool × Unit)) =>
    K (x6, (110 : Int), ())) (
    join (S := Bool × Unit) (fun J7 =>
      ld (.int .i64) (at0 b4) fun (x9 : Int) =>
      sif (x9 == (46 : Int)) (
        J7 (true, ())) (
        ld (.int .i64) (at0 b4) fun (x10 : Int) =>
        sif (x10 == (58 : Int)) (
          J7 (true, ())) (
          ld (.int .i64) (at0 b4) fun (x11 : Int) =>
          J7 ((x11 == (47 : Int)), ())))) fun (s8 : Bool × Unit) =>
    sif s8.1 (
      lds c64 (at0 b4) fun (x12 : (Int × Bool × Unit)) =>
      aggSt (at0 b2) (.agg (Cells.vals c64 x12).toArray) 2 <|
      lds c64 (at0 b2) fun (x13 : (Int × Bool × Unit)) =>
      K (x13, (111 : Int), ())) (
      join (S := Bool × Unit) (fun J14 =>
        ld (.int .i64) (at0 b1) fun (x16 : Int) =>
        sif (x16 != (0 : Int)) (
          ld (.int .i64) (at0 b1) fun (x17 : Int) =>
          J14 ((x17 != (1 : Int)), ())) (
          J14 (false, ()))) fun (s15 : Bool × Unit) =>
      sif s15.1 (
        lds c64 (at0 b4) fun (x18 : (Int × Bool × Unit)) =>
        aggSt (at0 b2) (.agg (Cells.vals c64 x18).toArray) 2 <|
        lds c64 (at0 b2) fun (x19 : (Int × Bool × Unit)) =>
        K (x19, (1 : Int), ())) (
        lds c64 (at0 b4) fun (x20 : (Int × Bool × Unit)) =>
        aggSt (at0 b2) (.agg (Cells.vals c64 x20).toArray) 2 <|
        lds c64 (at0 b2) fun (x21 : (Int × Bool × Unit)) =>
        K (x21, (0 : Int), ()))))
noncomputable def h32 : Hint := (.seq none (.region [] (.ops 3 .done)) (.seq none (.region [] (.ops 8 .done)) (.seq none (.block (.seq none (.region [] (.ops 3 .done)) (.cond none (.seq none (.region [] (.ops 3 .done)) .leaf) (.seq (some (2147352576, [(17, (.one .bool))])) (.region [] (.ops 4 (.split 21 (.skips 3 (.ops 2 (.skips 3 (.ops 2 .done)))) (.ops 5 (.split 26 (.skips 3 (.ops 2 .done)) (.ops 5 .done)))))) (.cond none (.seq none (.region [] (.ops 3 .done)) .leaf) (.seq (some (2194728288256, [(32, (.one .bool))])) (.region [] (.ops 4 (.split 36 (.ops 5 .done) (.skips 3 (.ops 2 .done))))) (.cond none (.seq none (.region [] (.ops 3 .done)) .leaf) .leaf))))))) (.seq none (.region [] (.ops 3 .done)) .leaf))))
theorem F32_tie (a0 : Int) (a1 : (Int × Sl × Unit)) (K : ((Int × Bool × Unit) × Int × Unit) → World → Prop) : vcgF tab Try.prog Try.f32 h32 [(.int .i64 a0), (.agg (Cells.vals c28 a1).toArray)] (.tup [(.agg c64), (.one (.int .i64))]) K = F32 a0 a1 K := by kernel_rfl
theorem F32_calls {a0 : Int} {a1 : (Int × Sl × Unit)} {K : ((Int × Bool × Unit) × Int × Unit) → World → Prop} {w : World} (h : F32 a0 a1 K w) : callT Try.prog 32 #[(.int .i64 a0), (.agg (Cells.vals c28 a1).toArray)] (.tup [(.agg c64), (.one (.int .i64))]) K w :=
  vcgF_sound tabOk Try.func32 h32 [(.int .i64 a0), (.agg (Cells.vals c28 a1).toArray)] (.tup [(.agg c64), (.one (.int .i64))]) K w (Eq.mpr (congrFun (F32_tie a0 a1 K) w) h)

/-- copyist/register.written -/
noncomputable def F33 (a0 : (Int × Sl × Unit)) (K : (Int × Sl × Unit) → World → Prop) : World → Prop :=
  newO (.cells #[(.int .i64 a0.1), (.slice a0.2.1.a a0.2.1.len a0.2.1.cap)] 28) fun b1 =>
  newO (.cells #[(.int .i64 (0 : Int)), (.slice none 0 0)] 28) fun b2 =>
  ld (.sl) (⟨b1, 1, none⟩ : Addr) fun (x3 : Sl) =>
  callT Try.prog 39 #[(.slice x3.a x3.len x3.cap)] (.one (.one .sl)) fun (x4 : Sl) =>
  join (S := Sl × Unit) (fun J5 =>
    join (S := Bool × Unit) (fun J7 =>
      ld (.int .i64) (at0 b1) fun (x9 : Int) =>
      sif (x9 == (1 : Int)) (
        callT Try.prog 46 #[(.slice x4.a x4.len x4.cap)] (.one (.one .sl)) fun (x10 : Sl) =>
        J7 ((Option.isNone x10.a), ())) (
        J7 (false, ()))) fun (s8 : Bool × Unit) =>
    sif s8.1 (
      newO (.cells #[(.int .i64 (10 : Int))] 3) fun b11 =>
      rawT Try.prog (.one (.one .sl)) (Builtin.append_ #[23, 23] 23 #[(.slice x4.a x4.len x4.cap), (.slice (some (at0 b11)) 1 1)]) fun (x12 : Sl) =>
      J5 (x12, ())) (
      J5 (x4, ()))) fun (s6 : Sl × Unit) =>
  ld (.int .i64) (at0 b1) fun (x13 : Int) =>
  aggSt (at0 b2) (.agg #[(.int .i64 x13), (.slice s6.1.a s6.1.len s6.1.cap)]) 2 <|
  lds c28 (at0 b2) fun (x14 : (Int × Sl × Unit)) =>
  K x14
noncomputable def h33 : Hint := (.seq none (.region [] (.ops 2 .done)) (.seq none (.region [] (.ops 4 .done)) (.seq (some (262024, [(3, (.one .sl))])) (.seq (some (32640, [(14, (.one .bool))])) (.region [] (.ops 4 (.split 10 (.ops 4 .done) (.skips 3 (.ops 1 .done))))) (.cond none (.region [] (.ops 4 .done)) .leaf)) (.seq none (.region [] (.ops 5 .done)) .leaf))))
theorem F33_tie (a0 : (Int × Sl × Unit)) (K : (Int × Sl × Unit) → World → Prop) : vcgF tab Try.prog Try.f33 h33 [(.agg (Cells.vals c28 a0).toArray)] (.one (.agg c28)) K = F33 a0 K := by kernel_rfl
theorem F33_calls {a0 : (Int × Sl × Unit)} {K : (Int × Sl × Unit) → World → Prop} {w : World} (h : F33 a0 K w) : callT Try.prog 33 #[(.agg (Cells.vals c28 a0).toArray)] (.one (.agg c28)) K w :=
  vcgF_sound tabOk Try.func33 h33 [(.agg (Cells.vals c28 a0).toArray)] (.one (.agg c28)) K w (Eq.mpr (congrFun (F33_tie a0 K) w) h)

/-- (*copyist/register.Bank).keep -/
noncomputable def F34 (a0 : Option Addr) (a1 : (Int × Bool × Unit)) (a2 : (Int × Sl × Unit)) (K : Int → World → Prop) : World → Prop :=
  newO (.cells #[(.int .i64 a1.1), (.bool a1.2.1)] 64) fun b1 =>
  newO (.cells #[(.int .i64 a2.1), (.slice a2.2.1.a a2.2.1.len a2.2.1.cap)] 28) fun b2 =>
  lds c64 (at0 b1) fun (x3 : (Int × Bool × Unit)) =>
  lds c28 (at0 b2) fun (x4 : (Int × Sl × Unit)) =>
  callT Try.prog 38 #[(.pointer a0), (.agg (Cells.vals c64 x3).toArray), (.agg (Cells.vals c28 x4).toArray)] (.one (.one (.int .i64))) fun (x5 : Int) =>
  join (S := Unit) (fun J6 =>
    sif (x5 == (0 : Int)) (
      ld (.int .i64) (at0 b1) fun (x8 : Int) =>
      nn a0 fun p9 =>
      stC (p9.add 1) (.int .i64 x8) <|
      J6 ()) (
      J6 ())) fun (s7 : Unit) =>
  K x5
noncomputable def h34 : Hint := (.seq none (.region [] (.ops 3 .done)) (.seq none (.region [] (.ops 5 .done)) (.seq (some (520192, [])) (.seq none (.region [] (.ops 2 .done)) (.cond none (.region [] (.ops 6 .done)) .leaf)) (.seq none (.region [] (.ops 2 .done)) .leaf))))
theorem F34_tie (a0 : Option Addr) (a1 : (Int × Bool × Unit)) (a2 : (Int × Sl × Unit)) (K : Int → World → Prop) : vcgF tab Try.prog Try.f34 h34 [(.pointer a0), (.agg (Cells.vals c64 a1).toArray), (.agg (Cells.vals c28 a2).toArray)] (.one (.one (.int .i64))) K = F34 a0 a1 a2 K := by kernel_rfl
theorem F34_calls {a0 : Option Addr} {a1 : (Int × Bool × Unit)} {a2 : (Int × Sl × Unit)} {K : Int → World → Prop} {w : World} (h : F34 a0 a1 a2 K w) : callT Try.prog 34 #[(.pointer a0), (.agg (Cells.vals c64 a1).toArray), (.agg (Cells.vals c28 a2).toArray)] (.one (.one (.int .i64))) K w :=
  vcgF_sound tabOk Try.func34 h34 [(.pointer a0), (.agg (Cells.vals c64 a1).toArray), (.agg (Cells.vals c28 a2).toArray)] (.one (.one (.int .i64))) K w (Eq.mpr (congrFun (F34_tie a0 a1 a2 K) w) h)

/-- slices.Contains[[]int,int] -/
noncomputable def F35 (a0 : Sl) (a1 : Int) (K : Bool → World → Prop) : World → Prop :=
  callT Try.prog 47 #[(.slice a0.a a0.len a0.cap), (.int .i64 a1)] (.one (.one (.int .i64))) fun (x1 : Int) =>
  K (decide (x1 ≥ (0 : Int)))
noncomputable def h35 : Hint := (.seq none (.region [] (.ops 1 .done)) (.seq none (.region [] (.ops 5 .done)) .leaf))
theorem F35_tie (a0 : Sl) (a1 : Int) (K : Bool → World → Prop) : vcgF tab Try.prog Try.f35 h35 [(.slice a0.a a0.len a0.cap), (.int .i64 a1)] (.one (.one .bool)) K = F35 a0 a1 K := by kernel_rfl
theorem F35_calls {a0 : Sl} {a1 : Int} {K : Bool → World → Prop} {w : World} (h : F35 a0 a1 K w) : callT Try.prog 35 #[(.slice a0.a a0.len a0.cap), (.int .i64 a1)] (.one (.one .bool)) K w :=
  vcgF_sound tabOk Try.func35 h35 [(.slice a0.a a0.len a0.cap), (.int .i64 a1)] (.one (.one .bool)) K w (Eq.mpr (congrFun (F35_tie a0 a1 K) w) h)

/-- copyist/copyistlaw11.broken -/
noncomputable def F36 (a0 : Sl) (K : Bool → World → Prop) : World → Prop :=
  sif (decide (((a0.len : Nat) : Int) > (0 : Int))) (
    ix a0.a a0.len (IntKind.wrap .i64 (((a0.len : Nat) : Int) - (1 : Int))) fun p1 =>
    ld (.int .i64) (p1.add (scaled (Int.toNat (IntKind.wrap .i64 (((a0.len : Nat) : Int) - (1 : Int)))) 1)) fun (x2 : Int) =>
    sif (x2 == (10 : Int)) (
      K true) (
      ix a0.a a0.len (IntKind.wrap .i64 (((a0.len : Nat) : Int) - (1 : Int))) fun p3 =>
      ld (.int .i64) (p3.add (scaled (Int.toNat (IntKind.wrap .i64 (((a0.len : Nat) : Int) - (1 : Int)))) 1)) fun (x4 : Int) =>
      K (x4 == (13 : Int)))) (
    K false)
noncomputable def h36 : Hint := (.seq none (.region [] (.ops 1 .done)) (.seq none (.region [] (.ops 4 (.split 6 (.ops 8 (.split 14 (.skips 7 (.ops 3 .done)) (.ops 10 .done))) (.skips 16 (.ops 2 .done))))) .leaf))
theorem F36_tie (a0 : Sl) (K : Bool → World → Prop) : vcgF tab Try.prog Try.f36 h36 [(.slice a0.a a0.len a0.cap)] (.one (.one .bool)) K = F36 a0 K := by kernel_rfl
theorem F36_calls {a0 : Sl} {K : Bool → World → Prop} {w : World} (h : F36 a0 K w) : callT Try.prog 36 #[(.slice a0.a a0.len a0.cap)] (.one (.one .bool)) K w :=
  vcgF_sound tabOk Try.func36 h36 [(.slice a0.a a0.len a0.cap)] (.one (.one .bool)) K w (Eq.mpr (congrFun (F36_tie a0 K) w) h)

/-- copyist/register.find -/
noncomputable def F37 (a0 : Int) (K : ((Int × Bool × Unit) × Bool × Unit) → World → Prop) : World → Prop :=
  newO (.cells #[(.int .i64 (0 : Int)), (.bool false)] 64) fun b1 =>
  join (S := Bool × Unit) (fun J2 =>
    join (S := Bool × Unit) (fun J4 =>
      sif (decide (a0 ≥ (97 : Int))) (
        J4 ((decide (a0 ≤ (122 : Int))), ())) (
        J4 (false, ()))) fun (s5 : Bool × Unit) =>
    sif s5.1 (
      J2 (s5.1, ())) (
      sif (decide (a0 ≥ (48 : Int))) (
        J2 ((decide (a0 ≤ (57 : Int))), ())) (
        J2 (false, ())))) fun (s3 : Bool × Unit) =>
  sif s3.1 (
    aggSt (at0 b1) (.agg #[(.int .i64 a0), (.bool false)]) 2 <|
    lds c64 (at0 b1) fun (x6 : (Int × Bool × Unit)) =>
    K (x6, true, ())) (
    join (S := Bool × Unit) (fun J7 =>
      sif (decide (a0 ≥ (65 : Int))) (
        J7 ((decide (a0 ≤ (90 : Int))), ())) (
        J7 (false, ()))) fun (s8 : Bool × Unit) =>
    sif s8.1 (
      aggSt (at0 b1) (.agg #[(.int .i64 (IntKind.wrap .i64 ((IntKind.wrap .i64 (a0 + (97 : Int))) - (65 : Int)))), (.bool true)]) 2 <|
      lds c64 (at0 b1) fun (x9 : (Int × Bool × Unit)) =>
      K (x9, true, ())) (
      join (S := Bool × Unit) (fun J10 =>
        sif (a0 == (0 : Int)) (
          J10 ((a0 == (0 : Int)), ())) (
          J10 ((a0 == (34 : Int)), ()))) fun (s11 : Bool × Unit) =>
      sif s11.1 (
        aggSt (at0 b1) (.agg #[(.int .i64 (34 : Int)), (.bool false)]) 2 <|
        lds c64 (at0 b1) fun (x12 : (Int × Bool × Unit)) =>
        K (x12, true, ())) (
        join (S := Bool × Unit) (fun J13 =>
          sif (a0 == (45 : Int)) (
            J13 ((a0 == (45 : Int)), ())) (
            sif (a0 == (95 : Int)) (
              J13 ((a0 == (95 : Int)), ())) (
              sif (a0 == (46 : Int)) (
                J13 ((a0 == (46 : Int)), ())) (
                sif (a0 == (58 : Int)) (
                  J13 ((a0 == (58 : Int)), ())) (
                  J13 ((a0 == (47 : Int)), ())))))) fun (s14 : Bool × Unit) =>
        sif s14.1 (
          aggSt (at0 b1) (.agg #[(.int .i64 a0), (.bool false)]) 2 <|
          lds c64 (at0 b1) fun (x15 : (Int × Bool × Unit)) =>
          K (x15, true, ())) (
          aggSt (at0 b1) (.agg #[(.int .i64 (0 : Int)), (.bool false)]) 2 <|
          lds c64 (at0 b1) fun (x16 : (Int × Bool × Unit)) =>
          K (x16, false, ())))))
noncomputable def h37 : Hint := (.seq none (.region [] (.ops 2 .done)) (.seq none (.block (.seq (some (131056, [(4, (.one .bool))])) (.seq (some (2032, [(4, (.one .bool))])) (.region [] (.ops 3 (.split 7 (.ops 4 .done) (.skips 2 (.ops 2 .done))))) (.cond none .leaf (.region [] (.ops 3 (.split 13 (.ops 4 .done) (.skips 2 (.ops 2 .done))))))) (.cond none (.seq none (.region [] (.ops 4 .done)) .leaf) (.seq (some (66584576, [(19, (.one .bool))])) (.region [] (.ops 3 (.split 22 (.ops 4 .done) (.skips 2 (.ops 2 .done))))) (.cond none (.seq none (.region [] (.ops 6 .done)) .leaf) .leaf))))) (.seq none (.seq none (.region [] (.ops 1 .done)) (.block (.seq (some (15032385536, [(31, (.one .bool))])) (.seq none (.region [] (.ops 2 .done)) (.cond none .leaf (.region [] (.ops 2 .done)))) (.cond none (.seq none (.region [] (.ops 3 .done)) .leaf) (.seq (some (2164663517184, [(35, (.one .bool))])) (.seq none (.region [] (.ops 2 .done)) (.cond none .leaf (.seq none (.region [] (.ops 2 .done)) (.cond none .leaf (.seq none (.region [] (.ops 2 .done)) (.cond none .leaf (.seq none (.region [] (.ops 2 .done)) (.cond none .leaf (.region [] (.ops 2 .done)))))))))) (.cond none (.seq none (.region [] (.ops 4 .done)) .leaf) .leaf)))))) (.seq none (.region [] (.ops 3 .done)) .leaf))))
theorem F37_tie (a0 : Int) (K : ((Int × Bool × Unit) × Bool × Unit) → World → Prop) : vcgF tab Try.prog Try.f37 h37 [(.int .i64 a0)] (.tup [(.agg c64), (.one .bool)]) K = F37 a0 K := by kernel_rfl
theorem F37_calls {a0 : Int} {K : ((Int × Bool × Unit) × Bool × Unit) → World → Prop} {w : World} (h : F37 a0 K w) : callT Try.prog 37 #[(.int .i64 a0)] (.tup [(.agg c64), (.one .bool)]) K w :=
  vcgF_sound tabOk Try.func37 h37 [(.int .i64 a0)] (.tup [(.agg c64), (.one .bool)]) K w (Eq.mpr (congrFun (F37_tie a0 K) w) h)

/-- (*copyist/register.Bank).store -/
noncomputable def F38 (a0 : Option Addr) (a1 : (Int × Bool × Unit)) (a2 : (Int × Sl × Unit)) (K : Int → World → Prop) : World → Prop :=
  newO (.cells #[(.int .i64 a1.1), (.bool a1.2.1)] 64) fun b1 =>
  newO (.cells #[(.int .i64 a2.1), (.slice a2.2.1.a a2.2.1.len a2.2.1.cap)] 28) fun b2 =>
  join (S := Unit) (fun J3 =>
    drew <|
    nn a0 fun p5 =>
    ld (.map) p5 fun (x6 : Option Nat) =>
    ld (.int .i64) (at0 b1) fun (x7 : Int) =>
    rdT Try.prog (.tup [(.agg c28), (.one .bool)]) (Instr.lookup 71 (.map x6) (.int .i64 x7) true) fun (x8 : ((Int × Sl × Unit) × Bool × Unit)) =>
    newO (.cells #[(.int .i64 (0 : Int)), (.slice none 0 0)] 28) fun b9 =>
    keep (fun w => (Instr.lookup 71 (.map x6) (.int .i64 x7) true).run Try.prog w = .ok (RTy.val (.tup [(.agg c28), (.one .bool)]) x8) w) <|
    keep (fun w => w.cell? (at0 b1) = some (Cell.val (.int .i64) x7)) <|
    keep (fun w => w.cell? p5 = some (Cell.val (.map) x6)) <|
    aggSt (at0 b9) (.agg (Cells.vals c28 x8.1).toArray) 2 <|
    join (S := Bool × Unit) (fun J10 =>
      sif x8.2.1 (
        ld (.bool) (⟨b1, 1, none⟩ : Addr) fun (x12 : Bool) =>
        sif x12 (
          ld (.sl) (⟨b2, 1, none⟩ : Addr) fun (x13 : Sl) =>
          J10 ((decide (((x13.len : Nat) : Int) > (0 : Int))), ())) (
          J10 (false, ()))) (
        J10 (false, ()))) fun (s11 : Bool × Unit) =>
    sif s11.1 (
      lds c28 (at0 b9) fun (x14 : (Int × Sl × Unit)) =>
      lds c28 (at0 b2) fun (x15 : (Int × Sl × Unit)) =>
      callT Try.prog 48 #[(.agg (Cells.vals c28 x14).toArray), (.agg (Cells.vals c28 x15).toArray)] (.one (.agg c28)) fun (x16 : (Int × Sl × Unit)) =>
      aggSt (at0 b2) (.agg (Cells.vals c28 x16).toArray) 2 <|
      J3 ()) (
      join (S := Bool × Unit) (fun J17 =>
        ld (.bool) (⟨b1, 1, none⟩ : Addr) fun (x19 : Bool) =>
        sif x19 (
          J17 (x8.2.1, ())) (
          J17 (false, ()))) fun (s18 : Bool × Unit) =>
      sif s18.1 (
        K (0 : Int)) (
        J3 ()))) fun (s4 : Unit) =>
  ld (.sl) (⟨b2, 1, none⟩ : Addr) fun (x20 : Sl) =>
  sif (decide (((x20.len : Nat) : Int) > (140000 : Int))) (
    K (3 : Int)) (
    join (S := Unit) (fun J21 =>
      ld (.sl) (⟨b2, 1, none⟩ : Addr) fun (x23 : Sl) =>
      sif (((x23.len : Nat) : Int) == (0 : Int)) (
        drew <|
        nn a0 fun p24 =>
        ld (.map) p24 fun (x25 : Option Nat) =>
        ld (.int .i64) (at0 b1) fun (x26 : Int) =>
        rawT Try.prog (.tup []) (Builtin.delete_ #[71, 3] 0 #[(.map x25), (.int .i64 x26)]) fun (x27 : (Unit)) =>
        J21 ()) (
        drew <|
        nn a0 fun p28 =>
        ld (.map) p28 fun (x29 : Option Nat) =>
        ld (.int .i64) (at0 b1) fun (x30 : Int) =>
        lds c28 (at0 b2) fun (x31 : (Int × Sl × Unit)) =>
        rawU Try.prog (Instr.mapUpdate 71 (.map x29) (.int .i64 x30) (.agg (Cells.vals c28 x31).toArray)) <|
        J21 ())) fun (s22 : Unit) =>
    K (0 : Int))
noncomputable def h38 : Hint := (.seq none (.region [] (.ops 3 .done)) (.seq (some (274877906880, [])) (.seq none (.region [0, 1, 2, 3, 4, 5, 6, 7, 8, 9, 10, 11, 12] (.ops 13 .done)) (.seq (some (1073217536, [(29, (.one .bool))])) (.region [] (.ops 2 (.split 20 (.ops 4 (.split 24 (.ops 5 .done) (.skips 4 (.ops 1 .done)))) (.skips 2 (.ops 2 (.skips 4 (.ops 1 .done))))))) (.cond none (.region [] (.ops 4 .done)) (.seq (some (266287972352, [(37, (.one .bool))])) (.region [] (.ops 3 (.split 35 (.ops 2 .done) (.skips 1 (.ops 1 .done))))) (.cond none (.seq none (.region [] (.ops 1 .done)) .leaf) .leaf))))) (.seq none (.seq none (.region [] (.ops 4 .done)) (.cond none (.seq none (.region [] (.ops 1 .done)) .leaf) .leaf)) (.seq (some (576456354256912384, [])) (.seq none (.region [] (.ops 4 .done)) (.cond none (.region [0, 1, 2, 3, 4, 5, 6] (.ops 7 .done)) (.region [0, 1, 2, 3, 4, 5, 6, 7] (.ops 8 .done)))) (.seq none (.region [] (.ops 1 .done)) .leaf)))))
theorem F38_tie (a0 : Option Addr) (a1 : (Int × Bool × Unit)) (a2 : (Int × Sl × Unit)) (K : Int → World → Prop) : vcgF tab Try.prog Try.f38 h38 [(.pointer a0), (.agg (Cells.vals c64 a1).toArray), (.agg (Cells.vals c28 a2).toArray)] (.one (.one (.int .i64))) K = F38 a0 a1 a2 K := by kernel_rfl
theorem F38_calls {a0 : Option Addr} {a1 : (Int × Bool × Unit)} {a2 : (Int × Sl × Unit)} {K : Int → World → Prop} {w : World} (h : F38 a0 a1 a2 K w) : callT Try.prog 38 #[(.pointer a0), (.agg (Cells.vals c64 a1).toArray), (.agg (Cells.vals c28 a2).toArray)] (.one (.one (.int .i64))) K w :=
  vcgF_sound tabOk Try.func38 h38 [(.pointer a0), (.agg (Cells.vals c64 a1).toArray), (.agg (Cells.vals c28 a2).toArray)] (.one (.one (.int .i64))) K w (Eq.mpr (congrFun (F38_tie a0 a1 a2 K) w) h)

/-- slices.Clone[[]int,int] -/
noncomputable def F39 (a0 : Sl) (K : Sl → World → Prop) : World → Prop :=
  sif (Option.isNone a0.a) (
    K ⟨none, 0, 0⟩) (
    newO (.cells #[] 3) fun b1 =>
    rawT Try.prog (.one (.one .sl)) (Builtin.append_ #[23, 23] 23 #[(.slice (some (at0 b1)) 0 0), (.slice a0.a a0.len a0.cap)]) fun (x2 : Sl) =>
    K x2)
noncomputable def h39 : Hint := (.seq none (.region [] (.ops 1 .done)) (.seq none (.seq none (.region [] (.ops 2 .done)) (.cond none (.seq none (.region [] (.ops 1 .done)) .leaf) .leaf)) (.seq none (.region [] (.ops 4 .done)) .leaf)))
theorem F39_tie (a0 : Sl) (K : Sl → World → Prop) : vcgF tab Try.prog Try.f39 h39 [(.slice a0.a a0.len a0.cap)] (.one (.one .sl)) K = F39 a0 K := by kernel_rfl
theorem F39_calls {a0 : Sl} {K : Sl → World → Prop} {w : World} (h : F39 a0 K w) : callT Try.prog 39 #[(.slice a0.a a0.len a0.cap)] (.one (.one .sl)) K w :=
  vcgF_sound tabOk Try.func39 h39 [(.slice a0.a a0.len a0.cap)] (.one (.one .sl)) K w (Eq.mpr (congrFun (F39_tie a0 K) w) h)

/-- copyist/copyistref11.New -/
noncomputable def F40  (K : Option Addr → World → Prop) : World → Prop :=
  newO (.cells (Value.cells (Try.t88.zero.getD default)) 88) fun b1 =>
  K (some (at0 b1))
noncomputable def h40 : Hint := (.seq none (.region [] (.ops 1 .done)) (.seq none (.region [] (.ops 3 .done)) .leaf))
theorem F40_tie  (K : Option Addr → World → Prop) : vcgF tab Try.prog Try.f40 h40 [] (.one (.one .ptr)) K = F40  K := by kernel_rfl
theorem F40_calls {K : Option Addr → World → Prop} {w : World} (h : F40  K w) : callT Try.prog 40 #[] (.one (.one .ptr)) K w :=
  vcgF_sound tabOk Try.func40 h40 [] (.one (.one .ptr)) K w (Eq.mpr (congrFun (F40_tie  K) w) h)

/-- (*copyist/copyistlaw11.world).writes -/
noncomputable def F41 (a0 : Option Addr) (a1 : Int) (a2 : (Int × Int × Int × Int × Sl × Unit)) (K : Bool → World → Prop) : World → Prop :=
  newO (.cells #[(.int .i64 a2.1), (.int .i64 a2.2.1), (.int .i64 a2.2.2.1), (.int .i64 a2.2.2.2.1), (.slice a2.2.2.2.2.1.a a2.2.2.2.2.1.len a2.2.2.2.2.1.cap)] 55) fun b1 =>
  ld (.sl) (⟨b1, 4, none⟩ : Addr) fun (x2 : Sl) =>
  callT Try.prog 49 #[(.pointer a0), (.slice x2.a x2.len x2.cap)] (.one (.one .sl)) fun (x3 : Sl) =>
  ld (.sl) (⟨b1, 4, none⟩ : Addr) fun (x4 : Sl) =>
  join (S := Int × Int × Unit) (fun J5 =>
    ld (.int .i64) (at0 b1) fun (x7 : Int) =>
    sif (x7 == (1 : Int)) (
      drew <|
      nn a0 fun p8 =>
      chk (0 ≤ a1 ∧ a1 < ((2 : Nat) : Int)) <|
      ld (.ptr) (p8.add (scaled (Int.toNat a1) 1)) fun (x9 : Option Addr) =>
      ld (.int .i64) (⟨b1, 2, none⟩ : Addr) fun (x10 : Int) =>
      ld (.int .i64) (⟨b1, 3, none⟩ : Addr) fun (x11 : Int) =>
      slc x3.a 0 ((x4.len : Nat) : Int) ((x3.cap : Nat) : Int) x3.cap 1 fun x12 =>
      callT Try.prog 14 #[(.pointer x9), (.int .i64 x10), (.agg #[(.int .i64 x11), (.slice x12.a x12.len x12.cap)])] (.one (.one (.int .i64))) fun (x13 : Int) =>
      drew <|
      nn a0 fun p14 =>
      chk (0 ≤ a1 ∧ a1 < ((2 : Nat) : Int)) <|
      ld (.ptr) ((p14.add 2).add (scaled (Int.toNat a1) 1)) fun (x15 : Option Addr) =>
      ld (.int .i64) (⟨b1, 2, none⟩ : Addr) fun (x16 : Int) =>
      ld (.int .i64) (⟨b1, 3, none⟩ : Addr) fun (x17 : Int) =>
      ld (.sl) (⟨b1, 4, none⟩ : Addr) fun (x18 : Sl) =>
      callT Try.prog 50 #[(.pointer x15), (.int .i64 x16), (.int .i64 x17), (.slice x18.a x18.len x18.cap)] (.one (.one (.int .i64))) fun (x19 : Int) =>
      J5 (x13, x19, ())) (
      sif (x7 == (2 : Int)) (
        drew <|
        nn a0 fun p20 =>
        chk (0 ≤ a1 ∧ a1 < ((2 : Nat) : Int)) <|
        ld (.ptr) (p20.add (scaled (Int.toNat a1) 1)) fun (x21 : Option Addr) =>
        ld (.int .i64) (⟨b1, 2, none⟩ : Addr) fun (x22 : Int) =>
        ld (.int .i64) (⟨b1, 3, none⟩ : Addr) fun (x23 : Int) =>
        slc x3.a 0 ((x4.len : Nat) : Int) ((x3.cap : Nat) : Int) x3.cap 1 fun x24 =>
        callT Try.prog 15 #[(.pointer x21), (.int .i64 x22), (.agg #[(.int .i64 x23), (.slice x24.a x24.len x24.cap)])] (.one (.one (.int .i64))) fun (x25 : Int) =>
        drew <|
        nn a0 fun p26 =>
        chk (0 ≤ a1 ∧ a1 < ((2 : Nat) : Int)) <|
        ld (.ptr) ((p26.add 2).add (scaled (Int.toNat a1) 1)) fun (x27 : Option Addr) =>
        ld (.int .i64) (⟨b1, 2, none⟩ : Addr) fun (x28 : Int) =>
        ld (.int .i64) (⟨b1, 3, none⟩ : Addr) fun (x29 : Int) =>
        ld (.sl) (⟨b1, 4, none⟩ : Addr) fun (x30 : Sl) =>
        callT Try.prog 51 #[(.pointer x27), (.int .i64 x28), (.int .i64 x29), (.slice x30.a x30.len x30.cap)] (.one (.one (.int .i64))) fun (x31 : Int) =>
        J5 (x25, x31, ())) (
        sif (x7 == (3 : Int)) (
          drew <|
          nn a0 fun p32 =>
          chk (0 ≤ a1 ∧ a1 < ((2 : Nat) : Int)) <|
          ld (.ptr) (p32.add (scaled (Int.toNat a1) 1)) fun (x33 : Option Addr) =>
          ld (.int .i64) (⟨b1, 2, none⟩ : Addr) fun (x34 : Int) =>
          slc x3.a 0 ((x4.len : Nat) : Int) ((x3.cap : Nat) : Int) x3.cap 1 fun x35 =>
          callT Try.prog 19 #[(.pointer x33), (.int .i64 x34), (.slice x35.a x35.len x35.cap)] (.one (.one (.int .i64))) fun (x36 : Int) =>
          drew <|
          nn a0 fun p37 =>
          chk (0 ≤ a1 ∧ a1 < ((2 : Nat) : Int)) <|
          ld (.ptr) ((p37.add 2).add (scaled (Int.toNat a1) 1)) fun (x38 : Option Addr) =>
          ld (.int .i64) (⟨b1, 2, none⟩ : Addr) fun (x39 : Int) =>
          ld (.sl) (⟨b1, 4, none⟩ : Addr) fun (x40 : Sl) =>
          callT Try.prog 52 #[(.pointer x38), (.int .i64 x39), (.slice x40.a x40.len x40.cap)] (.one (.one (.int .i64))) fun (x41 : Int) =>
          J5 (x36, x41, ())) (
          J5 ((0 : Int), (0 : Int), ()))))) fun (s6 : Int × Int × Unit) =>
  ld (.sl) (⟨b1, 4, none⟩ : Addr) fun (x42 : Sl) =>
  callT Try.prog 53 #[(.slice x3.a x3.len x3.cap), (.slice x42.a x42.len x42.cap)] (.one (.one .bool)) fun (x43 : Bool) =>
  sif x43 (
    K (s6.1 == s6.2.1)) (
    K false)
noncomputable def h41 : Hint := (.seq none (.region [] (.ops 2 .done)) (.seq none (.region [] (.ops 5 .done)) (.seq none (.region [] (.ops 4 .done)) (.seq none (.region [] (.ops 1 .done)) (.seq none (.region [] (.ops 1 .done)) (.seq (some (40564819207303340847894502311424, [(9, (.one (.int .i64))), (10, (.one (.int .i64)))])) (.seq none (.region [] (.ops 2 .done)) (.block (.seq none (.region [] (.ops 2 .done)) (.cond none (.seq none (.region [0, 1, 2, 3, 4, 5, 6, 7, 8, 9, 10, 11, 12, 13, 14, 15] (.ops 16 .done)) (.region [0, 1, 2, 3, 4, 5, 6, 7, 8, 9, 10, 11, 12, 13] (.ops 14 .done))) (.seq none (.region [] (.ops 2 .done)) (.cond none (.seq none (.region [0, 1, 2, 3, 4, 5, 6, 7, 8, 9, 10, 11, 12, 13, 14, 15] (.ops 16 .done)) (.region [0, 1, 2, 3, 4, 5, 6, 7, 8, 9, 10, 11, 12, 13] (.ops 14 .done))) (.seq none (.region [] (.ops 2 .done)) (.cond none (.seq none (.region [0, 1, 2, 3, 4, 5, 6, 7, 8, 9, 10, 11, 12] (.ops 13 .done)) (.region [0, 1, 2, 3, 4, 5, 6, 7, 8, 9, 10, 11] (.ops 12 .done))) .leaf)))))))) (.seq none (.region [] (.ops 5 (.split 109 (.ops 5 .done) (.skips 3 (.ops 2 .done))))) .leaf)))))))
theorem F41_tie (a0 : Option Addr) (a1 : Int) (a2 : (Int × Int × Int × Int × Sl × Unit)) (K : Bool → World → Prop) : vcgF tab Try.prog Try.f41 h41 [(.pointer a0), (.int .i64 a1), (.agg (Cells.vals c55 a2).toArray)] (.one (.one .bool)) K = F41 a0 a1 a2 K := by kernel_rfl
theorem F41_calls {a0 : Option Addr} {a1 : Int} {a2 : (Int × Int × Int × Int × Sl × Unit)} {K : Bool → World → Prop} {w : World} (h : F41 a0 a1 a2 K w) : callT Try.prog 41 #[(.pointer a0), (.int .i64 a1), (.agg (Cells.vals c55 a2).toArray)] (.one (.one .bool)) K w :=
  vcgF_sound tabOk Try.func41 h41 [(.pointer a0), (.int .i64 a1), (.agg (Cells.vals c55 a2).toArray)] (.one (.one .bool)) K w (Eq.mpr (congrFun (F41_tie a0 a1 a2 K) w) h)

/-- (*copyist/copyistref11.Bank).Names -/
noncomputable def F42 (a0 : Option Addr) (K : Sl → World → Prop) : World → Prop :=
  join (S := Sl × Unit) (fun J1 =>
    sloop (S := Sl × Int × Unit) (fun (s3 : Sl × Int × Unit) again4 =>
      sif (decide (s3.2.1 < (128 : Int))) (
        join (S := Sl × Unit) (fun J5 =>
          nn a0 fun p7 =>
          chk (0 ≤ s3.2.1 ∧ s3.2.1 < ((128 : Nat) : Int)) <|
          ld (.sl) ((p7.add (scaled (Int.toNat s3.2.1) 2)).add 1) fun (x8 : Sl) =>
          sif (decide (((x8.len : Nat) : Int) > (0 : Int))) (
            newO (.cells #[(.int .i64 s3.2.1)] 3) fun b9 =>
            rawT Try.prog (.one (.one .sl)) (Builtin.append_ #[23, 23] 23 #[(.slice s3.1.a s3.1.len s3.1.cap), (.slice (some (at0 b9)) 1 1)]) fun (x10 : Sl) =>
            J5 (x10, ())) (
            J5 (s3.1, ()))) fun (s6 : Sl × Unit) =>
        again4 (s6.1, (IntKind.wrap .i64 (s3.2.1 + (1 : Int))), ())) (
        J1 (s3.1, ()))) (⟨none, 0, 0⟩, (0 : Int), ())) fun (s2 : Sl × Unit) =>
  K s2.1
noncomputable def h42 : Hint := (.seq none (.region [] (.ops 1 .done)) (.seq none (.region [] (.ops 1 .done)) (.seq (some (4194296, [(3, (.one .sl))])) (.seq none (.region [] (.ops 1 .done)) (.block (.loop 4194296 [(3, (.one .sl)), (4, (.one (.int .i64)))] (.seq none (.seq none (.region [] (.ops 2 .done)) (.cond none .leaf .leaf)) (.seq (some (4193800, [(3, (.one .sl))])) (.block (.seq none (.region [] (.ops 9 .done)) (.cond none (.region [] (.ops 5 .done)) .leaf))) (.region [] (.ops 3 .done))))))) (.seq none (.region [] (.ops 2 .done)) .leaf))))
theorem F42_tie (a0 : Option Addr) (K : Sl → World → Prop) : vcgF tab Try.prog Try.f42 h42 [(.pointer a0)] (.one (.one .sl)) K = F42 a0 K := by kernel_rfl
theorem F42_calls {a0 : Option Addr} {K : Sl → World → Prop} {w : World} (h : F42 a0 K w) : callT Try.prog 42 #[(.pointer a0)] (.one (.one .sl)) K w :=
  vcgF_sound tabOk Try.func42 h42 [(.pointer a0)] (.one (.one .sl)) K w (Eq.mpr (congrFun (F42_tie a0 K) w) h)

/-- (*copyist/copyistref11.Bank).Copy -/
noncomputable def F43 (a0 : Option Addr) (K : Option Addr → World → Prop) : World → Prop :=
  nn a0 fun p1 =>
  lds c88 p1 fun (x2 : Cells.T c88) =>
  newO (.cells (Value.cells (Try.t88.zero.getD default)) 88) fun b3 =>
  aggSt (at0 b3) (.agg (Cells.vals c88 x2).toArray) 257 <|
  K (some (at0 b3))
noncomputable def h43 : Hint := (.seq none (.region [] (.ops 1 .done)) (.seq none (.region [] (.ops 5 .done)) (.seq none (.region [] (.ops 1 .done)) .leaf)))
theorem F43_tie (a0 : Option Addr) (K : Option Addr → World → Prop) : vcgF tab Try.prog Try.f43 h43 [(.pointer a0)] (.one (.one .ptr)) K = F43 a0 K := by kernel_rfl
theorem F43_calls {a0 : Option Addr} {K : Option Addr → World → Prop} {w : World} (h : F43 a0 K w) : callT Try.prog 43 #[(.pointer a0)] (.one (.one .ptr)) K w :=
  vcgF_sound tabOk Try.func43 h43 [(.pointer a0)] (.one (.one .ptr)) K w (Eq.mpr (congrFun (F43_tie a0 K) w) h)

/-- (*copyist/copyistref11.Bank).Get -/
noncomputable def F44 (a0 : Option Addr) (a1 : Int) (K : (Int × Sl × Int × Unit) → World → Prop) : World → Prop :=
  callT Try.prog 54 #[(.int .i64 a1)] (.one (.one .bool)) fun (x1 : Bool) =>
  sif (!x1) (
    K ((0 : Int), ⟨none, 0, 0⟩, (110 : Int), ())) (
    join (S := Int × Unit) (fun J2 =>
      callT Try.prog 55 #[(.int .i64 a1)] (.one (.one .bool)) fun (x4 : Bool) =>
      sif x4 (
        nn a0 fun p5 =>
        ld (.int .i64) (p5.add 256) fun (x6 : Int) =>
        J2 (x6, ())) (
        J2 (a1, ()))) fun (s3 : Int × Unit) =>
    join (S := Int × Unit) (fun J7 =>
      callT Try.prog 56 #[(.int .i64 s3.1)] (.one (.one .bool)) fun (x9 : Bool) =>
      sif x9 (
        J7 ((IntKind.wrap .i64 (s3.1 + (32 : Int))), ())) (
        J7 (s3.1, ()))) fun (s8 : Int × Unit) =>
    nn a0 fun p10 =>
    chk (0 ≤ s8.1 ∧ s8.1 < ((128 : Nat) : Int)) <|
    lds c85 (p10.add (scaled (Int.toNat s8.1) 2)) fun (x11 : (Int × Sl × Unit)) =>
    newO (.cells #[(.int .i64 (0 : Int)), (.slice none 0 0)] 85) fun b12 =>
    aggSt (at0 b12) (.agg (Cells.vals c85 x11).toArray) 2 <|
    ld (.sl) (⟨b12, 1, none⟩ : Addr) fun (x13 : Sl) =>
    sif (((x13.len : Nat) : Int) == (0 : Int)) (
      K ((0 : Int), ⟨none, 0, 0⟩, (112 : Int), ())) (
      drew <|
      ld (.int .i64) (at0 b12) fun (x14 : Int) =>
      ld (.sl) (⟨b12, 1, none⟩ : Addr) fun (x15 : Sl) =>
      K (x14, x15, (0 : Int), ())))
noncomputable def h44 : Hint := (.seq none (.region [] (.ops 3 .done)) (.seq none (.seq none (.region [] (.ops 3 .done)) (.cond none (.seq none (.region [] (.ops 3 .done)) .leaf) .leaf)) (.seq (some (129026, [(1, (.one (.int .i64)))])) (.seq none (.region [] (.ops 2 .done)) (.cond none (.region [] (.ops 5 .done)) .leaf)) (.seq (some (1966082, [(1, (.one (.int .i64)))])) (.seq none (.region [] (.ops 2 .done)) (.cond none (.region [] (.ops 3 .done)) .leaf)) (.seq none (.region [] (.ops 8 .done)) (.seq none (.seq none (.region [] (.ops 4 .done)) (.cond none (.seq none (.region [] (.ops 3 .done)) .leaf) .leaf)) (.seq none (.region [0, 1, 2, 3, 4, 5, 6] (.ops 7 .done)) .leaf)))))))
theorem F44_tie (a0 : Option Addr) (a1 : Int) (K : (Int × Sl × Int × Unit) → World → Prop) : vcgF tab Try.prog Try.f44 h44 [(.pointer a0), (.int .i64 a1)] (.tup [(.one (.int .i64)), (.one .sl), (.one (.int .i64))]) K = F44 a0 a1 K := by kernel_rfl
theorem F44_calls {a0 : Option Addr} {a1 : Int} {K : (Int × Sl × Int × Unit) → World → Prop} {w : World} (h : F44 a0 a1 K w) : callT Try.prog 44 #[(.pointer a0), (.int .i64 a1)] (.tup [(.one (.int .i64)), (.one .sl), (.one (.int .i64))]) K w :=
  vcgF_sound tabOk Try.func44 h44 [(.pointer a0), (.int .i64 a1)] (.tup [(.one (.int .i64)), (.one .sl), (.one (.int .i64))]) K w (Eq.mpr (congrFun (F44_tie a0 a1 K) w) h)

/-- slices.Sort[[]int,int] -/
noncomputable def F45 (a0 : Sl) (K : Unit → World → Prop) : World → Prop :=
  callT Try.prog 58 #[(.int .u64 (IntKind.wrap .u64 ((a0.len : Nat) : Int)))] (.one (.one (.int .i64))) fun (x1 : Int) =>
  callT Try.prog 57 #[(.slice a0.a a0.len a0.cap), (.int .i64 (0 : Int)), (.int .i64 ((a0.len : Nat) : Int)), (.int .i64 x1)] (.tup []) fun (x2 : (Unit)) =>
  K ()
noncomputable def h45 : Hint := (.seq none (.region [] (.ops 3 .done)) (.region [] (.ops 6 .done)))
theorem F45_tie (a0 : Sl) (K : Unit → World → Prop) : vcgF tab Try.prog Try.f45 h45 [(.slice a0.a a0.len a0.cap)] (.tup []) K = F45 a0 K := by kernel_rfl
theorem F45_calls {a0 : Sl} {K : Unit → World → Prop} {w : World} (h : F45 a0 K w) : callT Try.prog 45 #[(.slice a0.a a0.len a0.cap)] (.tup []) K w :=
  vcgF_sound tabOk Try.func45 h45 [(.slice a0.a a0.len a0.cap)] (.tup []) K w (Eq.mpr (congrFun (F45_tie a0 K) w) h)

/-- copyist/register.lastBreak -/
noncomputable def F46 (a0 : Sl) (K : Sl → World → Prop) : World → Prop :=
  join (S := Bool × Unit) (fun J1 =>
    sif (decide (((a0.len : Nat) : Int) > (1 : Int))) (
      ix a0.a a0.len (IntKind.wrap .i64 (((a0.len : Nat) : Int) - (2 : Int))) fun p3 =>
      ld (.int .i64) (p3.add (scaled (Int.toNat (IntKind.wrap .i64 (((a0.len : Nat) : Int) - (2 : Int)))) 1)) fun (x4 : Int) =>
      sif (x4 == (13 : Int)) (
        ix a0.a a0.len (IntKind.wrap .i64 (((a0.len : Nat) : Int) - (1 : Int))) fun p5 =>
        ld (.int .i64) (p5.add (scaled (Int.toNat (IntKind.wrap .i64 (((a0.len : Nat) : Int) - (1 : Int)))) 1)) fun (x6 : Int) =>
        J1 ((x6 == (10 : Int)), ())) (
        J1 (false, ()))) (
      J1 (false, ()))) fun (s2 : Bool × Unit) =>
  sif s2.1 (
    slc a0.a (IntKind.wrap .i64 (((a0.len : Nat) : Int) - (2 : Int))) ((a0.len : Nat) : Int) ((a0.cap : Nat) : Int) a0.cap 1 fun x7 =>
    K x7) (
    join (S := Bool × Unit) (fun J8 =>
      sif (decide (((a0.len : Nat) : Int) > (0 : Int))) (
        ix a0.a a0.len (IntKind.wrap .i64 (((a0.len : Nat) : Int) - (1 : Int))) fun p10 =>
        ld (.int .i64) (p10.add (scaled (Int.toNat (IntKind.wrap .i64 (((a0.len : Nat) : Int) - (1 : Int)))) 1)) fun (x11 : Int) =>
        sif (x11 == (10 : Int)) (
          J8 (true, ())) (
          ix a0.a a0.len (IntKind.wrap .i64 (((a0.len : Nat) : Int) - (1 : Int))) fun p12 =>
          ld (.int .i64) (p12.add (scaled (Int.toNat (IntKind.wrap .i64 (((a0.len : Nat) : Int) - (1 : Int)))) 1)) fun (x13 : Int) =>
          J8 ((x13 == (13 : Int)), ()))) (
        J8 (false, ()))) fun (s9 : Bool × Unit) =>
    sif s9.1 (
      slc a0.a (IntKind.wrap .i64 (((a0.len : Nat) : Int) - (1 : Int))) ((a0.len : Nat) : Int) ((a0.cap : Nat) : Int) a0.cap 1 fun x14 =>
      K x14) (
      K ⟨none, 0, 0⟩))
noncomputable def h46 : Hint := (.seq none (.region [] (.ops 1 .done)) (.seq none (.region [] (.ops 3 .done)) (.seq none (.block (.seq (some (33554368, [(6, (.one .bool))])) (.region [] (.ops 3 (.split 9 (.ops 8 (.split 17 (.ops 8 .done) (.skips 6 (.ops 2 .done)))) (.skips 6 (.ops 2 (.skips 6 (.ops 2 .done))))))) (.cond none (.seq none (.region [] (.ops 5 .done)) .leaf) (.seq (some (281474439839744, [(29, (.one .bool))])) (.region [] (.ops 3 (.split 32 (.ops 7 (.split 39 (.skips 6 (.ops 3 .done)) (.ops 9 .done))) (.skips 14 (.ops 2 .done))))) (.cond none (.seq none (.region [] (.ops 5 .done)) .leaf) .leaf))))) (.seq none (.region [] (.ops 1 .done)) .leaf))))
theorem F46_tie (a0 : Sl) (K : Sl → World → Prop) : vcgF tab Try.prog Try.f46 h46 [(.slice a0.a a0.len a0.cap)] (.one (.one .sl)) K = F46 a0 K := by kernel_rfl
theorem F46_calls {a0 : Sl} {K : Sl → World → Prop} {w : World} (h : F46 a0 K w) : callT Try.prog 46 #[(.slice a0.a a0.len a0.cap)] (.one (.one .sl)) K w :=
  vcgF_sound tabOk Try.func46 h46 [(.slice a0.a a0.len a0.cap)] (.one (.one .sl)) K w (Eq.mpr (congrFun (F46_tie a0 K) w) h)

/-- slices.Index[[]int,int] -/
noncomputable def F47 (a0 : Sl) (a1 : Int) (K : Int → World → Prop) : World → Prop :=
  join (S := Unit) (fun J1 =>
    sloop (S := Int × Unit) (fun (s3 : Int × Unit) again4 =>
      sif (decide (s3.1 < ((a0.len : Nat) : Int))) (
        ix a0.a a0.len s3.1 fun p5 =>
        ld (.int .i64) (p5.add (scaled (Int.toNat s3.1) 1)) fun (x6 : Int) =>
        sif (a1 == x6) (
          K s3.1) (
          again4 ((IntKind.wrap .i64 (s3.1 + (1 : Int))), ()))) (
        J1 ())) ((0 : Int), ())) fun (s2 : Unit) =>
  K (-1 : Int)
noncomputable def h47 : Hint := (.seq none (.region [] (.ops 1 .done)) (.seq (some (524272, [])) (.seq none (.region [] (.ops 3 .done)) (.block (.loop 524080 [(8, (.one (.int .i64)))] (.seq none (.region [] (.ops 1 .done)) (.seq none (.cond none .leaf .leaf) (.seq none (.block (.seq none (.region [] (.ops 2 .done)) (.seq none (.region [] (.ops 6 .done)) (.cond none (.seq none (.region [] (.ops 2 .done)) .leaf) .leaf)))) (.region [] (.ops 2 .done)))))))) (.seq none (.region [] (.ops 1 .done)) .leaf)))
theorem F47_tie (a0 : Sl) (a1 : Int) (K : Int → World → Prop) : vcgF tab Try.prog Try.f47 h47 [(.slice a0.a a0.len a0.cap), (.int .i64 a1)] (.one (.one (.int .i64))) K = F47 a0 a1 K := by kernel_rfl
theorem F47_calls {a0 : Sl} {a1 : Int} {K : Int → World → Prop} {w : World} (h : F47 a0 a1 K w) : callT Try.prog 47 #[(.slice a0.a a0.len a0.cap), (.int .i64 a1)] (.one (.one (.int .i64))) K w :=
  vcgF_sound tabOk Try.func47 h47 [(.slice a0.a a0.len a0.cap), (.int .i64 a1)] (.one (.one (.int .i64))) K w (Eq.mpr (congrFun (F47_tie a0 a1 K) w) h)

/-- copyist/register.join -/
noncomputable def F48 (a0 : (Int × Sl × Unit)) (a1 : (Int × Sl × Unit)) (K : (Int × Sl × Unit) → World → Prop) : World → Prop :=
  newO (.cells #[(.int .i64 a0.1), (.slice a0.2.1.a a0.2.1.len a0.2.1.cap)] 28) fun b1 =>
  newO (.cells #[(.int .i64 a1.1), (.slice a1.2.1.a a1.2.1.len a1.2.1.cap)] 28) fun b2 =>
  newO (.cells #[(.int .i64 (0 : Int)), (.slice none 0 0)] 28) fun b3 =>
  join (S := Sl × Sl × Unit) (fun J4 =>
    join (S := Bool × Unit) (fun J6 =>
      ld (.int .i64) (at0 b2) fun (x8 : Int) =>
      sif (x8 == (1 : Int)) (
        ld (.int .i64) (at0 b1) fun (x9 : Int) =>
        J6 ((x9 == (0 : Int)), ())) (
        J6 (false, ()))) fun (s7 : Bool × Unit) =>
    sif s7.1 (
      ld (.sl) (⟨b2, 1, none⟩ : Addr) fun (x10 : Sl) =>
      callT Try.prog 46 #[(.slice x10.a x10.len x10.cap)] (.one (.one .sl)) fun (x11 : Sl) =>
      J4 (x11, ⟨none, 0, 0⟩, ())) (
      join (S := Bool × Unit) (fun J12 =>
        ld (.int .i64) (at0 b1) fun (x14 : Int) =>
        sif (x14 == (1 : Int)) (
          ld (.int .i64) (at0 b2) fun (x15 : Int) =>
          J12 ((x15 == (0 : Int)), ())) (
          J12 (false, ()))) fun (s13 : Bool × Unit) =>
      sif s13.1 (
        ld (.sl) (⟨b1, 1, none⟩ : Addr) fun (x16 : Sl) =>
        callT Try.prog 46 #[(.slice x16.a x16.len x16.cap)] (.one (.one .sl)) fun (x17 : Sl) =>
        J4 (⟨none, 0, 0⟩, x17, ())) (
        J4 (⟨none, 0, 0⟩, ⟨none, 0, 0⟩, ())))) fun (s5 : Sl × Sl × Unit) =>
  drew <|
  ld (.int .i64) (at0 b1) fun (x18 : Int) =>
  ld (.int .i64) (at0 b2) fun (x19 : Int) =>
  ld (.sl) (⟨b1, 1, none⟩ : Addr) fun (x20 : Sl) =>
  ld (.sl) (⟨b2, 1, none⟩ : Addr) fun (x21 : Sl) =>
  newO (.cells #[(.slice x20.a x20.len x20.cap), (.slice s5.1.a s5.1.len s5.1.cap), (.slice x21.a x21.len x21.cap), (.slice s5.2.1.a s5.2.1.len s5.2.1.cap)] 23) fun b22 =>
  keep (fun w => w.cell? (at0 b2) = some (Cell.val (.int .i64) x19)) <|
  keep (fun w => w.cell? (at0 b1) = some (Cell.val (.int .i64) x18)) <|
  callT Try.prog 59 #[(.slice (some (at0 b22)) 4 4)] (.one (.one .sl)) fun (x23 : Sl) =>
  keep (fun w => w.cell? (at0 b2) = some (Cell.val (.int .i64) x19)) <|
  keep (fun w => w.cell? (at0 b1) = some (Cell.val (.int .i64) x18)) <|
  aggSt (at0 b3) (.agg #[(.int .i64 (if x19 > x18 then x19 else x18)), (.slice x23.a x23.len x23.cap)]) 2 <|
  lds c28 (at0 b3) fun (x24 : (Int × Sl × Unit)) =>
  K x24
noncomputable def h48 : Hint := (.seq none (.region [] (.ops 3 .done)) (.seq none (.region [] (.ops 2 .done)) (.seq (some (2147483616, [(5, (.one .sl)), (6, (.one .sl))])) (.block (.seq (some (65408, [(7, (.one .bool))])) (.region [] (.ops 4 (.split 11 (.ops 5 .done) (.skips 3 (.ops 2 .done))))) (.cond none (.region [] (.ops 4 .done)) (.seq (some (267911168, [(19, (.one .bool))])) (.region [] (.ops 4 (.split 23 (.ops 5 .done) (.skips 3 (.ops 2 .done))))) (.cond none (.region [] (.ops 4 .done)) .leaf))))) (.seq none (.region [0, 1, 2, 3, 4, 5, 6, 7, 8, 9, 10, 11, 12, 13, 14] (.ops 15 .done)) .leaf))))
theorem F48_tie (a0 : (Int × Sl × Unit)) (a1 : (Int × Sl × Unit)) (K : (Int × Sl × Unit) → World → Prop) : vcgF tab Try.prog Try.f48 h48 [(.agg (Cells.vals c28 a0).toArray), (.agg (Cells.vals c28 a1).toArray)] (.one (.agg c28)) K = F48 a0 a1 K := by kernel_rfl
theorem F48_calls {a0 : (Int × Sl × Unit)} {a1 : (Int × Sl × Unit)} {K : (Int × Sl × Unit) → World → Prop} {w : World} (h : F48 a0 a1 K w) : callT Try.prog 48 #[(.agg (Cells.vals c28 a0).toArray), (.agg (Cells.vals c28 a1).toArray)] (.one (.agg c28)) K w :=
  vcgF_sound tabOk Try.func48 h48 [(.agg (Cells.vals c28 a0).toArray), (.agg (Cells.vals c28 a1).toArray)] (.one (.agg c28)) K w (Eq.mpr (congrFun (F48_tie a0 a1 K) w) h)

/-- (*copyist/copyistlaw11.world).handed -/
noncomputable def F49 (a0 : Option Addr) (a1 : Sl) (K : Sl → World → Prop) : World → Prop :=
  rawT Try.prog (.one (.one .sl)) (Instr.makeSlice 23 (.int .i64 (IntKind.wrap .i64 (((a1.len : Nat) : Int) + (100 : Int)))) (.int .i64 (IntKind.wrap .i64 (((a1.len : Nat) : Int) + (100 : Int))))) fun (x1 : Sl) =>
  join (S := Sl × Unit) (fun J2 =>
    sif (decide ((IntKind.wrap .i64 (((a1.len : Nat) : Int) + (100 : Int))) ≤ (300 : Int))) (
      join (S := Unit) (fun J4 =>
        nn a0 fun p6 =>
        ld (.sl) (p6.add 4) fun (x7 : Sl) =>
        sif (Option.isNone x7.a) (
          rawT Try.prog (.one (.one .sl)) (Instr.makeSlice 23 (.int .i64 (300 : Int)) (.int .i64 (300 : Int))) fun (x8 : Sl) =>
          nn a0 fun p9 =>
          stC (p9.add 4) (.slice x8.a x8.len x8.cap) <|
          J4 ()) (
          J4 ())) fun (s5 : Unit) =>
      nn a0 fun p10 =>
      ld (.sl) (p10.add 4) fun (x11 : Sl) =>
      slc x11.a 0 (IntKind.wrap .i64 (((a1.len : Nat) : Int) + (100 : Int))) (IntKind.wrap .i64 (((a1.len : Nat) : Int) + (100 : Int))) x11.cap 1 fun x12 =>
      J2 (x12, ())) (
      J2 (x1, ()))) fun (s3 : Sl × Unit) =>
  rawT Try.prog (.one (.one (.int .i64))) (Builtin.copy_ #[23, 23] 3 #[(.slice s3.1.a s3.1.len s3.1.cap), (.slice a1.a a1.len a1.cap)]) fun (x13 : Int) =>
  join (S := Unit) (fun J14 =>
    sloop (S := Int × Unit) (fun (s16 : Int × Unit) again17 =>
      sif (decide (s16.1 < ((s3.1.len : Nat) : Int))) (
        ix s3.1.a s3.1.len s16.1 fun p18 =>
        stC (p18.add (scaled (Int.toNat s16.1) 1)) (.int .i64 (IntKind.wrap .i64 ((771 : Int) + s16.1))) <|
        again17 ((IntKind.wrap .i64 (s16.1 + (1 : Int))), ())) (
        J14 ())) (((a1.len : Nat) : Int), ())) fun (s15 : Unit) =>
  K s3.1
noncomputable def h49 : Hint := (.seq none (.region [] (.ops 1 .done)) (.seq none (.region [] (.ops 4 .done)) (.seq none (.region [] (.ops 3 .done)) (.seq (some (2147475520, [(6, (.one .sl))])) (.seq none (.region [] (.ops 2 .done)) (.cond none (.seq (some (16744448, [])) (.seq none (.region [] (.ops 5 .done)) (.cond none (.region [] (.ops 5 .done)) .leaf)) (.region [] (.ops 8 .done))) .leaf)) (.seq none (.region [] (.ops 3 .done)) (.seq (some (140720308486272, [])) (.seq none (.region [] (.ops 3 .done)) (.block (.loop 140668768878720 [(7, (.one (.int .i64)))] (.seq none (.seq none (.region [] (.ops 4 .done)) (.cond none .leaf .leaf)) (.seq none (.block (.region [] (.ops 6 .done))) (.region [] (.ops 3 .done))))))) (.seq none (.region [] (.ops 2 .done)) .leaf)))))))
theorem F49_tie (a0 : Option Addr) (a1 : Sl) (K : Sl → World → Prop) : vcgF tab Try.prog Try.f49 h49 [(.pointer a0), (.slice a1.a a1.len a1.cap)] (.one (.one .sl)) K = F49 a0 a1 K := by kernel_rfl
theorem F49_calls {a0 : Option Addr} {a1 : Sl} {K : Sl → World → Prop} {w : World} (h : F49 a0 a1 K w) : callT Try.prog 49 #[(.pointer a0), (.slice a1.a a1.len a1.cap)] (.one (.one .sl)) K w :=
  vcgF_sound tabOk Try.func49 h49 [(.pointer a0), (.slice a1.a a1.len a1.cap)] (.one (.one .sl)) K w (Eq.mpr (congrFun (F49_tie a0 a1 K) w) h)

/-- (*copyist/copyistref11.Bank).Yank -/
noncomputable def F50 (a0 : Option Addr) (a1 : Int) (a2 : Int) (a3 : Sl) (K : Int → World → Prop) : World → Prop :=
  callT Try.prog 60 #[(.int .i64 a1), (.int .i64 a2)] (.one (.one (.int .i64))) fun (x1 : Int) =>
  sif (x1 != (0 : Int)) (
    K x1) (
    callT Try.prog 61 #[(.int .i64 a2), (.slice a3.a a3.len a3.cap)] (.one (.agg c85)) fun (x2 : (Int × Sl × Unit)) =>
    newO (.cells #[(.int .i64 (0 : Int)), (.slice none 0 0)] 85) fun b3 =>
    aggSt (at0 b3) (.agg (Cells.vals c85 x2).toArray) 2 <|
    join (S := Bool × Unit) (fun J4 =>
      sif (a1 == (95 : Int)) (
        J4 (true, ())) (
        ld (.sl) (⟨b3, 1, none⟩ : Addr) fun (x6 : Sl) =>
        J4 ((((x6.len : Nat) : Int) == (0 : Int)), ()))) fun (s5 : Bool × Unit) =>
    sif s5.1 (
      K (0 : Int)) (
      lds c85 (at0 b3) fun (x7 : (Int × Sl × Unit)) =>
      callT Try.prog 62 #[(.pointer a0), (.int .i64 a1), (.agg (Cells.vals c85 x7).toArray), (.int .i64 (48 : Int))] (.one (.one (.int .i64))) fun (x8 : Int) =>
      K x8))
noncomputable def h50 : Hint := (.seq none (.region [] (.ops 1 .done)) (.seq none (.region [] (.ops 4 .done)) (.seq none (.seq none (.region [] (.ops 2 .done)) (.cond none (.seq none (.region [] (.ops 2 .done)) .leaf) .leaf)) (.seq none (.region [] (.ops 5 .done)) (.seq none (.seq (some (267386880, [(27, (.one .bool))])) (.region [] (.ops 3 (.split 22 (.skips 4 (.ops 1 .done)) (.ops 5 .done)))) (.cond none (.seq none (.region [] (.ops 1 .done)) .leaf) .leaf)) (.seq none (.region [] (.ops 5 .done)) .leaf))))))
theorem F50_tie (a0 : Option Addr) (a1 : Int) (a2 : Int) (a3 : Sl) (K : Int → World → Prop) : vcgF tab Try.prog Try.f50 h50 [(.pointer a0), (.int .i64 a1), (.int .i64 a2), (.slice a3.a a3.len a3.cap)] (.one (.one (.int .i64))) K = F50 a0 a1 a2 a3 K := by kernel_rfl
theorem F50_calls {a0 : Option Addr} {a1 : Int} {a2 : Int} {a3 : Sl} {K : Int → World → Prop} {w : World} (h : F50 a0 a1 a2 a3 K w) : callT Try.prog 50 #[(.pointer a0), (.int .i64 a1), (.int .i64 a2), (.slice a3.a a3.len a3.cap)] (.one (.one (.int .i64))) K w :=
  vcgF_sound tabOk Try.func50 h50 [(.pointer a0), (.int .i64 a1), (.int .i64 a2), (.slice a3.a a3.len a3.cap)] (.one (.one (.int .i64))) K w (Eq.mpr (congrFun (F50_tie a0 a1 a2 a3 K) w) h)

/-- (*copyist/copyistref11.Bank).Delete -/
noncomputable def F51 (a0 : Option Addr) (a1 : Int) (a2 : Int) (a3 : Sl) (K : Int → World → Prop) : World → Prop :=
  callT Try.prog 60 #[(.int .i64 a1), (.int .i64 a2)] (.one (.one (.int .i64))) fun (x1 : Int) =>
  sif (x1 != (0 : Int)) (
    K x1) (
    callT Try.prog 61 #[(.int .i64 a2), (.slice a3.a a3.len a3.cap)] (.one (.agg c85)) fun (x2 : (Int × Sl × Unit)) =>
    newO (.cells #[(.int .i64 (0 : Int)), (.slice none 0 0)] 85) fun b3 =>
    aggSt (at0 b3) (.agg (Cells.vals c85 x2).toArray) 2 <|
    join (S := Bool × Unit) (fun J4 =>
      sif (a1 == (95 : Int)) (
        J4 (true, ())) (
        ld (.sl) (⟨b3, 1, none⟩ : Addr) fun (x6 : Sl) =>
        J4 ((((x6.len : Nat) : Int) == (0 : Int)), ()))) fun (s5 : Bool × Unit) =>
    sif s5.1 (
      K (0 : Int)) (
      callT Try.prog 55 #[(.int .i64 a1)] (.one (.one .bool)) fun (x7 : Bool) =>
      sif (!x7) (
        lds c85 (at0 b3) fun (x8 : (Int × Sl × Unit)) =>
        callT Try.prog 62 #[(.pointer a0), (.int .i64 a1), (.agg (Cells.vals c85 x8).toArray), (.int .i64 (0 : Int))] (.one (.one (.int .i64))) fun (x9 : Int) =>
        K x9) (
        join (S := Bool × Unit) (fun J10 =>
          sloop (S := Bool × Int × Unit) (fun (s12 : Bool × Int × Unit) again13 =>
            sif (decide (s12.2.1 < ((a3.len : Nat) : Int))) (
              join (S := Bool × Unit) (fun J14 =>
                join (S := Bool × Unit) (fun J16 =>
                  ix a3.a a3.len s12.2.1 fun p18 =>
                  ld (.int .i64) (p18.add (scaled (Int.toNat s12.2.1) 1)) fun (x19 : Int) =>
                  sif (x19 == (10 : Int)) (
                    J16 (true, ())) (
                    ix a3.a a3.len s12.2.1 fun p20 =>
                    ld (.int .i64) (p20.add (scaled (Int.toNat s12.2.1) 1)) fun (x21 : Int) =>
                    J16 ((x21 == (13 : Int)), ()))) fun (s17 : Bool × Unit) =>
                sif s17.1 (
                  J14 (true, ())) (
                  J14 (s12.1, ()))) fun (s15 : Bool × Unit) =>
              again13 (s15.1, (IntKind.wrap .i64 (s12.2.1 + (1 : Int))), ())) (
              J10 (s12.1, ()))) ((a2 == (1 : Int)), (0 : Int), ())) fun (s11 : Bool × Unit) =>
        sif s11.1 (
          lds c85 (at0 b3) fun (x22 : (Int × Sl × Unit)) =>
          callT Try.prog 62 #[(.pointer a0), (.int .i64 a1), (.agg (Cells.vals c85 x22).toArray), (.int .i64 (49 : Int))] (.one (.one (.int .i64))) fun (x23 : Int) =>
          K x23) (
          lds c85 (at0 b3) fun (x24 : (Int × Sl × Unit)) =>
          callT Try.prog 62 #[(.pointer a0), (.int .i64 a1), (.agg (Cells.vals c85 x24).toArray), (.int .i64 (45 : Int))] (.one (.one (.int .i64))) fun (x25 : Int) =>
          K x25))))
noncomputable def h51 : Hint := (.seq none (.region [] (.ops 1 .done)) (.seq none (.region [] (.ops 4 .done)) (.seq none (.seq none (.region [] (.ops 2 .done)) (.cond none (.seq none (.region [] (.ops 2 .done)) .leaf) .leaf)) (.seq none (.region [] (.ops 5 .done)) (.seq none (.seq (some (1069547520, [(29, (.one .bool))])) (.region [] (.ops 3 (.split 24 (.skips 4 (.ops 1 .done)) (.ops 5 .done)))) (.cond none (.seq none (.region [] (.ops 1 .done)) .leaf) .leaf)) (.seq none (.seq none (.region [] (.ops 3 .done)) (.cond none (.seq none (.region [] (.ops 5 .done)) .leaf) .leaf)) (.seq none (.region [] (.ops 3 .done)) (.seq (some (144114638320048128, [(11, (.one .bool))])) (.seq none (.region [] (.ops 1 .done)) (.block (.loop 144114638320048128 [(11, (.one .bool)), (12, (.one (.int .i64)))] (.seq none (.seq none (.region [] (.ops 4 .done)) (.cond none .leaf .leaf)) (.seq (some (144080003703769088, [(11, (.one .bool))])) (.block (.seq (some (144080003703767040, [(56, (.one .bool))])) (.region [] (.ops 6 (.split 50 (.skips 5 (.ops 1 .done)) (.ops 6 .done)))) (.cond none (.region [] (.ops 1 .done)) .leaf))) (.region [] (.ops 3 .done))))))) (.seq none (.seq none (.region [] (.ops 1 .done)) (.cond none (.seq none (.region [] (.ops 5 .done)) .leaf) .leaf)) (.seq none (.region [] (.ops 5 .done)) .leaf))))))))))
theorem F51_tie (a0 : Option Addr) (a1 : Int) (a2 : Int) (a3 : Sl) (K : Int → World → Prop) : vcgF tab Try.prog Try.f51 h51 [(.pointer a0), (.int .i64 a1), (.int .i64 a2), (.slice a3.a a3.len a3.cap)] (.one (.one (.int .i64))) K = F51 a0 a1 a2 a3 K := by kernel_rfl
theorem F51_calls {a0 : Option Addr} {a1 : Int} {a2 : Int} {a3 : Sl} {K : Int → World → Prop} {w : World} (h : F51 a0 a1 a2 a3 K w) : callT Try.prog 51 #[(.pointer a0), (.int .i64 a1), (.int .i64 a2), (.slice a3.a a3.len a3.cap)] (.one (.one (.int .i64))) K w :=
  vcgF_sound tabOk Try.func51 h51 [(.pointer a0), (.int .i64 a1), (.int .i64 a2), (.slice a3.a a3.len a3.cap)] (.one (.one (.int .i64))) K w (Eq.mpr (congrFun (F51_tie a0 a1 a2 a3 K) w) h)

/-- (*copyist/copyistref11.Bank).Set -/
noncomputable def F52 (a0 : Option Addr) (a1 : Int) (a2 : Sl) (K : Int → World → Prop) : World → Prop :=
  join (S := Bool × Unit) (fun J1 =>
    callT Try.prog 54 #[(.int .i64 a1)] (.one (.one .bool)) fun (x3 : Bool) =>
    sif (!x3) (
      J1 (true, ())) (
      callT Try.prog 55 #[(.int .i64 a1)] (.one (.one .bool)) fun (x4 : Bool) =>
      J1 (x4, ()))) fun (s2 : Bool × Unit) =>
  sif s2.1 (
    K (110 : Int)) (
    sif (a1 == (95 : Int)) (
      K (0 : Int)) (
      callT Try.prog 61 #[(.int .i64 (0 : Int)), (.slice a2.a a2.len a2.cap)] (.one (.agg c85)) fun (x5 : (Int × Sl × Unit)) =>
      callT Try.prog 63 #[(.pointer a0), (.int .i64 a1), (.agg (Cells.vals c85 x5).toArray)] (.tup [(.one (.int .i64)), (.agg c85)]) fun (x6 : (Int × (Int × Sl × Unit) × Unit)) =>
      newO (.cells #[(.int .i64 (0 : Int)), (.slice none 0 0)] 85) fun b7 =>
      aggSt (at0 b7) (.agg (Cells.vals c85 x6.2.1).toArray) 2 <|
      ld (.sl) (⟨b7, 1, none⟩ : Addr) fun (x8 : Sl) =>
      sif (decide (((x8.len : Nat) : Int) > (140000 : Int))) (
        K (3 : Int)) (
        drew <|
        lds c85 (at0 b7) fun (x9 : (Int × Sl × Unit)) =>
        nn a0 fun p10 =>
        chk (0 ≤ x6.1 ∧ x6.1 < ((128 : Nat) : Int)) <|
        aggSt (p10.add (scaled (Int.toNat x6.1) 2)) (.agg (Cells.vals c85 x9).toArray) 2 <|
        K (0 : Int))))
noncomputable def h52 : Hint := (.seq none (.region [] (.ops 1 .done)) (.seq none (.seq (some (65024, [(15, (.one .bool))])) (.region [] (.ops 4 (.split 12 (.skips 2 (.ops 1 .done)) (.ops 3 .done)))) (.cond none (.seq none (.region [] (.ops 1 .done)) .leaf) .leaf)) (.seq none (.seq none (.region [] (.ops 2 .done)) (.cond none (.seq none (.region [] (.ops 1 .done)) .leaf) .leaf)) (.seq none (.region [] (.ops 11 .done)) (.seq none (.seq none (.region [] (.ops 4 .done)) (.cond none (.seq none (.region [] (.ops 1 .done)) .leaf) .leaf)) (.seq none (.region [0, 1, 2, 3, 4, 5, 6] (.ops 7 .done)) (.seq none (.region [] (.ops 1 .done)) .leaf)))))))
theorem F52_tie (a0 : Option Addr) (a1 : Int) (a2 : Sl) (K : Int → World → Prop) : vcgF tab Try.prog Try.f52 h52 [(.pointer a0), (.int .i64 a1), (.slice a2.a a2.len a2.cap)] (.one (.one (.int .i64))) K = F52 a0 a1 a2 K := by kernel_rfl
theorem F52_calls {a0 : Option Addr} {a1 : Int} {a2 : Sl} {K : Int → World → Prop} {w : World} (h : F52 a0 a1 a2 K w) : callT Try.prog 52 #[(.pointer a0), (.int .i64 a1), (.slice a2.a a2.len a2.cap)] (.one (.one (.int .i64))) K w :=
  vcgF_sound tabOk Try.func52 h52 [(.pointer a0), (.int .i64 a1), (.slice a2.a a2.len a2.cap)] (.one (.one (.int .i64))) K w (Eq.mpr (congrFun (F52_tie a0 a1 a2 K) w) h)

/-- copyist/copyistlaw11.back -/
noncomputable def F53 (a0 : Sl) (a1 : Sl) (K : Bool → World → Prop) : World → Prop :=
  slc a0.a 0 ((a1.len : Nat) : Int) ((a0.cap : Nat) : Int) a0.cap 1 fun x1 =>
  callT Try.prog 30 #[(.slice x1.a x1.len x1.cap), (.slice a1.a a1.len a1.cap)] (.one (.one .bool)) fun (x2 : Bool) =>
  join (S := Bool × Unit) (fun J3 =>
    sloop (S := Bool × Int × Unit) (fun (s5 : Bool × Int × Unit) again6 =>
      sif (decide (s5.2.1 < ((a0.len : Nat) : Int))) (
        join (S := Bool × Unit) (fun J7 =>
          sif s5.1 (
            sif (decide (s5.2.1 < ((a1.len : Nat) : Int))) (
              J7 (true, ())) (
              ix a0.a a0.len s5.2.1 fun p9 =>
              ld (.int .i64) (p9.add (scaled (Int.toNat s5.2.1) 1)) fun (x10 : Int) =>
              J7 ((x10 == (IntKind.wrap .i64 ((771 : Int) + s5.2.1))), ()))) (
            J7 (false, ()))) fun (s8 : Bool × Unit) =>
        ix a0.a a0.len s5.2.1 fun p11 =>
        stC (p11.add (scaled (Int.toNat s5.2.1) 1)) (.int .i64 (-5 : Int)) <|
        again6 (s8.1, (IntKind.wrap .i64 (s5.2.1 + (1 : Int))), ())) (
        J3 (s5.1, ()))) (x2, (0 : Int), ())) fun (s4 : Bool × Unit) =>
  K s4.1
noncomputable def h53 : Hint := (.seq none (.region [] (.ops 1 .done)) (.seq none (.region [] (.ops 3 .done)) (.seq none (.region [] (.ops 6 .done)) (.seq (some (549755781312, [(6, (.one .bool))])) (.seq none (.region [] (.ops 1 .done)) (.block (.loop 549755781312 [(6, (.one .bool)), (7, (.one (.int .i64)))] (.seq none (.seq none (.region [] (.ops 4 .done)) (.cond none .leaf .leaf)) (.seq none (.block (.seq (some (68717379648, [(6, (.one .bool))])) (.region [] (.ops 2 (.split 22 (.ops 4 (.split 26 (.skips 7 (.ops 3 .done)) (.ops 10 .done))) (.skips 12 (.ops 2 .done))))) (.region [] (.ops 4 .done)))) (.region [] (.ops 3 .done))))))) (.seq none (.region [] (.ops 2 .done)) .leaf)))))
theorem F53_tie (a0 : Sl) (a1 : Sl) (K : Bool → World → Prop) : vcgF tab Try.prog Try.f53 h53 [(.slice a0.a a0.len a0.cap), (.slice a1.a a1.len a1.cap)] (.one (.one .bool)) K = F53 a0 a1 K := by kernel_rfl
theorem F53_calls {a0 : Sl} {a1 : Sl} {K : Bool → World → Prop} {w : World} (h : F53 a0 a1 K w) : callT Try.prog 53 #[(.slice a0.a a0.len a0.cap), (.slice a1.a a1.len a1.cap)] (.one (.one .bool)) K w :=
  vcgF_sound tabOk Try.func53 h53 [(.slice a0.a a0.len a0.cap), (.slice a1.a a1.len a1.cap)] (.one (.one .bool)) K w (Eq.mpr (congrFun (F53_tie a0 a1 K) w) h)

/-- copyist/copyistref11.Named -/
noncomputable def F54 (a0 : Int) (K : Bool → World → Prop) : World → Prop :=
  callT Try.prog 64 #[(.int .i64 a0)] (.one (.one .bool)) fun (x1 : Bool) =>
  sif x1 (
    K true) (
    callT Try.prog 56 #[(.int .i64 a0)] (.one (.one .bool)) fun (x2 : Bool) =>
    sif x2 (
      K true) (
      callT Try.prog 65 #[(.int .i64 a0)] (.one (.one .bool)) fun (x3 : Bool) =>
      sif x3 (
        K true) (
        callT Try.prog 55 #[(.int .i64 a0)] (.one (.one .bool)) fun (x4 : Bool) =>
        sif x4 (
          K true) (
          callT Try.prog 66 #[(.int .i64 a0)] (.one (.one .bool)) fun (x5 : Bool) =>
          sif x5 (
            K true) (
            sif (a0 == (45 : Int)) (
              K true) (
              K (a0 == (95 : Int))))))))
noncomputable def h54 : Hint := (.seq none (.region [] (.ops 1 .done)) (.seq none (.region [] (.ops 3 (.split 5 (.skips 2 (.ops 2 (.skips 2 (.ops 2 (.skips 2 (.ops 2 (.skips 2 (.ops 2 (.skips 2 (.ops 2 (.skips 2 (.ops 2 .done)))))))))))) (.ops 4 (.split 9 (.skips 2 (.ops 2 (.skips 2 (.ops 2 (.skips 2 (.ops 2 (.skips 2 (.ops 2 (.skips 2 (.ops 2 .done)))))))))) (.ops 4 (.split 13 (.skips 2 (.ops 2 (.skips 2 (.ops 2 (.skips 2 (.ops 2 (.skips 2 (.ops 2 .done)))))))) (.ops 4 (.split 17 (.skips 2 (.ops 2 (.skips 2 (.ops 2 (.skips 2 (.ops 2 .done)))))) (.ops 4 (.split 21 (.skips 2 (.ops 2 (.skips 2 (.ops 2 .done)))) (.ops 4 (.split 25 (.skips 2 (.ops 2 .done)) (.ops 4 .done)))))))))))))) .leaf))
theorem F54_tie (a0 : Int) (K : Bool → World → Prop) : vcgF tab Try.prog Try.f54 h54 [(.int .i64 a0)] (.one (.one .bool)) K = F54 a0 K := by kernel_rfl
theorem F54_calls {a0 : Int} {K : Bool → World → Prop} {w : World} (h : F54 a0 K w) : callT Try.prog 54 #[(.int .i64 a0)] (.one (.one .bool)) K w :=
  vcgF_sound tabOk Try.func54 h54 [(.int .i64 a0)] (.one (.one .bool)) K w (Eq.mpr (congrFun (F54_tie a0 K) w) h)

/-- copyist/copyistref11.unnamed -/
noncomputable def F55 (a0 : Int) (K : Bool → World → Prop) : World → Prop :=
  sif (a0 == (0 : Int)) (
    K true) (
    K (a0 == (34 : Int)))
noncomputable def h55 : Hint := (.seq none (.region [] (.ops 1 .done)) (.seq none (.region [] (.ops 3 (.split 5 (.skips 2 (.ops 2 .done)) (.ops 4 .done)))) .leaf))
theorem F55_tie (a0 : Int) (K : Bool → World → Prop) : vcgF tab Try.prog Try.f55 h55 [(.int .i64 a0)] (.one (.one .bool)) K = F55 a0 K := by kernel_rfl
theorem F55_calls {a0 : Int} {K : Bool → World → Prop} {w : World} (h : F55 a0 K w) : callT Try.prog 55 #[(.int .i64 a0)] (.one (.one .bool)) K w :=
  vcgF_sound tabOk Try.func55 h55 [(.int .i64 a0)] (.one (.one .bool)) K w (Eq.mpr (congrFun (F55_tie a0 K) w) h)

/-- copyist/copyistref11.great -/
noncomputable def F56 (a0 : Int) (K : Bool → World → Prop) : World → Prop :=
  sif (decide (a0 ≥ (65 : Int))) (
    K (decide (a0 ≤ (90 : Int)))) (
    K false)
noncomputable def h56 : Hint := (.seq none (.region [] (.ops 1 .done)) (.seq none (.region [] (.ops 3 (.split 5 (.ops 4 .done) (.skips 2 (.ops 2 .done))))) .leaf))
theorem F56_tie (a0 : Int) (K : Bool → World → Prop) : vcgF tab Try.prog Try.f56 h56 [(.int .i64 a0)] (.one (.one .bool)) K = F56 a0 K := by kernel_rfl
theorem F56_calls {a0 : Int} {K : Bool → World → Prop} {w : World} (h : F56 a0 K w) : callT Try.prog 56 #[(.int .i64 a0)] (.one (.one .bool)) K w :=
  vcgF_sound tabOk Try.func56 h56 [(.int .i64 a0)] (.one (.one .bool)) K w (Eq.mpr (congrFun (F56_tie a0 K) w) h)

/-- slices.pdqsortOrdered[int] -/
noncomputable def F57 (a0 : Sl) (a1 : Int) (a2 : Int) (a3 : Int) (K : Unit → World → Prop) : World → Prop :=
  sloop (S := Int × Int × Int × Bool × Bool × Unit) (fun (s1 : Int × Int × Int × Bool × Bool × Unit) again2 =>
    sif (decide ((IntKind.wrap .i64 (s1.2.1 - s1.1)) ≤ (12 : Int))) (
      callT Try.prog 67 #[(.slice a0.a a0.len a0.cap), (.int .i64 s1.1), (.int .i64 s1.2.1)] (.tup []) fun (x3 : (Unit)) =>
      K ()) (
      sif (s1.2.2.1 == (0 : Int)) (
        callT Try.prog 68 #[(.slice a0.a a0.len a0.cap), (.int .i64 s1.1), (.int .i64 s1.2.1)] (.tup []) fun (x4 : (Unit)) =>
        K ()) (
        join (S := Int × Unit) (fun J5 =>
          sif (!s1.2.2.2.1) (
            callT Try.prog 69 #[(.slice a0.a a0.len a0.cap), (.int .i64 s1.1), (.int .i64 s1.2.1)] (.tup []) fun (x7 : (Unit)) =>
            J5 ((IntKind.wrap .i64 (s1.2.2.1 - (1 : Int))), ())) (
            J5 (s1.2.2.1, ()))) fun (s6 : Int × Unit) =>
        callT Try.prog 70 #[(.slice a0.a a0.len a0.cap), (.int .i64 s1.1), (.int .i64 s1.2.1)] (.tup [(.one (.int .i64)), (.one (.int .i64))]) fun (x8 : (Int × Int × Unit)) =>
        join (S := Int × Int × Unit) (fun J9 =>
          sif (x8.2.1 == (2 : Int)) (
            callT Try.prog 71 #[(.slice a0.a a0.len a0.cap), (.int .i64 s1.1), (.int .i64 s1.2.1)] (.tup []) fun (x11 : (Unit)) =>
            J9 ((IntKind.wrap .i64 ((IntKind.wrap .i64 (s1.2.1 - (1 : Int))) - (IntKind.wrap .i64 (x8.1 - s1.1)))), (1 : Int), ())) (
            J9 (x8.1, x8.2.1, ()))) fun (s10 : Int × Int × Unit) =>
        join (S := Unit) (fun J12 =>
          join (S := Bool × Unit) (fun J14 =>
            sif s1.2.2.2.1 (
              sif s1.2.2.2.2.1 (
                J14 ((s10.2.1 == (1 : Int)), ())) (
                J14 (false, ()))) (
              J14 (false, ()))) fun (s15 : Bool × Unit) =>
          sif s15.1 (
            callT Try.prog 72 #[(.slice a0.a a0.len a0.cap), (.int .i64 s1.1), (.int .i64 s1.2.1)] (.one (.one .bool)) fun (x16 : Bool) =>
            sif x16 (
              K ()) (
              J12 ())) (
            J12 ())) fun (s13 : Unit) =>
        join (S := Bool × Unit) (fun J17 =>
          drew <|
          sif (decide (s1.1 > (0 : Int))) (
            ix a0.a a0.len (IntKind.wrap .i64 (s1.1 - (1 : Int))) fun p19 =>
            ld (.int .i64) (p19.add (scaled (Int.toNat (IntKind.wrap .i64 (s1.1 - (1 : Int)))) 1)) fun (x20 : Int) =>
            ix a0.a a0.len s10.1 fun p21 =>
            ld (.int .i64) (p21.add (scaled (Int.toNat s10.1) 1)) fun (x22 : Int) =>
            callT Try.prog 73 #[(.int .i64 x20), (.int .i64 x22)] (.one (.one .bool)) fun (x23 : Bool) =>
            J17 ((!x23), ())) (
            J17 (false, ()))) fun (s18 : Bool × Unit) =>
        sif s18.1 (
          callT Try.prog 74 #[(.slice a0.a a0.len a0.cap), (.int .i64 s1.1), (.int .i64 s1.2.1), (.int .i64 s10.1)] (.one (.one (.int .i64))) fun (x24 : Int) =>
          again2 (x24, s1.2.1, s6.1, s1.2.2.2.1, s1.2.2.2.2.1, ())) (
          callT Try.prog 75 #[(.slice a0.a a0.len a0.cap), (.int .i64 s1.1), (.int .i64 s1.2.1), (.int .i64 s10.1)] (.tup [(.one (.int .i64)), (.one .bool)]) fun (x25 : (Int × Bool × Unit)) =>
          chk ((8 : Int) ≠ 0) <|
          sif (decide ((IntKind.wrap .i64 (x25.1 - s1.1)) < (IntKind.wrap .i64 (s1.2.1 - x25.1)))) (
            callT Try.prog 57 #[(.slice a0.a a0.len a0.cap), (.int .i64 s1.1), (.int .i64 x25.1), (.int .i64 s6.1)] (.tup []) fun (x26 : (Unit)) =>
            again2 ((IntKind.wrap .i64 (x25.1 + (1 : Int))), s1.2.1, s6.1, (decide ((IntKind.wrap .i64 (x25.1 - s1.1)) ≥ (IntKind.wrap .i64 (Int.tdiv (IntKind.wrap .i64 (s1.2.1 - s1.1)) (8 : Int))))), x25.2.1, ())) (
            callT Try.prog 57 #[(.slice a0.a a0.len a0.cap), (.int .i64 (IntKind.wrap .i64 (x25.1 + (1 : Int)))), (.int .i64 s1.2.1), (.int .i64 s6.1)] (.tup []) fun (x27 : (Unit)) =>
            again2 (s1.1, x25.1, s6.1, (decide ((IntKind.wrap .i64 (s1.2.1 - x25.1)) ≥ (IntKind.wrap .i64 (Int.tdiv (IntKind.wrap .i64 (s1.2.1 - s1.1)) (8 : Int))))), x25.2.1, ())))))) (a1, a2, a3, true, true, ())
noncomputable def h57 : Hint := (.seq none (.region [] (.ops 1 .done)) (.seq none (.region [] (.ops 1 .done)) (.block (.loop 21778071482940061661655974875633165532942 [(1, (.one (.int .i64))), (2, (.one (.int .i64))), (3, (.one (.int .i64))), (8, (.one .bool)), (9, (.one .bool))] (.block (.seq none (.region [] (.ops 4 .done)) (.seq none (.seq none (.region [] (.ops 2 .done)) (.cond none (.seq none (.region [] (.ops 4 .done)) .leaf) .leaf)) (.seq none (.seq none (.region [] (.ops 2 .done)) (.cond none (.seq none (.region [] (.ops 4 .done)) .leaf) .leaf)) (.seq (some (4380866641928, [(3, (.one (.int .i64)))])) (.seq none (.region [] (.ops 2 .done)) (.cond none (.seq none (.region [] (.ops 4 .done)) (.region [] (.ops 3 .done))) .leaf)) (.seq none (.region [] (.ops 9 .done)) (.seq (some (2305280059260278784, [(11, (.one (.int .i64))), (12, (.one (.int .i64)))])) (.seq none (.region [] (.ops 2 .done)) (.cond none (.seq none (.region [] (.ops 4 .done)) (.seq none (.region [] (.ops 7 .done)) (.region [] (.ops 1 .done)))) .leaf)) (.seq (some (9442427122730076733440, [])) (.seq (some (587989967349491957760, [(68, (.one .bool))])) (.region [] (.ops 2 (.split 62 (.ops 3 (.split 65 (.ops 3 .done) (.skips 2 (.ops 1 .done)))) (.skips 1 (.ops 2 (.skips 2 (.ops 1 .done))))))) (.cond none (.seq none (.region [] (.ops 4 .done)) (.cond none .leaf .leaf)) .leaf)) (.seq none (.seq (some (309475565088379329434353664, [(87, (.one .bool))])) (.region [0, 1, 2, 3, 4, 5, 6, 7, 8, 9, 10, 11, 12, 13, 14] (.ops 3 (.split 75 (.ops 12 .done) (.skips 11 (.ops 1 .done))))) (.cond none (.seq none (.region [] (.ops 6 .done)) (.seq none (.region [] (.ops 2 .done)) .leaf)) .leaf)) (.seq none (.region [] (.ops 10 .done)) (.seq none (.region [] (.ops 2 .done)) (.seq none (.region [] (.ops 8 .done)) (.seq none (.region [] (.ops 3 .done)) (.seq none (.region [] (.ops 3 .done)) (.cond none (.seq none (.region [] (.ops 4 .done)) (.seq none (.region [] (.ops 5 .done)) (.region [] (.ops 3 .done)))) (.seq none (.region [] (.ops 4 .done)) (.seq none (.region [] (.ops 6 .done)) (.region [] (.ops 2 .done)))))))))))))))))))))))
theorem F57_tie (a0 : Sl) (a1 : Int) (a2 : Int) (a3 : Int) (K : Unit → World → Prop) : vcgF tab Try.prog Try.f57 h57 [(.slice a0.a a0.len a0.cap), (.int .i64 a1), (.int .i64 a2), (.int .i64 a3)] (.tup []) K = F57 a0 a1 a2 a3 K := by kernel_rfl
theorem F57_calls {a0 : Sl} {a1 : Int} {a2 : Int} {a3 : Int} {K : Unit → World → Prop} {w : World} (h : F57 a0 a1 a2 a3 K w) : callT Try.prog 57 #[(.slice a0.a a0.len a0.cap), (.int .i64 a1), (.int .i64 a2), (.int .i64 a3)] (.tup []) K w :=
  vcgF_sound tabOk Try.func57 h57 [(.slice a0.a a0.len a0.cap), (.int .i64 a1), (.int .i64 a2), (.int .i64 a3)] (.tup []) K w (Eq.mpr (congrFun (F57_tie a0 a1 a2 a3 K) w) h)

/-- math/bits.Len -/
noncomputable def F58 (a0 : Int) (K : Int → World → Prop) : World → Prop :=
  sif false (
    callT Try.prog 76 #[(.int .u32 (IntKind.wrap .u32 a0))] (.one (.one (.int .i64))) fun (x1 : Int) =>
    K x1) (
    callT Try.prog 77 #[(.int .u64 a0)] (.one (.one (.int .i64))) fun (x2 : Int) =>
    K x2)
noncomputable def h58 : Hint := (.seq none (.region [] (.ops 1 .done)) (.seq none (.cond none (.seq none (.region [] (.ops 4 .done)) .leaf) .leaf) (.seq none (.region [] (.ops 3 .done)) .leaf)))
theorem F58_tie (a0 : Int) (K : Int → World → Prop) : vcgF tab Try.prog Try.f58 h58 [(.int .u64 a0)] (.one (.one (.int .i64))) K = F58 a0 K := by kernel_rfl
theorem F58_calls {a0 : Int} {K : Int → World → Prop} {w : World} (h : F58 a0 K w) : callT Try.prog 58 #[(.int .u64 a0)] (.one (.one (.int .i64))) K w :=
  vcgF_sound tabOk Try.func58 h58 [(.int .u64 a0)] (.one (.one (.int .i64))) K w (Eq.mpr (congrFun (F58_tie a0 K) w) h)

/-- slices.Concat[[]int,int] -/
noncomputable def F59 (a0 : Sl) (K : Sl → World → Prop) : World → Prop :=
  join (S := Int × Unit) (fun J1 =>
    sloop (S := Int × Int × Unit) (fun (s3 : Int × Int × Unit) again4 =>
      sif (decide (s3.2.1 < ((a0.len : Nat) : Int))) (
        join (S := Int × Unit) (fun J5 =>
          ix a0.a a0.len s3.2.1 fun p7 =>
          ld (.sl) (p7.add (scaled (Int.toNat s3.2.1) 1)) fun (x8 : Sl) =>
          sif (decide ((IntKind.wrap .i64 (s3.1 + ((x8.len : Nat) : Int))) < (0 : Int))) (
            fun _ => False) (
            J5 ((IntKind.wrap .i64 (s3.1 + ((x8.len : Nat) : Int))), ()))) fun (s6 : Int × Unit) =>
        again4 (s6.1, (IntKind.wrap .i64 (s3.2.1 + (1 : Int))), ())) (
        J1 (s3.1, ()))) ((0 : Int), (0 : Int), ())) fun (s2 : Int × Unit) =>
  callT Try.prog 78 #[(.slice none 0 0), (.int .i64 s2.1)] (.one (.one .sl)) fun (x9 : Sl) =>
  join (S := Sl × Unit) (fun J10 =>
    sloop (S := Sl × Int × Unit) (fun (s12 : Sl × Int × Unit) again13 =>
      sif (decide (s12.2.1 < ((a0.len : Nat) : Int))) (
        ix a0.a a0.len s12.2.1 fun p14 =>
        ld (.sl) (p14.add (scaled (Int.toNat s12.2.1) 1)) fun (x15 : Sl) =>
        rawT Try.prog (.one (.one .sl)) (Builtin.append_ #[23, 23] 23 #[(.slice s12.1.a s12.1.len s12.1.cap), (.slice x15.a x15.len x15.cap)]) fun (x16 : Sl) =>
        again13 (x16, (IntKind.wrap .i64 (s12.2.1 + (1 : Int))), ())) (
        J10 (s12.1, ()))) (x9, (0 : Int), ())) fun (s11 : Sl × Unit) =>
  K s11.1
noncomputable def h59 : Hint := (.seq none (.region [] (.ops 1 .done)) (.seq none (.region [] (.ops 1 .done)) (.seq (some (8388136, [(3, (.one (.int .i64)))])) (.seq none (.region [] (.ops 3 .done)) (.block (.loop 8386600 [(3, (.one (.int .i64))), (11, (.one (.int .i64)))] (.seq none (.region [] (.ops 1 .done)) (.seq none (.cond none .leaf .leaf) (.seq (some (4186152, [(3, (.one (.int .i64)))])) (.block (.seq none (.region [] (.ops 3 .done)) (.seq none (.region [] (.ops 5 .done)) (.seq none (.region [] (.ops 2 .done)) (.cond none (.region [] (.ops 2 .done)) .leaf))))) (.region [] (.ops 2 .done)))))))) (.seq none (.region [] (.ops 3 .done)) (.seq (some (34326184256, [(6, (.one .sl))])) (.seq none (.region [] (.ops 3 .done)) (.block (.loop 34225520960 [(6, (.one .sl)), (27, (.one (.int .i64)))] (.seq none (.region [] (.ops 1 .done)) (.seq none (.cond none .leaf .leaf) (.seq none (.block (.seq none (.region [] (.ops 3 .done)) (.region [] (.ops 4 .done)))) (.region [] (.ops 2 .done)))))))) (.seq none (.region [] (.ops 2 .done)) .leaf))))))
theorem F59_tie (a0 : Sl) (K : Sl → World → Prop) : vcgF tab Try.prog Try.f59 h59 [(.slice a0.a a0.len a0.cap)] (.one (.one .sl)) K = F59 a0 K := by kernel_rfl
theorem F59_calls {a0 : Sl} {K : Sl → World → Prop} {w : World} (h : F59 a0 K w) : callT Try.prog 59 #[(.slice a0.a a0.len a0.cap)] (.one (.one .sl)) K w :=
  vcgF_sound tabOk Try.func59 h59 [(.slice a0.a a0.len a0.cap)] (.one (.one .sl)) K w (Eq.mpr (congrFun (F59_tie a0 K) w) h)

/-- copyist/copyistref11.refuse -/
noncomputable def F60 (a0 : Int) (a1 : Int) (K : Int → World → Prop) : World → Prop :=
  callT Try.prog 54 #[(.int .i64 a0)] (.one (.one .bool)) fun (x1 : Bool) =>
  sif (!x1) (
    K (110 : Int)) (
    callT Try.prog 66 #[(.int .i64 a0)] (.one (.one .bool)) fun (x2 : Bool) =>
    sif x2 (
      K (111 : Int)) (
      join (S := Bool × Unit) (fun J3 =>
        sif (a1 != (0 : Int)) (
          J3 ((a1 != (1 : Int)), ())) (
          J3 (false, ()))) fun (s4 : Bool × Unit) =>
      sif s4.1 (
        K (1 : Int)) (
        K (0 : Int))))
noncomputable def h60 : Hint := (.seq none (.region [] (.ops 1 .done)) (.seq none (.seq none (.region [] (.ops 3 .done)) (.cond none (.seq none (.region [] (.ops 1 .done)) .leaf) .leaf)) (.seq none (.seq none (.region [] (.ops 2 .done)) (.cond none (.seq none (.region [] (.ops 1 .done)) .leaf) .leaf)) (.seq none (.seq (some (64512, [(15, (.one .bool))])) (.region [] (.ops 3 (.split 12 (.ops 3 .done) (.skips 2 (.ops 1 .done))))) (.cond none (.seq none (.region [] (.ops 1 .done)) .leaf) .leaf)) (.seq none (.region [] (.ops 1 .done)) .leaf)))))
theorem F60_tie (a0 : Int) (a1 : Int) (K : Int → World → Prop) : vcgF tab Try.prog Try.f60 h60 [(.int .i64 a0), (.int .i64 a1)] (.one (.one (.int .i64))) K = F60 a0 a1 K := by kernel_rfl
theorem F60_calls {a0 : Int} {a1 : Int} {K : Int → World → Prop} {w : World} (h : F60 a0 a1 K w) : callT Try.prog 60 #[(.int .i64 a0), (.int .i64 a1)] (.one (.one (.int .i64))) K w :=
  vcgF_sound tabOk Try.func60 h60 [(.int .i64 a0), (.int .i64 a1)] (.one (.one (.int .i64))) K w (Eq.mpr (congrFun (F60_tie a0 a1 K) w) h)

/-- copyist/copyistref11.Written -/
noncomputable def F61 (a0 : Int) (a1 : Sl) (K : (Int × Sl × Unit) → World → Prop) : World → Prop :=
  newO (.cells #[(.int .i64 (0 : Int)), (.slice none 0 0)] 85) fun b1 =>
  rawT Try.prog (.one (.one .sl)) (Builtin.append_ #[23, 23] 23 #[(.slice none 0 0), (.slice a1.a a1.len a1.cap)]) fun (x2 : Sl) =>
  join (S := Sl × Unit) (fun J3 =>
    join (S := Bool × Unit) (fun J5 =>
      sif (a0 == (1 : Int)) (
        callT Try.prog 79 #[(.slice x2.a x2.len x2.cap)] (.one (.one .sl)) fun (x7 : Sl) =>
        J5 ((((x7.len : Nat) : Int) == (0 : Int)), ())) (
        J5 (false, ()))) fun (s6 : Bool × Unit) =>
    sif s6.1 (
      newO (.cells #[(.int .i64 (10 : Int))] 3) fun b8 =>
      rawT Try.prog (.one (.one .sl)) (Builtin.append_ #[23, 23] 23 #[(.slice x2.a x2.len x2.cap), (.slice (some (at0 b8)) 1 1)]) fun (x9 : Sl) =>
      J3 (x9, ())) (
      J3 (x2, ()))) fun (s4 : Sl × Unit) =>
  aggSt (at0 b1) (.agg #[(.int .i64 a0), (.slice s4.1.a s4.1.len s4.1.cap)]) 2 <|
  lds c85 (at0 b1) fun (x10 : (Int × Sl × Unit)) =>
  K x10
noncomputable def h61 : Hint := (.seq none (.region [] (.ops 1 .done)) (.seq none (.region [] (.ops 3 .done)) (.seq (some (524064, [(5, (.one .sl))])) (.seq (some (65280, [(15, (.one .bool))])) (.region [] (.ops 3 (.split 10 (.ops 5 .done) (.skips 4 (.ops 1 .done))))) (.cond none (.region [] (.ops 4 .done)) .leaf)) (.seq none (.region [] (.ops 4 .done)) .leaf))))
theorem F61_tie (a0 : Int) (a1 : Sl) (K : (Int × Sl × Unit) → World → Prop) : vcgF tab Try.prog Try.f61 h61 [(.int .i64 a0), (.slice a1.a a1.len a1.cap)] (.one (.agg c85)) K = F61 a0 a1 K := by kernel_rfl
theorem F61_calls {a0 : Int} {a1 : Sl} {K : (Int × Sl × Unit) → World → Prop} {w : World} (h : F61 a0 a1 K w) : callT Try.prog 61 #[(.int .i64 a0), (.slice a1.a a1.len a1.cap)] (.one (.agg c85)) K w :=
  vcgF_sound tabOk Try.func61 h61 [(.int .i64 a0), (.slice a1.a a1.len a1.cap)] (.one (.agg c85)) K w (Eq.mpr (congrFun (F61_tie a0 a1 K) w) h)

/-- (*copyist/copyistref11.Bank).take -/
noncomputable def F62 (a0 : Option Addr) (a1 : Int) (a2 : (Int × Sl × Unit)) (a3 : Int) (K : Int → World → Prop) : World → Prop :=
  newO (.cells #[(.int .i64 a2.1), (.slice a2.2.1.a a2.2.1.len a2.2.1.cap)] 85) fun b1 =>
  join (S := Int × Unit) (fun J2 =>
    callT Try.prog 55 #[(.int .i64 a1)] (.one (.one .bool)) fun (x4 : Bool) =>
    sif x4 (
      J2 (a3, ())) (
      J2 (a1, ()))) fun (s3 : Int × Unit) =>
  lds c85 (at0 b1) fun (x5 : (Int × Sl × Unit)) =>
  callT Try.prog 63 #[(.pointer a0), (.int .i64 s3.1), (.agg (Cells.vals c85 x5).toArray)] (.tup [(.one (.int .i64)), (.agg c85)]) fun (x6 : (Int × (Int × Sl × Unit) × Unit)) =>
  newO (.cells #[(.int .i64 (0 : Int)), (.slice none 0 0)] 85) fun b7 =>
  aggSt (at0 b7) (.agg (Cells.vals c85 x6.2.1).toArray) 2 <|
  ld (.sl) (⟨b7, 1, none⟩ : Addr) fun (x8 : Sl) =>
  sif (decide (((x8.len : Nat) : Int) > (140000 : Int))) (
    K (3 : Int)) (
    join (S := Unit) (fun J9 =>
      join (S := Bool × Unit) (fun J11 =>
        sif (x6.1 == (49 : Int)) (
          J11 ((a3 == (49 : Int)), ())) (
          J11 (false, ()))) fun (s12 : Bool × Unit) =>
      sif s12.1 (
        sloop (S := Int × Unit) (fun (s13 : Int × Unit) again14 =>
          sif (decide (s13.1 > (49 : Int))) (
            drew <|
            nn a0 fun p15 =>
            chk (0 ≤ (IntKind.wrap .i32 (s13.1 - (1 : Int))) ∧ (IntKind.wrap .i32 (s13.1 - (1 : Int))) < ((128 : Nat) : Int)) <|
            lds c85 (p15.add (scaled (Int.toNat (IntKind.wrap .i32 (s13.1 - (1 : Int)))) 2)) fun (x16 : (Int × Sl × Unit)) =>
            nn a0 fun p17 =>
            chk (0 ≤ s13.1 ∧ s13.1 < ((128 : Nat) : Int)) <|
            aggSt (p17.add (scaled (Int.toNat s13.1) 2)) (.agg (Cells.vals c85 x16).toArray) 2 <|
            again14 ((IntKind.wrap .i32 (s13.1 - (1 : Int))), ())) (
            J9 ())) ((57 : Int), ())) (
        J9 ())) fun (s10 : Unit) =>
    drew <|
    lds c85 (at0 b7) fun (x18 : (Int × Sl × Unit)) =>
    nn a0 fun p19 =>
    chk (0 ≤ x6.1 ∧ x6.1 < ((128 : Nat) : Int)) <|
    aggSt (p19.add (scaled (Int.toNat x6.1) 2)) (.agg (Cells.vals c85 x18).toArray) 2 <|
    nn a0 fun p20 =>
    stC (p20.add 256) (.int .i64 x6.1) <|
    K (0 : Int))
noncomputable def h62 : Hint := (.seq none (.region [] (.ops 2 .done)) (.seq (some (28674, [(1, (.one (.int .i64)))])) (.seq none (.region [] (.ops 2 .done)) (.cond none (.region [] (.ops 2 .done)) .leaf)) (.seq none (.region [] (.ops 10 .done)) (.seq none (.seq none (.region [] (.ops 4 .done)) (.cond none (.seq none (.region [] (.ops 1 .done)) .leaf) .leaf)) (.seq (some (281474909603840, [])) (.seq (some (4227858432, [(31, (.one .bool))])) (.region [] (.ops 3 (.split 28 (.ops 3 .done) (.skips 2 (.ops 1 .done))))) (.cond none (.seq none (.region [] (.ops 1 .done)) (.block (.loop 281470681745408 [(11, (.one (.int .i32)))] (.seq none (.seq none (.region [] (.ops 2 .done)) (.cond none .leaf .leaf)) (.seq none (.block (.region [0, 1, 2, 3, 4, 5, 6, 7, 8, 9, 10, 11, 12] (.ops 13 .done))) (.region [] (.ops 3 .done))))))) .leaf)) (.seq none (.region [0, 1, 2, 3, 4, 5, 6] (.ops 7 .done)) (.seq none (.region [] (.ops 5 .done)) (.seq none (.region [] (.ops 1 .done)) .leaf))))))))
theorem F62_tie (a0 : Option Addr) (a1 : Int) (a2 : (Int × Sl × Unit)) (a3 : Int) (K : Int → World → Prop) : vcgF tab Try.prog Try.f62 h62 [(.pointer a0), (.int .i64 a1), (.agg (Cells.vals c85 a2).toArray), (.int .i64 a3)] (.one (.one (.int .i64))) K = F62 a0 a1 a2 a3 K := by kernel_rfl
theorem F62_calls {a0 : Option Addr} {a1 : Int} {a2 : (Int × Sl × Unit)} {a3 : Int} {K : Int → World → Prop} {w : World} (h : F62 a0 a1 a2 a3 K w) : callT Try.prog 62 #[(.pointer a0), (.int .i64 a1), (.agg (Cells.vals c85 a2).toArray), (.int .i64 a3)] (.one (.one (.int .i64))) K w :=
  vcgF_sound tabOk Try.func62 h62 [(.pointer a0), (.int .i64 a1), (.agg (Cells.vals c85 a2).toArray), (.int .i64 a3)] (.one (.one (.int .i64))) K w (Eq.mpr (congrFun (F62_tie a0 a1 a2 a3 K) w) h)

/-- (*copyist/copyistref11.Bank).own -/
noncomputable def F63 (a0 : Option Addr) (a1 : Int) (a2 : (Int × Sl × Unit)) (K : (Int × (Int × Sl × Unit) × Unit) → World → Prop) : World → Prop :=
  newO (.cells #[(.int .i64 a2.1), (.slice a2.2.1.a a2.2.1.len a2.2.1.cap)] 85) fun b1 =>
  newO (.cells #[(.int .i64 (0 : Int)), (.slice none 0 0)] 85) fun b2 =>
  callT Try.prog 56 #[(.int .i64 a1)] (.one (.one .bool)) fun (x3 : Bool) =>
  sif x3 (
    drew <|
    nn a0 fun p4 =>
    chk (0 ≤ (IntKind.wrap .i64 (a1 + (32 : Int))) ∧ (IntKind.wrap .i64 (a1 + (32 : Int))) < ((128 : Nat) : Int)) <|
    lds c85 (p4.add (scaled (Int.toNat (IntKind.wrap .i64 (a1 + (32 : Int)))) 2)) fun (x5 : (Int × Sl × Unit)) =>
    lds c85 (at0 b1) fun (x6 : (Int × Sl × Unit)) =>
    callT Try.prog 80 #[(.agg (Cells.vals c85 x5).toArray), (.agg (Cells.vals c85 x6).toArray)] (.one (.agg c85)) fun (x7 : (Int × Sl × Unit)) =>
    aggSt (at0 b2) (.agg (Cells.vals c85 x7).toArray) 2 <|
    lds c85 (at0 b2) fun (x8 : (Int × Sl × Unit)) =>
    K ((IntKind.wrap .i64 (a1 + (32 : Int))), x8, ())) (
    drew <|
    lds c85 (at0 b1) fun (x9 : (Int × Sl × Unit)) =>
    aggSt (at0 b2) (.agg (Cells.vals c85 x9).toArray) 2 <|
    lds c85 (at0 b2) fun (x10 : (Int × Sl × Unit)) =>
    K (a1, x10, ()))
noncomputable def h63 : Hint := (.seq none (.region [] (.ops 3 .done)) (.seq none (.seq none (.region [] (.ops 2 .done)) (.cond none (.seq none (.region [] (.ops 3 .done)) (.seq none (.region [0, 1, 2, 3, 4, 5, 6, 7, 8, 9, 10] (.ops 11 .done)) .leaf)) .leaf)) (.seq none (.region [0, 1, 2, 3] (.ops 4 .done)) .leaf)))
theorem F63_tie (a0 : Option Addr) (a1 : Int) (a2 : (Int × Sl × Unit)) (K : (Int × (Int × Sl × Unit) × Unit) → World → Prop) : vcgF tab Try.prog Try.f63 h63 [(.pointer a0), (.int .i64 a1), (.agg (Cells.vals c85 a2).toArray)] (.tup [(.one (.int .i64)), (.agg c85)]) K = F63 a0 a1 a2 K := by kernel_rfl
theorem F63_calls {a0 : Option Addr} {a1 : Int} {a2 : (Int × Sl × Unit)} {K : (Int × (Int × Sl × Unit) × Unit) → World → Prop} {w : World} (h : F63 a0 a1 a2 K w) : callT Try.prog 63 #[(.pointer a0), (.int .i64 a1), (.agg (Cells.vals c85 a2).toArray)] (.tup [(.one (.int .i64)), (.agg c85)]) K w :=
  vcgF_sound tabOk Try.func63 h63 [(.pointer a0), (.int .i64 a1), (.agg (Cells.vals c85 a2).toArray)] (.tup [(.one (.int .i64)), (.agg c85)]) K w (Eq.mpr (congrFun (F63_tie a0 a1 a2 K) w) h)

/-- copyist/copyistref11.small -/
noncomputable def F64 (a0 : Int) (K : Bool → World → Prop) : World → Prop :=
  sif (decide (a0 ≥ (97 : Int))) (
    K (decide (a0 ≤ (122 : Int)))) (
    K false)
noncomputable def h64 : Hint := (.seq none (.region [] (.ops 1 .done)) (.seq none (.region [] (.ops 3 (.split 5 (.ops 4 .done) (.skips 2 (.ops 2 .done))))) .leaf))
theorem F64_tie (a0 : Int) (K : Bool → World → Prop) : vcgF tab Try.prog Try.f64 h64 [(.int .i64 a0)] (.one (.one .bool)) K = F64 a0 K := by kernel_rfl
theorem F64_calls {a0 : Int} {K : Bool → World → Prop} {w : World} (h : F64 a0 K w) : callT Try.prog 64 #[(.int .i64 a0)] (.one (.one .bool)) K w :=
  vcgF_sound tabOk Try.func64 h64 [(.int .i64 a0)] (.one (.one .bool)) K w (Eq.mpr (congrFun (F64_tie a0 K) w) h)

/-- copyist/copyistref11.digit -/
noncomputable def F65 (a0 : Int) (K : Bool → World → Prop) : World → Prop :=
  sif (decide (a0 ≥ (48 : Int))) (
    K (decide (a0 ≤ (57 : Int)))) (
    K false)
noncomputable def h65 : Hint := (.seq none (.region [] (.ops 1 .done)) (.seq none (.region [] (.ops 3 (.split 5 (.ops 4 .done) (.skips 2 (.ops 2 .done))))) .leaf))
theorem F65_tie (a0 : Int) (K : Bool → World → Prop) : vcgF tab Try.prog Try.f65 h65 [(.int .i64 a0)] (.one (.one .bool)) K = F65 a0 K := by kernel_rfl
theorem F65_calls {a0 : Int} {K : Bool → World → Prop} {w : World} (h : F65 a0 K w) : callT Try.prog 65 #[(.int .i64 a0)] (.one (.one .bool)) K w :=
  vcgF_sound tabOk Try.func65 h65 [(.int .i64 a0)] (.one (.one .bool)) K w (Eq.mpr (congrFun (F65_tie a0 K) w) h)

/-- copyist/copyistref11.read -/
noncomputable def F66 (a0 : Int) (K : Bool → World → Prop) : World → Prop :=
  sif (a0 == (46 : Int)) (
    K true) (
    sif (a0 == (58 : Int)) (
      K true) (
      K (a0 == (47 : Int))))
noncomputable def h66 : Hint := (.seq none (.region [] (.ops 1 .done)) (.seq none (.region [] (.ops 3 (.split 5 (.skips 2 (.ops 2 (.skips 2 (.ops 2 .done)))) (.ops 4 (.split 9 (.skips 2 (.ops 2 .done)) (.ops 4 .done)))))) .leaf))
theorem F66_tie (a0 : Int) (K : Bool → World → Prop) : vcgF tab Try.prog Try.f66 h66 [(.int .i64 a0)] (.one (.one .bool)) K = F66 a0 K := by kernel_rfl
theorem F66_calls {a0 : Int} {K : Bool → World → Prop} {w : World} (h : F66 a0 K w) : callT Try.prog 66 #[(.int .i64 a0)] (.one (.one .bool)) K w :=
  vcgF_sound tabOk Try.func66 h66 [(.int .i64 a0)] (.one (.one .bool)) K w (Eq.mpr (congrFun (F66_tie a0 K) w) h)

/-- slices.insertionSortOrdered[int] -/
noncomputable def F67 (a0 : Sl) (a1 : Int) (a2 : Int) (K : Unit → World → Prop) : World → Prop :=
  sloop (S := Int × Unit) (fun (s1 : Int × Unit) again2 =>
    sif (decide (s1.1 < a2)) (
      join (S := Unit) (fun J3 =>
        sloop (S := Int × Unit) (fun (s5 : Int × Unit) again6 =>
          join (S := Bool × Unit) (fun J7 =>
            drew <|
            sif (decide (s5.1 > a1)) (
              ix a0.a a0.len s5.1 fun p9 =>
              ld (.int .i64) (p9.add (scaled (Int.toNat s5.1) 1)) fun (x10 : Int) =>
              ix a0.a a0.len (IntKind.wrap .i64 (s5.1 - (1 : Int))) fun p11 =>
              ld (.int .i64) (p11.add (scaled (Int.toNat (IntKind.wrap .i64 (s5.1 - (1 : Int)))) 1)) fun (x12 : Int) =>
              callT Try.prog 73 #[(.int .i64 x10), (.int .i64 x12)] (.one (.one .bool)) fun (x13 : Bool) =>
              J7 (x13, ())) (
              J7 (false, ()))) fun (s8 : Bool × Unit) =>
          sif s8.1 (
            drew <|
            ix a0.a a0.len (IntKind.wrap .i64 (s5.1 - (1 : Int))) fun p14 =>
            ld (.int .i64) (p14.add (scaled (Int.toNat (IntKind.wrap .i64 (s5.1 - (1 : Int)))) 1)) fun (x15 : Int) =>
            ix a0.a a0.len s5.1 fun p16 =>
            ld (.int .i64) (p16.add (scaled (Int.toNat s5.1) 1)) fun (x17 : Int) =>
            ix a0.a a0.len s5.1 fun p18 =>
            stC (p18.add (scaled (Int.toNat s5.1) 1)) (.int .i64 x15) <|
            ix a0.a a0.len (IntKind.wrap .i64 (s5.1 - (1 : Int))) fun p19 =>
            stC (p19.add (scaled (Int.toNat (IntKind.wrap .i64 (s5.1 - (1 : Int)))) 1)) (.int .i64 x17) <|
            again6 ((IntKind.wrap .i64 (s5.1 - (1 : Int))), ())) (
            J3 ())) (s1.1, ())) fun (s4 : Unit) =>
      again2 ((IntKind.wrap .i64 (s1.1 + (1 : Int))), ())) (
      K ())) ((IntKind.wrap .i64 (a1 + (1 : Int))), ())
noncomputable def h67 : Hint := (.seq none (.region [] (.ops 3 .done)) (.block (.loop 562949953420480 [(6, (.one (.int .i64)))] (.seq none (.seq none (.region [] (.ops 3 .done)) (.cond none .leaf .leaf)) (.seq (some (562949953388672, [])) (.block (.seq none (.region [] (.ops 2 .done)) (.block (.loop 562949953355904 [(7, (.one (.int .i64)))] (.seq none (.seq (some (2147418112, [(30, (.one .bool))])) (.region [0, 1, 2, 3, 4, 5, 6, 7, 8, 9, 10, 11, 12, 13, 14] (.ops 4 (.split 19 (.ops 11 .done) (.skips 10 (.ops 1 .done))))) (.cond none .leaf .leaf)) (.seq none (.block (.region [0, 1, 2, 3, 4, 5, 6, 7, 8, 9, 10, 11, 12, 13, 14, 15, 16, 17] (.ops 18 .done))) (.region [] (.ops 3 .done)))))))) (.region [] (.ops 3 .done)))))))
theorem F67_tie (a0 : Sl) (a1 : Int) (a2 : Int) (K : Unit → World → Prop) : vcgF tab Try.prog Try.f67 h67 [(.slice a0.a a0.len a0.cap), (.int .i64 a1), (.int .i64 a2)] (.tup []) K = F67 a0 a1 a2 K := by kernel_rfl
theorem F67_calls {a0 : Sl} {a1 : Int} {a2 : Int} {K : Unit → World → Prop} {w : World} (h : F67 a0 a1 a2 K w) : callT Try.prog 67 #[(.slice a0.a a0.len a0.cap), (.int .i64 a1), (.int .i64 a2)] (.tup []) K w :=
  vcgF_sound tabOk Try.func67 h67 [(.slice a0.a a0.len a0.cap), (.int .i64 a1), (.int .i64 a2)] (.tup []) K w (Eq.mpr (congrFun (F67_tie a0 a1 a2 K) w) h)

/-- slices.heapSortOrdered[int] -/
noncomputable def F68 (a0 : Sl) (a1 : Int) (a2 : Int) (K : Unit → World → Prop) : World → Prop :=
  join (S := Unit) (fun J1 =>
    chk ((2 : Int) ≠ 0) <|
    sloop (S := Int × Unit) (fun (s3 : Int × Unit) again4 =>
      sif (decide (s3.1 ≥ (0 : Int))) (
        callT Try.prog 81 #[(.slice a0.a a0.len a0.cap), (.int .i64 s3.1), (.int .i64 (IntKind.wrap .i64 (a2 - a1))), (.int .i64 a1)] (.tup []) fun (x5 : (Unit)) =>
        again4 ((IntKind.wrap .i64 (s3.1 - (1 : Int))), ())) (
        J1 ())) ((IntKind.wrap .i64 (Int.tdiv (IntKind.wrap .i64 ((IntKind.wrap .i64 (a2 - a1)) - (1 : Int))) (2 : Int))), ())) fun (s2 : Unit) =>
  sloop (S := Int × Unit) (fun (s6 : Int × Unit) again7 =>
    sif (decide (s6.1 ≥ (0 : Int))) (
      drew <|
      ix a0.a a0.len (IntKind.wrap .i64 (a1 + s6.1)) fun p8 =>
      ld (.int .i64) (p8.add (scaled (Int.toNat (IntKind.wrap .i64 (a1 + s6.1))) 1)) fun (x9 : Int) =>
      ix a0.a a0.len a1 fun p10 =>
      ld (.int .i64) (p10.add (scaled (Int.toNat a1) 1)) fun (x11 : Int) =>
      ix a0.a a0.len a1 fun p12 =>
      stC (p12.add (scaled (Int.toNat a1) 1)) (.int .i64 x9) <|
      ix a0.a a0.len (IntKind.wrap .i64 (a1 + s6.1)) fun p13 =>
      stC (p13.add (scaled (Int.toNat (IntKind.wrap .i64 (a1 + s6.1))) 1)) (.int .i64 x11) <|
      callT Try.prog 81 #[(.slice a0.a a0.len a0.cap), (.int .i64 (0 : Int)), (.int .i64 s6.1), (.int .i64 a1)] (.tup []) fun (x14 : (Unit)) =>
      again7 ((IntKind.wrap .i64 (s6.1 - (1 : Int))), ())) (
      K ())) ((IntKind.wrap .i64 ((IntKind.wrap .i64 (a2 - a1)) - (1 : Int))), ())
noncomputable def h68 : Hint := (.seq none (.region [] (.ops 2 .done)) (.seq none (.region [] (.ops 1 .done)) (.seq none (.region [] (.ops 4 .done)) (.seq (some (134185472, [])) (.seq none (.region [] (.ops 4 .done)) (.block (.loop 133956096 [(9, (.one (.int .i64)))] (.seq none (.seq none (.region [] (.ops 2 .done)) (.cond none .leaf .leaf)) (.seq none (.block (.region [] (.ops 5 .done))) (.region [] (.ops 3 .done))))))) (.seq none (.region [] (.ops 3 .done)) (.block (.loop 72057593501058048 [(10, (.one (.int .i64)))] (.seq none (.seq none (.region [] (.ops 2 .done)) (.cond none .leaf .leaf)) (.seq none (.block (.seq none (.region [0, 1, 2, 3, 4, 5, 6, 7, 8, 9, 10, 11, 12, 13, 14, 15, 16, 17, 18, 19] (.ops 20 .done)) (.region [] (.ops 5 .done)))) (.region [] (.ops 3 .done)))))))))))
theorem F68_tie (a0 : Sl) (a1 : Int) (a2 : Int) (K : Unit → World → Prop) : vcgF tab Try.prog Try.f68 h68 [(.slice a0.a a0.len a0.cap), (.int .i64 a1), (.int .i64 a2)] (.tup []) K = F68 a0 a1 a2 K := by kernel_rfl
theorem F68_calls {a0 : Sl} {a1 : Int} {a2 : Int} {K : Unit → World → Prop} {w : World} (h : F68 a0 a1 a2 K w) : callT Try.prog 68 #[(.slice a0.a a0.len a0.cap), (.int .i64 a1), (.int .i64 a2)] (.tup []) K w :=
  vcgF_sound tabOk Try.func68 h68 [(.slice a0.a a0.len a0.cap), (.int .i64 a1), (.int .i64 a2)] (.tup []) K w (Eq.mpr (congrFun (F68_tie a0 a1 a2 K) w) h)

/-- slices.breakPatternsOrdered[int] -/
noncomputable def F69 (a0 : Sl) (a1 : Int) (a2 : Int) (K : Unit → World → Prop) : World → Prop :=
  sif (decide ((IntKind.wrap .i64 (a2 - a1)) ≥ (8 : Int))) (
    newO (.cells #[(.int .u64 (0 : Int))] 115) fun b1 =>
    stC (at0 b1) (.int .u64 (IntKind.wrap .u64 (IntKind.wrap .i64 (a2 - a1)))) <|
    callT Try.prog 82 #[(.int .i64 (IntKind.wrap .i64 (a2 - a1)))] (.one (.one (.int .u64))) fun (x2 : Int) =>
    chk ((4 : Int) ≠ 0) <|
    sloop (S := Int × Unit) (fun (s3 : Int × Unit) again4 =>
      chk ((4 : Int) ≠ 0) <|
      sif (decide (s3.1 ≤ (IntKind.wrap .i64 ((IntKind.wrap .i64 (a1 + (IntKind.wrap .i64 ((IntKind.wrap .i64 (Int.tdiv (IntKind.wrap .i64 (a2 - a1)) (4 : Int))) * (2 : Int))))) + (1 : Int))))) (
        callT Try.prog 83 #[(.pointer (some (at0 b1)))] (.one (.one (.int .u64))) fun (x5 : Int) =>
        join (S := Int × Unit) (fun J6 =>
          sif (decide ((IntKind.wrap .i64 (IntKind.wrap .u64 ((BitVec.toNat (BitVec.ofInt (IntKind.bits .u64) x5 &&& BitVec.ofInt (IntKind.bits .u64) (IntKind.wrap .u64 (x2 - (1 : Int)))) : Nat) : Int))) ≥ (IntKind.wrap .i64 (a2 - a1)))) (
            J6 ((IntKind.wrap .i64 ((IntKind.wrap .i64 (IntKind.wrap .u64 ((BitVec.toNat (BitVec.ofInt (IntKind.bits .u64) x5 &&& BitVec.ofInt (IntKind.bits .u64) (IntKind.wrap .u64 (x2 - (1 : Int)))) : Nat) : Int))) - (IntKind.wrap .i64 (a2 - a1)))), ())) (
            J6 ((IntKind.wrap .i64 (IntKind.wrap .u64 ((BitVec.toNat (BitVec.ofInt (IntKind.bits .u64) x5 &&& BitVec.ofInt (IntKind.bits .u64) (IntKind.wrap .u64 (x2 - (1 : Int)))) : Nat) : Int))), ()))) fun (s7 : Int × Unit) =>
        drew <|
        ix a0.a a0.len (IntKind.wrap .i64 (a1 + s7.1)) fun p8 =>
        ld (.int .i64) (p8.add (scaled (Int.toNat (IntKind.wrap .i64 (a1 + s7.1))) 1)) fun (x9 : Int) =>
        ix a0.a a0.len s3.1 fun p10 =>
        ld (.int .i64) (p10.add (scaled (Int.toNat s3.1) 1)) fun (x11 : Int) =>
        ix a0.a a0.len s3.1 fun p12 =>
        stC (p12.add (scaled (Int.toNat s3.1) 1)) (.int .i64 x9) <|
        ix a0.a a0.len (IntKind.wrap .i64 (a1 + s7.1)) fun p13 =>
        stC (p13.add (scaled (Int.toNat (IntKind.wrap .i64 (a1 + s7.1))) 1)) (.int .i64 x11) <|
        again4 ((IntKind.wrap .i64 (s3.1 + (1 : Int))), ())) (
        K ())) ((IntKind.wrap .i64 ((IntKind.wrap .i64 (a1 + (IntKind.wrap .i64 ((IntKind.wrap .i64 (Int.tdiv (IntKind.wrap .i64 (a2 - a1)) (4 : Int))) * (2 : Int))))) - (1 : Int))), ())) (
    K ())
noncomputable def h69 : Hint := (.seq none (.region [] (.ops 4 .done)) (.seq none (.region [] (.ops 2 .done)) (.cond none (.seq none (.region [] (.ops 4 .done)) (.seq none (.region [] (.ops 3 .done)) (.seq none (.region [] (.ops 7 .done)) (.block (.loop 36893488147351995904 [(9, (.one (.int .i64)))] (.seq none (.seq none (.region [] (.ops 8 .done)) (.cond none .leaf .leaf)) (.seq none (.block (.seq none (.region [] (.ops 6 .done)) (.seq (some (138538465100800, [(10, (.one (.int .i64)))])) (.seq none (.region [] (.ops 3 .done)) (.cond none (.region [] (.ops 4 .done)) .leaf)) (.region [0, 1, 2, 3, 4, 5, 6, 7, 8, 9, 10, 11, 12, 13, 14, 15, 16, 17, 18, 19] (.ops 20 .done))))) (.region [] (.ops 3 .done))))))))) .leaf)))
theorem F69_tie (a0 : Sl) (a1 : Int) (a2 : Int) (K : Unit → World → Prop) : vcgF tab Try.prog Try.f69 h69 [(.slice a0.a a0.len a0.cap), (.int .i64 a1), (.int .i64 a2)] (.tup []) K = F69 a0 a1 a2 K := by kernel_rfl
theorem F69_calls {a0 : Sl} {a1 : Int} {a2 : Int} {K : Unit → World → Prop} {w : World} (h : F69 a0 a1 a2 K w) : callT Try.prog 69 #[(.slice a0.a a0.len a0.cap), (.int .i64 a1), (.int .i64 a2)] (.tup []) K w :=
  vcgF_sound tabOk Try.func69 h69 [(.slice a0.a a0.len a0.cap), (.int .i64 a1), (.int .i64 a2)] (.tup []) K w (Eq.mpr (congrFun (F69_tie a0 a1 a2 K) w) h)

/-- slices.choosePivotOrdered[int] -/
noncomputable def F70 (a0 : Sl) (a1 : Int) (a2 : Int) (K : (Int × Int × Unit) → World → Prop) : World → Prop :=
  newO (.cells #[(.int .i64 (0 : Int))] 3) fun b1 =>
  chk ((4 : Int) ≠ 0) <|
  chk ((4 : Int) ≠ 0) <|
  chk ((4 : Int) ≠ 0) <|
  join (S := Int × Unit) (fun J2 =>
    sif (decide ((IntKind.wrap .i64 (a2 - a1)) ≥ (8 : Int))) (
      join (S := Int × Int × Int × Unit) (fun J4 =>
        sif (decide ((IntKind.wrap .i64 (a2 - a1)) ≥ (50 : Int))) (
          callT Try.prog 84 #[(.slice a0.a a0.len a0.cap), (.int .i64 (IntKind.wrap .i64 (a1 + (IntKind.wrap .i64 ((IntKind.wrap .i64 (Int.tdiv (IntKind.wrap .i64 (a2 - a1)) (4 : Int))) * (1 : Int)))))), (.pointer (some (at0 b1)))] (.one (.one (.int .i64))) fun (x6 : Int) =>
          callT Try.prog 84 #[(.slice a0.a a0.len a0.cap), (.int .i64 (IntKind.wrap .i64 (a1 + (IntKind.wrap .i64 ((IntKind.wrap .i64 (Int.tdiv (IntKind.wrap .i64 (a2 - a1)) (4 : Int))) * (2 : Int)))))), (.pointer (some (at0 b1)))] (.one (.one (.int .i64))) fun (x7 : Int) =>
          callT Try.prog 84 #[(.slice a0.a a0.len a0.cap), (.int .i64 (IntKind.wrap .i64 (a1 + (IntKind.wrap .i64 ((IntKind.wrap .i64 (Int.tdiv (IntKind.wrap .i64 (a2 - a1)) (4 : Int))) * (3 : Int)))))), (.pointer (some (at0 b1)))] (.one (.one (.int .i64))) fun (x8 : Int) =>
          J4 (x6, x7, x8, ())) (
          J4 ((IntKind.wrap .i64 (a1 + (IntKind.wrap .i64 ((IntKind.wrap .i64 (Int.tdiv (IntKind.wrap .i64 (a2 - a1)) (4 : Int))) * (1 : Int))))), (IntKind.wrap .i64 (a1 + (IntKind.wrap .i64 ((IntKind.wrap .i64 (Int.tdiv (IntKind.wrap .i64 (a2 - a1)) (4 : Int))) * (2 : Int))))), (IntKind.wrap .i64 (a1 + (IntKind.wrap .i64 ((IntKind.wrap .i64 (Int.tdiv (IntKind.wrap .i64 (a2 - a1)) (4 : Int))) * (3 : Int))))), ()))) fun (s5 : Int × Int × Int × Unit) =>
      callT Try.prog 85 #[(.slice a0.a a0.len a0.cap), (.int .i64 s5.1), (.int .i64 s5.2.1), (.int .i64 s5.2.2.1), (.pointer (some (at0 b1)))] (.one (.one (.int .i64))) fun (x9 : Int) =>
      J2 (x9, ())) (
      J2 ((IntKind.wrap .i64 (a1 + (IntKind.wrap .i64 ((IntKind.wrap .i64 (Int.tdiv (IntKind.wrap .i64 (a2 - a1)) (4 : Int))) * (2 : Int))))), ()))) fun (s3 : Int × Unit) =>
  ld (.int .i64) (at0 b1) fun (x10 : Int) =>
  sif (x10 == (0 : Int)) (
    K (s3.1, (1 : Int), ())) (
    sif (x10 == (12 : Int)) (
      K (s3.1, (2 : Int), ())) (
      K (s3.1, (0 : Int), ())))
noncomputable def h70 : Hint := (.seq none (.region [] (.ops 2 .done)) (.seq none (.region [] (.ops 4 .done)) (.seq none (.region [] (.ops 1 .done)) (.seq none (.region [] (.ops 6 .done)) (.seq none (.region [] (.ops 6 .done)) (.seq none (.region [] (.ops 6 .done)) (.seq (some (562947805944832, [(11, (.one (.int .i64)))])) (.seq none (.region [] (.ops 2 .done)) (.cond none (.seq (some (17583596116992, [(10, (.one (.int .i64))), (11, (.one (.int .i64))), (12, (.one (.int .i64)))])) (.seq none (.region [] (.ops 2 .done)) (.cond none (.seq none (.region [] (.ops 4 .done)) (.seq none (.region [] (.ops 4 .done)) (.region [] (.ops 4 .done)))) .leaf)) (.region [] (.ops 6 .done))) .leaf)) (.seq none (.region [] (.ops 1 .done)) (.block (.seq none (.region [] (.ops 2 .done)) (.cond none (.seq none (.region [] (.ops 3 .done)) .leaf) (.seq none (.region [] (.ops 2 .done)) (.cond none (.seq none (.region [] (.ops 3 .done)) .leaf) (.seq none (.region [] (.ops 3 .done)) .leaf))))))))))))))
theorem F70_tie (a0 : Sl) (a1 : Int) (a2 : Int) (K : (Int × Int × Unit) → World → Prop) : vcgF tab Try.prog Try.f70 h70 [(.slice a0.a a0.len a0.cap), (.int .i64 a1), (.int .i64 a2)] (.tup [(.one (.int .i64)), (.one (.int .i64))]) K = F70 a0 a1 a2 K := by kernel_rfl
theorem F70_calls {a0 : Sl} {a1 : Int} {a2 : Int} {K : (Int × Int × Unit) → World → Prop} {w : World} (h : F70 a0 a1 a2 K w) : callT Try.prog 70 #[(.slice a0.a a0.len a0.cap), (.int .i64 a1), (.int .i64 a2)] (.tup [(.one (.int .i64)), (.one (.int .i64))]) K w :=
  vcgF_sound tabOk Try.func70 h70 [(.slice a0.a a0.len a0.cap), (.int .i64 a1), (.int .i64 a2)] (.tup [(.one (.int .i64)), (.one (.int .i64))]) K w (Eq.mpr (congrFun (F70_tie a0 a1 a2 K) w) h)

/-- slices.reverseRangeOrdered[int] -/
noncomputable def F71 (a0 : Sl) (a1 : Int) (a2 : Int) (K : Unit → World → Prop) : World → Prop :=
  sloop (S := Int × Int × Unit) (fun (s1 : Int × Int × Unit) again2 =>
    sif (decide (s1.1 < s1.2.1)) (
      drew <|
      ix a0.a a0.len s1.2.1 fun p3 =>
      ld (.int .i64) (p3.add (scaled (Int.toNat s1.2.1) 1)) fun (x4 : Int) =>
      ix a0.a a0.len s1.1 fun p5 =>
      ld (.int .i64) (p5.add (scaled (Int.toNat s1.1) 1)) fun (x6 : Int) =>
      ix a0.a a0.len s1.1 fun p7 =>
      stC (p7.add (scaled (Int.toNat s1.1) 1)) (.int .i64 x4) <|
      ix a0.a a0.len s1.2.1 fun p8 =>
      stC (p8.add (scaled (Int.toNat s1.2.1) 1)) (.int .i64 x6) <|
      again2 ((IntKind.wrap .i64 (s1.1 + (1 : Int))), (IntKind.wrap .i64 (s1.2.1 - (1 : Int))), ())) (
      K ())) (a1, (IntKind.wrap .i64 (a2 - (1 : Int))), ())
noncomputable def h71 : Hint := (.seq none (.region [] (.ops 2 .done)) (.seq none (.region [] (.ops 3 .done)) (.block (.loop 4294965440 [(6, (.one (.int .i64))), (7, (.one (.int .i64)))] (.seq none (.seq none (.region [] (.ops 3 .done)) (.cond none .leaf .leaf)) (.block (.seq none (.region [0, 1, 2, 3, 4, 5, 6, 7, 8, 9, 10, 11, 12, 13, 14, 15] (.ops 16 .done)) (.seq none (.region [] (.ops 3 .done)) (.region [] (.ops 3 .done))))))))))
theorem F71_tie (a0 : Sl) (a1 : Int) (a2 : Int) (K : Unit → World → Prop) : vcgF tab Try.prog Try.f71 h71 [(.slice a0.a a0.len a0.cap), (.int .i64 a1), (.int .i64 a2)] (.tup []) K = F71 a0 a1 a2 K := by kernel_rfl
theorem F71_calls {a0 : Sl} {a1 : Int} {a2 : Int} {K : Unit → World → Prop} {w : World} (h : F71 a0 a1 a2 K w) : callT Try.prog 71 #[(.slice a0.a a0.len a0.cap), (.int .i64 a1), (.int .i64 a2)] (.tup []) K w :=
  vcgF_sound tabOk Try.func71 h71 [(.slice a0.a a0.len a0.cap), (.int .i64 a1), (.int .i64 a2)] (.tup []) K w (Eq.mpr (congrFun (F71_tie a0 a1 a2 K) w) h)

/-- slices.partialInsertionSortOrdered[int] -/
noncomputable def F72 (a0 : Sl) (a1 : Int) (a2 : Int) (K : Bool → World → Prop) : World → Prop :=
  join (S := Unit) (fun J1 =>
    sloop (S := Int × Int × Unit) (fun (s3 : Int × Int × Unit) again4 =>
      sif (decide (s3.2.1 < (5 : Int))) (
        join (S := Int × Unit) (fun J5 =>
          join (S := Int × Unit) (fun J7 =>
            sloop (S := Int × Unit) (fun (s9 : Int × Unit) again10 =>
              join (S := Bool × Unit) (fun J11 =>
                drew <|
                sif (decide (s9.1 < a2)) (
                  ix a0.a a0.len s9.1 fun p13 =>
                  ld (.int .i64) (p13.add (scaled (Int.toNat s9.1) 1)) fun (x14 : Int) =>
                  ix a0.a a0.len (IntKind.wrap .i64 (s9.1 - (1 : Int))) fun p15 =>
                  ld (.int .i64) (p15.add (scaled (Int.toNat (IntKind.wrap .i64 (s9.1 - (1 : Int)))) 1)) fun (x16 : Int) =>
                  callT Try.prog 73 #[(.int .i64 x14), (.int .i64 x16)] (.one (.one .bool)) fun (x17 : Bool) =>
                  J11 ((!x17), ())) (
                  J11 (false, ()))) fun (s12 : Bool × Unit) =>
              sif s12.1 (
                again10 ((IntKind.wrap .i64 (s9.1 + (1 : Int))), ())) (
                J7 (s9.1, ()))) (s3.1, ())) fun (s8 : Int × Unit) =>
          sif (s8.1 == a2) (
            K true) (
            sif (decide ((IntKind.wrap .i64 (a2 - a1)) < (50 : Int))) (
              K false) (
              drew <|
              ix a0.a a0.len (IntKind.wrap .i64 (s8.1 - (1 : Int))) fun p18 =>
              ld (.int .i64) (p18.add (scaled (Int.toNat (IntKind.wrap .i64 (s8.1 - (1 : Int)))) 1)) fun (x19 : Int) =>
              ix a0.a a0.len s8.1 fun p20 =>
              ld (.int .i64) (p20.add (scaled (Int.toNat s8.1) 1)) fun (x21 : Int) =>
              ix a0.a a0.len s8.1 fun p22 =>
              stC (p22.add (scaled (Int.toNat s8.1) 1)) (.int .i64 x19) <|
              ix a0.a a0.len (IntKind.wrap .i64 (s8.1 - (1 : Int))) fun p23 =>
              stC (p23.add (scaled (Int.toNat (IntKind.wrap .i64 (s8.1 - (1 : Int)))) 1)) (.int .i64 x21) <|
              join (S := Unit) (fun J24 =>
                sif (decide ((IntKind.wrap .i64 (s8.1 - a1)) ≥ (2 : Int))) (
                  sloop (S := Int × Unit) (fun (s26 : Int × Unit) again27 =>
                    sif (decide (s26.1 ≥ (1 : Int))) (
                      drew <|
                      ix a0.a a0.len s26.1 fun p28 =>
                      ld (.int .i64) (p28.add (scaled (Int.toNat s26.1) 1)) fun (x29 : Int) =>
                      ix a0.a a0.len (IntKind.wrap .i64 (s26.1 - (1 : Int))) fun p30 =>
                      ld (.int .i64) (p30.add (scaled (Int.toNat (IntKind.wrap .i64 (s26.1 - (1 : Int)))) 1)) fun (x31 : Int) =>
                      callT Try.prog 73 #[(.int .i64 x29), (.int .i64 x31)] (.one (.one .bool)) fun (x32 : Bool) =>
                      sif (!x32) (
                        J24 ()) (
                        drew <|
                        ix a0.a a0.len (IntKind.wrap .i64 (s26.1 - (1 : Int))) fun p33 =>
                        ld (.int .i64) (p33.add (scaled (Int.toNat (IntKind.wrap .i64 (s26.1 - (1 : Int)))) 1)) fun (x34 : Int) =>
                        ix a0.a a0.len s26.1 fun p35 =>
                        ld (.int .i64) (p35.add (scaled (Int.toNat s26.1) 1)) fun (x36 : Int) =>
                        ix a0.a a0.len s26.1 fun p37 =>
                        stC (p37.add (scaled (Int.toNat s26.1) 1)) (.int .i64 x34) <|
                        ix a0.a a0.len (IntKind.wrap .i64 (s26.1 - (1 : Int))) fun p38 =>
                        stC (p38.add (scaled (Int.toNat (IntKind.wrap .i64 (s26.1 - (1 : Int)))) 1)) (.int .i64 x36) <|
                        again27 ((IntKind.wrap .i64 (s26.1 - (1 : Int))), ()))) (
                      J24 ())) ((IntKind.wrap .i64 (s8.1 - (1 : Int))), ())) (
                  J24 ())) fun (s25 : Unit) =>
              sif (decide ((IntKind.wrap .i64 (a2 - s8.1)) ≥ (2 : Int))) (
                sloop (S := Int × Unit) (fun (s39 : Int × Unit) again40 =>
                  sif (decide (s39.1 < a2)) (
                    drew <|
                    ix a0.a a0.len s39.1 fun p41 =>
                    ld (.int .i64) (p41.add (scaled (Int.toNat s39.1) 1)) fun (x42 : Int) =>
                    ix a0.a a0.len (IntKind.wrap .i64 (s39.1 - (1 : Int))) fun p43 =>
                    ld (.int .i64) (p43.add (scaled (Int.toNat (IntKind.wrap .i64 (s39.1 - (1 : Int)))) 1)) fun (x44 : Int) =>
                    callT Try.prog 73 #[(.int .i64 x42), (.int .i64 x44)] (.one (.one .bool)) fun (x45 : Bool) =>
                    sif (!x45) (
                      J5 (s8.1, ())) (
                      drew <|
                      ix a0.a a0.len (IntKind.wrap .i64 (s39.1 - (1 : Int))) fun p46 =>
                      ld (.int .i64) (p46.add (scaled (Int.toNat (IntKind.wrap .i64 (s39.1 - (1 : Int)))) 1)) fun (x47 : Int) =>
                      ix a0.a a0.len s39.1 fun p48 =>
                      ld (.int .i64) (p48.add (scaled (Int.toNat s39.1) 1)) fun (x49 : Int) =>
                      ix a0.a a0.len s39.1 fun p50 =>
                      stC (p50.add (scaled (Int.toNat s39.1) 1)) (.int .i64 x47) <|
                      ix a0.a a0.len (IntKind.wrap .i64 (s39.1 - (1 : Int))) fun p51 =>
                      stC (p51.add (scaled (Int.toNat (IntKind.wrap .i64 (s39.1 - (1 : Int)))) 1)) (.int .i64 x49) <|
                      again40 ((IntKind.wrap .i64 (s39.1 + (1 : Int))), ()))) (
                    J5 (s8.1, ()))) ((IntKind.wrap .i64 (s8.1 + (1 : Int))), ())) (
                J5 (s8.1, ()))))) fun (s6 : Int × Unit) =>
        again4 (s6.1, (IntKind.wrap .i64 (s3.2.1 + (1 : Int))), ())) (
        J1 ())) ((IntKind.wrap .i64 (a1 + (1 : Int))), (0 : Int), ())) fun (s2 : Unit) =>
  K false
noncomputable def h72 : Hint := (.seq none (.region [] (.ops 1 .done)) (.seq none (.region [] (.ops 3 .done)) (.seq (some (10889035741470030830827987437816582760384, [])) (.seq none (.region [] (.ops 1 .done)) (.block (.loop 10889035741470030830827987437816582760384 [(7, (.one (.int .i64))), (8, (.one (.int .i64)))] (.seq none (.seq none (.region [] (.ops 2 .done)) (.cond none .leaf .leaf)) (.seq (some (10889035741470030830827987437816582637248, [(7, (.one (.int .i64)))])) (.block (.seq (some (34359607424, [(7, (.one (.int .i64)))])) (.block (.loop 34359607424 [(7, (.one (.int .i64)))] (.seq none (.seq (some (8589803520, [(32, (.one .bool))])) (.region [0, 1, 2, 3, 4, 5, 6, 7, 8, 9, 10, 11, 12, 13, 14, 15] (.ops 4 (.split 20 (.ops 12 .done) (.skips 11 (.ops 1 .done))))) (.cond none .leaf .leaf)) (.block (.region [] (.ops 3 .done)))))) (.seq none (.seq none (.region [] (.ops 3 .done)) (.cond none (.seq none (.region [] (.ops 1 .done)) .leaf) .leaf)) (.seq none (.seq none (.region [] (.ops 4 .done)) (.cond none (.seq none (.region [] (.ops 1 .done)) .leaf) .leaf)) (.seq none (.region [0, 1, 2, 3, 4, 5, 6, 7, 8, 9, 10, 11, 12, 13, 14, 15, 16, 17] (.ops 18 .done)) (.seq (some (39614081256843938420620263936, [])) (.seq none (.region [] (.ops 4 .done)) (.cond none (.seq none (.region [] (.ops 3 .done)) (.block (.loop 39614081238685424723062424064 [(9, (.one (.int .i64)))] (.seq none (.seq none (.region [] (.ops 2 .done)) (.cond none .leaf .leaf)) (.seq none (.block (.seq none (.seq none (.region [0, 1, 2, 3, 4, 5, 6, 7, 8, 9, 10] (.ops 11 .done)) (.cond none .leaf .leaf)) (.region [0, 1, 2, 3, 4, 5, 6, 7, 8, 9, 10, 11, 12, 13, 14, 15, 16, 17] (.ops 18 .done)))) (.region [] (.ops 3 .done))))))) .leaf)) (.seq none (.region [] (.ops 4 .done)) (.cond none (.seq none (.region [] (.ops 3 .done)) (.block (.loop 10889035738934729630371528634823176356864 [(10, (.one (.int .i64)))] (.seq none (.seq none (.region [] (.ops 3 .done)) (.cond none .leaf .leaf)) (.seq none (.block (.seq none (.seq none (.region [0, 1, 2, 3, 4, 5, 6, 7, 8, 9, 10] (.ops 11 .done)) (.cond none .leaf .leaf)) (.region [0, 1, 2, 3, 4, 5, 6, 7, 8, 9, 10, 11, 12, 13, 14, 15, 16, 17] (.ops 18 .done)))) (.region [] (.ops 3 .done))))))) .leaf)))))))) (.region [] (.ops 3 .done))))))) (.seq none (.region [] (.ops 1 .done)) .leaf))))
theorem F72_tie (a0 : Sl) (a1 : Int) (a2 : Int) (K : Bool → World → Prop) : vcgF tab Try.prog Try.f72 h72 [(.slice a0.a a0.len a0.cap), (.int .i64 a1), (.int .i64 a2)] (.one (.one .bool)) K = F72 a0 a1 a2 K := by kernel_rfl
theorem F72_calls {a0 : Sl} {a1 : Int} {a2 : Int} {K : Bool → World → Prop} {w : World} (h : F72 a0 a1 a2 K w) : callT Try.prog 72 #[(.slice a0.a a0.len a0.cap), (.int .i64 a1), (.int .i64 a2)] (.one (.one .bool)) K w :=
  vcgF_sound tabOk Try.func72 h72 [(.slice a0.a a0.len a0.cap), (.int .i64 a1), (.int .i64 a2)] (.one (.one .bool)) K w (Eq.mpr (congrFun (F72_tie a0 a1 a2 K) w) h)

/-- cmp.Less[int] -/
noncomputable def F73 (a0 : Int) (a1 : Int) (K : Bool → World → Prop) : World → Prop :=
  callT Try.prog 86 #[(.int .i64 a0)] (.one (.one .bool)) fun (x1 : Bool) =>
  sif x1 (
    callT Try.prog 86 #[(.int .i64 a1)] (.one (.one .bool)) fun (x2 : Bool) =>
    sif (!x2) (
      K true) (
      K (decide (a0 < a1)))) (
    K (decide (a0 < a1)))
noncomputable def h73 : Hint := (.seq none (.region [] (.ops 1 .done)) (.seq none (.region [] (.ops 3 (.split 7 (.ops 5 (.split 12 (.skips 3 (.ops 2 .done)) (.ops 5 .done))) (.skips 3 (.ops 7 .done))))) .leaf))
theorem F73_tie (a0 : Int) (a1 : Int) (K : Bool → World → Prop) : vcgF tab Try.prog Try.f73 h73 [(.int .i64 a0), (.int .i64 a1)] (.one (.one .bool)) K = F73 a0 a1 K := by kernel_rfl
theorem F73_calls {a0 : Int} {a1 : Int} {K : Bool → World → Prop} {w : World} (h : F73 a0 a1 K w) : callT Try.prog 73 #[(.int .i64 a0), (.int .i64 a1)] (.one (.one .bool)) K w :=
  vcgF_sound tabOk Try.func73 h73 [(.int .i64 a0), (.int .i64 a1)] (.one (.one .bool)) K w (Eq.mpr (congrFun (F73_tie a0 a1 K) w) h)

/-- slices.partitionEqualOrdered[int] -/
noncomputable def F74 (a0 : Sl) (a1 : Int) (a2 : Int) (a3 : Int) (K : Int → World → Prop) : World → Prop :=
  drew <|
  ix a0.a a0.len a3 fun p1 =>
  ld (.int .i64) (p1.add (scaled (Int.toNat a3) 1)) fun (x2 : Int) =>
  ix a0.a a0.len a1 fun p3 =>
  ld (.int .i64) (p3.add (scaled (Int.toNat a1) 1)) fun (x4 : Int) =>
  ix a0.a a0.len a1 fun p5 =>
  stC (p5.add (scaled (Int.toNat a1) 1)) (.int .i64 x2) <|
  ix a0.a a0.len a3 fun p6 =>
  stC (p6.add (scaled (Int.toNat a3) 1)) (.int .i64 x4) <|
  join (S := Int × Unit) (fun J7 =>
    sloop (S := Int × Int × Unit) (fun (s9 : Int × Int × Unit) again10 =>
      join (S := Int × Unit) (fun J11 =>
        sloop (S := Int × Unit) (fun (s13 : Int × Unit) again14 =>
          join (S := Bool × Unit) (fun J15 =>
            drew <|
            sif (decide (s13.1 ≤ s9.2.1)) (
              ix a0.a a0.len a1 fun p17 =>
              ld (.int .i64) (p17.add (scaled (Int.toNat a1) 1)) fun (x18 : Int) =>
              ix a0.a a0.len s13.1 fun p19 =>
              ld (.int .i64) (p19.add (scaled (Int.toNat s13.1) 1)) fun (x20 : Int) =>
              callT Try.prog 73 #[(.int .i64 x18), (.int .i64 x20)] (.one (.one .bool)) fun (x21 : Bool) =>
              J15 ((!x21), ())) (
              J15 (false, ()))) fun (s16 : Bool × Unit) =>
          sif s16.1 (
            again14 ((IntKind.wrap .i64 (s13.1 + (1 : Int))), ())) (
            J11 (s13.1, ()))) (s9.1, ())) fun (s12 : Int × Unit) =>
      join (S := Int × Unit) (fun J22 =>
        sloop (S := Int × Unit) (fun (s24 : Int × Unit) again25 =>
          join (S := Bool × Unit) (fun J26 =>
            drew <|
            sif (decide (s12.1 ≤ s24.1)) (
              ix a0.a a0.len a1 fun p28 =>
              ld (.int .i64) (p28.add (scaled (Int.toNat a1) 1)) fun (x29 : Int) =>
              ix a0.a a0.len s24.1 fun p30 =>
              ld (.int .i64) (p30.add (scaled (Int.toNat s24.1) 1)) fun (x31 : Int) =>
              callT Try.prog 73 #[(.int .i64 x29), (.int .i64 x31)] (.one (.one .bool)) fun (x32 : Bool) =>
              J26 (x32, ())) (
              J26 (false, ()))) fun (s27 : Bool × Unit) =>
          sif s27.1 (
            again25 ((IntKind.wrap .i64 (s24.1 - (1 : Int))), ())) (
            J22 (s24.1, ()))) (s9.2.1, ())) fun (s23 : Int × Unit) =>
      sif (decide (s12.1 > s23.1)) (
        J7 (s12.1, ())) (
        drew <|
        ix a0.a a0.len s23.1 fun p33 =>
        ld (.int .i64) (p33.add (scaled (Int.toNat s23.1) 1)) fun (x34 : Int) =>
        ix a0.a a0.len s12.1 fun p35 =>
        ld (.int .i64) (p35.add (scaled (Int.toNat s12.1) 1)) fun (x36 : Int) =>
        ix a0.a a0.len s12.1 fun p37 =>
        stC (p37.add (scaled (Int.toNat s12.1) 1)) (.int .i64 x34) <|
        ix a0.a a0.len s23.1 fun p38 =>
        stC (p38.add (scaled (Int.toNat s23.1) 1)) (.int .i64 x36) <|
        again10 ((IntKind.wrap .i64 (s12.1 + (1 : Int))), (IntKind.wrap .i64 (s23.1 - (1 : Int))), ()))) ((IntKind.wrap .i64 (a1 + (1 : Int))), (IntKind.wrap .i64 (a2 - (1 : Int))), ())) fun (s8 : Int × Unit) =>
  K s8.1
noncomputable def h74 : Hint := (.seq none (.region [] (.ops 1 .done)) (.seq none (.region [0, 1, 2, 3, 4, 5, 6, 7, 8, 9, 10, 11, 12, 13, 14, 15] (.ops 16 .done)) (.seq none (.region [] (.ops 6 .done)) (.seq (some (9671406556917032860780032, [(9, (.one (.int .i64)))])) (.block (.loop 9671406556917032860780032 [(9, (.one (.int .i64))), (10, (.one (.int .i64)))] (.block (.seq (some (70368207307264, [(9, (.one (.int .i64)))])) (.block (.loop 70368207307264 [(9, (.one (.int .i64)))] (.seq none (.seq (some (17591649173504, [(43, (.one .bool))])) (.region [0, 1, 2, 3, 4, 5, 6, 7, 8, 9, 10, 11, 12, 13, 14] (.ops 4 (.split 32 (.ops 11 .done) (.skips 10 (.ops 1 .done))))) (.cond none .leaf .leaf)) (.block (.region [] (.ops 3 .done)))))) (.seq (some (4611615649683211264, [(10, (.one (.int .i64)))])) (.block (.loop 4611615649683211264 [(10, (.one (.int .i64)))] (.seq none (.seq (some (1152851135862669312, [(59, (.one .bool))])) (.region [0, 1, 2, 3, 4, 5, 6, 7, 8, 9, 10, 11, 12, 13] (.ops 4 (.split 49 (.ops 10 .done) (.skips 9 (.ops 1 .done))))) (.cond none .leaf .leaf)) (.block (.region [] (.ops 3 .done)))))) (.seq none (.seq none (.region [] (.ops 3 .done)) (.cond none .leaf .leaf)) (.seq none (.region [0, 1, 2, 3, 4, 5, 6, 7, 8, 9, 10, 11, 12, 13, 14, 15] (.ops 16 .done)) (.seq none (.region [] (.ops 3 .done)) (.region [] (.ops 3 .done)))))))))) (.seq none (.region [] (.ops 2 .done)) .leaf)))))
theorem F74_tie (a0 : Sl) (a1 : Int) (a2 : Int) (a3 : Int) (K : Int → World → Prop) : vcgF tab Try.prog Try.f74 h74 [(.slice a0.a a0.len a0.cap), (.int .i64 a1), (.int .i64 a2), (.int .i64 a3)] (.one (.one (.int .i64))) K = F74 a0 a1 a2 a3 K := by kernel_rfl
theorem F74_calls {a0 : Sl} {a1 : Int} {a2 : Int} {a3 : Int} {K : Int → World → Prop} {w : World} (h : F74 a0 a1 a2 a3 K w) : callT Try.prog 74 #[(.slice a0.a a0.len a0.cap), (.int .i64 a1), (.int .i64 a2), (.int .i64 a3)] (.one (.one (.int .i64))) K w :=
  vcgF_sound tabOk Try.func74 h74 [(.slice a0.a a0.len a0.cap), (.int .i64 a1), (.int .i64 a2), (.int .i64 a3)] (.one (.one (.int .i64))) K w (Eq.mpr (congrFun (F74_tie a0 a1 a2 a3 K) w) h)

/-- slices.partitionOrdered[int] -/
noncomputable def F75 (a0 : Sl) (a1 : Int) (a2 : Int) (a3 : Int) (K : (Int × Bool × Unit) → World → Prop) : World → Prop :=
  drew <|
  ix a0.a a0.len a3 fun p1 =>
  ld (.int .i64) (p1.add (scaled (Int.toNat a3) 1)) fun (x2 : Int) =>
  ix a0.a a0.len a1 fun p3 =>
  ld (.int .i64) (p3.add (scaled (Int.toNat a1) 1)) fun (x4 : Int) =>
  ix a0.a a0.len a1 fun p5 =>
  stC (p5.add (scaled (Int.toNat a1) 1)) (.int .i64 x2) <|
  ix a0.a a0.len a3 fun p6 =>
  stC (p6.add (scaled (Int.toNat a3) 1)) (.int .i64 x4) <|
  join (S := Int × Unit) (fun J7 =>
    sloop (S := Int × Unit) (fun (s9 : Int × Unit) again10 =>
      join (S := Bool × Unit) (fun J11 =>
        drew <|
        sif (decide (s9.1 ≤ (IntKind.wrap .i64 (a2 - (1 : Int))))) (
          ix a0.a a0.len s9.1 fun p13 =>
          ld (.int .i64) (p13.add (scaled (Int.toNat s9.1) 1)) fun (x14 : Int) =>
          ix a0.a a0.len a1 fun p15 =>
          ld (.int .i64) (p15.add (scaled (Int.toNat a1) 1)) fun (x16 : Int) =>
          callT Try.prog 73 #[(.int .i64 x14), (.int .i64 x16)] (.one (.one .bool)) fun (x17 : Bool) =>
          J11 (x17, ())) (
          J11 (false, ()))) fun (s12 : Bool × Unit) =>
      sif s12.1 (
        again10 ((IntKind.wrap .i64 (s9.1 + (1 : Int))), ())) (
        J7 (s9.1, ()))) ((IntKind.wrap .i64 (a1 + (1 : Int))), ())) fun (s8 : Int × Unit) =>
  join (S := Int × Unit) (fun J18 =>
    sloop (S := Int × Unit) (fun (s20 : Int × Unit) again21 =>
      join (S := Bool × Unit) (fun J22 =>
        drew <|
        sif (decide (s8.1 ≤ s20.1)) (
          ix a0.a a0.len s20.1 fun p24 =>
          ld (.int .i64) (p24.add (scaled (Int.toNat s20.1) 1)) fun (x25 : Int) =>
          ix a0.a a0.len a1 fun p26 =>
          ld (.int .i64) (p26.add (scaled (Int.toNat a1) 1)) fun (x27 : Int) =>
          callT Try.prog 73 #[(.int .i64 x25), (.int .i64 x27)] (.one (.one .bool)) fun (x28 : Bool) =>
          J22 ((!x28), ())) (
          J22 (false, ()))) fun (s23 : Bool × Unit) =>
      sif s23.1 (
        again21 ((IntKind.wrap .i64 (s20.1 - (1 : Int))), ())) (
        J18 (s20.1, ()))) ((IntKind.wrap .i64 (a2 - (1 : Int))), ())) fun (s19 : Int × Unit) =>
  sif (decide (s8.1 > s19.1)) (
    drew <|
    ix a0.a a0.len a1 fun p29 =>
    ld (.int .i64) (p29.add (scaled (Int.toNat a1) 1)) fun (x30 : Int) =>
    ix a0.a a0.len s19.1 fun p31 =>
    ld (.int .i64) (p31.add (scaled (Int.toNat s19.1) 1)) fun (x32 : Int) =>
    ix a0.a a0.len s19.1 fun p33 =>
    stC (p33.add (scaled (Int.toNat s19.1) 1)) (.int .i64 x30) <|
    ix a0.a a0.len a1 fun p34 =>
    stC (p34.add (scaled (Int.toNat a1) 1)) (.int .i64 x32) <|
    K (s19.1, true, ())) (
    drew <|
    ix a0.a a0.len s19.1 fun p35 =>
    ld (.int .i64) (p35.add (scaled (Int.toNat s19.1) 1)) fun (x36 : Int) =>
    ix a0.a a0.len s8.1 fun p37 =>
    ld (.int .i64) (p37.add (scaled (Int.toNat s8.1) 1)) fun (x38 : Int) =>
    ix a0.a a0.len s8.1 fun p39 =>
    stC (p39.add (scaled (Int.toNat s8.1) 1)) (.int .i64 x36) <|
    ix a0.a a0.len s19.1 fun p40 =>
    stC (p40.add (scaled (Int.toNat s19.1) 1)) (.int .i64 x38) <|
    join (S := Int × Unit) (fun J41 =>
      sloop (S := Int × Int × Unit) (fun (s43 : Int × Int × Unit) again44 =>
        join (S := Int × Unit) (fun J45 =>
          sloop (S := Int × Unit) (fun (s47 : Int × Unit) again48 =>
            join (S := Bool × Unit) (fun J49 =>
              drew <|
              sif (decide (s47.1 ≤ s43.2.1)) (
                ix a0.a a0.len s47.1 fun p51 =>
                ld (.int .i64) (p51.add (scaled (Int.toNat s47.1) 1)) fun (x52 : Int) =>
                ix a0.a a0.len a1 fun p53 =>
                ld (.int .i64) (p53.add (scaled (Int.toNat a1) 1)) fun (x54 : Int) =>
                callT Try.prog 73 #[(.int .i64 x52), (.int .i64 x54)] (.one (.one .bool)) fun (x55 : Bool) =>
                J49 (x55, ())) (
                J49 (false, ()))) fun (s50 : Bool × Unit) =>
            sif s50.1 (
              again48 ((IntKind.wrap .i64 (s47.1 + (1 : Int))), ())) (
              J45 (s47.1, ()))) (s43.1, ())) fun (s46 : Int × Unit) =>
        join (S := Int × Unit) (fun J56 =>
          sloop (S := Int × Unit) (fun (s58 : Int × Unit) again59 =>
            join (S := Bool × Unit) (fun J60 =>
              drew <|
              sif (decide (s46.1 ≤ s58.1)) (
                ix a0.a a0.len s58.1 fun p62 =>
                ld (.int .i64) (p62.add (scaled (Int.toNat s58.1) 1)) fun (x63 : Int) =>
                ix a0.a a0.len a1 fun p64 =>
                ld (.int .i64) (p64.add (scaled (Int.toNat a1) 1)) fun (x65 : Int) =>
                callT Try.prog 73 #[(.int .i64 x63), (.int .i64 x65)] (.one (.one .bool)) fun (x66 : Bool) =>
                J60 ((!x66), ())) (
                J60 (false, ()))) fun (s61 : Bool × Unit) =>
            sif s61.1 (
              again59 ((IntKind.wrap .i64 (s58.1 - (1 : Int))), ())) (
              J56 (s58.1, ()))) (s43.2.1, ())) fun (s57 : Int × Unit) =>
        sif (decide (s46.1 > s57.1)) (
          J41 (s57.1, ())) (
          drew <|
          ix a0.a a0.len s57.1 fun p67 =>
          ld (.int .i64) (p67.add (scaled (Int.toNat s57.1) 1)) fun (x68 : Int) =>
          ix a0.a a0.len s46.1 fun p69 =>
          ld (.int .i64) (p69.add (scaled (Int.toNat s46.1) 1)) fun (x70 : Int) =>
          ix a0.a a0.len s46.1 fun p71 =>
          stC (p71.add (scaled (Int.toNat s46.1) 1)) (.int .i64 x68) <|
          ix a0.a a0.len s57.1 fun p72 =>
          stC (p72.add (scaled (Int.toNat s57.1) 1)) (.int .i64 x70) <|
          again44 ((IntKind.wrap .i64 (s46.1 + (1 : Int))), (IntKind.wrap .i64 (s57.1 - (1 : Int))), ()))) ((IntKind.wrap .i64 (s8.1 + (1 : Int))), (IntKind.wrap .i64 (s19.1 - (1 : Int))), ())) fun (s42 : Int × Unit) =>
    drew <|
    ix a0.a a0.len a1 fun p73 =>
    ld (.int .i64) (p73.add (scaled (Int.toNat a1) 1)) fun (x74 : Int) =>
    ix a0.a a0.len s42.1 fun p75 =>
    ld (.int .i64) (p75.add (scaled (Int.toNat s42.1) 1)) fun (x76 : Int) =>
    ix a0.a a0.len s42.1 fun p77 =>
    stC (p77.add (scaled (Int.toNat s42.1) 1)) (.int .i64 x74) <|
    ix a0.a a0.len a1 fun p78 =>
    stC (p78.add (scaled (Int.toNat a1) 1)) (.int .i64 x76) <|
    K (s42.1, false, ()))
noncomputable def h75 : Hint := (.seq none (.region [] (.ops 2 .done)) (.seq none (.region [0, 1, 2, 3, 4, 5, 6, 7, 8, 9, 10, 11, 12, 13, 14, 15] (.ops 16 .done)) (.seq none (.region [] (.ops 6 .done)) (.seq (some (70367670436864, [(10, (.one (.int .i64)))])) (.block (.loop 70367670436864 [(10, (.one (.int .i64)))] (.seq none (.seq (some (17591112302592, [(43, (.one .bool))])) (.region [0, 1, 2, 3, 4, 5, 6, 7, 8, 9, 10, 11, 12, 13] (.ops 4 (.split 33 (.ops 10 .done) (.skips 9 (.ops 1 .done))))) (.cond none .leaf .leaf)) (.block (.region [] (.ops 3 .done)))))) (.seq (some (9223301668110600192, [(11, (.one (.int .i64)))])) (.block (.loop 9223301668110600192 [(11, (.one (.int .i64)))] (.seq none (.seq (some (2305772640469516288, [(60, (.one .bool))])) (.region [0, 1, 2, 3, 4, 5, 6, 7, 8, 9, 10, 11, 12, 13, 14] (.ops 4 (.split 49 (.ops 11 .done) (.skips 10 (.ops 1 .done))))) (.cond none .leaf .leaf)) (.block (.region [] (.ops 3 .done)))))) (.seq none (.seq none (.region [] (.ops 3 .done)) (.cond none (.seq none (.region [0, 1, 2, 3, 4, 5, 6, 7, 8, 9, 10, 11, 12, 13, 14, 15] (.ops 16 .done)) (.seq none (.region [] (.ops 3 .done)) .leaf)) .leaf)) (.seq none (.region [0, 1, 2, 3, 4, 5, 6, 7, 8, 9, 10, 11, 12, 13, 14, 15] (.ops 16 .done)) (.seq none (.region [] (.ops 3 .done)) (.seq none (.region [] (.ops 3 .done)) (.seq (some (11417981541647678414640987641481260342710373376, [(11, (.one (.int .i64)))])) (.block (.loop 11417981541647678414640987641481260342710373376 [(10, (.one (.int .i64))), (11, (.one (.int .i64)))] (.block (.seq (some (41537741042978506913543222282159104, [(10, (.one (.int .i64)))])) (.block (.loop 41537741042978506913543222282159104 [(10, (.one (.int .i64)))] (.seq none (.seq (some (10383959891769541142360244306837504, [(112, (.one .bool))])) (.region [0, 1, 2, 3, 4, 5, 6, 7, 8, 9, 10, 11, 12, 13] (.ops 4 (.split 102 (.ops 10 .done) (.skips 9 (.ops 1 .done))))) (.cond none .leaf .leaf)) (.block (.region [] (.ops 3 .done)))))) (.seq (some (5444476332360147136792965474937657624576, [(11, (.one (.int .i64)))])) (.block (.loop 5444476332360147136792965474937657624576 [(11, (.one (.int .i64)))] (.seq none (.seq (some (1361087929308885575232470185756439085056, [(129, (.one .bool))])) (.region [0, 1, 2, 3, 4, 5, 6, 7, 8, 9, 10, 11, 12, 13, 14] (.ops 4 (.split 118 (.ops 11 .done) (.skips 10 (.ops 1 .done))))) (.cond none .leaf .leaf)) (.block (.region [] (.ops 3 .done)))))) (.seq none (.seq none (.region [] (.ops 3 .done)) (.cond none .leaf .leaf)) (.seq none (.region [0, 1, 2, 3, 4, 5, 6, 7, 8, 9, 10, 11, 12, 13, 14, 15] (.ops 16 .done)) (.seq none (.region [] (.ops 3 .done)) (.region [] (.ops 3 .done)))))))))) (.seq none (.region [0, 1, 2, 3, 4, 5, 6, 7, 8, 9, 10, 11, 12, 13, 14, 15] (.ops 16 .done)) (.seq none (.region [] (.ops 3 .done)) .leaf))))))))))))
theorem F75_tie (a0 : Sl) (a1 : Int) (a2 : Int) (a3 : Int) (K : (Int × Bool × Unit) → World → Prop) : vcgF tab Try.prog Try.f75 h75 [(.slice a0.a a0.len a0.cap), (.int .i64 a1), (.int .i64 a2), (.int .i64 a3)] (.tup [(.one (.int .i64)), (.one .bool)]) K = F75 a0 a1 a2 a3 K := by kernel_rfl
theorem F75_calls {a0 : Sl} {a1 : Int} {a2 : Int} {a3 : Int} {K : (Int × Bool × Unit) → World → Prop} {w : World} (h : F75 a0 a1 a2 a3 K w) : callT Try.prog 75 #[(.slice a0.a a0.len a0.cap), (.int .i64 a1), (.int .i64 a2), (.int .i64 a3)] (.tup [(.one (.int .i64)), (.one .bool)]) K w :=
  vcgF_sound tabOk Try.func75 h75 [(.slice a0.a a0.len a0.cap), (.int .i64 a1), (.int .i64 a2), (.int .i64 a3)] (.tup [(.one (.int .i64)), (.one .bool)]) K w (Eq.mpr (congrFun (F75_tie a0 a1 a2 a3 K) w) h)

/-- math/bits.Len32 -/
noncomputable def F76 (a0 : Int) (K : Int → World → Prop) : World → Prop :=
  join (S := Int × Int × Unit) (fun J1 =>
    sif (decide (a0 ≥ (65536 : Int))) (
      chk (0 ≤ (16 : Int)) <|
      J1 ((Int.fdiv a0 (2 ^ (min (Int.toNat (16 : Int)) (IntKind.bits .u32)))), (16 : Int), ())) (
      J1 (a0, (0 : Int), ()))) fun (s2 : Int × Int × Unit) =>
  join (S := Int × Int × Unit) (fun J3 =>
    sif (decide (s2.1 ≥ (256 : Int))) (
      chk (0 ≤ (8 : Int)) <|
      J3 ((Int.fdiv s2.1 (2 ^ (min (Int.toNat (8 : Int)) (IntKind.bits .u32)))), (IntKind.wrap .i64 (s2.2.1 + (8 : Int))), ())) (
      J3 (s2.1, s2.2.1, ()))) fun (s4 : Int × Int × Unit) =>
  sidx ({ data := #[0, 1, 2, 2, 3, 3, 3, 3, 4, 4, 4, 4, 4, 4, 4, 4, 5, 5, 5, 5, 5, 5, 5, 5, 5, 5, 5, 5, 5, 5, 5, 5, 6, 6, 6, 6, 6, 6, 6, 6, 6, 6, 6, 6, 6, 6, 6, 6, 6, 6, 6, 6, 6, 6, 6, 6, 6, 6, 6, 6, 6, 6, 6, 6, 7, 7, 7, 7, 7, 7, 7, 7, 7, 7, 7, 7, 7, 7, 7, 7, 7, 7, 7, 7, 7, 7, 7, 7, 7, 7, 7, 7, 7, 7, 7, 7, 7, 7, 7, 7, 7, 7, 7, 7, 7, 7, 7, 7, 7, 7, 7, 7, 7, 7, 7, 7, 7, 7, 7, 7, 7, 7, 7, 7, 7, 7, 7, 7, 8, 8, 8, 8, 8, 8, 8, 8, 8, 8, 8, 8, 8, 8, 8, 8, 8, 8, 8, 8, 8, 8, 8, 8, 8, 8, 8, 8, 8, 8, 8, 8, 8, 8, 8, 8, 8, 8, 8, 8, 8, 8, 8, 8, 8, 8, 8, 8, 8, 8, 8, 8, 8, 8, 8, 8, 8, 8, 8, 8, 8, 8, 8, 8, 8, 8, 8, 8, 8, 8, 8, 8, 8, 8, 8, 8, 8, 8, 8, 8, 8, 8, 8, 8, 8, 8, 8, 8, 8, 8, 8, 8, 8, 8, 8, 8, 8, 8, 8, 8, 8, 8, 8, 8, 8, 8, 8, 8, 8, 8, 8, 8, 8, 8, 8, 8, 8, 8, 8, 8, 8, 8, 8, 8, 8, 8, 8, 8] }) (IntKind.wrap .u8 s4.1) fun b5 =>
  K (IntKind.wrap .i64 (s4.2.1 + (IntKind.wrap .i64 ((b5.toNat : Nat) : Int))))
noncomputable def h76 : Hint := (.seq none (.region [] (.ops 1 .done)) (.seq (some (125, [(0, (.one (.int .u32))), (2, (.one (.int .i64)))])) (.seq none (.region [] (.ops 2 .done)) (.cond none (.seq none (.region [] (.ops 3 .done)) (.region [] (.ops 1 .done))) .leaf)) (.seq (some (8069, [(0, (.one (.int .u32))), (2, (.one (.int .i64)))])) (.seq none (.region [] (.ops 2 .done)) (.cond none (.seq none (.region [] (.ops 3 .done)) (.region [] (.ops 3 .done))) .leaf)) (.seq none (.region [] (.ops 7 .done)) .leaf))))
theorem F76_tie (a0 : Int) (K : Int → World → Prop) : vcgF tab Try.prog Try.f76 h76 [(.int .u32 a0)] (.one (.one (.int .i64))) K = F76 a0 K := by kernel_rfl
theorem F76_calls {a0 : Int} {K : Int → World → Prop} {w : World} (h : F76 a0 K w) : callT Try.prog 76 #[(.int .u32 a0)] (.one (.one (.int .i64))) K w :=
  vcgF_sound tabOk Try.func76 h76 [(.int .u32 a0)] (.one (.one (.int .i64))) K w (Eq.mpr (congrFun (F76_tie a0 K) w) h)

/-- math/bits.Len64 -/
noncomputable def F77 (a0 : Int) (K : Int → World → Prop) : World → Prop :=
  join (S := Int × Int × Unit) (fun J1 =>
    sif (decide (a0 ≥ (4294967296 : Int))) (
      chk (0 ≤ (32 : Int)) <|
      J1 ((Int.fdiv a0 (2 ^ (min (Int.toNat (32 : Int)) (IntKind.bits .u64)))), (32 : Int), ())) (
      J1 (a0, (0 : Int), ()))) fun (s2 : Int × Int × Unit) =>
  join (S := Int × Int × Unit) (fun J3 =>
    sif (decide (s2.1 ≥ (65536 : Int))) (
      chk (0 ≤ (16 : Int)) <|
      J3 ((Int.fdiv s2.1 (2 ^ (min (Int.toNat (16 : Int)) (IntKind.bits .u64)))), (IntKind.wrap .i64 (s2.2.1 + (16 : Int))), ())) (
      J3 (s2.1, s2.2.1, ()))) fun (s4 : Int × Int × Unit) =>
  join (S := Int × Int × Unit) (fun J5 =>
    sif (decide (s4.1 ≥ (256 : Int))) (
      chk (0 ≤ (8 : Int)) <|
      J5 ((Int.fdiv s4.1 (2 ^ (min (Int.toNat (8 : Int)) (IntKind.bits .u64)))), (IntKind.wrap .i64 (s4.2.1 + (8 : Int))), ())) (
      J5 (s4.1, s4.2.1, ()))) fun (s6 : Int × Int × Unit) =>
  sidx ({ data := #[0, 1, 2, 2, 3, 3, 3, 3, 4, 4, 4, 4, 4, 4, 4, 4, 5, 5, 5, 5, 5, 5, 5, 5, 5, 5, 5, 5, 5, 5, 5, 5, 6, 6, 6, 6, 6, 6, 6, 6, 6, 6, 6, 6, 6, 6, 6, 6, 6, 6, 6, 6, 6, 6, 6, 6, 6, 6, 6, 6, 6, 6, 6, 6, 7, 7, 7, 7, 7, 7, 7, 7, 7, 7, 7, 7, 7, 7, 7, 7, 7, 7, 7, 7, 7, 7, 7, 7, 7, 7, 7, 7, 7, 7, 7, 7, 7, 7, 7, 7, 7, 7, 7, 7, 7, 7, 7, 7, 7, 7, 7, 7, 7, 7, 7, 7, 7, 7, 7, 7, 7, 7, 7, 7, 7, 7, 7, 7, 8, 8, 8, 8, 8, 8, 8, 8, 8, 8, 8, 8, 8, 8, 8, 8, 8, 8, 8, 8, 8, 8, 8, 8, 8, 8, 8, 8, 8, 8, 8, 8, 8, 8, 8, 8, 8, 8, 8, 8, 8, 8, 8, 8, 8, 8, 8, 8, 8, 8, 8, 8, 8, 8, 8, 8, 8, 8, 8, 8, 8, 8, 8, 8, 8, 8, 8, 8, 8, 8, 8, 8, 8, 8, 8, 8, 8, 8, 8, 8, 8, 8, 8, 8, 8, 8, 8, 8, 8, 8, 8, 8, 8, 8, 8, 8, 8, 8, 8, 8, 8, 8, 8, 8, 8, 8, 8, 8, 8, 8, 8, 8, 8, 8, 8, 8, 8, 8, 8, 8, 8, 8, 8, 8, 8, 8, 8, 8] }) (IntKind.wrap .u8 s6.1) fun b7 =>
  K (IntKind.wrap .i64 (s6.2.1 + (IntKind.wrap .i64 ((b7.toNat : Nat) : Int))))
noncomputable def h77 : Hint := (.seq none (.region [] (.ops 1 .done)) (.seq (some (125, [(0, (.one (.int .u64))), (2, (.one (.int .i64)))])) (.seq none (.region [] (.ops 2 .done)) (.cond none (.seq none (.region [] (.ops 3 .done)) (.region [] (.ops 1 .done))) .leaf)) (.seq (some (8069, [(0, (.one (.int .u64))), (2, (.one (.int .i64)))])) (.seq none (.region [] (.ops 2 .done)) (.cond none (.seq none (.region [] (.ops 3 .done)) (.region [] (.ops 3 .done))) .leaf)) (.seq (some (516101, [(0, (.one (.int .u64))), (2, (.one (.int .i64)))])) (.seq none (.region [] (.ops 2 .done)) (.cond none (.seq none (.region [] (.ops 3 .done)) (.region [] (.ops 3 .done))) .leaf)) (.seq none (.region [] (.ops 7 .done)) .leaf)))))
theorem F77_tie (a0 : Int) (K : Int → World → Prop) : vcgF tab Try.prog Try.f77 h77 [(.int .u64 a0)] (.one (.one (.int .i64))) K = F77 a0 K := by kernel_rfl
theorem F77_calls {a0 : Int} {K : Int → World → Prop} {w : World} (h : F77 a0 K w) : callT Try.prog 77 #[(.int .u64 a0)] (.one (.one (.int .i64))) K w :=
  vcgF_sound tabOk Try.func77 h77 [(.int .u64 a0)] (.one (.one (.int .i64))) K w (Eq.mpr (congrFun (F77_tie a0 K) w) h)

/-- slices.Grow[[]int,int] -/
noncomputable def F78 (a0 : Sl) (a1 : Int) (K : Sl → World → Prop) : World → Prop :=
  join (S := Unit) (fun J1 =>
    sif (decide (a1 < (0 : Int))) (
      fun _ => False) (
      J1 ())) fun (s2 : Unit) =>
  join (S := Sl × Unit) (fun J3 =>
    sif (decide ((IntKind.wrap .i64 (a1 - (IntKind.wrap .i64 (((a0.cap : Nat) : Int) - ((a0.len : Nat) : Int))))) > (0 : Int))) (
      slc a0.a 0 ((a0.cap : Nat) : Int) ((a0.cap : Nat) : Int) a0.cap 1 fun x5 =>
      rawT Try.prog (.one (.one .sl)) (Builtin.append_ #[23, 3] 23 #[(.slice x5.a x5.len x5.cap), (.int .i64 (IntKind.wrap .i64 (a1 - (IntKind.wrap .i64 (((a0.cap : Nat) : Int) - ((a0.len : Nat) : Int))))))]) fun (x6 : Sl) =>
      slc x6.a 0 ((a0.len : Nat) : Int) ((x6.cap : Nat) : Int) x6.cap 1 fun x7 =>
      J3 (x7, ())) (
      J3 (a0, ()))) fun (s4 : Sl × Unit) =>
  K s4.1
noncomputable def h78 : Hint := (.seq none (.region [] (.ops 1 .done)) (.seq (some (224, [])) (.seq none (.region [] (.ops 2 .done)) (.cond none (.region [] (.ops 2 .done)) .leaf)) (.seq (some (67108611, [(0, (.one .sl))])) (.seq none (.region [] (.ops 8 .done)) (.seq none (.region [] (.ops 2 .done)) (.cond none (.region [] (.ops 10 .done)) .leaf))) (.seq none (.region [] (.ops 2 .done)) .leaf))))
theorem F78_tie (a0 : Sl) (a1 : Int) (K : Sl → World → Prop) : vcgF tab Try.prog Try.f78 h78 [(.slice a0.a a0.len a0.cap), (.int .i64 a1)] (.one (.one .sl)) K = F78 a0 a1 K := by kernel_rfl
theorem F78_calls {a0 : Sl} {a1 : Int} {K : Sl → World → Prop} {w : World} (h : F78 a0 a1 K w) : callT Try.prog 78 #[(.slice a0.a a0.len a0.cap), (.int .i64 a1)] (.one (.one .sl)) K w :=
  vcgF_sound tabOk Try.func78 h78 [(.slice a0.a a0.len a0.cap), (.int .i64 a1)] (.one (.one .sl)) K w (Eq.mpr (congrFun (F78_tie a0 a1 K) w) h)

/-- copyist/copyistref11.LastBreak -/
noncomputable def F79 (a0 : Sl) (K : Sl → World → Prop) : World → Prop :=
  join (S := Bool × Unit) (fun J1 =>
    sif (decide (((a0.len : Nat) : Int) > (1 : Int))) (
      ix a0.a a0.len (IntKind.wrap .i64 (((a0.len : Nat) : Int) - (2 : Int))) fun p3 =>
      ld (.int .i64) (p3.add (scaled (Int.toNat (IntKind.wrap .i64 (((a0.len : Nat) : Int) - (2 : Int)))) 1)) fun (x4 : Int) =>
      sif (x4 == (13 : Int)) (
        ix a0.a a0.len (IntKind.wrap .i64 (((a0.len : Nat) : Int) - (1 : Int))) fun p5 =>
        ld (.int .i64) (p5.add (scaled (Int.toNat (IntKind.wrap .i64 (((a0.len : Nat) : Int) - (1 : Int)))) 1)) fun (x6 : Int) =>
        J1 ((x6 == (10 : Int)), ())) (
        J1 (false, ()))) (
      J1 (false, ()))) fun (s2 : Bool × Unit) =>
  sif s2.1 (
    newO (.cells #[(.int .i64 (13 : Int)), (.int .i64 (10 : Int))] 3) fun b7 =>
    K ⟨(some (at0 b7)), 2, 2⟩) (
    join (S := Bool × Unit) (fun J8 =>
      sif (decide (((a0.len : Nat) : Int) > (0 : Int))) (
        ix a0.a a0.len (IntKind.wrap .i64 (((a0.len : Nat) : Int) - (1 : Int))) fun p10 =>
        ld (.int .i64) (p10.add (scaled (Int.toNat (IntKind.wrap .i64 (((a0.len : Nat) : Int) - (1 : Int)))) 1)) fun (x11 : Int) =>
        sif (x11 == (10 : Int)) (
          J8 (true, ())) (
          ix a0.a a0.len (IntKind.wrap .i64 (((a0.len : Nat) : Int) - (1 : Int))) fun p12 =>
          ld (.int .i64) (p12.add (scaled (Int.toNat (IntKind.wrap .i64 (((a0.len : Nat) : Int) - (1 : Int)))) 1)) fun (x13 : Int) =>
          J8 ((x13 == (13 : Int)), ()))) (
        J8 (false, ()))) fun (s9 : Bool × Unit) =>
    sif s9.1 (
      ix a0.a a0.len (IntKind.wrap .i64 (((a0.len : Nat) : Int) - (1 : Int))) fun p14 =>
      ld (.int .i64) (p14.add (scaled (Int.toNat (IntKind.wrap .i64 (((a0.len : Nat) : Int) - (1 : Int)))) 1)) fun (x15 : Int) =>
      newO (.cells #[(.int .i64 x15)] 3) fun b16 =>
      K ⟨(some (at0 b16)), 1, 1⟩) (
      K ⟨none, 0, 0⟩))
noncomputable def h79 : Hint := (.seq none (.region [] (.ops 1 .done)) (.seq none (.region [] (.ops 3 .done)) (.seq none (.seq (some (16777152, [(23, (.one .bool))])) (.region [] (.ops 3 (.split 8 (.ops 8 (.split 16 (.ops 7 .done) (.skips 6 (.ops 1 .done)))) (.skips 6 (.ops 2 (.skips 6 (.ops 1 .done))))))) (.cond none (.seq none (.region [] (.ops 2 .done)) .leaf) .leaf)) (.seq none (.seq (some (8796059467776, [(42, (.one .bool))])) (.region [] (.ops 3 (.split 27 (.ops 7 (.split 34 (.skips 6 (.ops 2 .done)) (.ops 8 .done))) (.skips 14 (.ops 1 .done))))) (.cond none (.seq none (.region [] (.ops 7 .done)) .leaf) .leaf)) (.seq none (.region [] (.ops 1 .done)) .leaf)))))
theorem F79_tie (a0 : Sl) (K : Sl → World → Prop) : vcgF tab Try.prog Try.f79 h79 [(.slice a0.a a0.len a0.cap)] (.one (.one .sl)) K = F79 a0 K := by kernel_rfl
theorem F79_calls {a0 : Sl} {K : Sl → World → Prop} {w : World} (h : F79 a0 K w) : callT Try.prog 79 #[(.slice a0.a a0.len a0.cap)] (.one (.one .sl)) K w :=
  vcgF_sound tabOk Try.func79 h79 [(.slice a0.a a0.len a0.cap)] (.one (.one .sl)) K w (Eq.mpr (congrFun (F79_tie a0 K) w) h)

/-- copyist/copyistref11.Joined -/
noncomputable def F80 (a0 : (Int × Sl × Unit)) (a1 : (Int × Sl × Unit)) (K : (Int × Sl × Unit) → World → Prop) : World → Prop :=
  newO (.cells #[(.int .i64 a0.1), (.slice a0.2.1.a a0.2.1.len a0.2.1.cap)] 85) fun b1 =>
  newO (.cells #[(.int .i64 a1.1), (.slice a1.2.1.a a1.2.1.len a1.2.1.cap)] 85) fun b2 =>
  newO (.cells #[(.int .i64 (0 : Int)), (.slice none 0 0)] 85) fun b3 =>
  ld (.sl) (⟨b1, 1, none⟩ : Addr) fun (x4 : Sl) =>
  sif (((x4.len : Nat) : Int) == (0 : Int)) (
    lds c85 (at0 b2) fun (x5 : (Int × Sl × Unit)) =>
    aggSt (at0 b3) (.agg (Cells.vals c85 x5).toArray) 2 <|
    lds c85 (at0 b3) fun (x6 : (Int × Sl × Unit)) =>
    K x6) (
    ld (.sl) (⟨b2, 1, none⟩ : Addr) fun (x7 : Sl) =>
    sif (((x7.len : Nat) : Int) == (0 : Int)) (
      lds c85 (at0 b1) fun (x8 : (Int × Sl × Unit)) =>
      aggSt (at0 b3) (.agg (Cells.vals c85 x8).toArray) 2 <|
      lds c85 (at0 b3) fun (x9 : (Int × Sl × Unit)) =>
      K x9) (
      ld (.sl) (⟨b1, 1, none⟩ : Addr) fun (x10 : Sl) =>
      rawT Try.prog (.one (.one .sl)) (Builtin.append_ #[23, 23] 23 #[(.slice none 0 0), (.slice x10.a x10.len x10.cap)]) fun (x11 : Sl) =>
      join (S := Sl × Unit) (fun J12 =>
        join (S := Bool × Unit) (fun J14 =>
          ld (.int .i64) (at0 b1) fun (x16 : Int) =>
          sif (x16 == (0 : Int)) (
            ld (.int .i64) (at0 b2) fun (x17 : Int) =>
            J14 ((x17 == (1 : Int)), ())) (
            J14 (false, ()))) fun (s15 : Bool × Unit) =>
        sif s15.1 (
          ld (.sl) (⟨b2, 1, none⟩ : Addr) fun (x18 : Sl) =>
          callT Try.prog 79 #[(.slice x18.a x18.len x18.cap)] (.one (.one .sl)) fun (x19 : Sl) =>
          rawT Try.prog (.one (.one .sl)) (Builtin.append_ #[23, 23] 23 #[(.slice x11.a x11.len x11.cap), (.slice x19.a x19.len x19.cap)]) fun (x20 : Sl) =>
          J12 (x20, ())) (
          J12 (x11, ()))) fun (s13 : Sl × Unit) =>
      ld (.sl) (⟨b2, 1, none⟩ : Addr) fun (x21 : Sl) =>
      rawT Try.prog (.one (.one .sl)) (Builtin.append_ #[23, 23] 23 #[(.slice s13.1.a s13.1.len s13.1.cap), (.slice x21.a x21.len x21.cap)]) fun (x22 : Sl) =>
      join (S := Sl × Unit) (fun J23 =>
        join (S := Bool × Unit) (fun J25 =>
          ld (.int .i64) (at0 b1) fun (x27 : Int) =>
          sif (x27 == (1 : Int)) (
            ld (.int .i64) (at0 b2) fun (x28 : Int) =>
            J25 ((x28 == (0 : Int)), ())) (
            J25 (false, ()))) fun (s26 : Bool × Unit) =>
        sif s26.1 (
          ld (.sl) (⟨b1, 1, none⟩ : Addr) fun (x29 : Sl) =>
          callT Try.prog 79 #[(.slice x29.a x29.len x29.cap)] (.one (.one .sl)) fun (x30 : Sl) =>
          rawT Try.prog (.one (.one .sl)) (Builtin.append_ #[23, 23] 23 #[(.slice x22.a x22.len x22.cap), (.slice x30.a x30.len x30.cap)]) fun (x31 : Sl) =>
          J23 (x31, ())) (
          J23 (x22, ()))) fun (s24 : Sl × Unit) =>
      ld (.int .i64) (at0 b1) fun (x32 : Int) =>
      ld (.int .i64) (at0 b2) fun (x33 : Int) =>
      aggSt (at0 b3) (.agg #[(.int .i64 (if x33 > x32 then x33 else x32)), (.slice s24.1.a s24.1.len s24.1.cap)]) 2 <|
      lds c85 (at0 b3) fun (x34 : (Int × Sl × Unit)) =>
      K x34))
noncomputable def h80 : Hint := (.seq none (.region [] (.ops 3 .done)) (.seq none (.seq none (.region [] (.ops 4 .done)) (.cond none (.seq none (.region [] (.ops 2 .done)) .leaf) .leaf)) (.seq none (.seq none (.region [] (.ops 4 .done)) (.cond none (.seq none (.region [] (.ops 2 .done)) .leaf) .leaf)) (.seq none (.region [] (.ops 4 .done)) (.seq (some (4294443040, [(5, (.one .sl))])) (.seq (some (133693440, [(26, (.one .bool))])) (.region [] (.ops 4 (.split 22 (.ops 4 .done) (.skips 3 (.ops 1 .done))))) (.cond none (.region [] (.ops 6 .done)) .leaf)) (.seq none (.region [] (.ops 5 .done)) (.seq (some (562881233944608, [(5, (.one .sl))])) (.seq (some (17523466567680, [(43, (.one .bool))])) (.region [] (.ops 4 (.split 39 (.ops 4 .done) (.skips 3 (.ops 1 .done))))) (.cond none (.region [] (.ops 6 .done)) .leaf)) (.seq none (.region [] (.ops 8 .done)) .leaf))))))))
theorem F80_tie (a0 : (Int × Sl × Unit)) (a1 : (Int × Sl × Unit)) (K : (Int × Sl × Unit) → World → Prop) : vcgF tab Try.prog Try.f80 h80 [(.agg (Cells.vals c85 a0).toArray), (.agg (Cells.vals c85 a1).toArray)] (.one (.agg c85)) K = F80 a0 a1 K := by kernel_rfl
theorem F80_calls {a0 : (Int × Sl × Unit)} {a1 : (Int × Sl × Unit)} {K : (Int × Sl × Unit) → World → Prop} {w : World} (h : F80 a0 a1 K w) : callT Try.prog 80 #[(.agg (Cells.vals c85 a0).toArray), (.agg (Cells.vals c85 a1).toArray)] (.one (.agg c85)) K w :=
  vcgF_sound tabOk Try.func80 h80 [(.agg (Cells.vals c85 a0).toArray), (.agg (Cells.vals c85 a1).toArray)] (.one (.agg c85)) K w (Eq.mpr (congrFun (F80_tie a0 a1 K) w) h)

/-- slices.siftDownOrdered[int] -/
noncomputable def F81 (a0 : Sl) (a1 : Int) (a2 : Int) (a3 : Int) (K : Unit → World → Prop) : World → Prop :=
  sloop (S := Int × Unit) (fun (s1 : Int × Unit) again2 =>
    sif (decide ((IntKind.wrap .i64 ((IntKind.wrap .i64 ((2 : Int) * s1.1)) + (1 : Int))) ≥ a2)) (
      K ()) (
      join (S := Int × Unit) (fun J3 =>
        join (S := Bool × Unit) (fun J5 =>
          drew <|
          sif (decide ((IntKind.wrap .i64 ((IntKind.wrap .i64 ((IntKind.wrap .i64 ((2 : Int) * s1.1)) + (1 : Int))) + (1 : Int))) < a2)) (
            ix a0.a a0.len (IntKind.wrap .i64 (a3 + (IntKind.wrap .i64 ((IntKind.wrap .i64 ((2 : Int) * s1.1)) + (1 : Int))))) fun p7 =>
            ld (.int .i64) (p7.add (scaled (Int.toNat (IntKind.wrap .i64 (a3 + (IntKind.wrap .i64 ((IntKind.wrap .i64 ((2 : Int) * s1.1)) + (1 : Int)))))) 1)) fun (x8 : Int) =>
            ix a0.a a0.len (IntKind.wrap .i64 ((IntKind.wrap .i64 (a3 + (IntKind.wrap .i64 ((IntKind.wrap .i64 ((2 : Int) * s1.1)) + (1 : Int))))) + (1 : Int))) fun p9 =>
            ld (.int .i64) (p9.add (scaled (Int.toNat (IntKind.wrap .i64 ((IntKind.wrap .i64 (a3 + (IntKind.wrap .i64 ((IntKind.wrap .i64 ((2 : Int) * s1.1)) + (1 : Int))))) + (1 : Int)))) 1)) fun (x10 : Int) =>
            callT Try.prog 73 #[(.int .i64 x8), (.int .i64 x10)] (.one (.one .bool)) fun (x11 : Bool) =>
            J5 (x11, ())) (
            J5 (false, ()))) fun (s6 : Bool × Unit) =>
        sif s6.1 (
          J3 ((IntKind.wrap .i64 ((IntKind.wrap .i64 ((IntKind.wrap .i64 ((2 : Int) * s1.1)) + (1 : Int))) + (1 : Int))), ())) (
          J3 ((IntKind.wrap .i64 ((IntKind.wrap .i64 ((2 : Int) * s1.1)) + (1 : Int))), ()))) fun (s4 : Int × Unit) =>
      drew <|
      ix a0.a a0.len (IntKind.wrap .i64 (a3 + s1.1)) fun p12 =>
      ld (.int .i64) (p12.add (scaled (Int.toNat (IntKind.wrap .i64 (a3 + s1.1))) 1)) fun (x13 : Int) =>
      ix a0.a a0.len (IntKind.wrap .i64 (a3 + s4.1)) fun p14 =>
      ld (.int .i64) (p14.add (scaled (Int.toNat (IntKind.wrap .i64 (a3 + s4.1))) 1)) fun (x15 : Int) =>
      callT Try.prog 73 #[(.int .i64 x13), (.int .i64 x15)] (.one (.one .bool)) fun (x16 : Bool) =>
      sif (!x16) (
        K ()) (
        drew <|
        ix a0.a a0.len (IntKind.wrap .i64 (a3 + s4.1)) fun p17 =>
        ld (.int .i64) (p17.add (scaled (Int.toNat (IntKind.wrap .i64 (a3 + s4.1))) 1)) fun (x18 : Int) =>
        ix a0.a a0.len (IntKind.wrap .i64 (a3 + s1.1)) fun p19 =>
        ld (.int .i64) (p19.add (scaled (Int.toNat (IntKind.wrap .i64 (a3 + s1.1))) 1)) fun (x20 : Int) =>
        ix a0.a a0.len (IntKind.wrap .i64 (a3 + s1.1)) fun p21 =>
        stC (p21.add (scaled (Int.toNat (IntKind.wrap .i64 (a3 + s1.1))) 1)) (.int .i64 x18) <|
        ix a0.a a0.len (IntKind.wrap .i64 (a3 + s4.1)) fun p22 =>
        stC (p22.add (scaled (Int.toNat (IntKind.wrap .i64 (a3 + s4.1))) 1)) (.int .i64 x20) <|
        again2 (s4.1, ())))) (a1, ())
noncomputable def h81 : Hint := (.seq none (.region [] (.ops 2 .done)) (.block (.loop 75557863725914323417856 [(8, (.one (.int .i64)))] (.block (.seq none (.region [] (.ops 4 .done)) (.seq none (.seq none (.region [] (.ops 3 .done)) (.cond none .leaf .leaf)) (.seq (some (549755683328, [(9, (.one (.int .i64)))])) (.seq (some (137438822400, [(36, (.one .bool))])) (.region [0, 1, 2, 3, 4, 5, 6, 7, 8, 9, 10, 11, 12, 13, 14, 15, 16, 17, 18, 19] (.ops 5 (.split 21 (.ops 15 .done) (.skips 14 (.ops 1 .done))))) (.cond none (.region [] (.ops 3 .done)) .leaf)) (.seq none (.seq none (.region [0, 1, 2, 3, 4, 5, 6, 7, 8, 9, 10, 11, 12, 13] (.ops 14 .done)) (.cond none .leaf .leaf)) (.seq none (.region [0, 1, 2, 3, 4, 5, 6, 7, 8, 9, 10, 11, 12, 13, 14, 15, 16, 17, 18, 19, 20, 21, 22, 23] (.ops 24 .done)) (.region [] (.ops 2 .done)))))))))))
theorem F81_tie (a0 : Sl) (a1 : Int) (a2 : Int) (a3 : Int) (K : Unit → World → Prop) : vcgF tab Try.prog Try.f81 h81 [(.slice a0.a a0.len a0.cap), (.int .i64 a1), (.int .i64 a2), (.int .i64 a3)] (.tup []) K = F81 a0 a1 a2 a3 K := by kernel_rfl
theorem F81_calls {a0 : Sl} {a1 : Int} {a2 : Int} {a3 : Int} {K : Unit → World → Prop} {w : World} (h : F81 a0 a1 a2 a3 K w) : callT Try.prog 81 #[(.slice a0.a a0.len a0.cap), (.int .i64 a1), (.int .i64 a2), (.int .i64 a3)] (.tup []) K w :=
  vcgF_sound tabOk Try.func81 h81 [(.slice a0.a a0.len a0.cap), (.int .i64 a1), (.int .i64 a2), (.int .i64 a3)] (.tup []) K w (Eq.mpr (congrFun (F81_tie a0 a1 a2 a3 K) w) h)

/-- slices.nextPowerOfTwo -/
noncomputable def F82 (a0 : Int) (K : Int → World → Prop) : World → Prop :=
  callT Try.prog 58 #[(.int .u64 (IntKind.wrap .u64 a0))] (.one (.one (.int .i64))) fun (x1 : Int) =>
  chk (0 ≤ x1) <|
  K (IntKind.wrap .u64 ((1 : Int) * 2 ^ (min (Int.toNat x1) (IntKind.bits .u64))))
noncomputable def h82 : Hint := (.seq none (.region [] (.ops 1 .done)) (.seq none (.region [] (.ops 5 .done)) .leaf))
theorem F82_tie (a0 : Int) (K : Int → World → Prop) : vcgF tab Try.prog Try.f82 h82 [(.int .i64 a0)] (.one (.one (.int .u64))) K = F82 a0 K := by kernel_rfl
theorem F82_calls {a0 : Int} {K : Int → World → Prop} {w : World} (h : F82 a0 K w) : callT Try.prog 82 #[(.int .i64 a0)] (.one (.one (.int .u64))) K w :=
  vcgF_sound tabOk Try.func82 h82 [(.int .i64 a0)] (.one (.one (.int .u64))) K w (Eq.mpr (congrFun (F82_tie a0 K) w) h)

/-- (*slices.xorshift).Next -/
noncomputable def F83 (a0 : Option Addr) (K : Int → World → Prop) : World → Prop :=
  drew <|
  nn a0 fun p1 =>
  ld (.int .u64) p1 fun (x2 : Int) =>
  nn a0 fun p3 =>
  ld (.int .u64) p3 fun (x4 : Int) =>
  chk (0 ≤ (13 : Int)) <|
  nn a0 fun p5 =>
  stC p5 (.int .u64 (IntKind.wrap .u64 ((BitVec.toNat (BitVec.ofInt (IntKind.bits .u64) x2 ^^^ BitVec.ofInt (IntKind.bits .u64) (IntKind.wrap .u64 (x4 * 2 ^ (min (Int.toNat (13 : Int)) (IntKind.bits .u64))))) : Nat) : Int))) <|
  drew <|
  nn a0 fun p6 =>
  ld (.int .u64) p6 fun (x7 : Int) =>
  nn a0 fun p8 =>
  ld (.int .u64) p8 fun (x9 : Int) =>
  chk (0 ≤ (7 : Int)) <|
  nn a0 fun p10 =>
  stC p10 (.int .u64 (IntKind.wrap .u64 ((BitVec.toNat (BitVec.ofInt (IntKind.bits .u64) x7 ^^^ BitVec.ofInt (IntKind.bits .u64) (Int.fdiv x9 (2 ^ (min (Int.toNat (7 : Int)) (IntKind.bits .u64))))) : Nat) : Int))) <|
  drew <|
  nn a0 fun p11 =>
  ld (.int .u64) p11 fun (x12 : Int) =>
  nn a0 fun p13 =>
  ld (.int .u64) p13 fun (x14 : Int) =>
  chk (0 ≤ (17 : Int)) <|
  nn a0 fun p15 =>
  stC p15 (.int .u64 (IntKind.wrap .u64 ((BitVec.toNat (BitVec.ofInt (IntKind.bits .u64) x12 ^^^ BitVec.ofInt (IntKind.bits .u64) (IntKind.wrap .u64 (x14 * 2 ^ (min (Int.toNat (17 : Int)) (IntKind.bits .u64))))) : Nat) : Int))) <|
  nn a0 fun p16 =>
  ld (.int .u64) p16 fun (x17 : Int) =>
  K x17
noncomputable def h83 : Hint := (.seq none (.region [] (.ops 1 .done)) (.seq none (.region [0, 1, 2, 3, 4, 5, 6, 7, 8, 9] (.ops 10 .done)) (.seq none (.region [0, 1, 2, 3, 4, 5, 6, 7, 8, 9] (.ops 10 .done)) (.seq none (.region [0, 1, 2, 3, 4, 5, 6, 7, 8, 9] (.ops 10 .done)) (.seq none (.region [] (.ops 4 .done)) .leaf)))))
theorem F83_tie (a0 : Option Addr) (K : Int → World → Prop) : vcgF tab Try.prog Try.f83 h83 [(.pointer a0)] (.one (.one (.int .u64))) K = F83 a0 K := by kernel_rfl
theorem F83_calls {a0 : Option Addr} {K : Int → World → Prop} {w : World} (h : F83 a0 K w) : callT Try.prog 83 #[(.pointer a0)] (.one (.one (.int .u64))) K w :=
  vcgF_sound tabOk Try.func83 h83 [(.pointer a0)] (.one (.one (.int .u64))) K w (Eq.mpr (congrFun (F83_tie a0 K) w) h)

/-- slices.medianAdjacentOrdered[int] -/
noncomputable def F84 (a0 : Sl) (a1 : Int) (a2 : Option Addr) (K : Int → World → Prop) : World → Prop :=
  callT Try.prog 85 #[(.slice a0.a a0.len a0.cap), (.int .i64 (IntKind.wrap .i64 (a1 - (1 : Int)))), (.int .i64 a1), (.int .i64 (IntKind.wrap .i64 (a1 + (1 : Int)))), (.pointer a2)] (.one (.one (.int .i64))) fun (x1 : Int) =>
  K x1
noncomputable def h84 : Hint := (.seq none (.region [] (.ops 1 .done)) (.seq none (.region [] (.ops 9 .done)) .leaf))
theorem F84_tie (a0 : Sl) (a1 : Int) (a2 : Option Addr) (K : Int → World → Prop) : vcgF tab Try.prog Try.f84 h84 [(.slice a0.a a0.len a0.cap), (.int .i64 a1), (.pointer a2)] (.one (.one (.int .i64))) K = F84 a0 a1 a2 K := by kernel_rfl
theorem F84_calls {a0 : Sl} {a1 : Int} {a2 : Option Addr} {K : Int → World → Prop} {w : World} (h : F84 a0 a1 a2 K w) : callT Try.prog 84 #[(.slice a0.a a0.len a0.cap), (.int .i64 a1), (.pointer a2)] (.one (.one (.int .i64))) K w :=
  vcgF_sound tabOk Try.func84 h84 [(.slice a0.a a0.len a0.cap), (.int .i64 a1), (.pointer a2)] (.one (.one (.int .i64))) K w (Eq.mpr (congrFun (F84_tie a0 a1 a2 K) w) h)

/-- slices.medianOrdered[int] -/
noncomputable def F85 (a0 : Sl) (a1 : Int) (a2 : Int) (a3 : Int) (a4 : Option Addr) (K : Int → World → Prop) : World → Prop :=
  callT Try.prog 87 #[(.slice a0.a a0.len a0.cap), (.int .i64 a1), (.int .i64 a2), (.pointer a4)] (.tup [(.one (.int .i64)), (.one (.int .i64))]) fun (x1 : (Int × Int × Unit)) =>
  callT Try.prog 87 #[(.slice a0.a a0.len a0.cap), (.int .i64 x1.2.1), (.int .i64 a3), (.pointer a4)] (.tup [(.one (.int .i64)), (.one (.int .i64))]) fun (x2 : (Int × Int × Unit)) =>
  callT Try.prog 87 #[(.slice a0.a a0.len a0.cap), (.int .i64 x1.1), (.int .i64 x2.1), (.pointer a4)] (.tup [(.one (.int .i64)), (.one (.int .i64))]) fun (x3 : (Int × Int × Unit)) =>
  K x3.2.1
noncomputable def h85 : Hint := (.seq none (.region [] (.ops 1 .done)) (.seq none (.region [] (.ops 10 .done)) (.seq none (.region [] (.ops 10 .done)) (.seq none (.region [] (.ops 10 .done)) (.seq none (.region [] (.ops 2 .done)) .leaf)))))
theorem F85_tie (a0 : Sl) (a1 : Int) (a2 : Int) (a3 : Int) (a4 : Option Addr) (K : Int → World → Prop) : vcgF tab Try.prog Try.f85 h85 [(.slice a0.a a0.len a0.cap), (.int .i64 a1), (.int .i64 a2), (.int .i64 a3), (.pointer a4)] (.one (.one (.int .i64))) K = F85 a0 a1 a2 a3 a4 K := by kernel_rfl
theorem F85_calls {a0 : Sl} {a1 : Int} {a2 : Int} {a3 : Int} {a4 : Option Addr} {K : Int → World → Prop} {w : World} (h : F85 a0 a1 a2 a3 a4 K w) : callT Try.prog 85 #[(.slice a0.a a0.len a0.cap), (.int .i64 a1), (.int .i64 a2), (.int .i64 a3), (.pointer a4)] (.one (.one (.int .i64))) K w :=
  vcgF_sound tabOk Try.func85 h85 [(.slice a0.a a0.len a0.cap), (.int .i64 a1), (.int .i64 a2), (.int .i64 a3), (.pointer a4)] (.one (.one (.int .i64))) K w (Eq.mpr (congrFun (F85_tie a0 a1 a2 a3 a4 K) w) h)

/-- cmp.isNaN[int] -/
noncomputable def F86 (a0 : Int) (K : Bool → World → Prop) : World → Prop :=
  K (a0 != a0)
noncomputable def h86 : Hint := (.seq none (.region [] (.ops 1 .done)) (.seq none (.region [] (.ops 4 .done)) .leaf))
theorem F86_tie (a0 : Int) (K : Bool → World → Prop) : vcgF tab Try.prog Try.f86 h86 [(.int .i64 a0)] (.one (.one .bool)) K = F86 a0 K := by kernel_rfl
theorem F86_calls {a0 : Int} {K : Bool → World → Prop} {w : World} (h : F86 a0 K w) : callT Try.prog 86 #[(.int .i64 a0)] (.one (.one .bool)) K w :=
  vcgF_sound tabOk Try.func86 h86 [(.int .i64 a0)] (.one (.one .bool)) K w (Eq.mpr (congrFun (F86_tie a0 K) w) h)

/-- slices.order2Ordered[int] -/
noncomputable def F87 (a0 : Sl) (a1 : Int) (a2 : Int) (a3 : Option Addr) (K : (Int × Int × Unit) → World → Prop) : World → Prop :=
  drew <|
  ix a0.a a0.len a2 fun p1 =>
  ld (.int .i64) (p1.add (scaled (Int.toNat a2) 1)) fun (x2 : Int) =>
  ix a0.a a0.len a1 fun p3 =>
  ld (.int .i64) (p3.add (scaled (Int.toNat a1) 1)) fun (x4 : Int) =>
  callT Try.prog 73 #[(.int .i64 x2), (.int .i64 x4)] (.one (.one .bool)) fun (x5 : Bool) =>
  sif x5 (
    nn a3 fun p6 =>
    ld (.int .i64) p6 fun (x7 : Int) =>
    nn a3 fun p8 =>
    stC p8 (.int .i64 (IntKind.wrap .i64 (x7 + (1 : Int)))) <|
    K (a2, a1, ())) (
    K (a1, a2, ()))
noncomputable def h87 : Hint := (.seq none (.region [] (.ops 2 .done)) (.seq none (.seq none (.region [0, 1, 2, 3, 4, 5, 6, 7, 8] (.ops 9 .done)) (.cond none (.seq none (.region [] (.ops 6 .done)) (.seq none (.region [] (.ops 4 .done)) .leaf)) .leaf)) (.seq none (.region [] (.ops 4 .done)) .leaf)))
theorem F87_tie (a0 : Sl) (a1 : Int) (a2 : Int) (a3 : Option Addr) (K : (Int × Int × Unit) → World → Prop) : vcgF tab Try.prog Try.f87 h87 [(.slice a0.a a0.len a0.cap), (.int .i64 a1), (.int .i64 a2), (.pointer a3)] (.tup [(.one (.int .i64)), (.one (.int .i64))]) K = F87 a0 a1 a2 a3 K := by kernel_rfl
theorem F87_calls {a0 : Sl} {a1 : Int} {a2 : Int} {a3 : Option Addr} {K : (Int × Int × Unit) → World → Prop} {w : World} (h : F87 a0 a1 a2 a3 K w) : callT Try.prog 87 #[(.slice a0.a a0.len a0.cap), (.int .i64 a1), (.int .i64 a2), (.pointer a3)] (.tup [(.one (.int .i64)), (.one (.int .i64))]) K w :=
  vcgF_sound tabOk Try.func87 h87 [(.slice a0.a a0.len a0.cap), (.int .i64 a1), (.int .i64 a2), (.pointer a3)] (.tup [(.one (.int .i64)), (.one (.int .i64))]) K w (Eq.mpr (congrFun (F87_tie a0 a1 a2 a3 K) w) h)

end Go.Proofs.Ytocdfkeflakemaa
