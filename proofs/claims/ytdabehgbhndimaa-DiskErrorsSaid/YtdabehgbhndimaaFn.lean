/-
  MADE BY PROGRAM (gen.py) out of the loaded translation.
-/
import Derived.Test.YtdabehgbhndimaaTab
set_option linter.unusedSimpArgs false
set_option linter.unusedVariables false
set_option maxRecDepth 100000
set_option linter.unusedVariables false
namespace Go.Proofs.Ytdabehgbhndimaa
open Go Go.Vx

/-- copyist/copyistlaw16.DiskErrors -/
noncomputable def F3 (a0 : Int) (a1 : Sl) (K : Bool → World → Prop) : World → Prop :=
  callT Try.prog 9 #[(.slice a1.a a1.len a1.cap)] (.one (.one .bool)) fun (x1 : Bool) =>
  sif (!x1) (
    K true) (
    callT Try.prog 11 #[(.int .i64 a0)] (.one (.one (.int .i64))) fun (x2 : Int) =>
    callT Try.prog 10 #[(.int .i64 x2)] (.one (.one .ptr)) fun (x3 : Option Addr) =>
    callT Try.prog 11 #[(.int .i64 a0)] (.one (.one (.int .i64))) fun (x4 : Int) =>
    callT Try.prog 12 #[(.int .i64 x4)] (.tup [(.one .ptr), (.one (.int .i64))]) fun (x5 : (Option Addr × Int × Unit)) =>
    join (S := Bool × Unit) (fun J6 =>
      sif (Option.isNone x3) (
        J6 (true, ())) (
        sif (Option.isNone x5.1) (
          J6 (true, ())) (
          callT Try.prog 13 #[(.pointer x3), (.string { data := #[97, 32, 98] }), (.slice none 0 0)] (.one (.one .any)) fun (x8 : Value) =>
          rdB Try.prog (do eqGuard .eql 31 (Operand.tmp 34) (Operand.const Value.nilIface) x8 .nilIface; binOp .eql 31 x8 .nilIface : Sem Value) fun r9 =>
          J6 (r9, ())))) fun (s7 : Bool × Unit) =>
    sif s7.1 (
      K false) (
      join (S := Unit) (fun J10 =>
        sloop (S := Int × Unit) (fun (s12 : Int × Unit) again13 =>
          sif (decide (s12.1 < ((a1.len : Nat) : Int))) (
            join (S := Unit) (fun J14 =>
              ix a1.a a1.len s12.1 fun p16 =>
              lds c39 (p16.add (scaled (Int.toNat s12.1) 8)) fun (x17 : (Int × Int × ByteArray × ByteArray × Sl × Sl × Int × Sl × Unit)) =>
              newO (.cells #[(.int .i64 (0 : Int)), (.int .i64 (0 : Int)), (.string { data := #[] }), (.string { data := #[] }), (.slice none 0 0), (.slice none 0 0), (.int .i64 (0 : Int)), (.slice none 0 0)] 39) fun b18 =>
              aggSt (at0 b18) (.agg (Cells.vals c39 x17).toArray) 8 <|
              join (S := Bool × Unit) (fun J19 =>
                ld (.int .i64) (at0 b18) fun (x21 : Int) =>
                sif (x21 != (3 : Int)) (
                  ld (.int .i64) (at0 b18) fun (x22 : Int) =>
                  J19 ((x22 != (6 : Int)), ())) (
                  J19 (false, ()))) fun (s20 : Bool × Unit) =>
              sif s20.1 (
                J14 ()) (
                join (S := Value × Unit) (fun J23 =>
                  ld (.int .i64) (at0 b18) fun (x25 : Int) =>
                  sif (x25 == (3 : Int)) (
                    ld (.str) (⟨b18, 2, none⟩ : Addr) fun (x26 : ByteArray) =>
                    callT Try.prog 14 #[(.pointer x3), (.string x26)] (.one (.one .any)) fun (x27 : Value) =>
                    J23 (x27, ())) (
                    ld (.str) (⟨b18, 2, none⟩ : Addr) fun (x28 : ByteArray) =>
                    callT Try.prog 15 #[(.pointer x3), (.string x28)] (.one (.one .any)) fun (x29 : Value) =>
                    J23 (x29, ()))) fun (s24 : Value × Unit) =>
                drew <|
                ld (.int .i64) (at0 b18) fun (x30 : Int) =>
                ld (.str) (⟨b18, 2, none⟩ : Addr) fun (x31 : ByteArray) =>
                both (
                  newO (.cells #[(.int .i64 (0 : Int)), (.slice none 0 0), (.int .i64 (0 : Int)), (.int .i64 (0 : Int)), (.int .i64 (0 : Int)), (.int .i64 (0 : Int)), (.int .i64 (0 : Int))] 43) fun b32 =>
                  keep (fun w => w.cell? (⟨b18, 2, none⟩ : Addr) = some (Cell.val (.str) x31)) <|
                  keep (fun w => w.cell? (at0 b18) = some (Cell.val (.int .i64) x30)) <|
                  callT Try.prog 17 #[(.int .i64 x30)] (.one (.one .str)) fun (x33 : ByteArray) =>
                  keep (fun w => w.cell? (⟨b18, 2, none⟩ : Addr) = some (Cell.val (.str) x31)) <|
                  callT Try.prog 16 #[(.pointer x5.1), (.agg #[(.string x33), (.string x31), (.string { data := #[] }), (.slice none 0 0)])] (.one (.agg c43)) fun (x34 : (Int × Sl × Int × Int × Int × Int × Int × Unit)) =>
                  aggSt (at0 b32) (.agg (Cells.vals c43 x34).toArray) 7 <|
                  drew <|
                  rdB Try.prog (do eqGuard .eql 31 (Operand.tmp 74) (Operand.const Value.nilIface) s24.1 .nilIface; binOp .eql 31 s24.1 .nilIface : Sem Value) fun r35 =>
                  ld (.int .i64) (⟨b32, 5, none⟩ : Addr) fun (x36 : Int) =>
                  rdB Try.prog (do eqGuard .neq 4 (Operand.tmp 75) (Operand.tmp 78) (.bool r35) (.bool (x36 == (0 : Int))); binOp .neq 4 (.bool r35) (.bool (x36 == (0 : Int))) : Sem Value) fun r37 =>
                  sif r37 (
                    K false) (
                    sloop (S := Int × Unit) (fun (s38 : Int × Unit) again39 =>
                      join (S := Bool × Unit) (fun J40 =>
                        sif (decide (s38.1 < (166 : Int))) (
                          rdB Try.prog (do eqGuard .neq 31 (Operand.tmp 83) (Operand.const Value.nilIface) s24.1 .nilIface; binOp .neq 31 s24.1 .nilIface : Sem Value) fun r42 =>
                          J40 (r42, ())) (
                          J40 (false, ()))) fun (s41 : Bool × Unit) =>
                      sif s41.1 (
                        callT Try.prog 18 #[s24.1, (.iface 49 (.int .i64 s38.1))] (.one (.one .bool)) fun (x43 : Bool) =>
                        ld (.int .i64) (⟨b32, 5, none⟩ : Addr) fun (x44 : Int) =>
                        rdB Try.prog (do eqGuard .neq 4 (Operand.tmp 92) (Operand.tmp 96) (.bool x43) (.bool (s38.1 == x44)); binOp .neq 4 (.bool x43) (.bool (s38.1 == x44)) : Sem Value) fun r45 =>
                        sif r45 (
                          K false) (
                          again39 ((IntKind.wrap .i64 (s38.1 + (1 : Int))), ()))) (
                        J14 ())) ((160 : Int), ()))) <|
                callT Try.prog 17 #[(.int .i64 x30)] (.one (.one .str)) fun (x46 : ByteArray) =>
                keep (fun w => w.cell? (⟨b18, 2, none⟩ : Addr) = some (Cell.val (.str) x31)) <|
                both (
                  newO (.cells #[(.int .i64 (0 : Int)), (.slice none 0 0), (.int .i64 (0 : Int)), (.int .i64 (0 : Int)), (.int .i64 (0 : Int)), (.int .i64 (0 : Int)), (.int .i64 (0 : Int))] 43) fun b47 =>
                  keep (fun w => w.cell? (⟨b18, 2, none⟩ : Addr) = some (Cell.val (.str) x31)) <|
                  keep (fun w => w.cell? (at0 b18) = some (Cell.val (.int .i64) x30)) <|
                  callT Try.prog 16 #[(.pointer x5.1), (.agg #[(.string x46), (.string x31), (.string { data := #[] }), (.slice none 0 0)])] (.one (.agg c43)) fun (x48 : (Int × Sl × Int × Int × Int × Int × Int × Unit)) =>
                  aggSt (at0 b47) (.agg (Cells.vals c43 x48).toArray) 7 <|
                  drew <|
                  rdB Try.prog (do eqGuard .eql 31 (Operand.tmp 74) (Operand.const Value.nilIface) s24.1 .nilIface; binOp .eql 31 s24.1 .nilIface : Sem Value) fun r49 =>
                  ld (.int .i64) (⟨b47, 5, none⟩ : Addr) fun (x50 : Int) =>
                  rdB Try.prog (do eqGuard .neq 4 (Operand.tmp 75) (Operand.tmp 78) (.bool r49) (.bool (x50 == (0 : Int))); binOp .neq 4 (.bool r49) (.bool (x50 == (0 : Int))) : Sem Value) fun r51 =>
                  sif r51 (
                    K false) (
                    sloop (S := Int × Unit) (fun (s52 : Int × Unit) again53 =>
                      join (S := Bool × Unit) (fun J54 =>
                        sif (decide (s52.1 < (166 : Int))) (
                          rdB Try.prog (do eqGuard .neq 31 (Operand.tmp 83) (Operand.const Value.nilIface) s24.1 .nilIface; binOp .neq 31 s24.1 .nilIface : Sem Value) fun r56 =>
                          J54 (r56, ())) (
                          J54 (false, ()))) fun (s55 : Bool × Unit) =>
                      sif s55.1 (
                        callT Try.prog 18 #[s24.1, (.iface 49 (.int .i64 s52.1))] (.one (.one .bool)) fun (x57 : Bool) =>
                        ld (.int .i64) (⟨b47, 5, none⟩ : Addr) fun (x58 : Int) =>
                        rdB Try.prog (do eqGuard .neq 4 (Operand.tmp 92) (Operand.tmp 96) (.bool x57) (.bool (s52.1 == x58)); binOp .neq 4 (.bool x57) (.bool (s52.1 == x58)) : Sem Value) fun r59 =>
                        sif r59 (
                          K false) (
                          again53 ((IntKind.wrap .i64 (s52.1 + (1 : Int))), ()))) (
                        J14 ())) ((160 : Int), ()))) <|
                callT Try.prog 16 #[(.pointer x5.1), (.agg #[(.string x46), (.string x31), (.string { data := #[] }), (.slice none 0 0)])] (.one (.agg c43)) fun (x60 : (Int × Sl × Int × Int × Int × Int × Int × Unit)) =>
                newO (.cells #[(.int .i64 (0 : Int)), (.slice none 0 0), (.int .i64 (0 : Int)), (.int .i64 (0 : Int)), (.int .i64 (0 : Int)), (.int .i64 (0 : Int)), (.int .i64 (0 : Int))] 43) fun b61 =>
                keep (fun w => w.cell? (⟨b18, 2, none⟩ : Addr) = some (Cell.val (.str) x31)) <|
                keep (fun w => w.cell? (at0 b18) = some (Cell.val (.int .i64) x30)) <|
                aggSt (at0 b61) (.agg (Cells.vals c43 x60).toArray) 7 <|
                drew <|
                rdB Try.prog (do eqGuard .eql 31 (Operand.tmp 74) (Operand.const Value.nilIface) s24.1 .nilIface; binOp .eql 31 s24.1 .nilIface : Sem Value) fun r62 =>
                ld (.int .i64) (⟨b61, 5, none⟩ : Addr) fun (x63 : Int) =>
                rdB Try.prog (do eqGuard .neq 4 (Operand.tmp 75) (Operand.tmp 78) (.bool r62) (.bool (x63 == (0 : Int))); binOp .neq 4 (.bool r62) (.bool (x63 == (0 : Int))) : Sem Value) fun r64 =>
                sif r64 (
                  K false) (
                  sloop (S := Int × Unit) (fun (s65 : Int × Unit) again66 =>
                    join (S := Bool × Unit) (fun J67 =>
                      sif (decide (s65.1 < (166 : Int))) (
                        rdB Try.prog (do eqGuard .neq 31 (Operand.tmp 83) (Operand.const Value.nilIface) s24.1 .nilIface; binOp .neq 31 s24.1 .nilIface : Sem Value) fun r69 =>
                        J67 (r69, ())) (
                        J67 (false, ()))) fun (s68 : Bool × Unit) =>
                    sif s68.1 (
                      callT Try.prog 18 #[s24.1, (.iface 49 (.int .i64 s65.1))] (.one (.one .bool)) fun (x70 : Bool) =>
                      ld (.int .i64) (⟨b61, 5, none⟩ : Addr) fun (x71 : Int) =>
                      rdB Try.prog (do eqGuard .neq 4 (Operand.tmp 92) (Operand.tmp 96) (.bool x70) (.bool (s65.1 == x71)); binOp .neq 4 (.bool x70) (.bool (s65.1 == x71)) : Sem Value) fun r72 =>
                      sif r72 (
                        K false) (
                        again66 ((IntKind.wrap .i64 (s65.1 + (1 : Int))), ()))) (
                      J14 ())) ((160 : Int), ())))) fun (s15 : Unit) =>
            again13 ((IntKind.wrap .i64 (s12.1 + (1 : Int))), ())) (
            J10 ())) ((0 : Int), ())) fun (s11 : Unit) =>
      K true))
noncomputable def h3 : Hint := (.seq none (.region [] (.ops 1 .done)) (.seq none (.seq none (.region [] (.ops 3 .done)) (.cond none (.seq none (.region [] (.ops 1 .done)) .leaf) .leaf)) (.seq none (.region [] (.ops 4 .done)) (.seq none (.region [] (.ops 8 .done)) (.seq none (.seq (some (137371844608, [(36, (.one .bool))])) (.region [] (.ops 3 (.split 28 (.skips 2 (.ops 2 (.skips 3 (.ops 1 .done)))) (.ops 4 (.split 32 (.skips 3 (.ops 1 .done)) (.ops 4 .done)))))) (.cond none (.seq none (.region [] (.ops 1 .done)) .leaf) .leaf)) (.seq (some (316912650057057350236736864016, [])) (.seq none (.region [] (.ops 1 .done)) (.block (.loop 316912650057057350236736864016 [(8, (.one (.int .i64)))] (.seq none (.seq none (.region [] (.ops 4 .done)) (.cond none .leaf .leaf)) (.seq (some (316912650057057341578082795024, [])) (.block (.seq none (.region [] (.ops 6 .done)) (.seq none (.seq (some (35888059530608640, [(54, (.one .bool))])) (.region [] (.ops 4 (.split 50 (.ops 4 .done) (.skips 3 (.ops 1 .done))))) (.cond none .leaf .leaf)) (.seq none (.region [] (.ops 1 .done)) (.seq (some (73750947497819243520, [(10, (.one .any))])) (.seq none (.region [] (.ops 3 .done)) (.cond none (.region [] (.ops 5 .done)) (.region [] (.ops 5 .done)))) (.seq none (.region [0, 1, 2, 4, 5, 3, 6, 7, 9] (.float 8 (.ops 5 (.both (.ops 5 .done) none (.ops 1 (.both (.ops 3 .done) none (.now (.ops 2 .done)))))))) (.seq none (.seq none (.region [0, 1, 2, 3, 4, 5] (.ops 6 .done)) (.cond none (.seq none (.region [] (.ops 1 .done)) .leaf) .leaf)) (.seq none (.region [] (.ops 1 .done)) (.block (.loop 316911441131237735745001107472 [(12, (.one (.int .i64)))] (.seq none (.seq (some (76162326635721638006489088, [(85, (.one .bool))])) (.region [] (.ops 3 (.split 82 (.ops 3 .done) (.skips 2 (.ops 1 .done))))) (.cond none .leaf .leaf)) (.seq none (.block (.seq none (.region [] (.ops 5 .done)) (.seq none (.region [] (.ops 6 .done)) (.cond none (.seq none (.region [] (.ops 1 .done)) .leaf) .leaf)))) (.region [] (.ops 3 .done)))))))))))))) (.region [] (.ops 3 .done))))))) (.seq none (.region [] (.ops 1 .done)) .leaf)))))))
theorem F3_tie (a0 : Int) (a1 : Sl) (K : Bool → World → Prop) : vcgF tab Try.prog Try.f3 h3 [(.int .i64 a0), (.slice a1.a a1.len a1.cap)] (.one (.one .bool)) K = F3 a0 a1 K := by kernel_rfl
theorem F3_calls {a0 : Int} {a1 : Sl} {K : Bool → World → Prop} {w : World} (h : F3 a0 a1 K w) : callT Try.prog 3 #[(.int .i64 a0), (.slice a1.a a1.len a1.cap)] (.one (.one .bool)) K w :=
  vcgF_sound tabOk Try.func3 h3 [(.int .i64 a0), (.slice a1.a a1.len a1.cap)] (.one (.one .bool)) K w (Eq.mpr (congrFun (F3_tie a0 a1 K) w) h)

/-- copyist/copyistlaw16.DiskAtomic -/
noncomputable def F4 (a0 : Sl) (a1 : Sl) (a2 : Sl) (a3 : (Int × Sl × Unit)) (K : Bool → World → Prop) : World → Prop :=
  newO (.cells #[(.int .i64 a3.1), (.slice a3.2.1.a a3.2.1.len a3.2.1.cap)] 37) fun b1 =>
  join (S := Int × Unit) (fun J2 =>
    sloop (S := Int × Int × Unit) (fun (s4 : Int × Int × Unit) again5 =>
      join (S := Bool × Unit) (fun J6 =>
        sif (decide (s4.2.1 < ((a1.len : Nat) : Int))) (
          sif (decide (s4.2.1 ≤ (40 : Int))) (
            J6 ((decide (s4.1 ≤ (4000 : Int))), ())) (
            J6 (false, ()))) (
          J6 (false, ()))) fun (s7 : Bool × Unit) =>
      sif s7.1 (
        ix a1.a a1.len s4.2.1 fun p8 =>
        ld (.sl) (p8.add (scaled (Int.toNat s4.2.1) 1)) fun (x9 : Sl) =>
        again5 ((IntKind.wrap .i64 (s4.1 + ((x9.len : Nat) : Int))), (IntKind.wrap .i64 (s4.2.1 + (1 : Int))), ())) (
        J2 (s4.1, ()))) (((a0.len : Nat) : Int), (0 : Int), ())) fun (s3 : Int × Unit) =>
  join (S := Bool × Unit) (fun J10 =>
    sif (decide (s3.1 > (4000 : Int))) (
      J10 (true, ())) (
      sif (decide (((a1.len : Nat) : Int) > (40 : Int))) (
        J10 (true, ())) (
        J10 ((decide (((a2.len : Nat) : Int) > (40 : Int))), ())))) fun (s11 : Bool × Unit) =>
  sif s11.1 (
    K true) (
    join (S := ByteArray × Unit) (fun J12 =>
      sloop (S := ByteArray × Int × Unit) (fun (s14 : ByteArray × Int × Unit) again15 =>
        sif (decide (s14.2.1 < ((a1.len : Nat) : Int))) (
          ix a1.a a1.len s14.2.1 fun p16 =>
          ld (.sl) (p16.add (scaled (Int.toNat s14.2.1) 1)) fun (x17 : Sl) =>
          rawT Try.prog (.one (.one .str)) (convert 33 9 (.slice x17.a x17.len x17.cap)) fun x18 =>
          chk (((ByteArray.size s14.1 + ByteArray.size x18 : Nat) : Int) ≤ IntKind.max .i64) <|
          again15 ((s14.1 ++ x18), (IntKind.wrap .i64 (s14.2.1 + (1 : Int))), ())) (
          J12 (s14.1, ()))) ({ data := #[] }, (0 : Int), ())) fun (s13 : ByteArray × Unit) =>
    callT Try.prog 10 #[(.int .i64 (10000 : Int))] (.one (.one .ptr)) fun (x19 : Option Addr) =>
    join (S := Bool × Unit) (fun J20 =>
      sif (Option.isNone x19) (
        J20 (true, ())) (
        rawT Try.prog (.one (.one .sl)) (Builtin.append_ #[33, 33] 33 #[(.slice none 0 0), (.slice a0.a a0.len a0.cap)]) fun (x22 : Sl) =>
        callT Try.prog 13 #[(.pointer x19), (.string { data := #[116, 101, 120, 116] }), (.slice x22.a x22.len x22.cap)] (.one (.one .any)) fun (x23 : Value) =>
        rdB Try.prog (do eqGuard .neq 31 (Operand.tmp 75) (Operand.const Value.nilIface) x23 .nilIface; binOp .neq 31 x23 .nilIface : Sem Value) fun r24 =>
        sif r24 (
          J20 (true, ())) (
          newO (.cells #[(.int .u8 (115 : Int)), (.int .u8 (116 : Int)), (.int .u8 (97 : Int)), (.int .u8 (121 : Int)), (.int .u8 (115 : Int))] 5) fun b25 =>
          rawT Try.prog (.one (.one .sl)) (convert 33 33 (.slice (some (at0 b25)) 5 5)) fun x26 =>
          callT Try.prog 13 #[(.pointer x19), (.string { data := #[111, 116, 104, 101, 114] }), (.slice x26.a x26.len x26.cap)] (.one (.one .any)) fun (x27 : Value) =>
          rdB Try.prog (do eqGuard .neq 31 (Operand.tmp 82) (Operand.const Value.nilIface) x27 .nilIface; binOp .neq 31 x27 .nilIface : Sem Value) fun r28 =>
          J20 (r28, ())))) fun (s21 : Bool × Unit) =>
    sif s21.1 (
      K false) (
      callT Try.prog 20 #[(.slice a2.a a2.len a2.cap)] (.one (.one .sl)) fun (x29 : Sl) =>
      callT Try.prog 19 #[(.pointer x19), (.slice x29.a x29.len x29.cap)] (.tup []) fun (x30 : (Unit)) =>
      callT Try.prog 21 #[(.pointer x19), (.string { data := #[116, 101, 120, 116] }), (.slice a1.a a1.len a1.cap)] (.one (.one .bool)) fun (x31 : Bool) =>
      lds c37 (at0 b1) fun (x32 : (Int × Sl × Unit)) =>
      callT Try.prog 22 #[(.pointer x19), (.agg (Cells.vals c37 x32).toArray)] (.tup []) fun (x33 : (Unit)) =>
      callT Try.prog 23 #[(.pointer x19)] (.one (.one .bool)) fun (x34 : Bool) =>
      callT Try.prog 24 #[(.pointer x19)] (.tup []) fun (x35 : (Unit)) =>
      callT Try.prog 25 #[(.pointer x19), (.string { data := #[116, 101, 120, 116] })] (.tup [(.one .sl), (.one .any)]) fun (x36 : (Sl × Value × Unit)) =>
      callT Try.prog 25 #[(.pointer x19), (.string { data := #[111, 116, 104, 101, 114] })] (.tup [(.one .sl), (.one .any)]) fun (x37 : (Sl × Value × Unit)) =>
      join (S := Bool × Unit) (fun J38 =>
        sif (!x34) (
          J38 (true, ())) (
          rdB Try.prog (do eqGuard .neq 31 (Operand.tmp 112) (Operand.const Value.nilIface) x36.2.1 .nilIface; binOp .neq 31 x36.2.1 .nilIface : Sem Value) fun r40 =>
          sif r40 (
            J38 (true, ())) (
            rdB Try.prog (do eqGuard .neq 31 (Operand.tmp 116) (Operand.const Value.nilIface) x37.2.1 .nilIface; binOp .neq 31 x37.2.1 .nilIface : Sem Value) fun r41 =>
            sif r41 (
              J38 (true, ())) (
              rawT Try.prog (.one (.one .str)) (convert 33 9 (.slice x37.1.a x37.1.len x37.1.cap)) fun x42 =>
              sif (!(ByteArray.toList x42 == ByteArray.toList ({ data := #[115, 116, 97, 121, 115] }))) (
                J38 (true, ())) (
                callT Try.prog 26 #[(.pointer x19)] (.one (.one .sl)) fun (x43 : Sl) =>
                J38 ((decide (((x43.len : Nat) : Int) > (3 : Int))), ())))))) fun (s39 : Bool × Unit) =>
      sif s39.1 (
        K false) (
        sif x31 (
          rawT Try.prog (.one (.one .str)) (convert 33 9 (.slice x36.1.a x36.1.len x36.1.cap)) fun x44 =>
          K (ByteArray.toList x44 == ByteArray.toList s13.1)) (
          rawT Try.prog (.one (.one .str)) (convert 33 9 (.slice x36.1.a x36.1.len x36.1.cap)) fun x45 =>
          sif (ByteArray.toList x45 == ByteArray.toList s13.1) (
            K true) (
            rawT Try.prog (.one (.one .str)) (convert 33 9 (.slice x36.1.a x36.1.len x36.1.cap)) fun x46 =>
            rawT Try.prog (.one (.one .str)) (convert 33 9 (.slice a0.a a0.len a0.cap)) fun x47 =>
            K (ByteArray.toList x46 == ByteArray.toList x47))))))
noncomputable def h4 : Hint := (.seq none (.region [] (.ops 2 .done)) (.seq none (.region [] (.ops 3 .done)) (.seq (some (8796088829440, [(9, (.one (.int .i64)))])) (.seq none (.region [] (.ops 1 .done)) (.block (.loop 8796088829440 [(9, (.one (.int .i64))), (10, (.one (.int .i64)))] (.seq none (.seq (some (17175674880, [(33, (.one .bool))])) (.region [] (.ops 5 (.split 26 (.ops 4 (.split 30 (.ops 3 .done) (.skips 2 (.ops 1 .done)))) (.skips 2 (.ops 2 (.skips 2 (.ops 1 .done))))))) (.cond none .leaf .leaf)) (.seq none (.block (.region [] (.ops 8 .done))) (.region [] (.ops 3 .done))))))) (.seq none (.seq (some (36020000925941760, [(54, (.one .bool))])) (.region [] (.ops 3 (.split 45 (.skips 3 (.ops 2 (.skips 3 (.ops 1 .done)))) (.ops 5 (.split 50 (.skips 3 (.ops 1 .done)) (.ops 4 .done)))))) (.cond none (.seq none (.region [] (.ops 1 .done)) .leaf) .leaf)) (.seq none (.region [] (.ops 1 .done)) (.seq (some (295111876382333868032, [(11, (.one .str))])) (.seq none (.region [] (.ops 1 .done)) (.block (.loop 295111876382333868032 [(11, (.one .str)), (12, (.one (.int .i64)))] (.seq none (.seq none (.region [] (.ops 4 .done)) (.cond none .leaf .leaf)) (.seq none (.block (.region [] (.ops 8 .done))) (.region [] (.ops 3 .done))))))) (.seq none (.region [] (.ops 2 .done)) (.seq none (.seq (some (38685035931857774884945920, [(84, (.one .bool))])) (.region [] (.ops 3 (.split 71 (.skips 5 (.ops 2 (.skips 5 (.ops 1 .done)))) (.ops 7 (.split 78 (.skips 5 (.ops 1 .done)) (.ops 6 .done)))))) (.cond none (.seq none (.region [] (.ops 1 .done)) .leaf) .leaf)) (.seq none (.region [] (.ops 4 .done)) (.seq none (.region [] (.ops 4 .done)) (.seq none (.region [] (.ops 3 .done)) (.seq none (.region [] (.ops 3 .done)) (.seq none (.region [] (.ops 2 .done)) (.seq none (.region [] (.ops 7 .done)) (.seq none (.region [] (.ops 7 .done)) (.seq none (.seq (some (1361128818646646537000044863415031693312, [(129, (.one .bool))])) (.region [] (.ops 3 (.split 111 (.skips 2 (.ops 2 (.skips 2 (.ops 2 (.skips 3 (.ops 2 (.skips 4 (.ops 1 .done)))))))) (.ops 4 (.split 115 (.skips 2 (.ops 2 (.skips 3 (.ops 2 (.skips 4 (.ops 1 .done)))))) (.ops 4 (.split 119 (.skips 3 (.ops 2 (.skips 4 (.ops 1 .done)))) (.ops 5 (.split 124 (.skips 4 (.ops 1 .done)) (.ops 5 .done)))))))))) (.cond none (.seq none (.region [] (.ops 1 .done)) .leaf) .leaf)) (.seq none (.seq none (.region [] (.ops 1 .done)) (.cond none (.seq none (.region [] (.ops 5 .done)) .leaf) .leaf)) (.seq none (.region [] (.ops 5 (.split 139 (.skips 5 (.ops 2 .done)) (.ops 7 .done)))) .leaf))))))))))))))))))
theorem F4_tie (a0 : Sl) (a1 : Sl) (a2 : Sl) (a3 : (Int × Sl × Unit)) (K : Bool → World → Prop) : vcgF tab Try.prog Try.f4 h4 [(.slice a0.a a0.len a0.cap), (.slice a1.a a1.len a1.cap), (.slice a2.a a2.len a2.cap), (.agg (Cells.vals c37 a3).toArray)] (.one (.one .bool)) K = F4 a0 a1 a2 a3 K := by kernel_rfl
theorem F4_calls {a0 : Sl} {a1 : Sl} {a2 : Sl} {a3 : (Int × Sl × Unit)} {K : Bool → World → Prop} {w : World} (h : F4 a0 a1 a2 a3 K w) : callT Try.prog 4 #[(.slice a0.a a0.len a0.cap), (.slice a1.a a1.len a1.cap), (.slice a2.a a2.len a2.cap), (.agg (Cells.vals c37 a3).toArray)] (.one (.one .bool)) K w :=
  vcgF_sound tabOk Try.func4 h4 [(.slice a0.a a0.len a0.cap), (.slice a1.a a1.len a1.cap), (.slice a2.a a2.len a2.cap), (.agg (Cells.vals c37 a3).toArray)] (.one (.one .bool)) K w (Eq.mpr (congrFun (F4_tie a0 a1 a2 a3 K) w) h)

/-- copyist/copyistlaw16.DiskPrefix -/
noncomputable def F5 (a0 : Int) (a1 : Sl) (a2 : (Int × Sl × Unit)) (K : Bool → World → Prop) : World → Prop :=
  newO (.cells #[(.int .i64 a2.1), (.slice a2.2.1.a a2.2.1.len a2.2.1.cap)] 37) fun b1 =>
  callT Try.prog 9 #[(.slice a1.a a1.len a1.cap)] (.one (.one .bool)) fun (x2 : Bool) =>
  sif (!x2) (
    K true) (
    callT Try.prog 11 #[(.int .i64 a0)] (.one (.one (.int .i64))) fun (x3 : Int) =>
    callT Try.prog 10 #[(.int .i64 x3)] (.one (.one .ptr)) fun (x4 : Option Addr) =>
    join (S := Bool × Unit) (fun J5 =>
      sif (Option.isNone x4) (
        J5 (true, ())) (
        newO (.cells #[(.int .u8 (49 : Int)), (.int .u8 (50 : Int)), (.int .u8 (51 : Int)), (.int .u8 (52 : Int))] 5) fun b7 =>
        rawT Try.prog (.one (.one .sl)) (convert 33 33 (.slice (some (at0 b7)) 4 4)) fun x8 =>
        callT Try.prog 13 #[(.pointer x4), (.string { data := #[122, 122] }), (.slice x8.a x8.len x8.cap)] (.one (.one .any)) fun (x9 : Value) =>
        rdB Try.prog (do eqGuard .neq 31 (Operand.tmp 29) (Operand.const Value.nilIface) x9 .nilIface; binOp .neq 31 x9 .nilIface : Sem Value) fun r10 =>
        J5 (r10, ()))) fun (s6 : Bool × Unit) =>
    sif s6.1 (
      K false) (
      join (S := Unit) (fun J11 =>
        sloop (S := Int × Unit) (fun (s13 : Int × Unit) again14 =>
          sif (decide (s13.1 < ((a1.len : Nat) : Int))) (
            ix a1.a a1.len s13.1 fun p15 =>
            lds c39 (p15.add (scaled (Int.toNat s13.1) 8)) fun (x16 : (Int × Int × ByteArray × ByteArray × Sl × Sl × Int × Sl × Unit)) =>
            callT Try.prog 27 #[(.pointer x4), (.agg (Cells.vals c39 x16).toArray)] (.one (.one .bool)) fun (x17 : Bool) =>
            again14 ((IntKind.wrap .i64 (s13.1 + (1 : Int))), ())) (
            J11 ())) ((0 : Int), ())) fun (s12 : Unit) =>
      callT Try.prog 24 #[(.pointer x4)] (.tup []) fun (x18 : (Unit)) =>
      callT Try.prog 19 #[(.pointer x4), (.slice none 0 0)] (.tup []) fun (x19 : (Unit)) =>
      callT Try.prog 28 #[(.pointer x4)] (.tup [(.agg c65), (.one .bool)]) fun (x20 : ((Sl × Sl × Sl × Unit) × Bool × Unit)) =>
      newO (.cells #[(.slice none 0 0), (.slice none 0 0), (.slice none 0 0)] 65) fun b21 =>
      aggSt (at0 b21) (.agg (Cells.vals c65 x20.1).toArray) 3 <|
      lds c37 (at0 b1) fun (x22 : (Int × Sl × Unit)) =>
      callT Try.prog 22 #[(.pointer x4), (.agg (Cells.vals c37 x22).toArray)] (.tup []) fun (x23 : (Unit)) =>
      callT Try.prog 26 #[(.pointer x4)] (.one (.one .sl)) fun (x24 : Sl) =>
      callT Try.prog 24 #[(.pointer x4)] (.tup []) fun (x25 : (Unit)) =>
      callT Try.prog 28 #[(.pointer x4)] (.tup [(.agg c65), (.one .bool)]) fun (x26 : ((Sl × Sl × Sl × Unit) × Bool × Unit)) =>
      newO (.cells #[(.slice none 0 0), (.slice none 0 0), (.slice none 0 0)] 65) fun b27 =>
      aggSt (at0 b27) (.agg (Cells.vals c65 x26.1).toArray) 3 <|
      join (S := Bool × Unit) (fun J28 =>
        sif (!x20.2.1) (
          J28 (true, ())) (
          sif (!x26.2.1) (
            J28 (true, ())) (
            J28 ((((x24.len : Nat) : Int) != (0 : Int)), ())))) fun (s29 : Bool × Unit) =>
      sif s29.1 (
        K false) (
        join (S := Unit) (fun J30 =>
          sloop (S := Int × Unit) (fun (s32 : Int × Unit) again33 =>
            ld (.sl) (at0 b27) fun (x34 : Sl) =>
            sif (decide (s32.1 < ((x34.len : Nat) : Int))) (
              join (S := Unit) (fun J35 =>
                sloop (S := Int × Unit) (fun (s37 : Int × Unit) again38 =>
                  ld (.sl) (at0 b21) fun (x39 : Sl) =>
                  sif (decide (s37.1 < ((x39.len : Nat) : Int))) (
                    join (S := Unit) (fun J40 =>
                      drew <|
                      ld (.sl) (⟨b27, 2, none⟩ : Addr) fun (x42 : Sl) =>
                      ix x42.a x42.len s32.1 fun p43 =>
                      chk (0 ≤ (0 : Int) ∧ (0 : Int) < ((3 : Nat) : Int)) <|
                      ld (.int .i64) ((p43.add (scaled (Int.toNat s32.1) 3)).add (scaled (Int.toNat (0 : Int)) 1)) fun (x44 : Int) =>
                      ld (.sl) (⟨b21, 2, none⟩ : Addr) fun (x45 : Sl) =>
                      ix x45.a x45.len s37.1 fun p46 =>
                      chk (0 ≤ (0 : Int) ∧ (0 : Int) < ((3 : Nat) : Int)) <|
                      ld (.int .i64) ((p46.add (scaled (Int.toNat s37.1) 3)).add (scaled (Int.toNat (0 : Int)) 1)) fun (x47 : Int) =>
                      sif (x44 != x47) (
                        J40 ()) (
                        ld (.sl) (⟨b27, 1, none⟩ : Addr) fun (x48 : Sl) =>
                        ix x48.a x48.len s32.1 fun p49 =>
                        ld (.str) (p49.add (scaled (Int.toNat s32.1) 1)) fun (x50 : ByteArray) =>
                        join (S := Bool × Unit) (fun J51 =>
                          drew <|
                          ld (.sl) (⟨b21, 1, none⟩ : Addr) fun (x53 : Sl) =>
                          ix x53.a x53.len s37.1 fun p54 =>
                          ld (.str) (p54.add (scaled (Int.toNat s37.1) 1)) fun (x55 : ByteArray) =>
                          sif (decide (((ByteArray.size x50 : Nat) : Int) > ((ByteArray.size x55 : Nat) : Int))) (
                            J51 (true, ())) (
                            ld (.sl) (⟨b27, 1, none⟩ : Addr) fun (x56 : Sl) =>
                            ix x56.a x56.len s32.1 fun p57 =>
                            ld (.str) (p57.add (scaled (Int.toNat s32.1) 1)) fun (x58 : ByteArray) =>
                            ld (.sl) (⟨b21, 1, none⟩ : Addr) fun (x59 : Sl) =>
                            ix x59.a x59.len s37.1 fun p60 =>
                            ld (.str) (p60.add (scaled (Int.toNat s37.1) 1)) fun (x61 : ByteArray) =>
                            chk (0 ≤ (0 : Int) ∧ (0 : Int) ≤ ((ByteArray.size x50 : Nat) : Int) ∧ ((ByteArray.size x50 : Nat) : Int) ≤ ((x61.size : Nat) : Int)) <|
                            sif (!(ByteArray.toList x58 == ByteArray.toList (x61.extract (Int.toNat 0) (Int.toNat ((ByteArray.size x50 : Nat) : Int))))) (
                              J51 (true, ())) (
                              ld (.sl) (⟨b27, 2, none⟩ : Addr) fun (x62 : Sl) =>
                              ix x62.a x62.len s32.1 fun p63 =>
                              chk (0 ≤ (2 : Int) ∧ (2 : Int) < ((3 : Nat) : Int)) <|
                              ld (.int .i64) ((p63.add (scaled (Int.toNat s32.1) 3)).add (scaled (Int.toNat (2 : Int)) 1)) fun (x64 : Int) =>
                              ld (.sl) (⟨b21, 2, none⟩ : Addr) fun (x65 : Sl) =>
                              ix x65.a x65.len s37.1 fun p66 =>
                              chk (0 ≤ (2 : Int) ∧ (2 : Int) < ((3 : Nat) : Int)) <|
                              ld (.int .i64) ((p66.add (scaled (Int.toNat s37.1) 3)).add (scaled (Int.toNat (2 : Int)) 1)) fun (x67 : Int) =>
                              J51 ((x64 != x67), ())))) fun (s52 : Bool × Unit) =>
                        sif s52.1 (
                          K false) (
                          J40 ()))) fun (s41 : Unit) =>
                    again38 ((IntKind.wrap .i64 (s37.1 + (1 : Int))), ())) (
                    J35 ())) ((0 : Int), ())) fun (s36 : Unit) =>
              again33 ((IntKind.wrap .i64 (s32.1 + (1 : Int))), ())) (
              J30 ())) ((0 : Int), ())) fun (s31 : Unit) =>
        sif (decide (((a1.len : Nat) : Int) > (0 : Int))) (
          K true) (
          ld (.sl) (at0 b27) fun (x68 : Sl) =>
          sif (((x68.len : Nat) : Int) == (1 : Int)) (
            ld (.sl) (⟨b27, 1, none⟩ : Addr) fun (x69 : Sl) =>
            ix x69.a x69.len (0 : Int) fun p70 =>
            ld (.str) (p70.add (scaled (Int.toNat (0 : Int)) 1)) fun (x71 : ByteArray) =>
            K (ByteArray.toList x71 == ByteArray.toList ({ data := #[49, 50, 51, 52] }))) (
            K false)))))
noncomputable def h5 : Hint := (.seq none (.region [] (.ops 2 .done)) (.seq none (.seq none (.region [] (.ops 3 .done)) (.cond none (.seq none (.region [] (.ops 1 .done)) .leaf) .leaf)) (.seq none (.region [] (.ops 4 .done)) (.seq none (.seq (some (4286578688, [(31, (.one .bool))])) (.region [] (.ops 3 (.split 25 (.skips 5 (.ops 1 .done)) (.ops 6 .done)))) (.cond none (.seq none (.region [] (.ops 1 .done)) .leaf) .leaf)) (.seq (some (17587891077376, [])) (.seq none (.region [] (.ops 1 .done)) (.block (.loop 17587891077376 [(8, (.one (.int .i64)))] (.seq none (.seq none (.region [] (.ops 4 .done)) (.cond none .leaf .leaf)) (.seq none (.block (.region [] (.ops 6 .done))) (.region [] (.ops 3 .done))))))) (.seq none (.region [] (.ops 2 .done)) (.seq none (.region [] (.ops 2 .done)) (.seq none (.region [] (.ops 8 .done)) (.seq none (.region [] (.ops 3 .done)) (.seq none (.region [] (.ops 3 .done)) (.seq none (.region [] (.ops 2 .done)) (.seq none (.region [] (.ops 8 .done)) (.seq none (.seq (some (75520970237766904315904, [(75, (.one .bool))])) (.region [] (.ops 3 (.split 67 (.skips 2 (.ops 2 (.skips 3 (.ops 1 .done)))) (.ops 4 (.split 71 (.skips 3 (.ops 1 .done)) (.ops 4 .done)))))) (.cond none (.seq none (.region [] (.ops 1 .done)) .leaf) .leaf)) (.seq (some (178405961588244985132210188317460977724538944, [])) (.seq none (.region [] (.ops 1 .done)) (.block (.loop 178405961588244985132210188317460977724538944 [(14, (.one (.int .i64)))] (.seq none (.seq none (.region [] (.ops 5 .done)) (.cond none .leaf .leaf)) (.seq (some (178405961588244985122614339624269858650292288, [])) (.block (.seq none (.region [] (.ops 1 .done)) (.block (.loop 178405961588244985122614339624269858650292288 [(15, (.one (.int .i64)))] (.seq none (.seq none (.region [] (.ops 5 .done)) (.cond none .leaf .leaf)) (.seq (some (178405961588244983894345706895806617148784704, [])) (.block (.seq none (.seq none (.region [0, 1, 2, 3, 4, 5, 6, 7, 8, 9, 10, 11, 12] (.ops 13 .done)) (.cond none .leaf .leaf)) (.seq none (.region [] (.ops 7 .done)) (.seq (some (178405961587595948024968892727620580006690816, [(146, (.one .bool))])) (.region [0, 1, 2, 3, 4, 5, 6, 7, 8, 9, 10, 11, 12, 13, 14, 15, 16, 17, 18, 19, 20, 21, 22, 23, 24, 25, 26, 27, 28, 29, 30, 31, 32, 33, 34, 35, 36, 37] (.ops 9 (.split 117 (.skips 13 (.ops 2 (.skips 13 (.ops 1 .done)))) (.ops 15 (.split 132 (.skips 13 (.ops 1 .done)) (.ops 14 .done)))))) (.cond none (.seq none (.region [] (.ops 1 .done)) .leaf) .leaf))))) (.region [] (.ops 3 .done)))))))) (.region [] (.ops 3 .done))))))) (.seq none (.region [] (.ops 4 (.split 150 (.skips 11 (.ops 2 .done)) (.ops 5 (.split 155 (.ops 8 .done) (.skips 5 (.ops 3 .done))))))) .leaf)))))))))))))))
theorem F5_tie (a0 : Int) (a1 : Sl) (a2 : (Int × Sl × Unit)) (K : Bool → World → Prop) : vcgF tab Try.prog Try.f5 h5 [(.int .i64 a0), (.slice a1.a a1.len a1.cap), (.agg (Cells.vals c37 a2).toArray)] (.one (.one .bool)) K = F5 a0 a1 a2 K := by kernel_rfl
theorem F5_calls {a0 : Int} {a1 : Sl} {a2 : (Int × Sl × Unit)} {K : Bool → World → Prop} {w : World} (h : F5 a0 a1 a2 K w) : callT Try.prog 5 #[(.int .i64 a0), (.slice a1.a a1.len a1.cap), (.agg (Cells.vals c37 a2).toArray)] (.one (.one .bool)) K w :=
  vcgF_sound tabOk Try.func5 h5 [(.int .i64 a0), (.slice a1.a a1.len a1.cap), (.agg (Cells.vals c37 a2).toArray)] (.one (.one .bool)) K w (Eq.mpr (congrFun (F5_tie a0 a1 a2 K) w) h)

/-- copyist/copyistlaw16.DiskRoom -/
noncomputable def F6 (a0 : Int) (a1 : Sl) (K : Bool → World → Prop) : World → Prop :=
  callT Try.prog 9 #[(.slice a1.a a1.len a1.cap)] (.one (.one .bool)) fun (x1 : Bool) =>
  sif (!x1) (
    K true) (
    callT Try.prog 11 #[(.int .i64 a0)] (.one (.one (.int .i64))) fun (x2 : Int) =>
    callT Try.prog 10 #[(.int .i64 x2)] (.one (.one .ptr)) fun (x3 : Option Addr) =>
    join (S := Bool × Unit) (fun J4 =>
      sif (Option.isNone x3) (
        J4 (true, ())) (
        newO (.cells #[(.int .u8 (49 : Int)), (.int .u8 (50 : Int)), (.int .u8 (51 : Int)), (.int .u8 (52 : Int))] 5) fun b6 =>
        rawT Try.prog (.one (.one .sl)) (convert 33 33 (.slice (some (at0 b6)) 4 4)) fun x7 =>
        callT Try.prog 13 #[(.pointer x3), (.string { data := #[122, 122] }), (.slice x7.a x7.len x7.cap)] (.one (.one .any)) fun (x8 : Value) =>
        rdB Try.prog (do eqGuard .neq 31 (Operand.tmp 30) (Operand.const Value.nilIface) x8 .nilIface; binOp .neq 31 x8 .nilIface : Sem Value) fun r9 =>
        J4 (r9, ()))) fun (s5 : Bool × Unit) =>
    sif s5.1 (
      K false) (
      join (S := Unit) (fun J10 =>
        sloop (S := Int × Unit) (fun (s12 : Int × Unit) again13 =>
          sif (decide (s12.1 < ((a1.len : Nat) : Int))) (
            join (S := Unit) (fun J14 =>
              ix a1.a a1.len s12.1 fun p16 =>
              lds c39 (p16.add (scaled (Int.toNat s12.1) 8)) fun (x17 : (Int × Int × ByteArray × ByteArray × Sl × Sl × Int × Sl × Unit)) =>
              newO (.cells #[(.int .i64 (0 : Int)), (.int .i64 (0 : Int)), (.string { data := #[] }), (.string { data := #[] }), (.slice none 0 0), (.slice none 0 0), (.int .i64 (0 : Int)), (.slice none 0 0)] 39) fun b18 =>
              aggSt (at0 b18) (.agg (Cells.vals c39 x17).toArray) 8 <|
              join (S := Bool × Unit) (fun J19 =>
                ld (.int .i64) (at0 b18) fun (x21 : Int) =>
                sif (x21 == (11 : Int)) (
                  J19 (true, ())) (
                  ld (.int .i64) (at0 b18) fun (x22 : Int) =>
                  J19 ((x22 == (10 : Int)), ()))) fun (s20 : Bool × Unit) =>
              sif s20.1 (
                J14 ()) (
                ld (.int .i64) (at0 b18) fun (x23 : Int) =>
                sif (x23 == (2 : Int)) (
                  drew <|
                  ld (.str) (⟨b18, 2, none⟩ : Addr) fun (x24 : ByteArray) =>
                  ld (.sl) (⟨b18, 4, none⟩ : Addr) fun (x25 : Sl) =>
                  rawT Try.prog (.one (.one .sl)) (Builtin.append_ #[33, 33] 33 #[(.slice none 0 0), (.slice x25.a x25.len x25.cap)]) fun (x26 : Sl) =>
                  keep (fun w => w.cell? (⟨b18, 2, none⟩ : Addr) = some (Cell.val (.str) x24)) <|
                  callT Try.prog 29 #[(.pointer x3), (.string x24), (.slice x26.a x26.len x26.cap)] (.tup [(.one (.int .i64)), (.one .any)]) fun (x27 : (Int × Value × Unit)) =>
                  join (S := Bool × Unit) (fun J28 =>
                    sif (decide (x27.1 < (0 : Int))) (
                      J28 (true, ())) (
                      ld (.sl) (⟨b18, 4, none⟩ : Addr) fun (x30 : Sl) =>
                      sif (decide (x27.1 > ((x30.len : Nat) : Int))) (
                        J28 (true, ())) (
                        rdB Try.prog (do eqGuard .eql 31 (Operand.tmp 74) (Operand.const Value.nilIface) x27.2.1 .nilIface; binOp .eql 31 x27.2.1 .nilIface : Sem Value) fun r31 =>
                        sif r31 (
                          ld (.sl) (⟨b18, 4, none⟩ : Addr) fun (x32 : Sl) =>
                          J28 ((x27.1 != ((x32.len : Nat) : Int)), ())) (
                          J28 (false, ()))))) fun (s29 : Bool × Unit) =>
                  sif s29.1 (
                    K false) (
                    callT Try.prog 28 #[(.pointer x3)] (.tup [(.agg c65), (.one .bool)]) fun (x33 : ((Sl × Sl × Sl × Unit) × Bool × Unit)) =>
                    newO (.cells #[(.slice none 0 0), (.slice none 0 0), (.slice none 0 0)] 65) fun b34 =>
                    aggSt (at0 b34) (.agg (Cells.vals c65 x33.1).toArray) 3 <|
                    join (S := Bool × Unit) (fun J35 =>
                      sif (!x33.2.1) (
                        J35 (true, ())) (
                        sif (decide (x27.1 > (0 : Int))) (
                          ld (.sl) (⟨b18, 4, none⟩ : Addr) fun (x37 : Sl) =>
                          sif (decide (x27.1 < ((x37.len : Nat) : Int))) (
                            lds c65 (at0 b34) fun (x38 : (Sl × Sl × Sl × Unit)) =>
                            callT Try.prog 30 #[(.agg (Cells.vals c65 x38).toArray)] (.one (.one (.int .i64))) fun (x39 : Int) =>
                            J35 ((x39 != x2), ())) (
                            J35 (false, ()))) (
                          J35 (false, ())))) fun (s36 : Bool × Unit) =>
                    sif s36.1 (
                      K false) (
                      J14 ()))) (
                  lds c39 (at0 b18) fun (x40 : (Int × Int × ByteArray × ByteArray × Sl × Sl × Int × Sl × Unit)) =>
                  callT Try.prog 27 #[(.pointer x3), (.agg (Cells.vals c39 x40).toArray)] (.one (.one .bool)) fun (x41 : Bool) =>
                  callT Try.prog 28 #[(.pointer x3)] (.tup [(.agg c65), (.one .bool)]) fun (x42 : ((Sl × Sl × Sl × Unit) × Bool × Unit)) =>
                  newO (.cells #[(.slice none 0 0), (.slice none 0 0), (.slice none 0 0)] 65) fun b43 =>
                  aggSt (at0 b43) (.agg (Cells.vals c65 x42.1).toArray) 3 <|
                  join (S := Bool × Unit) (fun J44 =>
                    sif (!x42.2.1) (
                      J44 (true, ())) (
                      lds c65 (at0 b43) fun (x46 : (Sl × Sl × Sl × Unit)) =>
                      callT Try.prog 30 #[(.agg (Cells.vals c65 x46).toArray)] (.one (.one (.int .i64))) fun (x47 : Int) =>
                      sif (decide (x47 > x2)) (
                        J44 (true, ())) (
                        ld (.sl) (at0 b43) fun (x48 : Sl) =>
                        J44 ((decide (((x48.len : Nat) : Int) > (16 : Int))), ())))) fun (s45 : Bool × Unit) =>
                  sif s45.1 (
                    K false) (
                    J14 ())))) fun (s15 : Unit) =>
            again13 ((IntKind.wrap .i64 (s12.1 + (1 : Int))), ())) (
            J10 ())) ((0 : Int), ())) fun (s11 : Unit) =>
      callT Try.prog 28 #[(.pointer x3)] (.tup [(.agg c65), (.one .bool)]) fun (x49 : ((Sl × Sl × Sl × Unit) × Bool × Unit)) =>
      newO (.cells #[(.slice none 0 0), (.slice none 0 0), (.slice none 0 0)] 65) fun b50 =>
      aggSt (at0 b50) (.agg (Cells.vals c65 x49.1).toArray) 3 <|
      sif x49.2.1 (
        lds c65 (at0 b50) fun (x51 : (Sl × Sl × Sl × Unit)) =>
        callT Try.prog 30 #[(.agg (Cells.vals c65 x51).toArray)] (.one (.one (.int .i64))) fun (x52 : Int) =>
        K (decide (x52 ≤ x2))) (
        K false)))
noncomputable def h6 : Hint := (.seq none (.region [] (.ops 1 .done)) (.seq none (.seq none (.region [] (.ops 3 .done)) (.cond none (.seq none (.region [] (.ops 1 .done)) .leaf) .leaf)) (.seq none (.region [] (.ops 3 .done)) (.seq none (.region [] (.ops 3 .done)) (.seq none (.seq (some (8573157376, [(32, (.one .bool))])) (.region [] (.ops 3 (.split 26 (.skips 5 (.ops 1 .done)) (.ops 6 .done)))) (.cond none (.seq none (.region [] (.ops 1 .done)) .leaf) .leaf)) (.seq (some (1361129467683753853853498429718482943888, [])) (.seq none (.region [] (.ops 1 .done)) (.block (.loop 1361129467683753853853498429718482943888 [(7, (.one (.int .i64)))] (.seq none (.seq none (.region [] (.ops 4 .done)) (.cond none .leaf .leaf)) (.seq (some (1361129467683753853853498429177317064464, [])) (.block (.seq none (.region [] (.ops 6 .done)) (.seq none (.seq (some (2243003720663040, [(50, (.one .bool))])) (.region [] (.ops 4 (.split 46 (.skips 3 (.ops 1 .done)) (.ops 4 .done)))) (.cond none .leaf .leaf)) (.seq none (.seq none (.region [] (.ops 3 .done)) (.cond none (.seq none (.region [0, 1, 2, 3, 4, 5, 6, 7, 8, 9, 10, 11] (.ops 12 .done)) (.seq none (.seq (some (19342794667089993085747200, [(83, (.one .bool))])) (.region [] (.ops 3 (.split 66 (.skips 5 (.ops 2 (.skips 9 (.ops 1 .done)))) (.ops 7 (.split 73 (.skips 9 (.ops 1 .done)) (.ops 3 (.split 76 (.ops 7 .done) (.skips 5 (.ops 2 .done))))))))) (.cond none (.seq none (.region [] (.ops 1 .done)) .leaf) .leaf)) (.seq none (.region [] (.ops 8 .done)) (.seq none (.seq (some (324517934688407084093018571014144, [(107, (.one .bool))])) (.region [] (.ops 3 (.split 91 (.skips 15 (.ops 1 .done)) (.ops 3 (.split 94 (.ops 7 (.split 101 (.ops 6 .done) (.skips 4 (.ops 2 .done)))) (.skips 5 (.ops 2 (.skips 4 (.ops 2 .done))))))))) (.cond none (.seq none (.region [] (.ops 1 .done)) .leaf) .leaf)) .leaf)))) .leaf)) (.seq none (.region [] (.ops 3 .done)) (.seq none (.region [] (.ops 8 .done)) (.seq (some (1361046390934017296611441941785805324288, [(129, (.one .bool))])) (.region [] (.ops 3 (.split 118 (.skips 4 (.ops 2 (.skips 4 (.ops 1 .done)))) (.ops 6 (.split 124 (.skips 4 (.ops 1 .done)) (.ops 5 .done)))))) (.cond none (.seq none (.region [] (.ops 1 .done)) .leaf) .leaf)))))))) (.region [] (.ops 3 .done))))))) (.seq none (.region [] (.ops 8 .done)) (.seq none (.region [] (.ops 2 (.split 136 (.ops 6 .done) (.skips 4 (.ops 2 .done))))) .leaf))))))))
theorem F6_tie (a0 : Int) (a1 : Sl) (K : Bool → World → Prop) : vcgF tab Try.prog Try.f6 h6 [(.int .i64 a0), (.slice a1.a a1.len a1.cap)] (.one (.one .bool)) K = F6 a0 a1 K := by kernel_rfl
theorem F6_calls {a0 : Int} {a1 : Sl} {K : Bool → World → Prop} {w : World} (h : F6 a0 a1 K w) : callT Try.prog 6 #[(.int .i64 a0), (.slice a1.a a1.len a1.cap)] (.one (.one .bool)) K w :=
  vcgF_sound tabOk Try.func6 h6 [(.int .i64 a0), (.slice a1.a a1.len a1.cap)] (.one (.one .bool)) K w (Eq.mpr (congrFun (F6_tie a0 a1 K) w) h)

/-- copyist/copyistlaw16.DiskRefused -/
noncomputable def F7 (a0 : Int) (a1 : Sl) (a2 : Int) (K : Bool → World → Prop) : World → Prop :=
  callT Try.prog 9 #[(.slice a1.a a1.len a1.cap)] (.one (.one .bool)) fun (x1 : Bool) =>
  sif (!x1) (
    K true) (
    callT Try.prog 11 #[(.int .i64 a0)] (.one (.one (.int .i64))) fun (x2 : Int) =>
    callT Try.prog 10 #[(.int .i64 x2)] (.one (.one .ptr)) fun (x3 : Option Addr) =>
    callT Try.prog 11 #[(.int .i64 a0)] (.one (.one (.int .i64))) fun (x4 : Int) =>
    callT Try.prog 10 #[(.int .i64 x4)] (.one (.one .ptr)) fun (x5 : Option Addr) =>
    join (S := Bool × Unit) (fun J6 =>
      sif (Option.isNone x3) (
        J6 (true, ())) (
        J6 ((Option.isNone x5), ()))) fun (s7 : Bool × Unit) =>
    sif s7.1 (
      K false) (
      newO (.cells #[(.int .u8 (49 : Int)), (.int .u8 (50 : Int)), (.int .u8 (51 : Int)), (.int .u8 (52 : Int))] 5) fun b8 =>
      rawT Try.prog (.one (.one .sl)) (convert 33 33 (.slice (some (at0 b8)) 4 4)) fun x9 =>
      callT Try.prog 13 #[(.pointer x3), (.string { data := #[122, 122] }), (.slice x9.a x9.len x9.cap)] (.one (.one .any)) fun (x10 : Value) =>
      rdB Try.prog (do eqGuard .neq 31 (Operand.tmp 38) (Operand.const Value.nilIface) x10 .nilIface; binOp .neq 31 x10 .nilIface : Sem Value) fun r11 =>
      newO (.cells #[(.int .u8 (49 : Int)), (.int .u8 (50 : Int)), (.int .u8 (51 : Int)), (.int .u8 (52 : Int))] 5) fun b12 =>
      rawT Try.prog (.one (.one .sl)) (convert 33 33 (.slice (some (at0 b12)) 4 4)) fun x13 =>
      callT Try.prog 13 #[(.pointer x5), (.string { data := #[122, 122] }), (.slice x13.a x13.len x13.cap)] (.one (.one .any)) fun (x14 : Value) =>
      rdB Try.prog (do eqGuard .neq 31 (Operand.tmp 43) (Operand.const Value.nilIface) x14 .nilIface; binOp .neq 31 x14 .nilIface : Sem Value) fun r15 =>
      join (S := Bool × Unit) (fun J16 =>
        sif r11 (
          J16 (true, ())) (
          J16 (r15, ()))) fun (s17 : Bool × Unit) =>
      sif s17.1 (
        K false) (
        newO (.cells #[(.int .i64 (IntKind.wrap .i64 ((1 : Int) + (IntKind.wrap .i64 ((BitVec.toNat (BitVec.ofInt (IntKind.bits .i64) a2 &&& BitVec.ofInt (IntKind.bits .i64) (15 : Int)) : Nat) : Int))))), (.int .i64 (1 : Int)), (.int .i64 (0 : Int)), (.int .i64 (0 : Int)), (.slice none 0 0)] 74) fun b18 =>
        callT Try.prog 19 #[(.pointer x3), (.slice (some (at0 b18)) 1 1)] (.tup []) fun (x19 : (Unit)) =>
        join (S := Unit) (fun J20 =>
          sloop (S := Int × Int × Unit) (fun (s22 : Int × Int × Unit) again23 =>
            sif (decide (s22.2.1 < ((a1.len : Nat) : Int))) (
              join (S := Int × Unit) (fun J24 =>
                ix a1.a a1.len s22.2.1 fun p26 =>
                lds c39 (p26.add (scaled (Int.toNat s22.2.1) 8)) fun (x27 : (Int × Int × ByteArray × ByteArray × Sl × Sl × Int × Sl × Unit)) =>
                newO (.cells #[(.int .i64 (0 : Int)), (.int .i64 (0 : Int)), (.string { data := #[] }), (.string { data := #[] }), (.slice none 0 0), (.slice none 0 0), (.int .i64 (0 : Int)), (.slice none 0 0)] 39) fun b28 =>
                aggSt (at0 b28) (.agg (Cells.vals c39 x27).toArray) 8 <|
                join (S := Bool × Unit) (fun J29 =>
                  ld (.int .i64) (at0 b28) fun (x31 : Int) =>
                  sif (decide (x31 < (1 : Int))) (
                    J29 (true, ())) (
                    ld (.int .i64) (at0 b28) fun (x32 : Int) =>
                    J29 ((decide (x32 > (9 : Int))), ()))) fun (s30 : Bool × Unit) =>
                sif s30.1 (
                  J24 (s22.1, ())) (
                  join (S := Int × Unit) (fun J33 =>
                    ld (.int .i64) (at0 b28) fun (x35 : Int) =>
                    sif (x35 != (9 : Int)) (
                      J33 ((IntKind.wrap .i64 (s22.1 + (1 : Int))), ())) (
                      J33 (s22.1, ()))) fun (s34 : Int × Unit) =>
                  lds c39 (at0 b28) fun (x36 : (Int × Int × ByteArray × ByteArray × Sl × Sl × Int × Sl × Unit)) =>
                  callT Try.prog 27 #[(.pointer x3), (.agg (Cells.vals c39 x36).toArray)] (.one (.one .bool)) fun (x37 : Bool) =>
                  join (S := Bool × Unit) (fun J38 =>
                    sif (s34.1 == (IntKind.wrap .i64 ((1 : Int) + (IntKind.wrap .i64 ((BitVec.toNat (BitVec.ofInt (IntKind.bits .i64) a2 &&& BitVec.ofInt (IntKind.bits .i64) (15 : Int)) : Nat) : Int))))) (
                      ld (.int .i64) (at0 b28) fun (x40 : Int) =>
                      J38 ((x40 != (9 : Int)), ())) (
                      J38 (false, ()))) fun (s39 : Bool × Unit) =>
                  sif s39.1 (
                    sif (!x37) (
                      K false) (
                      J24 (s34.1, ()))) (
                    lds c39 (at0 b28) fun (x41 : (Int × Int × ByteArray × ByteArray × Sl × Sl × Int × Sl × Unit)) =>
                    callT Try.prog 27 #[(.pointer x5), (.agg (Cells.vals c39 x41).toArray)] (.one (.one .bool)) fun (x42 : Bool) =>
                    rdB Try.prog (do eqGuard .neq 4 (Operand.tmp 96) (Operand.tmp 97) (.bool x37) (.bool x42); binOp .neq 4 (.bool x37) (.bool x42) : Sem Value) fun r43 =>
                    sif r43 (
                      K false) (
                      J24 (s34.1, ()))))) fun (s25 : Int × Unit) =>
              again23 (s25.1, (IntKind.wrap .i64 (s22.2.1 + (1 : Int))), ())) (
              J20 ())) ((0 : Int), (0 : Int), ())) fun (s21 : Unit) =>
        callT Try.prog 19 #[(.pointer x3), (.slice none 0 0)] (.tup []) fun (x44 : (Unit)) =>
        callT Try.prog 28 #[(.pointer x3)] (.tup [(.agg c65), (.one .bool)]) fun (x45 : ((Sl × Sl × Sl × Unit) × Bool × Unit)) =>
        newO (.cells #[(.slice none 0 0), (.slice none 0 0), (.slice none 0 0)] 65) fun b46 =>
        aggSt (at0 b46) (.agg (Cells.vals c65 x45.1).toArray) 3 <|
        callT Try.prog 28 #[(.pointer x5)] (.tup [(.agg c65), (.one .bool)]) fun (x47 : ((Sl × Sl × Sl × Unit) × Bool × Unit)) =>
        newO (.cells #[(.slice none 0 0), (.slice none 0 0), (.slice none 0 0)] 65) fun b48 =>
        aggSt (at0 b48) (.agg (Cells.vals c65 x47.1).toArray) 3 <|
        sif x45.2.1 (
          sif x47.2.1 (
            lds c65 (at0 b46) fun (x49 : (Sl × Sl × Sl × Unit)) =>
            lds c65 (at0 b48) fun (x50 : (Sl × Sl × Sl × Unit)) =>
            callT Try.prog 31 #[(.agg (Cells.vals c65 x49).toArray), (.agg (Cells.vals c65 x50).toArray)] (.one (.one .bool)) fun (x51 : Bool) =>
            K x51) (
            K false)) (
          K false))))
noncomputable def h7 : Hint := (.seq none (.region [] (.ops 1 .done)) (.seq none (.seq none (.region [] (.ops 3 .done)) (.cond none (.seq none (.region [] (.ops 1 .done)) .leaf) .leaf)) (.seq none (.region [] (.ops 4 .done)) (.seq none (.region [] (.ops 4 .done)) (.seq none (.seq (some (33822867456, [(34, (.one .bool))])) (.region [] (.ops 3 (.split 31 (.skips 2 (.ops 1 .done)) (.ops 3 .done)))) (.cond none (.seq none (.region [] (.ops 1 .done)) .leaf) .leaf)) (.seq none (.region [] (.ops 6 .done)) (.seq none (.region [] (.ops 6 .done)) (.seq none (.seq (some (527765581332480, [(48, (.one .bool))])) (.region [] (.ops 2 (.split 46 (.skips 1 (.ops 1 .done)) (.ops 2 .done)))) (.cond none (.seq none (.region [] (.ops 1 .done)) .leaf) .leaf)) (.seq none (.region [] (.ops 4 .done)) (.seq none (.region [] (.ops 5 .done)) (.seq none (.region [] (.ops 1 .done)) (.seq (some (633825300113970585560275810368, [])) (.seq none (.region [] (.ops 1 .done)) (.block (.loop 633825300113970585560275810368 [(11, (.one (.int .i64))), (12, (.one (.int .i64)))] (.seq none (.seq none (.region [] (.ops 4 .done)) (.cond none .leaf .leaf)) (.seq (some (633825300104891328711496886336, [(11, (.one (.int .i64)))])) (.block (.seq none (.region [] (.ops 6 .done)) (.seq none (.seq (some (37631357910367485296640, [(74, (.one .bool))])) (.region [] (.ops 4 (.split 70 (.skips 3 (.ops 1 .done)) (.ops 4 .done)))) (.cond none .leaf .leaf)) (.seq (some (1171146887751672012998656, [(11, (.one (.int .i64)))])) (.seq none (.region [] (.ops 3 .done)) (.cond none (.region [] (.ops 3 .done)) .leaf)) (.seq none (.region [] (.ops 4 .done)) (.seq none (.seq (some (2466208672013843516400599040, [(90, (.one .bool))])) (.region [] (.ops 4 (.split 86 (.ops 4 .done) (.skips 3 (.ops 1 .done))))) (.cond none (.seq none (.seq none (.region [] (.ops 2 .done)) (.cond none (.seq none (.region [] (.ops 1 .done)) .leaf) .leaf)) .leaf) .leaf)) (.seq none (.region [] (.ops 4 .done)) (.seq none (.region [] (.ops 3 .done)) (.cond none (.seq none (.region [] (.ops 1 .done)) .leaf) .leaf))))))))) (.region [] (.ops 3 .done))))))) (.seq none (.region [] (.ops 2 .done)) (.seq none (.region [] (.ops 8 .done)) (.seq none (.region [] (.ops 8 .done)) (.seq none (.region [] (.ops 2 (.split 112 (.ops 3 (.split 115 (.ops 5 .done) (.skips 3 (.ops 2 .done)))) (.skips 1 (.ops 2 (.skips 3 (.ops 2 .done))))))) .leaf))))))))))))))))
theorem F7_tie (a0 : Int) (a1 : Sl) (a2 : Int) (K : Bool → World → Prop) : vcgF tab Try.prog Try.f7 h7 [(.int .i64 a0), (.slice a1.a a1.len a1.cap), (.int .i64 a2)] (.one (.one .bool)) K = F7 a0 a1 a2 K := by kernel_rfl
theorem F7_calls {a0 : Int} {a1 : Sl} {a2 : Int} {K : Bool → World → Prop} {w : World} (h : F7 a0 a1 a2 K w) : callT Try.prog 7 #[(.int .i64 a0), (.slice a1.a a1.len a1.cap), (.int .i64 a2)] (.one (.one .bool)) K w :=
  vcgF_sound tabOk Try.func7 h7 [(.int .i64 a0), (.slice a1.a a1.len a1.cap), (.int .i64 a2)] (.one (.one .bool)) K w (Eq.mpr (congrFun (F7_tie a0 a1 a2 K) w) h)

/-- copyist/copyistlaw16.DiskSynced -/
noncomputable def F8 (a0 : Int) (a1 : Sl) (a2 : (Int × Sl × Unit)) (K : Bool → World → Prop) : World → Prop :=
  newO (.cells #[(.int .i64 a2.1), (.slice a2.2.1.a a2.2.1.len a2.2.1.cap)] 37) fun b1 =>
  callT Try.prog 9 #[(.slice a1.a a1.len a1.cap)] (.one (.one .bool)) fun (x2 : Bool) =>
  sif (!x2) (
    K true) (
    callT Try.prog 11 #[(.int .i64 a0)] (.one (.one (.int .i64))) fun (x3 : Int) =>
    callT Try.prog 10 #[(.int .i64 x3)] (.one (.one .ptr)) fun (x4 : Option Addr) =>
    join (S := Bool × Unit) (fun J5 =>
      sif (Option.isNone x4) (
        J5 (true, ())) (
        newO (.cells #[(.int .u8 (49 : Int)), (.int .u8 (50 : Int)), (.int .u8 (51 : Int)), (.int .u8 (52 : Int))] 5) fun b7 =>
        rawT Try.prog (.one (.one .sl)) (convert 33 33 (.slice (some (at0 b7)) 4 4)) fun x8 =>
        callT Try.prog 13 #[(.pointer x4), (.string { data := #[122, 122] }), (.slice x8.a x8.len x8.cap)] (.one (.one .any)) fun (x9 : Value) =>
        rdB Try.prog (do eqGuard .neq 31 (Operand.tmp 27) (Operand.const Value.nilIface) x9 .nilIface; binOp .neq 31 x9 .nilIface : Sem Value) fun r10 =>
        J5 (r10, ()))) fun (s6 : Bool × Unit) =>
    sif s6.1 (
      K false) (
      join (S := Unit) (fun J11 =>
        sloop (S := Int × Unit) (fun (s13 : Int × Unit) again14 =>
          sif (decide (s13.1 < ((a1.len : Nat) : Int))) (
            ix a1.a a1.len s13.1 fun p15 =>
            lds c39 (p15.add (scaled (Int.toNat s13.1) 8)) fun (x16 : (Int × Int × ByteArray × ByteArray × Sl × Sl × Int × Sl × Unit)) =>
            callT Try.prog 27 #[(.pointer x4), (.agg (Cells.vals c39 x16).toArray)] (.one (.one .bool)) fun (x17 : Bool) =>
            again14 ((IntKind.wrap .i64 (s13.1 + (1 : Int))), ())) (
            J11 ())) ((0 : Int), ())) fun (s12 : Unit) =>
      callT Try.prog 24 #[(.pointer x4)] (.tup []) fun (x18 : (Unit)) =>
      callT Try.prog 19 #[(.pointer x4), (.slice none 0 0)] (.tup []) fun (x19 : (Unit)) =>
      callT Try.prog 28 #[(.pointer x4)] (.tup [(.agg c65), (.one .bool)]) fun (x20 : ((Sl × Sl × Sl × Unit) × Bool × Unit)) =>
      newO (.cells #[(.slice none 0 0), (.slice none 0 0), (.slice none 0 0)] 65) fun b21 =>
      aggSt (at0 b21) (.agg (Cells.vals c65 x20.1).toArray) 3 <|
      join (S := Bool × Unit) (fun J22 =>
        sif (!x20.2.1) (
          J22 (true, ())) (
          sif (((a1.len : Nat) : Int) == (0 : Int)) (
            ld (.sl) (at0 b21) fun (x24 : Sl) =>
            J22 ((((x24.len : Nat) : Int) != (1 : Int)), ())) (
            J22 (false, ())))) fun (s23 : Bool × Unit) =>
      sif s23.1 (
        K false) (
        join (S := Unit) (fun J25 =>
          sloop (S := Int × Unit) (fun (s27 : Int × Unit) again28 =>
            ld (.sl) (at0 b21) fun (x29 : Sl) =>
            sif (decide (s27.1 < ((x29.len : Nat) : Int))) (
              ld (.sl) (at0 b21) fun (x30 : Sl) =>
              ix x30.a x30.len s27.1 fun p31 =>
              ld (.str) (p31.add (scaled (Int.toNat s27.1) 1)) fun (x32 : ByteArray) =>
              callT Try.prog 14 #[(.pointer x4), (.string x32)] (.one (.one .any)) fun (x33 : Value) =>
              rdB Try.prog (do eqGuard .neq 31 (Operand.tmp 77) (Operand.const Value.nilIface) x33 .nilIface; binOp .neq 31 x33 .nilIface : Sem Value) fun r34 =>
              sif r34 (
                K false) (
                again28 ((IntKind.wrap .i64 (s27.1 + (1 : Int))), ()))) (
              J25 ())) ((0 : Int), ())) fun (s26 : Unit) =>
        callT Try.prog 32 #[(.pointer x4)] (.one (.one .any)) fun (x35 : Value) =>
        rdB Try.prog (do eqGuard .neq 31 (Operand.tmp 80) (Operand.const Value.nilIface) x35 .nilIface; binOp .neq 31 x35 .nilIface : Sem Value) fun r36 =>
        sif r36 (
          K false) (
          lds c37 (at0 b1) fun (x37 : (Int × Sl × Unit)) =>
          callT Try.prog 22 #[(.pointer x4), (.agg (Cells.vals c37 x37).toArray)] (.tup []) fun (x38 : (Unit)) =>
          callT Try.prog 23 #[(.pointer x4)] (.one (.one .bool)) fun (x39 : Bool) =>
          callT Try.prog 24 #[(.pointer x4)] (.tup []) fun (x40 : (Unit)) =>
          callT Try.prog 28 #[(.pointer x4)] (.tup [(.agg c65), (.one .bool)]) fun (x41 : ((Sl × Sl × Sl × Unit) × Bool × Unit)) =>
          newO (.cells #[(.slice none 0 0), (.slice none 0 0), (.slice none 0 0)] 65) fun b42 =>
          aggSt (at0 b42) (.agg (Cells.vals c65 x41.1).toArray) 3 <|
          sif x39 (
            sif x41.2.1 (
              lds c65 (at0 b21) fun (x43 : (Sl × Sl × Sl × Unit)) =>
              lds c65 (at0 b42) fun (x44 : (Sl × Sl × Sl × Unit)) =>
              callT Try.prog 31 #[(.agg (Cells.vals c65 x43).toArray), (.agg (Cells.vals c65 x44).toArray)] (.one (.one .bool)) fun (x45 : Bool) =>
              K x45) (
              K false)) (
            K false)))))
noncomputable def h8 : Hint := (.seq none (.region [] (.ops 2 .done)) (.seq none (.seq none (.region [] (.ops 3 .done)) (.cond none (.seq none (.region [] (.ops 1 .done)) .leaf) .leaf)) (.seq none (.region [] (.ops 4 .done)) (.seq none (.seq (some (1071644672, [(29, (.one .bool))])) (.region [] (.ops 3 (.split 23 (.skips 5 (.ops 1 .done)) (.ops 6 .done)))) (.cond none (.seq none (.region [] (.ops 1 .done)) .leaf) .leaf)) (.seq (some (4396972769536, [])) (.seq none (.region [] (.ops 1 .done)) (.block (.loop 4396972769536 [(8, (.one (.int .i64)))] (.seq none (.seq none (.region [] (.ops 4 .done)) (.cond none .leaf .leaf)) (.seq none (.block (.region [] (.ops 6 .done))) (.region [] (.ops 3 .done))))))) (.seq none (.region [] (.ops 2 .done)) (.seq none (.region [] (.ops 2 .done)) (.seq none (.region [] (.ops 8 .done)) (.seq none (.seq (some (18444492273895866368, [(63, (.one .bool))])) (.region [] (.ops 3 (.split 53 (.skips 9 (.ops 1 .done)) (.ops 4 (.split 57 (.ops 6 .done) (.skips 4 (.ops 2 .done))))))) (.cond none (.seq none (.region [] (.ops 1 .done)) .leaf) .leaf)) (.seq (some (604444463063240877803584, [])) (.seq none (.region [] (.ops 1 .done)) (.block (.loop 604444463063240877803584 [(11, (.one (.int .i64)))] (.seq none (.seq none (.region [] (.ops 5 .done)) (.cond none .leaf .leaf)) (.seq none (.block (.seq none (.region [] (.ops 8 .done)) (.cond none (.seq none (.region [] (.ops 1 .done)) .leaf) .leaf))) (.region [] (.ops 3 .done))))))) (.seq none (.seq none (.region [] (.ops 3 .done)) (.cond none (.seq none (.region [] (.ops 1 .done)) .leaf) .leaf)) (.seq none (.region [] (.ops 3 .done)) (.seq none (.region [] (.ops 3 .done)) (.seq none (.region [] (.ops 2 .done)) (.seq none (.region [] (.ops 8 .done)) (.seq none (.region [] (.ops 2 (.split 95 (.ops 3 (.split 98 (.ops 5 .done) (.skips 3 (.ops 2 .done)))) (.skips 1 (.ops 2 (.skips 3 (.ops 2 .done))))))) .leaf))))))))))))))))
theorem F8_tie (a0 : Int) (a1 : Sl) (a2 : (Int × Sl × Unit)) (K : Bool → World → Prop) : vcgF tab Try.prog Try.f8 h8 [(.int .i64 a0), (.slice a1.a a1.len a1.cap), (.agg (Cells.vals c37 a2).toArray)] (.one (.one .bool)) K = F8 a0 a1 a2 K := by kernel_rfl
theorem F8_calls {a0 : Int} {a1 : Sl} {a2 : (Int × Sl × Unit)} {K : Bool → World → Prop} {w : World} (h : F8 a0 a1 a2 K w) : callT Try.prog 8 #[(.int .i64 a0), (.slice a1.a a1.len a1.cap), (.agg (Cells.vals c37 a2).toArray)] (.one (.one .bool)) K w :=
  vcgF_sound tabOk Try.func8 h8 [(.int .i64 a0), (.slice a1.a a1.len a1.cap), (.agg (Cells.vals c37 a2).toArray)] (.one (.one .bool)) K w (Eq.mpr (congrFun (F8_tie a0 a1 a2 K) w) h)

/-- copyist/copyistlaw16.fits -/
noncomputable def F9 (a0 : Sl) (K : Bool → World → Prop) : World → Prop :=
  join (S := Int × Unit) (fun J1 =>
    sloop (S := Int × Int × Unit) (fun (s3 : Int × Int × Unit) again4 =>
      sif (decide (s3.2.1 < ((a0.len : Nat) : Int))) (
        drew <|
        ix a0.a a0.len s3.2.1 fun p5 =>
        ld (.sl) ((p5.add (scaled (Int.toNat s3.2.1) 8)).add 4) fun (x6 : Sl) =>
        ix a0.a a0.len s3.2.1 fun p7 =>
        ld (.sl) ((p7.add (scaled (Int.toNat s3.2.1) 8)).add 5) fun (x8 : Sl) =>
        ix a0.a a0.len s3.2.1 fun p9 =>
        ld (.sl) (((p9.add (scaled (Int.toNat s3.2.1) 8)).add 6).add 1) fun (x10 : Sl) =>
        again4 ((IntKind.wrap .i64 ((IntKind.wrap .i64 ((IntKind.wrap .i64 (s3.1 + ((x6.len : Nat) : Int))) + ((x8.len : Nat) : Int))) + ((x10.len : Nat) : Int))), (IntKind.wrap .i64 (s3.2.1 + (1 : Int))), ())) (
        J1 (s3.1, ()))) ((0 : Int), (0 : Int), ())) fun (s2 : Int × Unit) =>
  sif (decide (((a0.len : Nat) : Int) ≤ (1000 : Int))) (
    K (decide (s2.1 ≤ (4194304 : Int)))) (
    K false)
noncomputable def h9 : Hint := (.seq none (.region [] (.ops 1 .done)) (.seq none (.region [] (.ops 1 .done)) (.seq (some (17179869176, [(3, (.one (.int .i64)))])) (.seq none (.region [] (.ops 1 .done)) (.block (.loop 17179869176 [(3, (.one (.int .i64))), (4, (.one (.int .i64)))] (.seq none (.seq none (.region [] (.ops 4 .done)) (.cond none .leaf .leaf)) (.seq none (.block (.region [0, 1, 2, 3, 4, 5, 6, 7, 8, 9, 10, 11, 12, 13, 14, 15, 16, 17, 18, 19, 20, 21, 22, 23] (.ops 24 .done))) (.region [] (.ops 3 .done))))))) (.seq none (.region [] (.ops 4 (.split 37 (.ops 4 .done) (.skips 2 (.ops 2 .done))))) .leaf))))
theorem F9_tie (a0 : Sl) (K : Bool → World → Prop) : vcgF tab Try.prog Try.f9 h9 [(.slice a0.a a0.len a0.cap)] (.one (.one .bool)) K = F9 a0 K := by kernel_rfl
theorem F9_calls {a0 : Sl} {K : Bool → World → Prop} {w : World} (h : F9 a0 K w) : callT Try.prog 9 #[(.slice a0.a a0.len a0.cap)] (.one (.one .bool)) K w :=
  vcgF_sound tabOk Try.func9 h9 [(.slice a0.a a0.len a0.cap)] (.one (.one .bool)) K w (Eq.mpr (congrFun (F9_tie a0 K) w) h)

/-- copyist/copyistlaw16.made -/
noncomputable def F10 (a0 : Int) (K : Option Addr → World → Prop) : World → Prop :=
  callT Try.prog 33 #[(.int .i64 a0)] (.tup [(.one .ptr), (.one .any)]) fun (x1 : (Option Addr × Value × Unit)) =>
  rdB Try.prog (do eqGuard .neq 31 (Operand.tmp 10) (Operand.const Value.nilIface) x1.2.1 .nilIface; binOp .neq 31 x1.2.1 .nilIface : Sem Value) fun r2 =>
  sif r2 (
    K none) (
    K x1.1)
noncomputable def h10 : Hint := (.seq none (.region [] (.ops 1 .done)) (.seq none (.region [] (.ops 7 .done)) (.seq none (.seq none (.region [] (.ops 2 .done)) (.cond none (.seq none (.region [] (.ops 1 .done)) .leaf) .leaf)) (.seq none (.region [] (.ops 2 .done)) .leaf))))
theorem F10_tie (a0 : Int) (K : Option Addr → World → Prop) : vcgF tab Try.prog Try.f10 h10 [(.int .i64 a0)] (.one (.one .ptr)) K = F10 a0 K := by kernel_rfl
theorem F10_calls {a0 : Int} {K : Option Addr → World → Prop} {w : World} (h : F10 a0 K w) : callT Try.prog 10 #[(.int .i64 a0)] (.one (.one .ptr)) K w :=
  vcgF_sound tabOk Try.func10 h10 [(.int .i64 a0)] (.one (.one .ptr)) K w (Eq.mpr (congrFun (F10_tie a0 K) w) h)

/-- copyist/copyistlaw16.space -/
noncomputable def F11 (a0 : Int) (K : Int → World → Prop) : World → Prop :=
  K (IntKind.wrap .i64 ((8 : Int) + (IntKind.wrap .i64 ((BitVec.toNat (BitVec.ofInt (IntKind.bits .i64) a0 &&& BitVec.ofInt (IntKind.bits .i64) (1023 : Int)) : Nat) : Int))))
noncomputable def h11 : Hint := (.seq none (.region [] (.ops 1 .done)) (.seq none (.region [] (.ops 4 .done)) .leaf))
theorem F11_tie (a0 : Int) (K : Int → World → Prop) : vcgF tab Try.prog Try.f11 h11 [(.int .i64 a0)] (.one (.one (.int .i64))) K = F11 a0 K := by kernel_rfl
theorem F11_calls {a0 : Int} {K : Int → World → Prop} {w : World} (h : F11 a0 K w) : callT Try.prog 11 #[(.int .i64 a0)] (.one (.one (.int .i64))) K w :=
  vcgF_sound tabOk Try.func11 h11 [(.int .i64 a0)] (.one (.one (.int .i64))) K w (Eq.mpr (congrFun (F11_tie a0 K) w) h)

/-- copyist/copyistref16.New -/
noncomputable def F12 (a0 : Int) (K : (Option Addr × Int × Unit) → World → Prop) : World → Prop :=
  join (S := Bool × Unit) (fun J1 =>
    sif (decide (a0 < (0 : Int))) (
      J1 (true, ())) (
      J1 ((decide (a0 > (1048576 : Int))), ()))) fun (s2 : Bool × Unit) =>
  sif s2.1 (
    K (none, (1 : Int), ())) (
    newO (.cells #[(.int .i64 a0), (.slice none 0 0), (.slice none 0 0), (.slice none 0 0), (.bool false), (.slice none 0 0), (.int .i64 (0 : Int))] 84) fun b3 =>
    K ((some (at0 b3)), (0 : Int), ()))
noncomputable def h12 : Hint := (.seq none (.region [] (.ops 2 .done)) (.seq none (.seq (some (1008, [(9, (.one .bool))])) (.region [] (.ops 3 (.split 6 (.skips 2 (.ops 1 .done)) (.ops 3 .done)))) (.cond none (.seq none (.region [] (.ops 2 .done)) .leaf) .leaf)) (.seq none (.region [] (.ops 5 .done)) .leaf)))
theorem F12_tie (a0 : Int) (K : (Option Addr × Int × Unit) → World → Prop) : vcgF tab Try.prog Try.f12 h12 [(.int .i64 a0)] (.tup [(.one .ptr), (.one (.int .i64))]) K = F12 a0 K := by kernel_rfl
theorem F12_calls {a0 : Int} {K : (Option Addr × Int × Unit) → World → Prop} {w : World} (h : F12 a0 K w) : callT Try.prog 12 #[(.int .i64 a0)] (.tup [(.one .ptr), (.one (.int .i64))]) K w :=
  vcgF_sound tabOk Try.func12 h12 [(.int .i64 a0)] (.tup [(.one .ptr), (.one (.int .i64))]) K w (Eq.mpr (congrFun (F12_tie a0 K) w) h)

/-- (*copyist/disk.Disk).Put -/
noncomputable def F13 (a0 : Option Addr) (a1 : ByteArray) (a2 : Sl) (K : Value → World → Prop) : World → Prop :=
  nn a0 fun p1 =>
  ld (.map) (p1.add 1) fun (x2 : Option Nat) =>
  rdT Try.prog (.one (.one .ptr)) (Instr.lookup 87 (.map x2) (.string a1) false) fun (x3 : Option Addr) =>
  nn a0 fun p4 =>
  ld (.int .i64) p4 fun (x5 : Int) =>
  join (S := Int × Unit) (fun J6 =>
    nn a0 fun p8 =>
    ld (.map) (p8.add 1) fun (x9 : Option Nat) =>
    rawT Try.prog (.one (.one .ptr)) (Instr.range 87 (.map x9)) fun (x10 : Option Addr) =>
    sloop (S := Int × Unit) (fun (s11 : Int × Unit) again12 =>
      nextE Try.prog (Instr.next (.pointer x10) false 0) fun r13 rest14 =>
      sif r13 (
        rawT Try.prog (.tup [(.one .str), (.one .ptr)]) (Instr.entry (.pointer x10)) fun (x15 : ByteArray × Option Addr × Unit) =>
        rdB Try.prog (do eqGuard .neq 85 (Operand.tmp 30) (Operand.tmp 31) (.pointer x15.2.1) (.pointer x3); binOp .neq 85 (.pointer x15.2.1) (.pointer x3) : Sem Value) fun r16 =>
        sif r16 (
          nn x15.2.1 fun p17 =>
          ld (.sl) (p17.add 1) fun (x18 : Sl) =>
          again12 ((IntKind.wrap .i64 (s11.1 - ((x18.len : Nat) : Int))), ())) (
          again12 (s11.1, ()))) (
        J6 (s11.1, ()))) (x5, ())) fun (s7 : Int × Unit) =>
  nn a0 fun p19 =>
  ld (.bool) (p19.add 5) fun (x20 : Bool) =>
  sif x20 (
    newO (.cells #[(.string { data := #[112, 117, 116] }), (.string a1), (.int .i64 (0 : Int)), (.iface 49 (.int .i64 (165 : Int)))] 96) fun b21 =>
    K (.iface 94 (.pointer (some (at0 b21))))) (
    callT Try.prog 34 #[(.string a1)] (.one (.one .bool)) fun (x22 : Bool) =>
    sif (!x22) (
      newO (.cells #[(.string { data := #[112, 117, 116] }), (.string a1), (.int .i64 (0 : Int)), (.iface 49 (.int .i64 (164 : Int)))] 96) fun b23 =>
      K (.iface 94 (.pointer (some (at0 b23))))) (
      join (S := Bool × Unit) (fun J24 =>
        join (S := Bool × Unit) (fun J26 =>
          sif (Option.isNone x3) (
            nn a0 fun p28 =>
            ld (.map) (p28.add 1) fun (x29 : Option Nat) =>
            rdN Try.prog (Builtin.len_ #[87] 3 #[(.map x29)]) fun x30 =>
            J26 ((decide (x30 ≥ (16 : Int))), ())) (
            J26 (false, ()))) fun (s27 : Bool × Unit) =>
        sif s27.1 (
          J24 (s27.1, ())) (
          J24 ((decide (((a2.len : Nat) : Int) > s7.1)), ()))) fun (s25 : Bool × Unit) =>
      sif s25.1 (
        newO (.cells #[(.string { data := #[112, 117, 116] }), (.string a1), (.int .i64 (0 : Int)), (.iface 49 (.int .i64 (161 : Int)))] 96) fun b31 =>
        K (.iface 94 (.pointer (some (at0 b31))))) (
        join (S := Option Addr × Unit) (fun J32 =>
          sif (Option.isNone x3) (
            callT Try.prog 35 #[(.pointer a0)] (.one (.one .ptr)) fun (x34 : Option Addr) =>
            nn a0 fun p35 =>
            ld (.map) (p35.add 1) fun (x36 : Option Nat) =>
            rawU Try.prog (Instr.mapUpdate 87 (.map x36) (.string a1) (.pointer x34)) <|
            J32 (x34, ())) (
            J32 (x3, ()))) fun (s33 : Option Addr × Unit) =>
        callT Try.prog 36 #[(.pointer a0)] (.tup []) fun (x37 : (Unit)) =>
        callT Try.prog 37 #[(.slice a2.a a2.len a2.cap)] (.one (.one .sl)) fun (x38 : Sl) =>
        nn s33.1 fun p39 =>
        stC (p39.add 1) (.slice x38.a x38.len x38.cap) <|
        callT Try.prog 38 #[(.pointer s33.1)] (.tup []) fun (x40 : (Unit)) =>
        nn s33.1 fun p41 =>
        ld (.int .i64) (p41.add 3) fun (x42 : Int) =>
        nn s33.1 fun p43 =>
        stC (p43.add 3) (.int .i64 (IntKind.wrap .i64 (x42 + (1 : Int)))) <|
        K .nilIface)))
noncomputable def h13 : Hint := (.seq none (.region [] (.ops 1 .done)) (.seq none (.region [] (.ops 7 .done)) (.seq none (.region [] (.ops 5 .done)) (.seq (some (1099509531904, [(8, (.one (.int .i64)))])) (.seq none (.region [] (.ops 5 .done)) (.block (.loop 1099444520192 [(8, (.one (.int .i64)))] (.seq none (.region [] (.ops 2 .done)) (.seq none (.cond none .leaf .leaf) (.block (.seq none (.region [] (.op (some (.tup [(.one .str), (.one .ptr)])) (.ops 2 .done))) (.seq none (.region [] (.ops 3 .done)) (.cond none (.region [] (.ops 8 .done)) .leaf))))))))) (.seq none (.block (.seq none (.region [] (.ops 5 .done)) (.cond none (.seq none (.region [] (.ops 6 .done)) .leaf) (.seq none (.region [] (.ops 4 .done)) (.cond none (.seq none (.region [] (.ops 6 .done)) .leaf) (.seq (some (18888889470726277431296, [(59, (.one .bool))])) (.seq (some (1180015159965107879936, [(59, (.one .bool))])) (.region [] (.ops 3 (.split 62 (.ops 8 .done) (.skips 6 (.ops 2 .done))))) (.cond none .leaf (.region [] (.ops 5 .done)))) (.cond none (.seq none (.region [] (.ops 6 .done)) .leaf) .leaf))))))) (.seq (some (618365556732882822862209152, [(7, (.one .ptr))])) (.seq none (.region [] (.ops 2 .done)) (.cond none (.seq none (.region [] (.ops 3 .done)) (.region [] (.ops 7 .done))) .leaf)) (.seq none (.region [] (.ops 2 .done)) (.seq none (.region [] (.ops 6 .done)) (.seq none (.region [] (.ops 2 .done)) (.seq none (.region [] (.ops 8 .done)) (.seq none (.region [] (.ops 1 .done)) .leaf)))))))))))
theorem F13_tie (a0 : Option Addr) (a1 : ByteArray) (a2 : Sl) (K : Value → World → Prop) : vcgF tab Try.prog Try.f13 h13 [(.pointer a0), (.string a1), (.slice a2.a a2.len a2.cap)] (.one (.one .any)) K = F13 a0 a1 a2 K := by kernel_rfl
theorem F13_calls {a0 : Option Addr} {a1 : ByteArray} {a2 : Sl} {K : Value → World → Prop} {w : World} (h : F13 a0 a1 a2 K w) : callT Try.prog 13 #[(.pointer a0), (.string a1), (.slice a2.a a2.len a2.cap)] (.one (.one .any)) K w :=
  vcgF_sound tabOk Try.func13 h13 [(.pointer a0), (.string a1), (.slice a2.a a2.len a2.cap)] (.one (.one .any)) K w (Eq.mpr (congrFun (F13_tie a0 a1 a2 K) w) h)

/-- (*copyist/disk.Disk).Sync -/
noncomputable def F14 (a0 : Option Addr) (a1 : ByteArray) (K : Value → World → Prop) : World → Prop :=
  newO (.cells #[(.pointer a0)] 24) fun b1 =>
  newO (.cells #[(.string a1)] 9) fun b2 =>
  ld (.ptr) (at0 b1) fun (x3 : Option Addr) =>
  ld (.str) (at0 b2) fun (x4 : ByteArray) =>
  callT Try.prog 39 #[(.pointer x3), (.string { data := #[115, 121, 110, 99] }), (.string x4), (.func (Fn.func 40) #[] #[(.pointer (some (at0 b1))), (.pointer (some (at0 b2)))]), .nilFunc] (.one (.one .any)) fun (x5 : Value) =>
  K x5
noncomputable def h14 : Hint := (.seq none (.region [] (.ops 3 .done)) (.seq none (.region [] (.ops 5 .done)) .leaf))
theorem F14_tie (a0 : Option Addr) (a1 : ByteArray) (K : Value → World → Prop) : vcgF tab Try.prog Try.f14 h14 [(.pointer a0), (.string a1)] (.one (.one .any)) K = F14 a0 a1 K := by kernel_rfl
theorem F14_calls {a0 : Option Addr} {a1 : ByteArray} {K : Value → World → Prop} {w : World} (h : F14 a0 a1 K w) : callT Try.prog 14 #[(.pointer a0), (.string a1)] (.one (.one .any)) K w :=
  vcgF_sound tabOk Try.func14 h14 [(.pointer a0), (.string a1)] (.one (.one .any)) K w (Eq.mpr (congrFun (F14_tie a0 a1 K) w) h)

/-- (*copyist/disk.Disk).Remove -/
noncomputable def F15 (a0 : Option Addr) (a1 : ByteArray) (K : Value → World → Prop) : World → Prop :=
  newO (.cells #[(.pointer a0)] 24) fun b1 =>
  newO (.cells #[(.string a1)] 9) fun b2 =>
  ld (.ptr) (at0 b1) fun (x3 : Option Addr) =>
  ld (.str) (at0 b2) fun (x4 : ByteArray) =>
  callT Try.prog 39 #[(.pointer x3), (.string { data := #[114, 101, 109, 111, 118, 101] }), (.string x4), (.func (Fn.func 42) #[] #[(.pointer (some (at0 b1))), (.pointer (some (at0 b2)))]), .nilFunc] (.one (.one .any)) fun (x5 : Value) =>
  K x5
noncomputable def h15 : Hint := (.seq none (.region [] (.ops 3 .done)) (.seq none (.region [] (.ops 5 .done)) .leaf))
theorem F15_tie (a0 : Option Addr) (a1 : ByteArray) (K : Value → World → Prop) : vcgF tab Try.prog Try.f15 h15 [(.pointer a0), (.string a1)] (.one (.one .any)) K = F15 a0 a1 K := by kernel_rfl
theorem F15_calls {a0 : Option Addr} {a1 : ByteArray} {K : Value → World → Prop} {w : World} (h : F15 a0 a1 K w) : callT Try.prog 15 #[(.pointer a0), (.string a1)] (.one (.one .any)) K w :=
  vcgF_sound tabOk Try.func15 h15 [(.pointer a0), (.string a1)] (.one (.one .any)) K w (Eq.mpr (congrFun (F15_tie a0 a1 K) w) h)

/-- (*copyist/copyistref16.Disk).Do -/
noncomputable def F16 (a0 : Option Addr) (a1 : (ByteArray × ByteArray × ByteArray × Sl × Unit)) (K : (Int × Sl × Int × Int × Int × Int × Int × Unit) → World → Prop) : World → Prop :=
  newO (.cells #[(.string a1.1), (.string a1.2.1), (.string a1.2.2.1), (.slice a1.2.2.2.1.a a1.2.2.2.1.len a1.2.2.2.1.cap)] 47) fun b1 =>
  newO (.cells #[(.int .i64 (0 : Int)), (.slice none 0 0), (.int .i64 (0 : Int)), (.int .i64 (0 : Int)), (.int .i64 (0 : Int)), (.int .i64 (0 : Int)), (.int .i64 (0 : Int))] 43) fun b2 =>
  nn a0 fun p3 =>
  ld (.bool) (p3.add 4) fun (x4 : Bool) =>
  sif x4 (
    aggSt (at0 b2) (.agg #[(.int .i64 (0 : Int)), (.slice none 0 0), (.int .i64 (0 : Int)), (.int .i64 (0 : Int)), (.int .i64 (0 : Int)), (.int .i64 (165 : Int)), (.int .i64 (0 : Int))]) 7 <|
    lds c43 (at0 b2) fun (x5 : (Int × Sl × Int × Int × Int × Int × Int × Unit)) =>
    K x5) (
    nn a0 fun p6 =>
    ld (.int .i64) (p6.add 6) fun (x7 : Int) =>
    nn a0 fun p8 =>
    stC (p8.add 6) (.int .i64 (IntKind.wrap .i64 (x7 + (1 : Int)))) <|
    nn a0 fun p9 =>
    ld (.int .i64) (p9.add 6) fun (x10 : Int) =>
    callT Try.prog 45 #[(.pointer a0), (.int .i64 x10)] (.one (.agg c74)) fun (x11 : (Int × Int × Int × Int × Sl × Unit)) =>
    newO (.cells #[(.int .i64 (0 : Int)), (.int .i64 (0 : Int)), (.int .i64 (0 : Int)), (.int .i64 (0 : Int)), (.slice none 0 0)] 74) fun b12 =>
    aggSt (at0 b12) (.agg (Cells.vals c74 x11).toArray) 5 <|
    newO (.cells #[(.int .i64 (0 : Int)), (.slice none 0 0), (.int .i64 (0 : Int)), (.int .i64 (0 : Int)), (.int .i64 (0 : Int)), (.int .i64 (0 : Int)), (.int .i64 (0 : Int))] 43) fun b13 =>
    aggSt (at0 b13) (.agg #[(.int .i64 (0 : Int)), (.slice none 0 0), (.int .i64 (0 : Int)), (.int .i64 (0 : Int)), (.int .i64 (0 : Int)), (.int .i64 (0 : Int)), (.int .i64 (0 : Int))]) 7 <|
    join (S := Unit) (fun J14 =>
      ld (.int .i64) (⟨b12, 1, none⟩ : Addr) fun (x16 : Int) =>
      sif (x16 == (0 : Int)) (
        lds c47 (at0 b1) fun (x17 : (ByteArray × ByteArray × ByteArray × Sl × Unit)) =>
        callT Try.prog 46 #[(.pointer a0), (.agg (Cells.vals c47 x17).toArray)] (.one (.agg c43)) fun (x18 : (Int × Sl × Int × Int × Int × Int × Int × Unit)) =>
        aggSt (at0 b13) (.agg (Cells.vals c43 x18).toArray) 7 <|
        J14 ()) (
        join (S := Bool × Unit) (fun J19 =>
          ld (.int .i64) (⟨b12, 1, none⟩ : Addr) fun (x21 : Int) =>
          sif (x21 == (1 : Int)) (
            J19 ((x21 == (1 : Int)), ())) (
            ld (.int .i64) (⟨b12, 1, none⟩ : Addr) fun (x22 : Int) =>
            sif (x22 == (2 : Int)) (
              ld (.str) (at0 b1) fun (x23 : ByteArray) =>
              J19 ((!(ByteArray.toList x23 == ByteArray.toList ({ data := #[97, 112, 112, 101, 110, 100] }))), ())) (
              J19 (false, ())))) fun (s20 : Bool × Unit) =>
        sif s20.1 (
          stC (⟨b13, 5, none⟩ : Addr) (.int .i64 (160 : Int)) <|
          J14 ()) (
          ld (.int .i64) (⟨b12, 1, none⟩ : Addr) fun (x24 : Int) =>
          sif (x24 == (2 : Int)) (
            lds c47 (at0 b1) fun (x25 : (ByteArray × ByteArray × ByteArray × Sl × Unit)) =>
            newO (.cells #[(.string { data := #[] }), (.string { data := #[] }), (.string { data := #[] }), (.slice none 0 0)] 47) fun b26 =>
            aggSt (at0 b26) (.agg (Cells.vals c47 x25).toArray) 4 <|
            ld (.sl) (⟨b1, 3, none⟩ : Addr) fun (x27 : Sl) =>
            ld (.sl) (⟨b1, 3, none⟩ : Addr) fun (x28 : Sl) =>
            ld (.int .i64) (⟨b12, 2, none⟩ : Addr) fun (x29 : Int) =>
            slc x27.a 0 (if (if x29 > (0 : Int) then x29 else (0 : Int)) < ((x28.len : Nat) : Int) then (if x29 > (0 : Int) then x29 else (0 : Int)) else ((x28.len : Nat) : Int)) ((x27.cap : Nat) : Int) x27.cap 1 fun x30 =>
            callT Try.prog 47 #[(.slice x30.a x30.len x30.cap)] (.one (.one .sl)) fun (x31 : Sl) =>
            stC (⟨b26, 3, none⟩ : Addr) (.slice x31.a x31.len x31.cap) <|
            lds c47 (at0 b26) fun (x32 : (ByteArray × ByteArray × ByteArray × Sl × Unit)) =>
            callT Try.prog 46 #[(.pointer a0), (.agg (Cells.vals c47 x32).toArray)] (.one (.agg c43)) fun (x33 : (Int × Sl × Int × Int × Int × Int × Int × Unit)) =>
            aggSt (at0 b13) (.agg (Cells.vals c43 x33).toArray) 7 <|
            join (S := Bool × Unit) (fun J34 =>
              ld (.int .i64) (⟨b13, 5, none⟩ : Addr) fun (x36 : Int) =>
              sif (x36 == (0 : Int)) (
                J34 (true, ())) (
                ld (.int .i64) (⟨b13, 5, none⟩ : Addr) fun (x37 : Int) =>
                J34 ((x37 == (161 : Int)), ()))) fun (s35 : Bool × Unit) =>
            sif s35.1 (
              stC (⟨b13, 5, none⟩ : Addr) (.int .i64 (160 : Int)) <|
              J14 ()) (
              J14 ())) (
            ld (.int .i64) (⟨b12, 1, none⟩ : Addr) fun (x38 : Int) =>
            sif (x38 == (3 : Int)) (
              lds c47 (at0 b1) fun (x39 : (ByteArray × ByteArray × ByteArray × Sl × Unit)) =>
              callT Try.prog 46 #[(.pointer a0), (.agg (Cells.vals c47 x39).toArray)] (.one (.agg c43)) fun (x40 : (Int × Sl × Int × Int × Int × Int × Int × Unit)) =>
              aggSt (at0 b13) (.agg (Cells.vals c43 x40).toArray) 7 <|
              ld (.int .i64) (⟨b13, 5, none⟩ : Addr) fun (x41 : Int) =>
              sif (x41 == (0 : Int)) (
                ld (.int .i64) (at0 b13) fun (x42 : Int) =>
                aggSt (at0 b13) (.agg #[(.int .i64 x42), (.slice none 0 0), (.int .i64 (0 : Int)), (.int .i64 (0 : Int)), (.int .i64 (0 : Int)), (.int .i64 (160 : Int)), (.int .i64 (0 : Int))]) 7 <|
                J14 ()) (
                J14 ())) (
              ld (.int .i64) (⟨b12, 1, none⟩ : Addr) fun (x43 : Int) =>
              sif (x43 == (4 : Int)) (
                lds c37 (⟨b12, 3, none⟩ : Addr) fun (x44 : (Int × Sl × Unit)) =>
                callT Try.prog 48 #[(.pointer a0), (.agg (Cells.vals c37 x44).toArray)] (.tup []) fun (x45 : (Unit)) =>
                stC (⟨b13, 5, none⟩ : Addr) (.int .i64 (165 : Int)) <|
                J14 ()) (
                ld (.int .i64) (⟨b12, 1, none⟩ : Addr) fun (x46 : Int) =>
                sif (x46 == (5 : Int)) (
                  lds c47 (at0 b1) fun (x47 : (ByteArray × ByteArray × ByteArray × Sl × Unit)) =>
                  callT Try.prog 46 #[(.pointer a0), (.agg (Cells.vals c47 x47).toArray)] (.one (.agg c43)) fun (x48 : (Int × Sl × Int × Int × Int × Int × Int × Unit)) =>
                  lds c37 (⟨b12, 3, none⟩ : Addr) fun (x49 : (Int × Sl × Unit)) =>
                  callT Try.prog 48 #[(.pointer a0), (.agg (Cells.vals c37 x49).toArray)] (.tup []) fun (x50 : (Unit)) =>
                  stC (⟨b13, 5, none⟩ : Addr) (.int .i64 (165 : Int)) <|
                  J14 ()) (
                  J14 ()))))))) fun (s15 : Unit) =>
    stC (⟨b13, 6, none⟩ : Addr) (.int .i64 x10) <|
    lds c43 (at0 b13) fun (x51 : (Int × Sl × Int × Int × Int × Int × Int × Unit)) =>
    aggSt (at0 b2) (.agg (Cells.vals c43 x51).toArray) 7 <|
    lds c43 (at0 b2) fun (x52 : (Int × Sl × Int × Int × Int × Int × Int × Unit)) =>
    K x52)
noncomputable def h16 : Hint := (.seq none (.region [] (.ops 2 .done)) (.seq none (.seq none (.region [] (.ops 4 .done)) (.cond none (.seq none (.region [] (.ops 2 .done)) .leaf) .leaf)) (.seq none (.region [] (.ops 8 .done)) (.seq none (.region [] (.ops 5 .done)) (.seq none (.region [] (.ops 5 .done)) (.seq none (.region [] (.ops 3 .done)) (.seq (some (5192296858534827628530495792349440, [])) (.block (.seq none (.region [] (.ops 4 .done)) (.cond none (.region [] (.ops 4 .done)) (.seq (some (281406257233920, [(36, (.one .bool))])) (.seq none (.region [] (.ops 4 .done)) (.cond none .leaf (.region [] (.ops 4 (.split 43 (.ops 5 .done) (.skips 3 (.ops 2 .done))))))) (.cond none (.region [] (.ops 2 .done)) (.seq none (.region [] (.ops 4 .done)) (.cond none (.seq none (.region [] (.ops 3 .done)) (.seq none (.region [] (.ops 13 .done)) (.seq none (.region [] (.ops 4 .done)) (.seq (some (150525431641469941186560, [(76, (.one .bool))])) (.region [] (.ops 4 (.split 72 (.skips 3 (.ops 1 .done)) (.ops 4 .done)))) (.cond none (.region [] (.ops 2 .done)) .leaf))))) (.seq none (.region [] (.ops 4 .done)) (.cond none (.seq none (.region [] (.ops 4 .done)) (.seq none (.region [] (.ops 3 .done)) (.cond none (.region [] (.ops 4 .done)) .leaf))) (.seq none (.region [] (.ops 4 .done)) (.cond none (.seq none (.region [] (.ops 4 .done)) (.region [] (.ops 2 .done))) (.seq none (.region [] (.ops 4 .done)) (.cond none (.seq none (.region [] (.ops 3 .done)) (.seq none (.region [] (.ops 4 .done)) (.region [] (.ops 2 .done)))) .leaf))))))))))))) (.seq none (.region [] (.ops 3 .done)) (.seq none (.region [] (.ops 2 .done)) .leaf)))))))))
theorem F16_tie (a0 : Option Addr) (a1 : (ByteArray × ByteArray × ByteArray × Sl × Unit)) (K : (Int × Sl × Int × Int × Int × Int × Int × Unit) → World → Prop) : vcgF tab Try.prog Try.f16 h16 [(.pointer a0), (.agg (Cells.vals c47 a1).toArray)] (.one (.agg c43)) K = F16 a0 a1 K := by kernel_rfl
theorem F16_calls {a0 : Option Addr} {a1 : (ByteArray × ByteArray × ByteArray × Sl × Unit)} {K : (Int × Sl × Int × Int × Int × Int × Int × Unit) → World → Prop} {w : World} (h : F16 a0 a1 K w) : callT Try.prog 16 #[(.pointer a0), (.agg (Cells.vals c47 a1).toArray)] (.one (.agg c43)) K w :=
  vcgF_sound tabOk Try.func16 h16 [(.pointer a0), (.agg (Cells.vals c47 a1).toArray)] (.one (.agg c43)) K w (Eq.mpr (congrFun (F16_tie a0 a1 K) w) h)

/-- copyist/copyistlaw16.words -/
noncomputable def F17 (a0 : Int) (K : ByteArray → World → Prop) : World → Prop :=
  newO (.cells (Value.cells (Try.t109.zero.getD default)) 109) fun b1 =>
  aggSt (at0 b1) (.agg #[(.string { data := #[] }), (.string { data := #[109, 97, 107, 101] }), (.string { data := #[97, 112, 112, 101, 110, 100] }), (.string { data := #[115, 121, 110, 99] }), (.string { data := #[115, 121, 110, 99, 100, 105, 114] }), (.string { data := #[114, 101, 110, 97, 109, 101] }), (.string { data := #[114, 101, 109, 111, 118, 101] }), (.string { data := #[114, 101, 97, 100] }), (.string { data := #[115, 116, 97, 109, 112] })]) 9 <|
  chk (0 ≤ a0 ∧ a0 < ((9 : Nat) : Int)) <|
  ld (.str) ((at0 b1).add (scaled (Int.toNat a0) 1)) fun (x2 : ByteArray) =>
  K x2
noncomputable def h17 : Hint := (.seq none (.region [] (.ops 1 .done)) (.seq none (.region [] (.ops 3 .done)) (.seq none (.region [] (.ops 4 .done)) .leaf)))
theorem F17_tie (a0 : Int) (K : ByteArray → World → Prop) : vcgF tab Try.prog Try.f17 h17 [(.int .i64 a0)] (.one (.one .str)) K = F17 a0 K := by kernel_rfl
theorem F17_calls {a0 : Int} {K : ByteArray → World → Prop} {w : World} (h : F17 a0 K w) : callT Try.prog 17 #[(.int .i64 a0)] (.one (.one .str)) K w :=
  vcgF_sound tabOk Try.func17 h17 [(.int .i64 a0)] (.one (.one .str)) K w (Eq.mpr (congrFun (F17_tie a0 K) w) h)

/-- errors.Is -/
noncomputable def F18 (a0 : Value) (a1 : Value) (K : Bool → World → Prop) : World → Prop :=
  join (S := Bool × Unit) (fun J1 =>
    rdB Try.prog (do eqGuard .eql 31 (Operand.tmp 6) (Operand.const Value.nilIface) a0 .nilIface; binOp .eql 31 a0 .nilIface : Sem Value) fun r3 =>
    sif r3 (
      J1 (true, ())) (
      rdB Try.prog (do eqGuard .eql 31 (Operand.tmp 9) (Operand.const Value.nilIface) a1 .nilIface; binOp .eql 31 a1 .nilIface : Sem Value) fun r4 =>
      J1 (r4, ()))) fun (s2 : Bool × Unit) =>
  sif s2.1 (
    rdB Try.prog (do eqGuard .eql 31 (Operand.tmp 12) (Operand.tmp 13) a0 a1; binOp .eql 31 a0 a1 : Sem Value) fun r5 =>
    K r5) (
    callX Try.prog (callFunc 49 #[a1]) (.one (.one .any)) fun (x6 : Value) =>
    callX Try.prog (invoke (.fn (.method "Comparable") #[]) (#[x6] ++ #[])) (.one (.one .bool)) fun (x7 : Bool) =>
    callT Try.prog 50 #[a0, a1, (.bool x7)] (.one (.one .bool)) fun (x8 : Bool) =>
    K x8)
noncomputable def h18 : Hint := (.seq none (.region [] (.ops 1 .done)) (.seq none (.seq (some (4032, [(11, (.one .bool))])) (.region [] (.ops 3 (.split 8 (.skips 2 (.ops 1 .done)) (.ops 3 .done)))) (.cond none (.seq none (.region [] (.ops 4 .done)) .leaf) .leaf)) (.seq none (.region [] (.ops 4 .done)) (.seq none (.region [] (.ops 5 .done)) .leaf))))
theorem F18_tie (a0 : Value) (a1 : Value) (K : Bool → World → Prop) : vcgF tab Try.prog Try.f18 h18 [a0, a1] (.one (.one .bool)) K = F18 a0 a1 K := by kernel_rfl
theorem F18_calls {a0 : Value} {a1 : Value} {K : Bool → World → Prop} {w : World} (h : F18 a0 a1 K w) : callT Try.prog 18 #[a0, a1] (.one (.one .bool)) K w :=
  vcgF_sound tabOk Try.func18 h18 [a0, a1] (.one (.one .bool)) K w (Eq.mpr (congrFun (F18_tie a0 a1 K) w) h)

/-- (*copyist/disk.Disk).Plan -/
noncomputable def F19 (a0 : Option Addr) (a1 : Sl) (K : Unit → World → Prop) : World → Prop :=
  newO (.map #[] 0) fun b1 =>
  nn a0 fun p2 =>
  stC (p2.add 6) (.map (some b1)) <|
  nn a0 fun p3 =>
  stC (p3.add 7) (.int .i64 (0 : Int)) <|
  sloop (S := Int × Unit) (fun (s4 : Int × Unit) again5 =>
    sif (decide (s4.1 < ((a1.len : Nat) : Int))) (
      join (S := Unit) (fun J6 =>
        ix a1.a a1.len s4.1 fun p8 =>
        lds c74 (p8.add (scaled (Int.toNat s4.1) 5)) fun (x9 : (Int × Int × Int × Int × Sl × Unit)) =>
        newO (.cells #[(.int .i64 (0 : Int)), (.int .i64 (0 : Int)), (.int .i64 (0 : Int)), (.int .i64 (0 : Int)), (.slice none 0 0)] 74) fun b10 =>
        aggSt (at0 b10) (.agg (Cells.vals c74 x9).toArray) 5 <|
        drew <|
        nn a0 fun p11 =>
        ld (.map) (p11.add 6) fun (x12 : Option Nat) =>
        ld (.int .i64) (at0 b10) fun (x13 : Int) =>
        rdT Try.prog (.tup [(.agg c74), (.one .bool)]) (Instr.lookup 89 (.map x12) (.int .i64 x13) true) fun (x14 : ((Int × Int × Int × Int × Sl × Unit) × Bool × Unit)) =>
        newO (.cells #[(.int .i64 (0 : Int)), (.int .i64 (0 : Int)), (.int .i64 (0 : Int)), (.int .i64 (0 : Int)), (.slice none 0 0)] 74) fun b15 =>
        keep (fun w => (Instr.lookup 89 (.map x12) (.int .i64 x13) true).run Try.prog w = .ok (RTy.val (.tup [(.agg c74), (.one .bool)]) x14) w) <|
        keep (fun w => w.cell? (at0 b10) = some (Cell.val (.int .i64) x13)) <|
        keep (fun w => w.cell? (p11.add 6) = some (Cell.val (.map) x12)) <|
        aggSt (at0 b15) (.agg (Cells.vals c74 x14.1).toArray) 5 <|
        join (S := Bool × Unit) (fun J16 =>
          sif x14.2.1 (
            J16 (true, ())) (
            ld (.int .i64) (⟨b10, 1, none⟩ : Addr) fun (x18 : Int) =>
            sif (decide (x18 < (1 : Int))) (
              J16 (true, ())) (
              ld (.int .i64) (⟨b10, 1, none⟩ : Addr) fun (x19 : Int) =>
              J16 ((decide (x19 > (5 : Int))), ())))) fun (s17 : Bool × Unit) =>
        sif s17.1 (
          J6 ()) (
          ld (.sl) ((⟨b10, 3, none⟩ : Addr).add 1) fun (x20 : Sl) =>
          callT Try.prog 51 #[(.slice x20.a x20.len x20.cap)] (.one (.one .sl)) fun (x21 : Sl) =>
          stC ((⟨b10, 3, none⟩ : Addr).add 1) (.slice x21.a x21.len x21.cap) <|
          drew <|
          nn a0 fun p22 =>
          ld (.map) (p22.add 6) fun (x23 : Option Nat) =>
          ld (.int .i64) (at0 b10) fun (x24 : Int) =>
          lds c74 (at0 b10) fun (x25 : (Int × Int × Int × Int × Sl × Unit)) =>
          rawU Try.prog (Instr.mapUpdate 89 (.map x23) (.int .i64 x24) (.agg (Cells.vals c74 x25).toArray)) <|
          J6 ())) fun (s7 : Unit) =>
      again5 ((IntKind.wrap .i64 (s4.1 + (1 : Int))), ())) (
      K ())) ((0 : Int), ())
noncomputable def h19 : Hint := (.seq none (.region [] (.ops 9 .done)) (.seq none (.region [] (.ops 3 .done)) (.block (.loop 72057594037797088 [(17, (.one (.int .i64)))] (.seq none (.region [] (.ops 1 .done)) (.seq none (.cond none .leaf .leaf) (.seq (some (36028797018439904, [])) (.block (.seq none (.region [] (.ops 4 .done)) (.seq none (.seq none (.region [0, 1, 2, 3, 4, 5, 6, 7, 8, 9, 10, 11, 12] (.ops 13 .done)) (.seq (some (4395899027456, [(41, (.one .bool))])) (.region [] (.ops 2 (.split 32 (.skips 3 (.ops 2 (.skips 3 (.ops 1 .done)))) (.ops 5 (.split 37 (.skips 3 (.ops 1 .done)) (.ops 4 .done)))))) (.cond none .leaf .leaf))) (.seq none (.region [] (.ops 7 .done)) (.region [0, 1, 2, 3, 4, 5, 6, 7] (.ops 8 .done)))))) (.region [] (.ops 2 .done)))))))))
theorem F19_tie (a0 : Option Addr) (a1 : Sl) (K : Unit → World → Prop) : vcgF tab Try.prog Try.f19 h19 [(.pointer a0), (.slice a1.a a1.len a1.cap)] (.tup []) K = F19 a0 a1 K := by kernel_rfl
theorem F19_calls {a0 : Option Addr} {a1 : Sl} {K : Unit → World → Prop} {w : World} (h : F19 a0 a1 K w) : callT Try.prog 19 #[(.pointer a0), (.slice a1.a a1.len a1.cap)] (.tup []) K w :=
  vcgF_sound tabOk Try.func19 h19 [(.pointer a0), (.slice a1.a a1.len a1.cap)] (.tup []) K w (Eq.mpr (congrFun (F19_tie a0 a1 K) w) h)

/-- copyist/copyistlaw16.faults -/
noncomputable def F20 (a0 : Sl) (K : Sl → World → Prop) : World → Prop :=
  join (S := Sl × Unit) (fun J1 =>
    sloop (S := Sl × Int × Unit) (fun (s3 : Sl × Int × Unit) again4 =>
      sif (decide (s3.2.1 < ((a0.len : Nat) : Int))) (
        ix a0.a a0.len s3.2.1 fun p5 =>
        lds c74 (p5.add (scaled (Int.toNat s3.2.1) 5)) fun (x6 : (Int × Int × Int × Int × Sl × Unit)) =>
        newO (.cells #[(.int .i64 (0 : Int)), (.int .i64 (0 : Int)), (.int .i64 (0 : Int)), (.int .i64 (0 : Int)), (.slice none 0 0)] 74) fun b7 =>
        aggSt (at0 b7) (.agg (Cells.vals c74 x6).toArray) 5 <|
        ld (.sl) ((⟨b7, 3, none⟩ : Addr).add 1) fun (x8 : Sl) =>
        callT Try.prog 52 #[(.slice x8.a x8.len x8.cap)] (.one (.one .sl)) fun (x9 : Sl) =>
        stC ((⟨b7, 3, none⟩ : Addr).add 1) (.slice x9.a x9.len x9.cap) <|
        lds c74 (at0 b7) fun (x10 : (Int × Int × Int × Int × Sl × Unit)) =>
        newO (.cells #[(.int .i64 x10.1), (.int .i64 x10.2.1), (.int .i64 x10.2.2.1), (.int .i64 x10.2.2.2.1), (.slice x10.2.2.2.2.1.a x10.2.2.2.2.1.len x10.2.2.2.2.1.cap)] 74) fun b11 =>
        rawT Try.prog (.one (.one .sl)) (Builtin.append_ #[34, 34] 34 #[(.slice s3.1.a s3.1.len s3.1.cap), (.slice (some (at0 b11)) 1 1)]) fun (x12 : Sl) =>
        again4 (x12, (IntKind.wrap .i64 (s3.2.1 + (1 : Int))), ())) (
        J1 (s3.1, ()))) (⟨none, 0, 0⟩, (0 : Int), ())) fun (s2 : Sl × Unit) =>
  K s2.1
noncomputable def h20 : Hint := (.seq none (.region [] (.ops 1 .done)) (.seq none (.region [] (.ops 1 .done)) (.seq (some (67108856, [(3, (.one .sl))])) (.seq none (.region [] (.ops 1 .done)) (.block (.loop 67108856 [(3, (.one .sl)), (4, (.one (.int .i64)))] (.seq none (.seq none (.region [] (.ops 4 .done)) (.cond none .leaf .leaf)) (.seq none (.block (.seq none (.region [] (.ops 6 .done)) (.seq none (.region [] (.ops 7 .done)) (.region [] (.ops 5 .done))))) (.region [] (.ops 3 .done))))))) (.seq none (.region [] (.ops 2 .done)) .leaf))))
theorem F20_tie (a0 : Sl) (K : Sl → World → Prop) : vcgF tab Try.prog Try.f20 h20 [(.slice a0.a a0.len a0.cap)] (.one (.one .sl)) K = F20 a0 K := by kernel_rfl
theorem F20_calls {a0 : Sl} {K : Sl → World → Prop} {w : World} (h : F20 a0 K w) : callT Try.prog 20 #[(.slice a0.a a0.len a0.cap)] (.one (.one .sl)) K w :=
  vcgF_sound tabOk Try.func20 h20 [(.slice a0.a a0.len a0.cap)] (.one (.one .sl)) K w (Eq.mpr (congrFun (F20_tie a0 K) w) h)

/-- copyist/copyistlaw16.saved -/
noncomputable def F21 (a0 : Option Addr) (a1 : ByteArray) (a2 : Sl) (K : Bool → World → Prop) : World → Prop :=
  callT Try.prog 53 #[(.pointer a0), (.string { data := #[110, 101, 119, 126] })] (.one (.one .any)) fun (x1 : Value) =>
  rdB Try.prog (do eqGuard .neq 31 (Operand.tmp 11) (Operand.const Value.nilIface) x1 .nilIface; binOp .neq 31 x1 .nilIface : Sem Value) fun r2 =>
  sif r2 (
    K false) (
    join (S := Unit) (fun J3 =>
      sloop (S := Int × Unit) (fun (s5 : Int × Unit) again6 =>
        sif (decide (s5.1 < ((a2.len : Nat) : Int))) (
          ix a2.a a2.len s5.1 fun p7 =>
          ld (.sl) (p7.add (scaled (Int.toNat s5.1) 1)) fun (x8 : Sl) =>
          callT Try.prog 29 #[(.pointer a0), (.string { data := #[110, 101, 119, 126] }), (.slice x8.a x8.len x8.cap)] (.tup [(.one (.int .i64)), (.one .any)]) fun (x9 : (Int × Value × Unit)) =>
          rdB Try.prog (do eqGuard .neq 31 (Operand.tmp 28) (Operand.const Value.nilIface) x9.2.1 .nilIface; binOp .neq 31 x9.2.1 .nilIface : Sem Value) fun r10 =>
          sif r10 (
            K false) (
            again6 ((IntKind.wrap .i64 (s5.1 + (1 : Int))), ()))) (
          J3 ())) ((0 : Int), ())) fun (s4 : Unit) =>
    callT Try.prog 14 #[(.pointer a0), (.string { data := #[110, 101, 119, 126] })] (.one (.one .any)) fun (x11 : Value) =>
    rdB Try.prog (do eqGuard .eql 31 (Operand.tmp 31) (Operand.const Value.nilIface) x11 .nilIface; binOp .eql 31 x11 .nilIface : Sem Value) fun r12 =>
    sif r12 (
      callT Try.prog 54 #[(.pointer a0), (.string { data := #[110, 101, 119, 126] }), (.string a1)] (.one (.one .any)) fun (x13 : Value) =>
      rdB Try.prog (do eqGuard .eql 31 (Operand.tmp 36) (Operand.const Value.nilIface) x13 .nilIface; binOp .eql 31 x13 .nilIface : Sem Value) fun r14 =>
      sif r14 (
        callT Try.prog 32 #[(.pointer a0)] (.one (.one .any)) fun (x15 : Value) =>
        rdB Try.prog (do eqGuard .eql 31 (Operand.tmp 41) (Operand.const Value.nilIface) x15 .nilIface; binOp .eql 31 x15 .nilIface : Sem Value) fun r16 =>
        K r16) (
        K false)) (
      K false))
noncomputable def h21 : Hint := (.seq none (.region [] (.ops 1 .done)) (.seq none (.seq none (.region [] (.ops 3 .done)) (.cond none (.seq none (.region [] (.ops 1 .done)) .leaf) .leaf)) (.seq (some (1073734592, [])) (.seq none (.region [] (.ops 1 .done)) (.block (.loop 1073734592 [(7, (.one (.int .i64)))] (.seq none (.seq none (.region [] (.ops 4 .done)) (.cond none .leaf .leaf)) (.seq none (.block (.seq none (.region [] (.ops 11 .done)) (.seq none (.region [] (.ops 2 .done)) (.cond none (.seq none (.region [] (.ops 1 .done)) .leaf) .leaf)))) (.region [] (.ops 3 .done))))))) (.seq none (.region [] (.ops 4 (.split 33 (.ops 6 (.split 39 (.ops 5 .done) (.skips 3 (.ops 2 .done)))) (.skips 4 (.ops 2 (.skips 3 (.ops 2 .done))))))) .leaf))))
theorem F21_tie (a0 : Option Addr) (a1 : ByteArray) (a2 : Sl) (K : Bool → World → Prop) : vcgF tab Try.prog Try.f21 h21 [(.pointer a0), (.string a1), (.slice a2.a a2.len a2.cap)] (.one (.one .bool)) K = F21 a0 a1 a2 K := by kernel_rfl
theorem F21_calls {a0 : Option Addr} {a1 : ByteArray} {a2 : Sl} {K : Bool → World → Prop} {w : World} (h : F21 a0 a1 a2 K w) : callT Try.prog 21 #[(.pointer a0), (.string a1), (.slice a2.a a2.len a2.cap)] (.one (.one .bool)) K w :=
  vcgF_sound tabOk Try.func21 h21 [(.pointer a0), (.string a1), (.slice a2.a a2.len a2.cap)] (.one (.one .bool)) K w (Eq.mpr (congrFun (F21_tie a0 a1 a2 K) w) h)

/-- (*copyist/disk.Disk).Crash -/
noncomputable def F22 (a0 : Option Addr) (a1 : (Int × Sl × Unit)) (K : Unit → World → Prop) : World → Prop :=
  newO (.cells #[(.int .i64 a1.1), (.slice a1.2.1.a a1.2.1.len a1.2.1.cap)] 37) fun b1 =>
  nn a0 fun p2 =>
  ld (.bool) (p2.add 5) fun (x3 : Bool) =>
  sif x3 (
    K ()) (
    join (S := Unit) (fun J4 =>
      drew <|
      nn a0 fun p6 =>
      ld (.sl) (p6.add 3) fun (x7 : Sl) =>
      ld (.int .i64) (at0 b1) fun (x8 : Int) =>
      nn a0 fun p9 =>
      ld (.sl) (p9.add 3) fun (x10 : Sl) =>
      slc x7.a 0 (if ((x10.len : Nat) : Int) < (if (0 : Int) > x8 then (0 : Int) else x8) then ((x10.len : Nat) : Int) else (if (0 : Int) > x8 then (0 : Int) else x8)) ((x7.cap : Nat) : Int) x7.cap 1 fun x11 =>
      sloop (S := Int × Unit) (fun (s12 : Int × Unit) again13 =>
        sif (decide (s12.1 < ((x11.len : Nat) : Int))) (
          ix x11.a x11.len s12.1 fun p14 =>
          ld (.any) (p14.add (scaled (Int.toNat s12.1) 1)) fun (x15 : Value) =>
          nn a0 fun p16 =>
          ld (.map) (p16.add 2) fun (x17 : Option Nat) =>
          callX Try.prog (do let d ← Deferred.ofValue x15 #[(.map x17)]; invoke d.target d.args : Sem Next) (.tup []) fun (x18 : (Unit)) =>
          again13 ((IntKind.wrap .i64 (s12.1 + (1 : Int))), ())) (
          J4 ())) ((0 : Int), ())) fun (s5 : Unit) =>
    join (S := Unit) (fun J19 =>
      nn a0 fun p21 =>
      ld (.map) (p21.add 2) fun (x22 : Option Nat) =>
      callT Try.prog 55 #[(.map x22)] (.one (.one .sl)) fun (x23 : Sl) =>
      sloop (S := Int × Unit) (fun (s24 : Int × Unit) again25 =>
        sif (decide (s24.1 < ((x23.len : Nat) : Int))) (
          ix x23.a x23.len s24.1 fun p26 =>
          ld (.str) (p26.add (scaled (Int.toNat s24.1) 1)) fun (x27 : ByteArray) =>
          join (S := Int × Unit) (fun J28 =>
            ld (.sl) (⟨b1, 1, none⟩ : Addr) fun (x30 : Sl) =>
            sif (decide (s24.1 < ((x30.len : Nat) : Int))) (
              ld (.sl) (⟨b1, 1, none⟩ : Addr) fun (x31 : Sl) =>
              ix x31.a x31.len s24.1 fun p32 =>
              ld (.int .i64) (p32.add (scaled (Int.toNat s24.1) 1)) fun (x33 : Int) =>
              J28 (x33, ())) (
              J28 ((0 : Int), ()))) fun (s29 : Int × Unit) =>
          nn a0 fun p34 =>
          ld (.map) (p34.add 2) fun (x35 : Option Nat) =>
          rdT Try.prog (.one (.one .ptr)) (Instr.lookup 87 (.map x35) (.string x27) false) fun (x36 : Option Addr) =>
          callT Try.prog 56 #[(.pointer x36), (.int .i64 s29.1)] (.tup []) fun (x37 : (Unit)) =>
          again25 ((IntKind.wrap .i64 (s24.1 + (1 : Int))), ())) (
          J19 ())) ((0 : Int), ())) fun (s20 : Unit) =>
    nn a0 fun p38 =>
    ld (.map) (p38.add 2) fun (x39 : Option Nat) =>
    callT Try.prog 57 #[(.map x39)] (.one (.one .map)) fun (x40 : Option Nat) =>
    nn a0 fun p41 =>
    stC (p41.add 1) (.map x40) <|
    nn a0 fun p42 =>
    stC (p42.add 3) (.slice none 0 0) <|
    nn a0 fun p43 =>
    stC (p43.add 5) (.bool true) <|
    K ())
noncomputable def h22 : Hint := (.seq none (.region [] (.ops 1 .done)) (.seq none (.seq none (.region [] (.ops 4 .done)) (.cond none .leaf .leaf)) (.seq (some (549755805728, [])) (.seq none (.region [0, 1, 2, 3, 4, 5, 6, 7, 8, 9, 10, 11, 12, 13, 14, 15] (.ops 16 .done)) (.block (.loop 549487378464 [(28, (.one (.int .i64)))] (.seq none (.region [] (.ops 1 .done)) (.seq none (.cond none .leaf .leaf) (.seq none (.block (.seq none (.region [] (.ops 3 .done)) (.region [] (.ops 6 .done)))) (.region [] (.ops 2 .done)))))))) (.seq (some (590295809808949838272, [])) (.seq none (.region [] (.ops 7 .done)) (.block (.loop 590295775174333563328 [(45, (.one (.int .i64)))] (.seq none (.region [] (.ops 1 .done)) (.seq none (.cond none .leaf .leaf) (.seq none (.block (.seq none (.region [] (.ops 5 .done)) (.seq none (.region [] (.ops 1 .done)) (.seq (some (1151795604700004608, [(8, (.one (.int .i64)))])) (.seq none (.region [] (.ops 5 .done)) (.cond none (.region [] (.ops 6 .done)) .leaf)) (.region [] (.ops 8 .done)))))) (.region [] (.ops 2 .done)))))))) (.seq none (.region [] (.ops 13 .done)) (.region [] (.ops 4 .done)))))))
theorem F22_tie (a0 : Option Addr) (a1 : (Int × Sl × Unit)) (K : Unit → World → Prop) : vcgF tab Try.prog Try.f22 h22 [(.pointer a0), (.agg (Cells.vals c37 a1).toArray)] (.tup []) K = F22 a0 a1 K := by kernel_rfl
theorem F22_calls {a0 : Option Addr} {a1 : (Int × Sl × Unit)} {K : Unit → World → Prop} {w : World} (h : F22 a0 a1 K w) : callT Try.prog 22 #[(.pointer a0), (.agg (Cells.vals c37 a1).toArray)] (.tup []) K w :=
  vcgF_sound tabOk Try.func22 h22 [(.pointer a0), (.agg (Cells.vals c37 a1).toArray)] (.tup []) K w (Eq.mpr (congrFun (F22_tie a0 a1 K) w) h)

/-- (*copyist/disk.Disk).Down -/
noncomputable def F23 (a0 : Option Addr) (K : Bool → World → Prop) : World → Prop :=
  nn a0 fun p1 =>
  ld (.bool) (p1.add 5) fun (x2 : Bool) =>
  K x2
noncomputable def h23 : Hint := (.seq none (.region [] (.ops 1 .done)) (.seq none (.region [] (.ops 5 .done)) .leaf))
theorem F23_tie (a0 : Option Addr) (K : Bool → World → Prop) : vcgF tab Try.prog Try.f23 h23 [(.pointer a0)] (.one (.one .bool)) K = F23 a0 K := by kernel_rfl
theorem F23_calls {a0 : Option Addr} {K : Bool → World → Prop} {w : World} (h : F23 a0 K w) : callT Try.prog 23 #[(.pointer a0)] (.one (.one .bool)) K w :=
  vcgF_sound tabOk Try.func23 h23 [(.pointer a0)] (.one (.one .bool)) K w (Eq.mpr (congrFun (F23_tie a0 K) w) h)

/-- (*copyist/disk.Disk).Restart -/
noncomputable def F24 (a0 : Option Addr) (K : Unit → World → Prop) : World → Prop :=
  nn a0 fun p1 =>
  ld (.bool) (p1.add 5) fun (x2 : Bool) =>
  sif x2 (
    nn a0 fun p3 =>
    stC (p3.add 5) (.bool false) <|
    nn a0 fun p4 =>
    stC (p4.add 6) (.map none) <|
    nn a0 fun p5 =>
    stC (p5.add 7) (.int .i64 (0 : Int)) <|
    K ()) (
    K ())
noncomputable def h24 : Hint := (.seq none (.region [] (.ops 4 .done)) (.cond none (.region [] (.ops 12 .done)) .leaf))
theorem F24_tie (a0 : Option Addr) (K : Unit → World → Prop) : vcgF tab Try.prog Try.f24 h24 [(.pointer a0)] (.tup []) K = F24 a0 K := by kernel_rfl
theorem F24_calls {a0 : Option Addr} {K : Unit → World → Prop} {w : World} (h : F24 a0 K w) : callT Try.prog 24 #[(.pointer a0)] (.tup []) K w :=
  vcgF_sound tabOk Try.func24 h24 [(.pointer a0)] (.tup []) K w (Eq.mpr (congrFun (F24_tie a0 K) w) h)

/-- (*copyist/disk.Disk).Read -/
noncomputable def F25 (a0 : Option Addr) (a1 : ByteArray) (K : (Sl × Value × Unit) → World → Prop) : World → Prop :=
  newO (.cells #[(.pointer a0)] 24) fun b1 =>
  newO (.cells #[(.string a1)] 9) fun b2 =>
  newO (.cells #[(.slice none 0 0)] 33) fun b3 =>
  ld (.ptr) (at0 b1) fun (x4 : Option Addr) =>
  ld (.str) (at0 b2) fun (x5 : ByteArray) =>
  callT Try.prog 39 #[(.pointer x4), (.string { data := #[114, 101, 97, 100] }), (.string x5), (.func (Fn.func 58) #[] #[(.pointer (some (at0 b1))), (.pointer (some (at0 b2))), (.pointer (some (at0 b3)))]), .nilFunc] (.one (.one .any)) fun (x6 : Value) =>
  rdB Try.prog (do eqGuard .neq 31 (Operand.tmp 12) (Operand.const Value.nilIface) x6 .nilIface; binOp .neq 31 x6 .nilIface : Sem Value) fun r7 =>
  sif r7 (
    K (⟨none, 0, 0⟩, x6, ())) (
    ld (.sl) (at0 b3) fun (x8 : Sl) =>
    K (x8, .nilIface, ()))
noncomputable def h25 : Hint := (.seq none (.region [] (.ops 4 .done)) (.seq none (.region [] (.ops 1 .done)) (.seq none (.region [] (.ops 5 .done)) (.seq none (.seq none (.region [] (.ops 2 .done)) (.cond none (.seq none (.region [] (.ops 3 .done)) .leaf) .leaf)) (.seq none (.region [] (.ops 3 .done)) .leaf)))))
theorem F25_tie (a0 : Option Addr) (a1 : ByteArray) (K : (Sl × Value × Unit) → World → Prop) : vcgF tab Try.prog Try.f25 h25 [(.pointer a0), (.string a1)] (.tup [(.one .sl), (.one .any)]) K = F25 a0 a1 K := by kernel_rfl
theorem F25_calls {a0 : Option Addr} {a1 : ByteArray} {K : (Sl × Value × Unit) → World → Prop} {w : World} (h : F25 a0 a1 K w) : callT Try.prog 25 #[(.pointer a0), (.string a1)] (.tup [(.one .sl), (.one .any)]) K w :=
  vcgF_sound tabOk Try.func25 h25 [(.pointer a0), (.string a1)] (.tup [(.one .sl), (.one .any)]) K w (Eq.mpr (congrFun (F25_tie a0 a1 K) w) h)

/-- (*copyist/disk.Disk).Names -/
noncomputable def F26 (a0 : Option Addr) (K : Sl → World → Prop) : World → Prop :=
  nn a0 fun p1 =>
  ld (.bool) (p1.add 5) fun (x2 : Bool) =>
  sif x2 (
    K ⟨none, 0, 0⟩) (
    nn a0 fun p3 =>
    ld (.map) (p3.add 1) fun (x4 : Option Nat) =>
    callT Try.prog 55 #[(.map x4)] (.one (.one .sl)) fun (x5 : Sl) =>
    K x5)
noncomputable def h26 : Hint := (.seq none (.region [] (.ops 1 .done)) (.seq none (.seq none (.region [] (.ops 4 .done)) (.cond none (.seq none (.region [] (.ops 1 .done)) .leaf) .leaf)) (.seq none (.region [] (.ops 6 .done)) .leaf)))
theorem F26_tie (a0 : Option Addr) (K : Sl → World → Prop) : vcgF tab Try.prog Try.f26 h26 [(.pointer a0)] (.one (.one .sl)) K = F26 a0 K := by kernel_rfl
theorem F26_calls {a0 : Option Addr} {K : Sl → World → Prop} {w : World} (h : F26 a0 K w) : callT Try.prog 26 #[(.pointer a0)] (.one (.one .sl)) K w :=
  vcgF_sound tabOk Try.func26 h26 [(.pointer a0)] (.one (.one .sl)) K w (Eq.mpr (congrFun (F26_tie a0 K) w) h)

/-- copyist/copyistlaw16.do -/
noncomputable def F27 (a0 : Option Addr) (a1 : (Int × Int × ByteArray × ByteArray × Sl × Sl × Int × Sl × Unit)) (K : Bool → World → Prop) : World → Prop :=
  newO (.cells #[(.int .i64 a1.1), (.int .i64 a1.2.1), (.string a1.2.2.1), (.string a1.2.2.2.1), (.slice a1.2.2.2.2.1.a a1.2.2.2.2.1.len a1.2.2.2.2.1.cap), (.slice a1.2.2.2.2.2.1.a a1.2.2.2.2.2.1.len a1.2.2.2.2.2.1.cap), (.int .i64 a1.2.2.2.2.2.2.1), (.slice a1.2.2.2.2.2.2.2.1.a a1.2.2.2.2.2.2.2.1.len a1.2.2.2.2.2.2.2.1.cap)] 39) fun b1 =>
  join (S := Value × Unit) (fun J2 =>
    ld (.int .i64) (at0 b1) fun (x4 : Int) =>
    sif (x4 == (1 : Int)) (
      ld (.str) (⟨b1, 2, none⟩ : Addr) fun (x5 : ByteArray) =>
      callT Try.prog 53 #[(.pointer a0), (.string x5)] (.one (.one .any)) fun (x6 : Value) =>
      J2 (x6, ())) (
      sif (x4 == (2 : Int)) (
        drew <|
        ld (.str) (⟨b1, 2, none⟩ : Addr) fun (x7 : ByteArray) =>
        ld (.sl) (⟨b1, 4, none⟩ : Addr) fun (x8 : Sl) =>
        rawT Try.prog (.one (.one .sl)) (Builtin.append_ #[33, 33] 33 #[(.slice none 0 0), (.slice x8.a x8.len x8.cap)]) fun (x9 : Sl) =>
        keep (fun w => w.cell? (⟨b1, 2, none⟩ : Addr) = some (Cell.val (.str) x7)) <|
        callT Try.prog 29 #[(.pointer a0), (.string x7), (.slice x9.a x9.len x9.cap)] (.tup [(.one (.int .i64)), (.one .any)]) fun (x10 : (Int × Value × Unit)) =>
        J2 (x10.2.1, ())) (
        sif (x4 == (3 : Int)) (
          ld (.str) (⟨b1, 2, none⟩ : Addr) fun (x11 : ByteArray) =>
          callT Try.prog 14 #[(.pointer a0), (.string x11)] (.one (.one .any)) fun (x12 : Value) =>
          J2 (x12, ())) (
          sif (x4 == (4 : Int)) (
            callT Try.prog 32 #[(.pointer a0)] (.one (.one .any)) fun (x13 : Value) =>
            J2 (x13, ())) (
            sif (x4 == (5 : Int)) (
              ld (.str) (⟨b1, 2, none⟩ : Addr) fun (x14 : ByteArray) =>
              ld (.str) (⟨b1, 3, none⟩ : Addr) fun (x15 : ByteArray) =>
              callT Try.prog 54 #[(.pointer a0), (.string x14), (.string x15)] (.one (.one .any)) fun (x16 : Value) =>
              J2 (x16, ())) (
              sif (x4 == (6 : Int)) (
                ld (.str) (⟨b1, 2, none⟩ : Addr) fun (x17 : ByteArray) =>
                callT Try.prog 15 #[(.pointer a0), (.string x17)] (.one (.one .any)) fun (x18 : Value) =>
                J2 (x18, ())) (
                sif (x4 == (7 : Int)) (
                  ld (.str) (⟨b1, 2, none⟩ : Addr) fun (x19 : ByteArray) =>
                  callT Try.prog 25 #[(.pointer a0), (.string x19)] (.tup [(.one .sl), (.one .any)]) fun (x20 : (Sl × Value × Unit)) =>
                  J2 (x20.2.1, ())) (
                  sif (x4 == (8 : Int)) (
                    ld (.str) (⟨b1, 2, none⟩ : Addr) fun (x21 : ByteArray) =>
                    callT Try.prog 59 #[(.pointer a0), (.string x21)] (.tup [(.agg c68), (.one .any)]) fun (x22 : ((Int × Int × Int × Unit) × Value × Unit)) =>
                    J2 (x22.2.1, ())) (
                    sif (x4 == (9 : Int)) (
                      drew <|
                      ld (.str) (⟨b1, 2, none⟩ : Addr) fun (x23 : ByteArray) =>
                      ld (.sl) (⟨b1, 4, none⟩ : Addr) fun (x24 : Sl) =>
                      rawT Try.prog (.one (.one .sl)) (Builtin.append_ #[33, 33] 33 #[(.slice none 0 0), (.slice x24.a x24.len x24.cap)]) fun (x25 : Sl) =>
                      keep (fun w => w.cell? (⟨b1, 2, none⟩ : Addr) = some (Cell.val (.str) x23)) <|
                      callT Try.prog 13 #[(.pointer a0), (.string x23), (.slice x25.a x25.len x25.cap)] (.one (.one .any)) fun (x26 : Value) =>
                      J2 (x26, ())) (
                      sif (x4 == (10 : Int)) (
                        ld (.sl) (⟨b1, 5, none⟩ : Addr) fun (x27 : Sl) =>
                        callT Try.prog 20 #[(.slice x27.a x27.len x27.cap)] (.one (.one .sl)) fun (x28 : Sl) =>
                        callT Try.prog 19 #[(.pointer a0), (.slice x28.a x28.len x28.cap)] (.tup []) fun (x29 : (Unit)) =>
                        J2 (.nilIface, ())) (
                        sif (x4 == (11 : Int)) (
                          lds c37 (⟨b1, 6, none⟩ : Addr) fun (x30 : (Int × Sl × Unit)) =>
                          callT Try.prog 22 #[(.pointer a0), (.agg (Cells.vals c37 x30).toArray)] (.tup []) fun (x31 : (Unit)) =>
                          J2 (.nilIface, ())) (
                          sif (x4 == (12 : Int)) (
                            callT Try.prog 24 #[(.pointer a0)] (.tup []) fun (x32 : (Unit)) =>
                            J2 (.nilIface, ())) (
                            J2 (.nilIface, ())))))))))))))) fun (s3 : Value × Unit) =>
  rdB Try.prog (do eqGuard .neq 31 (Operand.tmp 94) (Operand.const Value.nilIface) s3.1 .nilIface; binOp .neq 31 s3.1 .nilIface : Sem Value) fun r33 =>
  K r33
noncomputable def h27 : Hint := (.seq none (.region [] (.ops 2 .done)) (.seq none (.region [] (.ops 1 .done)) (.seq (some (19807040628566084398385987552, [(5, (.one .any))])) (.seq none (.region [] (.ops 2 .done)) (.block (.seq none (.region [] (.ops 2 .done)) (.cond none (.region [] (.ops 5 .done)) (.seq none (.region [] (.ops 2 .done)) (.cond none (.region [0, 1, 2, 3, 4, 5, 6, 7, 8, 9, 10] (.ops 11 .done)) (.seq none (.region [] (.ops 2 .done)) (.cond none (.region [] (.ops 5 .done)) (.seq none (.region [] (.ops 2 .done)) (.cond none (.region [] (.ops 3 .done)) (.seq none (.region [] (.ops 2 .done)) (.cond none (.region [] (.ops 7 .done)) (.seq none (.region [] (.ops 2 .done)) (.cond none (.region [] (.ops 5 .done)) (.seq none (.region [] (.ops 2 .done)) (.cond none (.region [] (.ops 8 .done)) (.seq none (.region [] (.ops 2 .done)) (.cond none (.region [] (.ops 8 .done)) (.seq none (.region [] (.ops 2 .done)) (.cond none (.region [0, 1, 2, 3, 4, 5, 6, 7] (.ops 8 .done)) (.seq none (.region [] (.ops 2 .done)) (.cond none (.region [] (.ops 5 .done)) (.seq none (.region [] (.ops 2 .done)) (.cond none (.region [] (.ops 4 .done)) (.seq none (.region [] (.ops 2 .done)) (.cond none (.region [] (.ops 2 .done)) .leaf)))))))))))))))))))))))))) (.seq none (.region [] (.ops 3 .done)) .leaf))))
theorem F27_tie (a0 : Option Addr) (a1 : (Int × Int × ByteArray × ByteArray × Sl × Sl × Int × Sl × Unit)) (K : Bool → World → Prop) : vcgF tab Try.prog Try.f27 h27 [(.pointer a0), (.agg (Cells.vals c39 a1).toArray)] (.one (.one .bool)) K = F27 a0 a1 K := by kernel_rfl
theorem F27_calls {a0 : Option Addr} {a1 : (Int × Int × ByteArray × ByteArray × Sl × Sl × Int × Sl × Unit)} {K : Bool → World → Prop} {w : World} (h : F27 a0 a1 K w) : callT Try.prog 27 #[(.pointer a0), (.agg (Cells.vals c39 a1).toArray)] (.one (.one .bool)) K w :=
  vcgF_sound tabOk Try.func27 h27 [(.pointer a0), (.agg (Cells.vals c39 a1).toArray)] (.one (.one .bool)) K w (Eq.mpr (congrFun (F27_tie a0 a1 K) w) h)

/-- copyist/copyistlaw16.taken -/
noncomputable def F28 (a0 : Option Addr) (K : ((Sl × Sl × Sl × Unit) × Bool × Unit) → World → Prop) : World → Prop :=
  newO (.cells #[(.slice none 0 0), (.slice none 0 0), (.slice none 0 0)] 65) fun b1 =>
  newO (.cells #[(.slice none 0 0), (.slice none 0 0), (.slice none 0 0)] 65) fun b2 =>
  drew <|
  ld (.sl) (at0 b2) fun (x3 : Sl) =>
  callT Try.prog 26 #[(.pointer a0)] (.one (.one .sl)) fun (x4 : Sl) =>
  keep (fun w => w.cell? (at0 b2) = some (Cell.val (.sl) x3)) <|
  rawT Try.prog (.one (.one .sl)) (Builtin.append_ #[59, 59] 59 #[(.slice x3.a x3.len x3.cap), (.slice x4.a x4.len x4.cap)]) fun (x5 : Sl) =>
  stC (at0 b2) (.slice x5.a x5.len x5.cap) <|
  join (S := Unit) (fun J6 =>
    sloop (S := Int × Unit) (fun (s8 : Int × Unit) again9 =>
      ld (.sl) (at0 b2) fun (x10 : Sl) =>
      sif (decide (s8.1 < ((x10.len : Nat) : Int))) (
        ld (.sl) (at0 b2) fun (x11 : Sl) =>
        ix x11.a x11.len s8.1 fun p12 =>
        ld (.str) (p12.add (scaled (Int.toNat s8.1) 1)) fun (x13 : ByteArray) =>
        callT Try.prog 25 #[(.pointer a0), (.string x13)] (.tup [(.one .sl), (.one .any)]) fun (x14 : (Sl × Value × Unit)) =>
        ld (.sl) (at0 b2) fun (x15 : Sl) =>
        ix x15.a x15.len s8.1 fun p16 =>
        ld (.str) (p16.add (scaled (Int.toNat s8.1) 1)) fun (x17 : ByteArray) =>
        callT Try.prog 59 #[(.pointer a0), (.string x17)] (.tup [(.agg c68), (.one .any)]) fun (x18 : ((Int × Int × Int × Unit) × Value × Unit)) =>
        newO (.cells #[(.int .i64 (0 : Int)), (.int .i64 (0 : Int)), (.int .i64 (0 : Int))] 68) fun b19 =>
        aggSt (at0 b19) (.agg (Cells.vals c68 x18.1).toArray) 3 <|
        join (S := Bool × Unit) (fun J20 =>
          rdB Try.prog (do eqGuard .neq 31 (Operand.tmp 43) (Operand.const Value.nilIface) x14.2.1 .nilIface; binOp .neq 31 x14.2.1 .nilIface : Sem Value) fun r22 =>
          sif r22 (
            J20 (true, ())) (
            rdB Try.prog (do eqGuard .neq 31 (Operand.tmp 46) (Operand.const Value.nilIface) x18.2.1 .nilIface; binOp .neq 31 x18.2.1 .nilIface : Sem Value) fun r23 =>
            sif r23 (
              J20 (true, ())) (
              chk (0 ≤ (1 : Int) ∧ (1 : Int) < ((3 : Nat) : Int)) <|
              ld (.int .i64) ((at0 b19).add (scaled (Int.toNat (1 : Int)) 1)) fun (x24 : Int) =>
              sif (x24 != ((x14.1.len : Nat) : Int)) (
                J20 (true, ())) (
                chk (0 ≤ (0 : Int) ∧ (0 : Int) < ((3 : Nat) : Int)) <|
                ld (.int .i64) ((at0 b19).add (scaled (Int.toNat (0 : Int)) 1)) fun (x25 : Int) =>
                J20 ((decide (x25 < (1 : Int))), ()))))) fun (s21 : Bool × Unit) =>
        sif s21.1 (
          lds c65 (at0 b2) fun (x26 : (Sl × Sl × Sl × Unit)) =>
          aggSt (at0 b1) (.agg (Cells.vals c65 x26).toArray) 3 <|
          lds c65 (at0 b1) fun (x27 : (Sl × Sl × Sl × Unit)) =>
          K (x27, false, ())) (
          ld (.sl) (⟨b2, 1, none⟩ : Addr) fun (x28 : Sl) =>
          rawT Try.prog (.one (.one .str)) (convert 33 9 (.slice x14.1.a x14.1.len x14.1.cap)) fun x29 =>
          newO (.cells #[(.string x29)] 9) fun b30 =>
          rawT Try.prog (.one (.one .sl)) (Builtin.append_ #[59, 59] 59 #[(.slice x28.a x28.len x28.cap), (.slice (some (at0 b30)) 1 1)]) fun (x31 : Sl) =>
          stC (⟨b2, 1, none⟩ : Addr) (.slice x31.a x31.len x31.cap) <|
          ld (.sl) (⟨b2, 2, none⟩ : Addr) fun (x32 : Sl) =>
          lds c68 (at0 b19) fun (x33 : (Int × Int × Int × Unit)) =>
          newO (.cells #[(.int .i64 x33.1), (.int .i64 x33.2.1), (.int .i64 x33.2.2.1)] 68) fun b34 =>
          rawT Try.prog (.one (.one .sl)) (Builtin.append_ #[63, 63] 63 #[(.slice x32.a x32.len x32.cap), (.slice (some (at0 b34)) 1 1)]) fun (x35 : Sl) =>
          stC (⟨b2, 2, none⟩ : Addr) (.slice x35.a x35.len x35.cap) <|
          again9 ((IntKind.wrap .i64 (s8.1 + (1 : Int))), ()))) (
        J6 ())) ((0 : Int), ())) fun (s7 : Unit) =>
  lds c65 (at0 b2) fun (x36 : (Sl × Sl × Sl × Unit)) =>
  aggSt (at0 b1) (.agg (Cells.vals c65 x36).toArray) 3 <|
  lds c65 (at0 b1) fun (x37 : (Sl × Sl × Sl × Unit)) =>
  K (x37, true, ())
noncomputable def h28 : Hint := (.seq none (.region [] (.ops 2 .done)) (.seq none (.region [] (.ops 1 .done)) (.seq none (.region [0, 1, 2, 3, 4, 5, 6] (.ops 7 .done)) (.seq (some (37778931862957161645032, [])) (.seq none (.region [] (.ops 1 .done)) (.block (.loop 37778931862957161645032 [(5, (.one (.int .i64)))] (.seq none (.seq none (.region [] (.ops 5 .done)) (.cond none .leaf .leaf)) (.seq none (.block (.seq none (.region [] (.ops 12 .done)) (.seq none (.region [] (.ops 13 .done)) (.seq none (.seq (some (2305834213120671744, [(60, (.one .bool))])) (.region [] (.ops 3 (.split 45 (.skips 2 (.ops 2 (.skips 5 (.ops 2 (.skips 3 (.ops 1 .done)))))) (.ops 4 (.split 49 (.skips 5 (.ops 2 (.skips 3 (.ops 1 .done)))) (.ops 7 (.split 56 (.skips 3 (.ops 1 .done)) (.ops 4 .done)))))))) (.cond none (.seq none (.region [] (.ops 3 .done)) .leaf) .leaf)) (.seq none (.region [] (.ops 8 .done)) (.region [] (.ops 7 .done))))))) (.region [] (.ops 3 .done))))))) (.seq none (.region [] (.ops 3 .done)) .leaf)))))
theorem F28_tie (a0 : Option Addr) (K : ((Sl × Sl × Sl × Unit) × Bool × Unit) → World → Prop) : vcgF tab Try.prog Try.f28 h28 [(.pointer a0)] (.tup [(.agg c65), (.one .bool)]) K = F28 a0 K := by kernel_rfl
theorem F28_calls {a0 : Option Addr} {K : ((Sl × Sl × Sl × Unit) × Bool × Unit) → World → Prop} {w : World} (h : F28 a0 K w) : callT Try.prog 28 #[(.pointer a0)] (.tup [(.agg c65), (.one .bool)]) K w :=
  vcgF_sound tabOk Try.func28 h28 [(.pointer a0)] (.tup [(.agg c65), (.one .bool)]) K w (Eq.mpr (congrFun (F28_tie a0 K) w) h)

/-- (*copyist/disk.Disk).Append -/
noncomputable def F29 (a0 : Option Addr) (a1 : ByteArray) (a2 : Sl) (K : (Int × Value × Unit) → World → Prop) : World → Prop :=
  newO (.cells #[(.pointer a0)] 24) fun b1 =>
  newO (.cells #[(.string a1)] 9) fun b2 =>
  newO (.cells #[(.slice a2.a a2.len a2.cap)] 33) fun b3 =>
  newO (.cells #[(.int .i64 (0 : Int))] 3) fun b4 =>
  stC (at0 b4) (.int .i64 (0 : Int)) <|
  newO (.cells #[.nilFunc] 122) fun b5 =>
  chk (isOne (.func (Fn.func 60) #[] #[(.pointer (some (at0 b1))), (.pointer (some (at0 b2))), (.pointer (some (at0 b4)))]) = true) <|
  stC (at0 b5) (.func (Fn.func 60) #[] #[(.pointer (some (at0 b1))), (.pointer (some (at0 b2))), (.pointer (some (at0 b4)))]) <|
  ld (.ptr) (at0 b1) fun (x6 : Option Addr) =>
  ld (.str) (at0 b2) fun (x7 : ByteArray) =>
  callT Try.prog 39 #[(.pointer x6), (.string { data := #[97, 112, 112, 101, 110, 100] }), (.string x7), (.func (Fn.func 62) #[] #[(.pointer (some (at0 b5))), (.pointer (some (at0 b3)))]), (.func (Fn.func 63) #[] #[(.pointer (some (at0 b5))), (.pointer (some (at0 b3)))])] (.one (.one .any)) fun (x8 : Value) =>
  join (S := Unit) (fun J9 =>
    ld (.ptr) (at0 b1) fun (x11 : Option Addr) =>
    nn x11 fun p12 =>
    ld (.bool) (p12.add 5) fun (x13 : Bool) =>
    sif x13 (
      stC (at0 b4) (.int .i64 (0 : Int)) <|
      J9 ()) (
      J9 ())) fun (s10 : Unit) =>
  ld (.int .i64) (at0 b4) fun (x14 : Int) =>
  K (x14, x8, ())
noncomputable def h29 : Hint := (.seq none (.region [] (.ops 5 .done)) (.seq none (.region [] (.ops 2 .done)) (.seq none (.region [] (.ops 3 .done)) (.seq none (.region [] (.ops 6 .done)) (.seq (some (1966080, [])) (.seq none (.region [] (.ops 4 .done)) (.cond none (.region [] (.ops 1 .done)) .leaf)) (.seq none (.region [] (.ops 4 .done)) .leaf))))))
theorem F29_tie (a0 : Option Addr) (a1 : ByteArray) (a2 : Sl) (K : (Int × Value × Unit) → World → Prop) : vcgF tab Try.prog Try.f29 h29 [(.pointer a0), (.string a1), (.slice a2.a a2.len a2.cap)] (.tup [(.one (.int .i64)), (.one .any)]) K = F29 a0 a1 a2 K := by kernel_rfl
theorem F29_calls {a0 : Option Addr} {a1 : ByteArray} {a2 : Sl} {K : (Int × Value × Unit) → World → Prop} {w : World} (h : F29 a0 a1 a2 K w) : callT Try.prog 29 #[(.pointer a0), (.string a1), (.slice a2.a a2.len a2.cap)] (.tup [(.one (.int .i64)), (.one .any)]) K w :=
  vcgF_sound tabOk Try.func29 h29 [(.pointer a0), (.string a1), (.slice a2.a a2.len a2.cap)] (.tup [(.one (.int .i64)), (.one .any)]) K w (Eq.mpr (congrFun (F29_tie a0 a1 a2 K) w) h)

/-- copyist/copyistlaw16.used -/
noncomputable def F30 (a0 : (Sl × Sl × Sl × Unit)) (K : Int → World → Prop) : World → Prop :=
  newO (.cells #[(.slice a0.1.a a0.1.len a0.1.cap), (.slice a0.2.1.a a0.2.1.len a0.2.1.cap), (.slice a0.2.2.1.a a0.2.2.1.len a0.2.2.1.cap)] 65) fun b1 =>
  join (S := Int × Unit) (fun J2 =>
    sloop (S := Int × Int × Unit) (fun (s4 : Int × Int × Unit) again5 =>
      ld (.sl) (⟨b1, 1, none⟩ : Addr) fun (x6 : Sl) =>
      sif (decide (s4.2.1 < ((x6.len : Nat) : Int))) (
        ld (.sl) (⟨b1, 1, none⟩ : Addr) fun (x7 : Sl) =>
        ix x7.a x7.len s4.2.1 fun p8 =>
        ld (.str) (p8.add (scaled (Int.toNat s4.2.1) 1)) fun (x9 : ByteArray) =>
        again5 ((IntKind.wrap .i64 (s4.1 + ((ByteArray.size x9 : Nat) : Int))), (IntKind.wrap .i64 (s4.2.1 + (1 : Int))), ())) (
        J2 (s4.1, ()))) ((0 : Int), (0 : Int), ())) fun (s3 : Int × Unit) =>
  K s3.1
noncomputable def h30 : Hint := (.seq none (.region [] (.ops 2 .done)) (.seq none (.region [] (.ops 1 .done)) (.seq (some (1048568, [(3, (.one (.int .i64)))])) (.seq none (.region [] (.ops 1 .done)) (.block (.loop 1048568 [(3, (.one (.int .i64))), (4, (.one (.int .i64)))] (.seq none (.seq none (.region [] (.ops 5 .done)) (.cond none .leaf .leaf)) (.seq none (.block (.region [] (.ops 9 .done))) (.region [] (.ops 3 .done))))))) (.seq none (.region [] (.ops 2 .done)) .leaf))))
theorem F30_tie (a0 : (Sl × Sl × Sl × Unit)) (K : Int → World → Prop) : vcgF tab Try.prog Try.f30 h30 [(.agg (Cells.vals c65 a0).toArray)] (.one (.one (.int .i64))) K = F30 a0 K := by kernel_rfl
theorem F30_calls {a0 : (Sl × Sl × Sl × Unit)} {K : Int → World → Prop} {w : World} (h : F30 a0 K w) : callT Try.prog 30 #[(.agg (Cells.vals c65 a0).toArray)] (.one (.one (.int .i64))) K w :=
  vcgF_sound tabOk Try.func30 h30 [(.agg (Cells.vals c65 a0).toArray)] (.one (.one (.int .i64))) K w (Eq.mpr (congrFun (F30_tie a0 K) w) h)

/-- copyist/copyistlaw16.same -/
noncomputable def F31 (a0 : (Sl × Sl × Sl × Unit)) (a1 : (Sl × Sl × Sl × Unit)) (K : Bool → World → Prop) : World → Prop :=
  newO (.cells #[(.slice a0.1.a a0.1.len a0.1.cap), (.slice a0.2.1.a a0.2.1.len a0.2.1.cap), (.slice a0.2.2.1.a a0.2.2.1.len a0.2.2.1.cap)] 65) fun b1 =>
  newO (.cells #[(.slice a1.1.a a1.1.len a1.1.cap), (.slice a1.2.1.a a1.2.1.len a1.2.1.cap), (.slice a1.2.2.1.a a1.2.2.1.len a1.2.2.1.cap)] 65) fun b2 =>
  ld (.sl) (at0 b1) fun (x3 : Sl) =>
  ld (.sl) (at0 b2) fun (x4 : Sl) =>
  sif (((x3.len : Nat) : Int) != ((x4.len : Nat) : Int)) (
    K false) (
    join (S := Unit) (fun J5 =>
      sloop (S := Int × Unit) (fun (s7 : Int × Unit) again8 =>
        ld (.sl) (at0 b1) fun (x9 : Sl) =>
        sif (decide (s7.1 < ((x9.len : Nat) : Int))) (
          join (S := Bool × Unit) (fun J10 =>
            drew <|
            ld (.sl) (at0 b1) fun (x12 : Sl) =>
            ix x12.a x12.len s7.1 fun p13 =>
            ld (.str) (p13.add (scaled (Int.toNat s7.1) 1)) fun (x14 : ByteArray) =>
            ld (.sl) (at0 b2) fun (x15 : Sl) =>
            ix x15.a x15.len s7.1 fun p16 =>
            ld (.str) (p16.add (scaled (Int.toNat s7.1) 1)) fun (x17 : ByteArray) =>
            sif (!(ByteArray.toList x14 == ByteArray.toList x17)) (
              J10 (true, ())) (
              ld (.sl) (⟨b1, 1, none⟩ : Addr) fun (x18 : Sl) =>
              ix x18.a x18.len s7.1 fun p19 =>
              ld (.str) (p19.add (scaled (Int.toNat s7.1) 1)) fun (x20 : ByteArray) =>
              ld (.sl) (⟨b2, 1, none⟩ : Addr) fun (x21 : Sl) =>
              ix x21.a x21.len s7.1 fun p22 =>
              ld (.str) (p22.add (scaled (Int.toNat s7.1) 1)) fun (x23 : ByteArray) =>
              sif (!(ByteArray.toList x20 == ByteArray.toList x23)) (
                J10 (true, ())) (
                ld (.sl) (⟨b1, 2, none⟩ : Addr) fun (x24 : Sl) =>
                ix x24.a x24.len s7.1 fun p25 =>
                lds c68 (p25.add (scaled (Int.toNat s7.1) 3)) fun (x26 : (Int × Int × Int × Unit)) =>
                ld (.sl) (⟨b2, 2, none⟩ : Addr) fun (x27 : Sl) =>
                ix x27.a x27.len s7.1 fun p28 =>
                lds c68 (p28.add (scaled (Int.toNat s7.1) 3)) fun (x29 : (Int × Int × Int × Unit)) =>
                rdB Try.prog (do eqGuard .neq 68 (Operand.tmp 49) (Operand.tmp 54) (.agg (Cells.vals c68 x26).toArray) (.agg (Cells.vals c68 x29).toArray); binOp .neq 68 (.agg (Cells.vals c68 x26).toArray) (.agg (Cells.vals c68 x29).toArray) : Sem Value) fun r30 =>
                J10 (r30, ())))) fun (s11 : Bool × Unit) =>
          sif s11.1 (
            K false) (
            again8 ((IntKind.wrap .i64 (s7.1 + (1 : Int))), ()))) (
          J5 ())) ((0 : Int), ())) fun (s6 : Unit) =>
    K true)
noncomputable def h31 : Hint := (.seq none (.region [] (.ops 3 .done)) (.seq none (.seq none (.region [] (.ops 7 .done)) (.cond none (.seq none (.region [] (.ops 1 .done)) .leaf) .leaf)) (.seq (some (144115188075847728, [])) (.seq none (.region [] (.ops 1 .done)) (.block (.loop 144115188075847728 [(5, (.one (.int .i64)))] (.seq none (.seq none (.region [] (.ops 5 .done)) (.cond none .leaf .leaf)) (.seq none (.block (.seq (some (144115188074807296, [(56, (.one .bool))])) (.region [0, 1, 2, 3, 4, 5, 6, 7, 8, 9, 10, 11, 12, 13, 14, 15, 16, 17, 18, 19, 20, 21, 22, 23, 24, 25, 26, 27, 28, 29, 30, 31, 32, 33, 34, 35, 36] (.ops 12 (.split 31 (.skips 11 (.ops 2 (.skips 11 (.ops 1 .done)))) (.ops 13 (.split 44 (.skips 11 (.ops 1 .done)) (.ops 12 .done)))))) (.cond none (.seq none (.region [] (.ops 1 .done)) .leaf) .leaf))) (.region [] (.ops 3 .done))))))) (.seq none (.region [] (.ops 1 .done)) .leaf))))
theorem F31_tie (a0 : (Sl × Sl × Sl × Unit)) (a1 : (Sl × Sl × Sl × Unit)) (K : Bool → World → Prop) : vcgF tab Try.prog Try.f31 h31 [(.agg (Cells.vals c65 a0).toArray), (.agg (Cells.vals c65 a1).toArray)] (.one (.one .bool)) K = F31 a0 a1 K := by kernel_rfl
theorem F31_calls {a0 : (Sl × Sl × Sl × Unit)} {a1 : (Sl × Sl × Sl × Unit)} {K : Bool → World → Prop} {w : World} (h : F31 a0 a1 K w) : callT Try.prog 31 #[(.agg (Cells.vals c65 a0).toArray), (.agg (Cells.vals c65 a1).toArray)] (.one (.one .bool)) K w :=
  vcgF_sound tabOk Try.func31 h31 [(.agg (Cells.vals c65 a0).toArray), (.agg (Cells.vals c65 a1).toArray)] (.one (.one .bool)) K w (Eq.mpr (congrFun (F31_tie a0 a1 K) w) h)

/-- (*copyist/disk.Disk).SyncDir -/
noncomputable def F32 (a0 : Option Addr) (K : Value → World → Prop) : World → Prop :=
  newO (.cells #[(.pointer a0)] 24) fun b1 =>
  ld (.ptr) (at0 b1) fun (x2 : Option Addr) =>
  callT Try.prog 39 #[(.pointer x2), (.string { data := #[115, 121, 110, 99, 100, 105, 114] }), (.string { data := #[] }), (.func (Fn.func 64) #[] #[(.pointer (some (at0 b1)))]), .nilFunc] (.one (.one .any)) fun (x3 : Value) =>
  K x3
noncomputable def h32 : Hint := (.seq none (.region [] (.ops 2 .done)) (.seq none (.region [] (.ops 4 .done)) .leaf))
theorem F32_tie (a0 : Option Addr) (K : Value → World → Prop) : vcgF tab Try.prog Try.f32 h32 [(.pointer a0)] (.one (.one .any)) K = F32 a0 K := by kernel_rfl
theorem F32_calls {a0 : Option Addr} {K : Value → World → Prop} {w : World} (h : F32 a0 K w) : callT Try.prog 32 #[(.pointer a0)] (.one (.one .any)) K w :=
  vcgF_sound tabOk Try.func32 h32 [(.pointer a0)] (.one (.one .any)) K w (Eq.mpr (congrFun (F32_tie a0 K) w) h)

/-- copyist/disk.New -/
noncomputable def F33 (a0 : Int) (K : (Option Addr × Value × Unit) → World → Prop) : World → Prop :=
  join (S := Bool × Unit) (fun J1 =>
    sif (decide (a0 < (0 : Int))) (
      J1 (true, ())) (
      J1 ((decide (a0 > (1048576 : Int))), ()))) fun (s2 : Bool × Unit) =>
  sif s2.1 (
    newO (.cells #[(.string { data := #[110, 101, 119] }), (.string { data := #[] }), (.int .i64 (0 : Int)), (.iface 49 (.int .i64 (1 : Int)))] 96) fun b3 =>
    K (none, (.iface 94 (.pointer (some (at0 b3)))), ())) (
    newO (.map #[] 0) fun b4 =>
    newO (.map #[] 0) fun b5 =>
    newO (.cells #[(.int .i64 a0), (.map (some b4)), (.map (some b5)), (.slice none 0 0), (.int .i64 (0 : Int)), (.bool false), (.map none), (.int .i64 (0 : Int))] 91) fun b6 =>
    K ((some (at0 b6)), .nilIface, ()))
noncomputable def h33 : Hint := (.seq none (.region [] (.ops 2 .done)) (.seq none (.seq (some (1008, [(9, (.one .bool))])) (.region [] (.ops 3 (.split 6 (.skips 2 (.ops 1 .done)) (.ops 3 .done)))) (.cond none (.seq none (.region [] (.ops 6 .done)) .leaf) .leaf)) (.seq none (.region [] (.ops 7 .done)) .leaf)))
theorem F33_tie (a0 : Int) (K : (Option Addr × Value × Unit) → World → Prop) : vcgF tab Try.prog Try.f33 h33 [(.int .i64 a0)] (.tup [(.one .ptr), (.one .any)]) K = F33 a0 K := by kernel_rfl
theorem F33_calls {a0 : Int} {K : (Option Addr × Value × Unit) → World → Prop} {w : World} (h : F33 a0 K w) : callT Try.prog 33 #[(.int .i64 a0)] (.tup [(.one .ptr), (.one .any)]) K w :=
  vcgF_sound tabOk Try.func33 h33 [(.int .i64 a0)] (.tup [(.one .ptr), (.one .any)]) K w (Eq.mpr (congrFun (F33_tie a0 K) w) h)

/-- copyist/disk.isName -/
noncomputable def F34 (a0 : ByteArray) (K : Bool → World → Prop) : World → Prop :=
  join (S := Bool × Unit) (fun J1 =>
    sif (((ByteArray.size a0 : Nat) : Int) == (0 : Int)) (
      J1 (true, ())) (
      J1 ((decide (((ByteArray.size a0 : Nat) : Int) > (32 : Int))), ()))) fun (s2 : Bool × Unit) =>
  sif s2.1 (
    K false) (
    join (S := Unit) (fun J3 =>
      rawT Try.prog (.one (.one .sl)) (convert 9 33 (.string a0)) fun x5 =>
      sloop (S := Int × Unit) (fun (s6 : Int × Unit) again7 =>
        sif (decide (s6.1 < ((x5.len : Nat) : Int))) (
          join (S := Unit) (fun J8 =>
            ix x5.a x5.len s6.1 fun p10 =>
            ld (.int .u8) (p10.add (scaled (Int.toNat s6.1) 1)) fun (x11 : Int) =>
            join (S := Bool × Unit) (fun J12 =>
              join (S := Bool × Unit) (fun J14 =>
                sif (decide ((97 : Int) ≤ x11)) (
                  J14 ((decide (x11 ≤ (122 : Int))), ())) (
                  J14 (false, ()))) fun (s15 : Bool × Unit) =>
              sif s15.1 (
                J12 (s15.1, ())) (
                join (S := Bool × Unit) (fun J16 =>
                  sif (decide ((65 : Int) ≤ x11)) (
                    J16 ((decide (x11 ≤ (90 : Int))), ())) (
                    J16 (false, ()))) fun (s17 : Bool × Unit) =>
                sif s17.1 (
                  J12 (s17.1, ())) (
                  sif (decide ((48 : Int) ≤ x11)) (
                    J12 ((decide (x11 ≤ (57 : Int))), ())) (
                    J12 (false, ()))))) fun (s13 : Bool × Unit) =>
            sif s13.1 (
              J8 ()) (
              join (S := Bool × Unit) (fun J18 =>
                sif (x11 == (46 : Int)) (
                  J18 ((x11 == (46 : Int)), ())) (
                  sif (x11 == (95 : Int)) (
                    J18 ((x11 == (95 : Int)), ())) (
                    sif (x11 == (45 : Int)) (
                      J18 ((x11 == (45 : Int)), ())) (
                      J18 ((x11 == (126 : Int)), ()))))) fun (s19 : Bool × Unit) =>
              sif s19.1 (
                J8 ()) (
                K false))) fun (s9 : Unit) =>
          again7 ((IntKind.wrap .i64 (s6.1 + (1 : Int))), ())) (
          J3 ())) ((0 : Int), ())) fun (s4 : Unit) =>
    K true)
noncomputable def h34 : Hint := (.seq none (.region [] (.ops 1 .done)) (.seq none (.seq (some (8160, [(12, (.one .bool))])) (.region [] (.ops 4 (.split 8 (.skips 3 (.ops 1 .done)) (.ops 4 .done)))) (.cond none (.seq none (.region [] (.ops 1 .done)) .leaf) .leaf)) (.seq (some (562949953413140, [])) (.seq none (.region [] (.ops 4 .done)) (.block (.loop 562949953355796 [(16, (.one (.int .i64)))] (.seq none (.region [] (.ops 1 .done)) (.seq none (.cond none .leaf .leaf) (.seq (some (281474976448532, [])) (.block (.seq none (.region [] (.ops 3 .done)) (.block (.seq (some (549754765312, [(20, (.one .bool))])) (.seq (some (133169152, [(20, (.one .bool))])) (.region [] (.ops 3 (.split 23 (.ops 4 .done) (.skips 2 (.ops 2 .done))))) (.cond none .leaf (.seq (some (8456765440, [(20, (.one .bool))])) (.region [] (.ops 3 (.split 29 (.ops 4 .done) (.skips 2 (.ops 2 .done))))) (.cond none .leaf (.region [] (.ops 3 (.split 35 (.ops 4 .done) (.skips 2 (.ops 2 .done))))))))) (.cond none .leaf (.seq (some (280925220896768, [(39, (.one .bool))])) (.seq none (.region [] (.ops 3 .done)) (.cond none .leaf (.seq none (.region [] (.ops 3 .done)) (.cond none .leaf (.seq none (.region [] (.ops 3 .done)) (.cond none .leaf (.region [] (.ops 3 .done)))))))) (.cond none .leaf (.seq none (.region [] (.ops 1 .done)) .leaf)))))))) (.region [] (.ops 2 .done)))))))) (.seq none (.region [] (.ops 1 .done)) .leaf))))
theorem F34_tie (a0 : ByteArray) (K : Bool → World → Prop) : vcgF tab Try.prog Try.f34 h34 [(.string a0)] (.one (.one .bool)) K = F34 a0 K := by kernel_rfl
theorem F34_calls {a0 : ByteArray} {K : Bool → World → Prop} {w : World} (h : F34 a0 K w) : callT Try.prog 34 #[(.string a0)] (.one (.one .bool)) K w :=
  vcgF_sound tabOk Try.func34 h34 [(.string a0)] (.one (.one .bool)) K w (Eq.mpr (congrFun (F34_tie a0 K) w) h)

/-- (*copyist/disk.Disk).fresh -/
noncomputable def F35 (a0 : Option Addr) (K : Option Addr → World → Prop) : World → Prop :=
  nn a0 fun p1 =>
  ld (.int .i64) (p1.add 4) fun (x2 : Int) =>
  nn a0 fun p3 =>
  stC (p3.add 4) (.int .i64 (IntKind.wrap .i64 (x2 + (1 : Int)))) <|
  nn a0 fun p4 =>
  ld (.int .i64) (p4.add 4) fun (x5 : Int) =>
  newO (.cells #[(.int .i64 x5), (.slice none 0 0), (.int .i64 (0 : Int)), (.int .i64 (0 : Int))] 93) fun b6 =>
  K (some (at0 b6))
noncomputable def h35 : Hint := (.seq none (.region [] (.ops 1 .done)) (.seq none (.region [] (.ops 8 .done)) (.seq none (.region [] (.ops 7 .done)) .leaf)))
theorem F35_tie (a0 : Option Addr) (K : Option Addr → World → Prop) : vcgF tab Try.prog Try.f35 h35 [(.pointer a0)] (.one (.one .ptr)) K = F35 a0 K := by kernel_rfl
theorem F35_calls {a0 : Option Addr} {K : Option Addr → World → Prop} {w : World} (h : F35 a0 K w) : callT Try.prog 35 #[(.pointer a0)] (.one (.one .ptr)) K w :=
  vcgF_sound tabOk Try.func35 h35 [(.pointer a0)] (.one (.one .ptr)) K w (Eq.mpr (congrFun (F35_tie a0 K) w) h)

/-- (*copyist/disk.Disk).settle -/
noncomputable def F36 (a0 : Option Addr) (K : Unit → World → Prop) : World → Prop :=
  nn a0 fun p1 =>
  ld (.map) (p1.add 1) fun (x2 : Option Nat) =>
  callT Try.prog 57 #[(.map x2)] (.one (.one .map)) fun (x3 : Option Nat) =>
  nn a0 fun p4 =>
  stC (p4.add 2) (.map x3) <|
  nn a0 fun p5 =>
  stC (p5.add 3) (.slice none 0 0) <|
  K ()
noncomputable def h36 : Hint := (.region [] (.ops 13 .done))
theorem F36_tie (a0 : Option Addr) (K : Unit → World → Prop) : vcgF tab Try.prog Try.f36 h36 [(.pointer a0)] (.tup []) K = F36 a0 K := by kernel_rfl
theorem F36_calls {a0 : Option Addr} {K : Unit → World → Prop} {w : World} (h : F36 a0 K w) : callT Try.prog 36 #[(.pointer a0)] (.tup []) K w :=
  vcgF_sound tabOk Try.func36 h36 [(.pointer a0)] (.tup []) K w (Eq.mpr (congrFun (F36_tie a0 K) w) h)

/-- slices.Clone[[]byte,byte] -/
noncomputable def F37 (a0 : Sl) (K : Sl → World → Prop) : World → Prop :=
  sif (Option.isNone a0.a) (
    K ⟨none, 0, 0⟩) (
    newO (.cells #[] 5) fun b1 =>
    rawT Try.prog (.one (.one .sl)) (Builtin.append_ #[33, 33] 33 #[(.slice (some (at0 b1)) 0 0), (.slice a0.a a0.len a0.cap)]) fun (x2 : Sl) =>
    K x2)
noncomputable def h37 : Hint := (.seq none (.region [] (.ops 1 .done)) (.seq none (.seq none (.region [] (.ops 2 .done)) (.cond none (.seq none (.region [] (.ops 1 .done)) .leaf) .leaf)) (.seq none (.region [] (.ops 4 .done)) .leaf)))
theorem F37_tie (a0 : Sl) (K : Sl → World → Prop) : vcgF tab Try.prog Try.f37 h37 [(.slice a0.a a0.len a0.cap)] (.one (.one .sl)) K = F37 a0 K := by kernel_rfl
theorem F37_calls {a0 : Sl} {K : Sl → World → Prop} {w : World} (h : F37 a0 K w) : callT Try.prog 37 #[(.slice a0.a a0.len a0.cap)] (.one (.one .sl)) K w :=
  vcgF_sound tabOk Try.func37 h37 [(.slice a0.a a0.len a0.cap)] (.one (.one .sl)) K w (Eq.mpr (congrFun (F37_tie a0 K) w) h)

/-- (*copyist/disk.file).sync -/
noncomputable def F38 (a0 : Option Addr) (K : Unit → World → Prop) : World → Prop :=
  nn a0 fun p1 =>
  ld (.sl) (p1.add 1) fun (x2 : Sl) =>
  nn a0 fun p3 =>
  stC (p3.add 2) (.int .i64 ((x2.len : Nat) : Int)) <|
  K ()
noncomputable def h38 : Hint := (.region [] (.ops 9 .done))
theorem F38_tie (a0 : Option Addr) (K : Unit → World → Prop) : vcgF tab Try.prog Try.f38 h38 [(.pointer a0)] (.tup []) K = F38 a0 K := by kernel_rfl
theorem F38_calls {a0 : Option Addr} {K : Unit → World → Prop} {w : World} (h : F38 a0 K w) : callT Try.prog 38 #[(.pointer a0)] (.tup []) K w :=
  vcgF_sound tabOk Try.func38 h38 [(.pointer a0)] (.tup []) K w (Eq.mpr (congrFun (F38_tie a0 K) w) h)

/-- (*copyist/disk.Disk).step -/
noncomputable def F39 (a0 : Option Addr) (a1 : ByteArray) (a2 : ByteArray) (a3 : Value) (a4 : Value) (K : Value → World → Prop) : World → Prop :=
  nn a0 fun p1 =>
  ld (.bool) (p1.add 5) fun (x2 : Bool) =>
  sif x2 (
    newO (.cells #[(.string a1), (.string a2), (.int .i64 (0 : Int)), (.iface 49 (.int .i64 (165 : Int)))] 96) fun b3 =>
    K (.iface 94 (.pointer (some (at0 b3))))) (
    nn a0 fun p4 =>
    ld (.int .i64) (p4.add 7) fun (x5 : Int) =>
    nn a0 fun p6 =>
    stC (p6.add 7) (.int .i64 (IntKind.wrap .i64 (x5 + (1 : Int)))) <|
    nn a0 fun p7 =>
    ld (.int .i64) (p7.add 7) fun (x8 : Int) =>
    nn a0 fun p9 =>
    ld (.map) (p9.add 6) fun (x10 : Option Nat) =>
    rdT Try.prog (.one (.agg c74)) (Instr.lookup 89 (.map x10) (.int .i64 x8) false) fun (x11 : (Int × Int × Int × Int × Sl × Unit)) =>
    newO (.cells #[(.int .i64 (0 : Int)), (.int .i64 (0 : Int)), (.int .i64 (0 : Int)), (.int .i64 (0 : Int)), (.slice none 0 0)] 74) fun b12 =>
    aggSt (at0 b12) (.agg (Cells.vals c74 x11).toArray) 5 <|
    join (S := Int × Unit) (fun J13 =>
      ld (.int .i64) (⟨b12, 1, none⟩ : Addr) fun (x15 : Int) =>
      sif (x15 == (1 : Int)) (
        J13 ((160 : Int), ())) (
        sif (x15 == (2 : Int)) (
          rdB Try.prog (do eqGuard .neq 123 (Operand.tmp 50) (Operand.const Value.nilFunc) a4 .nilFunc; binOp .neq 123 a4 .nilFunc : Sem Value) fun r16 =>
          sif r16 (
            ld (.int .i64) (⟨b12, 2, none⟩ : Addr) fun (x17 : Int) =>
            callX Try.prog (do let d ← Deferred.ofValue a4 #[(.int .i64 x17)]; invoke d.target d.args : Sem Next) (.one (.one (.int .i64))) fun (x18 : Int) =>
            J13 (x18, ())) (
            J13 ((160 : Int), ()))) (
          sif (x15 == (4 : Int)) (
            lds c37 (⟨b12, 3, none⟩ : Addr) fun (x19 : (Int × Sl × Unit)) =>
            callT Try.prog 22 #[(.pointer a0), (.agg (Cells.vals c37 x19).toArray)] (.tup []) fun (x20 : (Unit)) =>
            J13 ((165 : Int), ())) (
            sif (x15 == (5 : Int)) (
              callX Try.prog (do let d ← Deferred.ofValue a3 #[]; invoke d.target d.args : Sem Next) (.one (.one (.int .i64))) fun (x21 : Int) =>
              lds c37 (⟨b12, 3, none⟩ : Addr) fun (x22 : (Int × Sl × Unit)) =>
              callT Try.prog 22 #[(.pointer a0), (.agg (Cells.vals c37 x22).toArray)] (.tup []) fun (x23 : (Unit)) =>
              J13 ((165 : Int), ())) (
              sif (x15 == (3 : Int)) (
                callX Try.prog (do let d ← Deferred.ofValue a3 #[]; invoke d.target d.args : Sem Next) (.one (.one (.int .i64))) fun (x24 : Int) =>
                sif (x24 != (0 : Int)) (
                  J13 (x24, ())) (
                  J13 ((160 : Int), ()))) (
                callX Try.prog (do let d ← Deferred.ofValue a3 #[]; invoke d.target d.args : Sem Next) (.one (.one (.int .i64))) fun (x25 : Int) =>
                J13 (x25, ()))))))) fun (s14 : Int × Unit) =>
    sif (s14.1 == (0 : Int)) (
      K .nilIface) (
      newO (.cells #[(.string a1), (.string a2), (.int .i64 x8), (.iface 49 (.int .i64 s14.1))] 96) fun b26 =>
      K (.iface 94 (.pointer (some (at0 b26))))))
noncomputable def h39 : Hint := (.seq none (.region [] (.ops 1 .done)) (.seq none (.seq none (.region [] (.ops 4 .done)) (.cond none (.seq none (.region [] (.ops 7 .done)) .leaf) .leaf)) (.seq none (.region [] (.ops 8 .done)) (.seq none (.region [] (.ops 5 .done)) (.seq none (.region [] (.ops 8 .done)) (.seq none (.region [] (.ops 1 .done)) (.seq (some (151115727447430600351744, [(13, (.one (.int .i64)))])) (.seq none (.region [] (.ops 2 .done)) (.block (.seq none (.region [] (.ops 2 .done)) (.cond none .leaf (.seq none (.region [] (.ops 2 .done)) (.cond none (.seq none (.region [] (.ops 2 .done)) (.cond none (.region [] (.ops 5 .done)) .leaf)) (.seq none (.region [] (.ops 2 .done)) (.cond none (.seq none (.region [] (.ops 4 .done)) (.region [] (.ops 1 .done))) (.seq none (.region [] (.ops 2 .done)) (.cond none (.seq none (.region [] (.ops 2 .done)) (.seq none (.region [] (.ops 4 .done)) (.region [] (.ops 1 .done)))) (.seq none (.region [] (.ops 2 .done)) (.cond none (.seq none (.region [] (.ops 3 .done)) (.seq none (.region [] (.ops 2 .done)) (.cond none (.region [] (.ops 2 .done)) .leaf))) (.region [] (.ops 3 .done)))))))))))))) (.seq none (.seq none (.region [] (.ops 2 .done)) (.cond none (.seq none (.region [] (.ops 1 .done)) .leaf) .leaf)) (.seq none (.region [] (.ops 9 .done)) .leaf)))))))))
theorem F39_tie (a0 : Option Addr) (a1 : ByteArray) (a2 : ByteArray) (a3 : Value) (a4 : Value) (K : Value → World → Prop) : vcgF tab Try.prog Try.f39 h39 [(.pointer a0), (.string a1), (.string a2), a3, a4] (.one (.one .any)) K = F39 a0 a1 a2 a3 a4 K := by kernel_rfl
theorem F39_calls {a0 : Option Addr} {a1 : ByteArray} {a2 : ByteArray} {a3 : Value} {a4 : Value} {K : Value → World → Prop} {w : World} (h : F39 a0 a1 a2 a3 a4 K w) : callT Try.prog 39 #[(.pointer a0), (.string a1), (.string a2), a3, a4] (.one (.one .any)) K w :=
  vcgF_sound tabOk Try.func39 h39 [(.pointer a0), (.string a1), (.string a2), a3, a4] (.one (.one .any)) K w (Eq.mpr (congrFun (F39_tie a0 a1 a2 a3 a4 K) w) h)

/-- (*copyist/disk.Disk).Sync$1 -/
noncomputable def F40 (v0 : Addr) (v1 : Addr) (K : Int → World → Prop) : World → Prop :=
  ld (.ptr) v0 fun (x1 : Option Addr) =>
  ld (.str) v1 fun (x2 : ByteArray) =>
  callT Try.prog 41 #[(.pointer x1), (.string x2)] (.tup [(.agg c102), (.one (.int .i64))]) fun (x3 : ((Option Addr × ByteArray × Unit) × Int × Unit)) =>
  newO (.cells #[(.pointer none), (.string { data := #[] })] 102) fun b4 =>
  aggSt (at0 b4) (.agg (Cells.vals c102 x3.1).toArray) 2 <|
  join (S := Unit) (fun J5 =>
    sif (x3.2.1 == (0 : Int)) (
      ld (.ptr) (at0 b4) fun (x7 : Option Addr) =>
      callT Try.prog 38 #[(.pointer x7)] (.tup []) fun (x8 : (Unit)) =>
      J5 ()) (
      J5 ())) fun (s6 : Unit) =>
  K x3.2.1
noncomputable def h40 : Hint := (.seq none (.region [] (.ops 1 .done)) (.seq none (.region [] (.ops 9 .done)) (.seq (some (63488, [])) (.seq none (.region [] (.ops 2 .done)) (.cond none (.region [] (.ops 3 .done)) .leaf)) (.seq none (.region [] (.ops 2 .done)) .leaf))))
theorem F40_tie (v0 : Addr) (v1 : Addr) (K : Int → World → Prop) : vcgF tab Try.prog Try.f40 h40 [(.pointer (some v0)), (.pointer (some v1))] (.one (.one (.int .i64))) K = F40 v0 v1 K := by kernel_rfl
theorem F40_calls {v0 : Addr} {v1 : Addr} {K : Int → World → Prop} {w : World} (h : F40 v0 v1 K w) : callT Try.prog 40 #[(.pointer (some v0)), (.pointer (some v1))] (.one (.one (.int .i64))) K w :=
  vcgF_sound tabOk Try.func40 h40 [(.pointer (some v0)), (.pointer (some v1))] (.one (.one (.int .i64))) K w (Eq.mpr (congrFun (F40_tie v0 v1 K) w) h)

/-- (*copyist/disk.Disk).find -/
noncomputable def F41 (a0 : Option Addr) (a1 : ByteArray) (K : ((Option Addr × ByteArray × Unit) × Int × Unit) → World → Prop) : World → Prop :=
  newO (.cells #[(.pointer none), (.string { data := #[] })] 102) fun b1 =>
  callT Try.prog 34 #[(.string a1)] (.one (.one .bool)) fun (x2 : Bool) =>
  sif (!x2) (
    aggSt (at0 b1) (.agg #[(.pointer none), (.string { data := #[] })]) 2 <|
    lds c102 (at0 b1) fun (x3 : (Option Addr × ByteArray × Unit)) =>
    K (x3, (164 : Int), ())) (
    nn a0 fun p4 =>
    ld (.map) (p4.add 1) fun (x5 : Option Nat) =>
    rdT Try.prog (.one (.one .ptr)) (Instr.lookup 87 (.map x5) (.string a1) false) fun (x6 : Option Addr) =>
    sif (Option.isNone x6) (
      aggSt (at0 b1) (.agg #[(.pointer none), (.string { data := #[] })]) 2 <|
      lds c102 (at0 b1) fun (x7 : (Option Addr × ByteArray × Unit)) =>
      K (x7, (162 : Int), ())) (
      aggSt (at0 b1) (.agg #[(.pointer x6), (.string a1)]) 2 <|
      lds c102 (at0 b1) fun (x8 : (Option Addr × ByteArray × Unit)) =>
      K (x8, (0 : Int), ())))
noncomputable def h41 : Hint := (.seq none (.region [] (.ops 2 .done)) (.seq none (.seq none (.region [] (.ops 3 .done)) (.cond none (.seq none (.region [] (.ops 3 .done)) .leaf) .leaf)) (.seq none (.region [] (.ops 7 .done)) (.seq none (.seq none (.region [] (.ops 2 .done)) (.cond none (.seq none (.region [] (.ops 3 .done)) .leaf) .leaf)) (.seq none (.region [] (.ops 5 .done)) .leaf)))))
theorem F41_tie (a0 : Option Addr) (a1 : ByteArray) (K : ((Option Addr × ByteArray × Unit) × Int × Unit) → World → Prop) : vcgF tab Try.prog Try.f41 h41 [(.pointer a0), (.string a1)] (.tup [(.agg c102), (.one (.int .i64))]) K = F41 a0 a1 K := by kernel_rfl
theorem F41_calls {a0 : Option Addr} {a1 : ByteArray} {K : ((Option Addr × ByteArray × Unit) × Int × Unit) → World → Prop} {w : World} (h : F41 a0 a1 K w) : callT Try.prog 41 #[(.pointer a0), (.string a1)] (.tup [(.agg c102), (.one (.int .i64))]) K w :=
  vcgF_sound tabOk Try.func41 h41 [(.pointer a0), (.string a1)] (.tup [(.agg c102), (.one (.int .i64))]) K w (Eq.mpr (congrFun (F41_tie a0 a1 K) w) h)

/-- (*copyist/disk.Disk).Remove$1 -/
noncomputable def F42 (v0 : Addr) (v1 : Addr) (K : Int → World → Prop) : World → Prop :=
  ld (.ptr) v0 fun (x1 : Option Addr) =>
  ld (.str) v1 fun (x2 : ByteArray) =>
  callT Try.prog 41 #[(.pointer x1), (.string x2)] (.tup [(.agg c102), (.one (.int .i64))]) fun (x3 : ((Option Addr × ByteArray × Unit) × Int × Unit)) =>
  newO (.cells #[(.pointer none), (.string { data := #[] })] 102) fun b4 =>
  aggSt (at0 b4) (.agg (Cells.vals c102 x3.1).toArray) 2 <|
  join (S := Unit) (fun J5 =>
    sif (x3.2.1 == (0 : Int)) (
      ld (.ptr) v0 fun (x7 : Option Addr) =>
      callT Try.prog 43 #[(.pointer x7), (.func (Fn.func 44) #[] #[(.pointer (some v1))])] (.tup []) fun (x8 : (Unit)) =>
      J5 ()) (
      J5 ())) fun (s6 : Unit) =>
  K x3.2.1
noncomputable def h42 : Hint := (.seq none (.region [] (.ops 1 .done)) (.seq none (.region [] (.ops 9 .done)) (.seq (some (63488, [])) (.seq none (.region [] (.ops 2 .done)) (.cond none (.region [] (.ops 3 .done)) .leaf)) (.seq none (.region [] (.ops 2 .done)) .leaf))))
theorem F42_tie (v0 : Addr) (v1 : Addr) (K : Int → World → Prop) : vcgF tab Try.prog Try.f42 h42 [(.pointer (some v0)), (.pointer (some v1))] (.one (.one (.int .i64))) K = F42 v0 v1 K := by kernel_rfl
theorem F42_calls {v0 : Addr} {v1 : Addr} {K : Int → World → Prop} {w : World} (h : F42 v0 v1 K w) : callT Try.prog 42 #[(.pointer (some v0)), (.pointer (some v1))] (.one (.one (.int .i64))) K w :=
  vcgF_sound tabOk Try.func42 h42 [(.pointer (some v0)), (.pointer (some v1))] (.one (.one (.int .i64))) K w (Eq.mpr (congrFun (F42_tie v0 v1 K) w) h)

/-- (*copyist/disk.Disk).act -/
noncomputable def F43 (a0 : Option Addr) (a1 : Value) (K : Unit → World → Prop) : World → Prop :=
  nn a0 fun p1 =>
  ld (.map) (p1.add 1) fun (x2 : Option Nat) =>
  callX Try.prog (do let d ← Deferred.ofValue a1 #[(.map x2)]; invoke d.target d.args : Sem Next) (.tup []) fun (x3 : (Unit)) =>
  nn a0 fun p4 =>
  ld (.sl) (p4.add 3) fun (x5 : Sl) =>
  chk (oneAll [a1] = true) <|
  newO (.cells #[a1] 107) fun b6 =>
  rawT Try.prog (.one (.one .sl)) (Builtin.append_ #[88, 88] 88 #[(.slice x5.a x5.len x5.cap), (.slice (some (at0 b6)) 1 1)]) fun (x7 : Sl) =>
  nn a0 fun p8 =>
  stC (p8.add 3) (.slice x7.a x7.len x7.cap) <|
  K ()
noncomputable def h43 : Hint := (.seq none (.region [] (.ops 6 .done)) (.region [] (.ops 11 .done)))
theorem F43_tie (a0 : Option Addr) (a1 : Value) (K : Unit → World → Prop) : vcgF tab Try.prog Try.f43 h43 [(.pointer a0), a1] (.tup []) K = F43 a0 a1 K := by kernel_rfl
theorem F43_calls {a0 : Option Addr} {a1 : Value} {K : Unit → World → Prop} {w : World} (h : F43 a0 a1 K w) : callT Try.prog 43 #[(.pointer a0), a1] (.tup []) K w :=
  vcgF_sound tabOk Try.func43 h43 [(.pointer a0), a1] (.tup []) K w (Eq.mpr (congrFun (F43_tie a0 a1 K) w) h)

/-- (*copyist/disk.Disk).Remove$1$1 -/
noncomputable def F44 (a0 : Option Nat) (v0 : Addr) (K : Unit → World → Prop) : World → Prop :=
  ld (.str) v0 fun (x1 : ByteArray) =>
  rawT Try.prog (.tup []) (Builtin.delete_ #[87, 9] 0 #[(.map a0), (.string x1)]) fun (x2 : (Unit)) =>
  K ()
noncomputable def h44 : Hint := (.region [] (.ops 3 .done))
theorem F44_tie (a0 : Option Nat) (v0 : Addr) (K : Unit → World → Prop) : vcgF tab Try.prog Try.f44 h44 [(.map a0), (.pointer (some v0))] (.tup []) K = F44 a0 v0 K := by kernel_rfl
theorem F44_calls {a0 : Option Nat} {v0 : Addr} {K : Unit → World → Prop} {w : World} (h : F44 a0 v0 K w) : callT Try.prog 44 #[(.map a0), (.pointer (some v0))] (.tup []) K w :=
  vcgF_sound tabOk Try.func44 h44 [(.map a0), (.pointer (some v0))] (.tup []) K w (Eq.mpr (congrFun (F44_tie a0 v0 K) w) h)

/-- (*copyist/copyistref16.Disk).fault -/
noncomputable def F45 (a0 : Option Addr) (a1 : Int) (K : (Int × Int × Int × Int × Sl × Unit) → World → Prop) : World → Prop :=
  newO (.cells #[(.int .i64 (0 : Int)), (.int .i64 (0 : Int)), (.int .i64 (0 : Int)), (.int .i64 (0 : Int)), (.slice none 0 0)] 74) fun b1 =>
  join (S := Unit) (fun J2 =>
    sloop (S := Int × Unit) (fun (s4 : Int × Unit) again5 =>
      nn a0 fun p6 =>
      ld (.sl) (p6.add 5) fun (x7 : Sl) =>
      sif (decide (s4.1 < ((x7.len : Nat) : Int))) (
        nn a0 fun p8 =>
        ld (.sl) (p8.add 5) fun (x9 : Sl) =>
        ix x9.a x9.len s4.1 fun p10 =>
        ld (.int .i64) (p10.add (scaled (Int.toNat s4.1) 5)) fun (x11 : Int) =>
        sif (x11 == a1) (
          nn a0 fun p12 =>
          ld (.sl) (p12.add 5) fun (x13 : Sl) =>
          ix x13.a x13.len s4.1 fun p14 =>
          lds c74 (p14.add (scaled (Int.toNat s4.1) 5)) fun (x15 : (Int × Int × Int × Int × Sl × Unit)) =>
          aggSt (at0 b1) (.agg (Cells.vals c74 x15).toArray) 5 <|
          lds c74 (at0 b1) fun (x16 : (Int × Int × Int × Int × Sl × Unit)) =>
          K x16) (
          again5 ((IntKind.wrap .i64 (s4.1 + (1 : Int))), ()))) (
        J2 ())) ((0 : Int), ())) fun (s3 : Unit) =>
  aggSt (at0 b1) (.agg #[(.int .i64 (0 : Int)), (.int .i64 (0 : Int)), (.int .i64 (0 : Int)), (.int .i64 (0 : Int)), (.slice none 0 0)]) 5 <|
  lds c74 (at0 b1) fun (x17 : (Int × Int × Int × Int × Sl × Unit)) =>
  K x17
noncomputable def h45 : Hint := (.seq none (.region [] (.ops 1 .done)) (.seq (some (4294967264, [])) (.seq none (.region [] (.ops 1 .done)) (.block (.loop 4294967264 [(5, (.one (.int .i64)))] (.seq none (.seq none (.region [] (.ops 7 .done)) (.cond none .leaf .leaf)) (.seq none (.block (.seq none (.region [] (.ops 10 .done)) (.cond none (.seq none (.region [] (.ops 8 .done)) .leaf) .leaf))) (.region [] (.ops 3 .done))))))) (.seq none (.region [] (.ops 2 .done)) .leaf)))
theorem F45_tie (a0 : Option Addr) (a1 : Int) (K : (Int × Int × Int × Int × Sl × Unit) → World → Prop) : vcgF tab Try.prog Try.f45 h45 [(.pointer a0), (.int .i64 a1)] (.one (.agg c74)) K = F45 a0 a1 K := by kernel_rfl
theorem F45_calls {a0 : Option Addr} {a1 : Int} {K : (Int × Int × Int × Int × Sl × Unit) → World → Prop} {w : World} (h : F45 a0 a1 K w) : callT Try.prog 45 #[(.pointer a0), (.int .i64 a1)] (.one (.agg c74)) K w :=
  vcgF_sound tabOk Try.func45 h45 [(.pointer a0), (.int .i64 a1)] (.one (.agg c74)) K w (Eq.mpr (congrFun (F45_tie a0 a1 K) w) h)

/-- (*copyist/copyistref16.Disk).own -/
noncomputable def F46 (a0 : Option Addr) (a1 : (ByteArray × ByteArray × ByteArray × Sl × Unit)) (K : (Int × Sl × Int × Int × Int × Int × Int × Unit) → World → Prop) : World → Prop :=
  newO (.cells #[(.string a1.1), (.string a1.2.1), (.string a1.2.2.1), (.slice a1.2.2.2.1.a a1.2.2.2.1.len a1.2.2.2.1.cap)] 47) fun b1 =>
  newO (.cells #[(.int .i64 (0 : Int)), (.slice none 0 0), (.int .i64 (0 : Int)), (.int .i64 (0 : Int)), (.int .i64 (0 : Int)), (.int .i64 (0 : Int)), (.int .i64 (0 : Int))] 43) fun b2 =>
  ld (.str) (at0 b1) fun (x3 : ByteArray) =>
  sif (ByteArray.toList x3 == ByteArray.toList ({ data := #[115, 121, 110, 99, 100, 105, 114] })) (
    callT Try.prog 65 #[(.pointer a0)] (.one (.one .sl)) fun (x4 : Sl) =>
    nn a0 fun p5 =>
    stC (p5.add 2) (.slice x4.a x4.len x4.cap) <|
    nn a0 fun p6 =>
    stC (p6.add 3) (.slice none 0 0) <|
    aggSt (at0 b2) (.agg #[(.int .i64 (0 : Int)), (.slice none 0 0), (.int .i64 (0 : Int)), (.int .i64 (0 : Int)), (.int .i64 (0 : Int)), (.int .i64 (0 : Int)), (.int .i64 (0 : Int))]) 7 <|
    lds c43 (at0 b2) fun (x7 : (Int × Sl × Int × Int × Int × Int × Int × Unit)) =>
    K x7) (
    join (S := Bool × Unit) (fun J8 =>
      ld (.str) (⟨b1, 1, none⟩ : Addr) fun (x10 : ByteArray) =>
      callT Try.prog 66 #[(.string x10)] (.one (.one .bool)) fun (x11 : Bool) =>
      sif x11 (
        ld (.str) (at0 b1) fun (x12 : ByteArray) =>
        sif (!(ByteArray.toList x12 == ByteArray.toList ({ data := #[114, 101, 110, 97, 109, 101] }))) (
          J8 (true, ())) (
          ld (.str) (⟨b1, 2, none⟩ : Addr) fun (x13 : ByteArray) =>
          callT Try.prog 66 #[(.string x13)] (.one (.one .bool)) fun (x14 : Bool) =>
          J8 (x14, ()))) (
        J8 (false, ()))) fun (s9 : Bool × Unit) =>
    sif (!s9.1) (
      aggSt (at0 b2) (.agg #[(.int .i64 (0 : Int)), (.slice none 0 0), (.int .i64 (0 : Int)), (.int .i64 (0 : Int)), (.int .i64 (0 : Int)), (.int .i64 (164 : Int)), (.int .i64 (0 : Int))]) 7 <|
      lds c43 (at0 b2) fun (x15 : (Int × Sl × Int × Int × Int × Int × Int × Unit)) =>
      K x15) (
      ld (.str) (⟨b1, 1, none⟩ : Addr) fun (x16 : ByteArray) =>
      callT Try.prog 67 #[(.pointer a0), (.string x16)] (.one (.one (.int .i64))) fun (x17 : Int) =>
      ld (.str) (at0 b1) fun (x18 : ByteArray) =>
      sif (ByteArray.toList x18 == ByteArray.toList ({ data := #[109, 97, 107, 101] })) (
        sif (decide (x17 > (0 : Int))) (
          aggSt (at0 b2) (.agg #[(.int .i64 (0 : Int)), (.slice none 0 0), (.int .i64 (0 : Int)), (.int .i64 (0 : Int)), (.int .i64 (0 : Int)), (.int .i64 (163 : Int)), (.int .i64 (0 : Int))]) 7 <|
          lds c43 (at0 b2) fun (x19 : (Int × Sl × Int × Int × Int × Int × Int × Unit)) =>
          K x19) (
          callT Try.prog 65 #[(.pointer a0)] (.one (.one .sl)) fun (x20 : Sl) =>
          sif (decide (((x20.len : Nat) : Int) ≥ (16 : Int))) (
            aggSt (at0 b2) (.agg #[(.int .i64 (0 : Int)), (.slice none 0 0), (.int .i64 (0 : Int)), (.int .i64 (0 : Int)), (.int .i64 (0 : Int)), (.int .i64 (161 : Int)), (.int .i64 (0 : Int))]) 7 <|
            lds c43 (at0 b2) fun (x21 : (Int × Sl × Int × Int × Int × Int × Int × Unit)) =>
            K x21) (
            callT Try.prog 68 #[(.pointer a0)] (.one (.one (.int .i64))) fun (x22 : Int) =>
            drew <|
            nn a0 fun p23 =>
            ld (.sl) (p23.add 3) fun (x24 : Sl) =>
            ld (.str) (⟨b1, 1, none⟩ : Addr) fun (x25 : ByteArray) =>
            newO (.cells #[(.string { data := #[] }), (.string x25), (.int .i64 x22)] 127) fun b26 =>
            keep (fun w => w.cell? (p23.add 3) = some (Cell.val (.sl) x24)) <|
            rawT Try.prog (.one (.one .sl)) (Builtin.append_ #[82, 82] 82 #[(.slice x24.a x24.len x24.cap), (.slice (some (at0 b26)) 1 1)]) fun (x27 : Sl) =>
            nn a0 fun p28 =>
            stC (p28.add 3) (.slice x27.a x27.len x27.cap) <|
            aggSt (at0 b2) (.agg #[(.int .i64 (0 : Int)), (.slice none 0 0), (.int .i64 (0 : Int)), (.int .i64 (0 : Int)), (.int .i64 (0 : Int)), (.int .i64 (0 : Int)), (.int .i64 (0 : Int))]) 7 <|
            lds c43 (at0 b2) fun (x29 : (Int × Sl × Int × Int × Int × Int × Int × Unit)) =>
            K x29))) (
        sif (x17 == (0 : Int)) (
          aggSt (at0 b2) (.agg #[(.int .i64 (0 : Int)), (.slice none 0 0), (.int .i64 (0 : Int)), (.int .i64 (0 : Int)), (.int .i64 (0 : Int)), (.int .i64 (162 : Int)), (.int .i64 (0 : Int))]) 7 <|
          lds c43 (at0 b2) fun (x30 : (Int × Sl × Int × Int × Int × Int × Int × Unit)) =>
          K x30) (
          join (S := Unit) (fun J31 =>
            ld (.str) (at0 b1) fun (x33 : ByteArray) =>
            sif (ByteArray.toList x33 == ByteArray.toList ({ data := #[97, 112, 112, 101, 110, 100] })) (
              ld (.sl) (⟨b1, 3, none⟩ : Addr) fun (x34 : Sl) =>
              callT Try.prog 69 #[(.pointer a0), (.int .i64 x17), (.slice x34.a x34.len x34.cap)] (.one (.agg c43)) fun (x35 : (Int × Sl × Int × Int × Int × Int × Int × Unit)) =>
              aggSt (at0 b2) (.agg (Cells.vals c43 x35).toArray) 7 <|
              lds c43 (at0 b2) fun (x36 : (Int × Sl × Int × Int × Int × Int × Int × Unit)) =>
              K x36) (
              sif (ByteArray.toList x33 == ByteArray.toList ({ data := #[115, 121, 110, 99] })) (
                drew <|
                nn a0 fun p37 =>
                ld (.sl) (p37.add 1) fun (x38 : Sl) =>
                nn a0 fun p39 =>
                ld (.sl) (p39.add 1) fun (x40 : Sl) =>
                ix x40.a x40.len (IntKind.wrap .i64 (x17 - (1 : Int))) fun p41 =>
                ld (.sl) (p41.add (scaled (Int.toNat (IntKind.wrap .i64 (x17 - (1 : Int)))) 3)) fun (x42 : Sl) =>
                ix x38.a x38.len (IntKind.wrap .i64 (x17 - (1 : Int))) fun p43 =>
                stC ((p43.add (scaled (Int.toNat (IntKind.wrap .i64 (x17 - (1 : Int)))) 3)).add 1) (.int .i64 ((x42.len : Nat) : Int)) <|
                J31 ()) (
                sif (ByteArray.toList x33 == ByteArray.toList ({ data := #[114, 101, 110, 97, 109, 101] })) (
                  ld (.str) (⟨b1, 2, none⟩ : Addr) fun (x44 : ByteArray) =>
                  ld (.str) (⟨b1, 1, none⟩ : Addr) fun (x45 : ByteArray) =>
                  sif (!(ByteArray.toList x44 == ByteArray.toList x45)) (
                    drew <|
                    nn a0 fun p46 =>
                    ld (.sl) (p46.add 3) fun (x47 : Sl) =>
                    ld (.str) (⟨b1, 1, none⟩ : Addr) fun (x48 : ByteArray) =>
                    ld (.str) (⟨b1, 2, none⟩ : Addr) fun (x49 : ByteArray) =>
                    newO (.cells #[(.string x48), (.string x49), (.int .i64 x17)] 127) fun b50 =>
                    keep (fun w => w.cell? (p46.add 3) = some (Cell.val (.sl) x47)) <|
                    rawT Try.prog (.one (.one .sl)) (Builtin.append_ #[82, 82] 82 #[(.slice x47.a x47.len x47.cap), (.slice (some (at0 b50)) 1 1)]) fun (x51 : Sl) =>
                    nn a0 fun p52 =>
                    stC (p52.add 3) (.slice x51.a x51.len x51.cap) <|
                    J31 ()) (
                    J31 ())) (
                  sif (ByteArray.toList x33 == ByteArray.toList ({ data := #[114, 101, 109, 111, 118, 101] })) (
                    drew <|
                    nn a0 fun p53 =>
                    ld (.sl) (p53.add 3) fun (x54 : Sl) =>
                    ld (.str) (⟨b1, 1, none⟩ : Addr) fun (x55 : ByteArray) =>
                    newO (.cells #[(.string x55), (.string { data := #[] }), (.int .i64 (0 : Int))] 127) fun b56 =>
                    keep (fun w => w.cell? (p53.add 3) = some (Cell.val (.sl) x54)) <|
                    rawT Try.prog (.one (.one .sl)) (Builtin.append_ #[82, 82] 82 #[(.slice x54.a x54.len x54.cap), (.slice (some (at0 b56)) 1 1)]) fun (x57 : Sl) =>
                    nn a0 fun p58 =>
                    stC (p58.add 3) (.slice x57.a x57.len x57.cap) <|
                    J31 ()) (
                    sif (ByteArray.toList x33 == ByteArray.toList ({ data := #[114, 101, 97, 100] })) (
                      nn a0 fun p59 =>
                      ld (.sl) (p59.add 1) fun (x60 : Sl) =>
                      ix x60.a x60.len (IntKind.wrap .i64 (x17 - (1 : Int))) fun p61 =>
                      ld (.sl) (p61.add (scaled (Int.toNat (IntKind.wrap .i64 (x17 - (1 : Int)))) 3)) fun (x62 : Sl) =>
                      callT Try.prog 47 #[(.slice x62.a x62.len x62.cap)] (.one (.one .sl)) fun (x63 : Sl) =>
                      aggSt (at0 b2) (.agg #[(.int .i64 (0 : Int)), (.slice x63.a x63.len x63.cap), (.int .i64 (0 : Int)), (.int .i64 (0 : Int)), (.int .i64 (0 : Int)), (.int .i64 (0 : Int)), (.int .i64 (0 : Int))]) 7 <|
                      lds c43 (at0 b2) fun (x64 : (Int × Sl × Int × Int × Int × Int × Int × Unit)) =>
                      K x64) (
                      sif (ByteArray.toList x33 == ByteArray.toList ({ data := #[115, 116, 97, 109, 112] })) (
                        nn a0 fun p65 =>
                        ld (.sl) (p65.add 1) fun (x66 : Sl) =>
                        ix x66.a x66.len (IntKind.wrap .i64 (x17 - (1 : Int))) fun p67 =>
                        lds c130 (p67.add (scaled (Int.toNat (IntKind.wrap .i64 (x17 - (1 : Int)))) 3)) fun (x68 : (Sl × Int × Int × Unit)) =>
                        newO (.cells #[(.slice none 0 0), (.int .i64 (0 : Int)), (.int .i64 (0 : Int))] 130) fun b69 =>
                        aggSt (at0 b69) (.agg (Cells.vals c130 x68).toArray) 3 <|
                        ld (.sl) (at0 b69) fun (x70 : Sl) =>
                        ld (.int .i64) (⟨b69, 2, none⟩ : Addr) fun (x71 : Int) =>
                        aggSt (at0 b2) (.agg #[(.int .i64 (0 : Int)), (.slice none 0 0), (.int .i64 x17), (.int .i64 ((x70.len : Nat) : Int)), (.int .i64 x71), (.int .i64 (0 : Int)), (.int .i64 (0 : Int))]) 7 <|
                        lds c43 (at0 b2) fun (x72 : (Int × Sl × Int × Int × Int × Int × Int × Unit)) =>
                        K x72) (
                        J31 ()))))))) fun (s32 : Unit) =>
          aggSt (at0 b2) (.agg #[(.int .i64 (0 : Int)), (.slice none 0 0), (.int .i64 (0 : Int)), (.int .i64 (0 : Int)), (.int .i64 (0 : Int)), (.int .i64 (0 : Int)), (.int .i64 (0 : Int))]) 7 <|
          lds c43 (at0 b2) fun (x73 : (Int × Sl × Int × Int × Int × Int × Int × Unit)) =>
          K x73))))
noncomputable def h46 : Hint := (.seq none (.region [] (.ops 2 .done)) (.seq none (.seq none (.region [] (.ops 3 .done)) (.cond none (.seq none (.region [] (.ops 6 .done)) (.seq none (.region [] (.ops 4 .done)) (.seq none (.region [] (.ops 2 .done)) .leaf))) .leaf)) (.seq (some (8588886048, [(5, (.one .bool))])) (.region [] (.ops 4 (.split 23 (.ops 4 (.split 27 (.skips 3 (.ops 3 .done)) (.ops 6 .done))) (.skips 8 (.ops 2 .done))))) (.seq none (.seq none (.region [] (.ops 2 .done)) (.cond none (.seq none (.region [] (.ops 2 .done)) .leaf) .leaf)) (.seq none (.region [] (.ops 5 .done)) (.seq none (.seq none (.region [] (.ops 3 .done)) (.cond none (.seq none (.seq none (.region [] (.ops 2 .done)) (.cond none (.seq none (.region [] (.ops 2 .done)) .leaf) .leaf)) (.seq none (.seq none (.region [] (.ops 4 .done)) (.cond none (.seq none (.region [] (.ops 2 .done)) .leaf) .leaf)) (.seq none (.region [] (.ops 3 .done)) (.seq none (.region [0, 1, 2, 3, 4, 5, 6, 7, 8, 9, 10, 11, 12, 13] (.ops 14 .done)) (.seq none (.region [] (.ops 2 .done)) .leaf))))) .leaf)) (.seq none (.seq none (.region [] (.ops 2 .done)) (.cond none (.seq none (.region [] (.ops 2 .done)) .leaf) .leaf)) (.seq (some (93536104789177786765035829292661521637262271447168, [])) (.seq none (.region [] (.ops 2 .done)) (.block (.seq none (.region [] (.ops 2 .done)) (.cond none (.seq none (.region [] (.ops 6 .done)) .leaf) (.seq none (.region [] (.ops 2 .done)) (.cond none (.region [0, 1, 2, 3, 4, 5, 6, 7, 8, 9, 10, 11, 12, 13, 14, 15, 16, 17, 18] (.ops 19 .done)) (.seq none (.region [] (.ops 2 .done)) (.cond none (.seq none (.region [] (.ops 5 .done)) (.cond none (.region [0, 1, 2, 3, 4, 5, 6, 7, 8, 9, 10, 11, 12, 13, 14, 15] (.ops 16 .done)) .leaf)) (.seq none (.region [] (.ops 2 .done)) (.cond none (.region [0, 1, 2, 3, 4, 5, 6, 7, 8, 9, 10, 11, 12] (.ops 13 .done)) (.seq none (.region [] (.ops 2 .done)) (.cond none (.seq none (.region [] (.ops 12 .done)) .leaf) (.seq none (.region [] (.ops 2 .done)) (.cond none (.seq none (.region [] (.ops 10 .done)) (.seq none (.region [] (.ops 9 .done)) .leaf)) .leaf)))))))))))))) (.seq none (.region [] (.ops 2 .done)) .leaf)))))))))
theorem F46_tie (a0 : Option Addr) (a1 : (ByteArray × ByteArray × ByteArray × Sl × Unit)) (K : (Int × Sl × Int × Int × Int × Int × Int × Unit) → World → Prop) : vcgF tab Try.prog Try.f46 h46 [(.pointer a0), (.agg (Cells.vals c47 a1).toArray)] (.one (.agg c43)) K = F46 a0 a1 K := by kernel_rfl
theorem F46_calls {a0 : Option Addr} {a1 : (ByteArray × ByteArray × ByteArray × Sl × Unit)} {K : (Int × Sl × Int × Int × Int × Int × Int × Unit) → World → Prop} {w : World} (h : F46 a0 a1 K w) : callT Try.prog 46 #[(.pointer a0), (.agg (Cells.vals c47 a1).toArray)] (.one (.agg c43)) K w :=
  vcgF_sound tabOk Try.func46 h46 [(.pointer a0), (.agg (Cells.vals c47 a1).toArray)] (.one (.agg c43)) K w (Eq.mpr (congrFun (F46_tie a0 a1 K) w) h)

/-- copyist/copyistref16.copied -/
noncomputable def F47 (a0 : Sl) (K : Sl → World → Prop) : World → Prop :=
  join (S := Sl × Unit) (fun J1 =>
    sloop (S := Sl × Int × Unit) (fun (s3 : Sl × Int × Unit) again4 =>
      sif (decide (s3.2.1 < ((a0.len : Nat) : Int))) (
        ix a0.a a0.len s3.2.1 fun p5 =>
        ld (.int .u8) (p5.add (scaled (Int.toNat s3.2.1) 1)) fun (x6 : Int) =>
        newO (.cells #[(.int .u8 x6)] 5) fun b7 =>
        rawT Try.prog (.one (.one .sl)) (Builtin.append_ #[33, 33] 33 #[(.slice s3.1.a s3.1.len s3.1.cap), (.slice (some (at0 b7)) 1 1)]) fun (x8 : Sl) =>
        again4 (x8, (IntKind.wrap .i64 (s3.2.1 + (1 : Int))), ())) (
        J1 (s3.1, ()))) (⟨none, 0, 0⟩, (0 : Int), ())) fun (s2 : Sl × Unit) =>
  K s2.1
noncomputable def h47 : Hint := (.seq none (.region [] (.ops 1 .done)) (.seq none (.region [] (.ops 1 .done)) (.seq (some (262136, [(3, (.one .sl))])) (.seq none (.region [] (.ops 1 .done)) (.block (.loop 262136 [(3, (.one .sl)), (4, (.one (.int .i64)))] (.seq none (.seq none (.region [] (.ops 4 .done)) (.cond none .leaf .leaf)) (.seq none (.block (.region [] (.ops 8 .done))) (.region [] (.ops 3 .done))))))) (.seq none (.region [] (.ops 2 .done)) .leaf))))
theorem F47_tie (a0 : Sl) (K : Sl → World → Prop) : vcgF tab Try.prog Try.f47 h47 [(.slice a0.a a0.len a0.cap)] (.one (.one .sl)) K = F47 a0 K := by kernel_rfl
theorem F47_calls {a0 : Sl} {K : Sl → World → Prop} {w : World} (h : F47 a0 K w) : callT Try.prog 47 #[(.slice a0.a a0.len a0.cap)] (.one (.one .sl)) K w :=
  vcgF_sound tabOk Try.func47 h47 [(.slice a0.a a0.len a0.cap)] (.one (.one .sl)) K w (Eq.mpr (congrFun (F47_tie a0 K) w) h)

/-- (*copyist/copyistref16.Disk).Crash -/
noncomputable def F48 (a0 : Option Addr) (a1 : (Int × Sl × Unit)) (K : Unit → World → Prop) : World → Prop :=
  newO (.cells #[(.int .i64 a1.1), (.slice a1.2.1.a a1.2.1.len a1.2.1.cap)] 37) fun b1 =>
  nn a0 fun p2 =>
  ld (.bool) (p2.add 4) fun (x3 : Bool) =>
  sif x3 (
    K ()) (
    ld (.int .i64) (at0 b1) fun (x4 : Int) =>
    callT Try.prog 70 #[(.pointer a0), (.int .i64 (if x4 > (0 : Int) then x4 else (0 : Int)))] (.one (.one .sl)) fun (x5 : Sl) =>
    nn a0 fun p6 =>
    stC (p6.add 2) (.slice x5.a x5.len x5.cap) <|
    nn a0 fun p7 =>
    stC (p7.add 3) (.slice none 0 0) <|
    join (S := Unit) (fun J8 =>
      sloop (S := Int × Unit) (fun (s10 : Int × Unit) again11 =>
        nn a0 fun p12 =>
        ld (.sl) (p12.add 2) fun (x13 : Sl) =>
        sif (decide (s10.1 < ((x13.len : Nat) : Int))) (
          nn a0 fun p14 =>
          ld (.sl) (p14.add 2) fun (x15 : Sl) =>
          ix x15.a x15.len s10.1 fun p16 =>
          ld (.int .i64) ((p16.add (scaled (Int.toNat s10.1) 2)).add 1) fun (x17 : Int) =>
          join (S := Int × Unit) (fun J18 =>
            ld (.sl) (⟨b1, 1, none⟩ : Addr) fun (x20 : Sl) =>
            sif (decide (s10.1 < ((x20.len : Nat) : Int))) (
              drew <|
              ld (.sl) (⟨b1, 1, none⟩ : Addr) fun (x21 : Sl) =>
              ix x21.a x21.len s10.1 fun p22 =>
              ld (.int .i64) (p22.add (scaled (Int.toNat s10.1) 1)) fun (x23 : Int) =>
              nn a0 fun p24 =>
              ld (.sl) (p24.add 1) fun (x25 : Sl) =>
              ix x25.a x25.len (IntKind.wrap .i64 (x17 - (1 : Int))) fun p26 =>
              ld (.sl) (p26.add (scaled (Int.toNat (IntKind.wrap .i64 (x17 - (1 : Int)))) 3)) fun (x27 : Sl) =>
              nn a0 fun p28 =>
              ld (.sl) (p28.add 1) fun (x29 : Sl) =>
              ix x29.a x29.len (IntKind.wrap .i64 (x17 - (1 : Int))) fun p30 =>
              ld (.int .i64) ((p30.add (scaled (Int.toNat (IntKind.wrap .i64 (x17 - (1 : Int)))) 3)).add 1) fun (x31 : Int) =>
              J18 ((if (IntKind.wrap .i64 (((x27.len : Nat) : Int) - x31)) < (if x23 > (0 : Int) then x23 else (0 : Int)) then (IntKind.wrap .i64 (((x27.len : Nat) : Int) - x31)) else (if x23 > (0 : Int) then x23 else (0 : Int))), ())) (
              J18 ((0 : Int), ()))) fun (s19 : Int × Unit) =>
          nn a0 fun p32 =>
          ld (.sl) (p32.add 1) fun (x33 : Sl) =>
          ix x33.a x33.len (IntKind.wrap .i64 (x17 - (1 : Int))) fun p34 =>
          ld (.int .i64) ((p34.add (scaled (Int.toNat (IntKind.wrap .i64 (x17 - (1 : Int)))) 3)).add 1) fun (x35 : Int) =>
          drew <|
          nn a0 fun p36 =>
          ld (.sl) (p36.add 1) fun (x37 : Sl) =>
          nn a0 fun p38 =>
          ld (.sl) (p38.add 1) fun (x39 : Sl) =>
          ix x39.a x39.len (IntKind.wrap .i64 (x17 - (1 : Int))) fun p40 =>
          ld (.sl) (p40.add (scaled (Int.toNat (IntKind.wrap .i64 (x17 - (1 : Int)))) 3)) fun (x41 : Sl) =>
          slc x41.a 0 (IntKind.wrap .i64 (x35 + s19.1)) ((x41.cap : Nat) : Int) x41.cap 1 fun x42 =>
          ix x37.a x37.len (IntKind.wrap .i64 (x17 - (1 : Int))) fun p43 =>
          stC (p43.add (scaled (Int.toNat (IntKind.wrap .i64 (x17 - (1 : Int)))) 3)) (.slice x42.a x42.len x42.cap) <|
          nn a0 fun p44 =>
          ld (.sl) (p44.add 1) fun (x45 : Sl) =>
          ix x45.a x45.len (IntKind.wrap .i64 (x17 - (1 : Int))) fun p46 =>
          stC ((p46.add (scaled (Int.toNat (IntKind.wrap .i64 (x17 - (1 : Int)))) 3)).add 1) (.int .i64 (IntKind.wrap .i64 (x35 + s19.1))) <|
          again11 ((IntKind.wrap .i64 (s10.1 + (1 : Int))), ())) (
          J8 ())) ((0 : Int), ())) fun (s9 : Unit) =>
    nn a0 fun p47 =>
    stC (p47.add 4) (.bool true) <|
    K ())
noncomputable def h48 : Hint := (.seq none (.region [] (.ops 1 .done)) (.seq none (.seq none (.region [] (.ops 4 .done)) (.cond none .leaf .leaf)) (.seq none (.region [] (.ops 9 .done)) (.seq none (.region [] (.ops 4 .done)) (.seq (some (81129638414606681695788996755696, [])) (.seq none (.region [] (.ops 1 .done)) (.block (.loop 81129638414606681695788996755696 [(4, (.one (.int .i64)))] (.seq none (.seq none (.region [] (.ops 7 .done)) (.cond none .leaf .leaf)) (.seq none (.block (.seq none (.region [] (.ops 10 .done)) (.seq none (.region [] (.ops 1 .done)) (.seq (some (2361183239235799351360, [(6, (.one (.int .i64)))])) (.seq none (.region [] (.ops 5 .done)) (.cond none (.region [0, 1, 2, 3, 4, 5, 6, 7, 8, 9, 10, 11, 12, 13, 14, 15, 16, 17, 18, 19, 20, 21, 22, 23, 24, 25] (.ops 26 .done)) .leaf)) (.seq none (.region [] (.ops 11 .done)) (.seq none (.region [0, 1, 2, 3, 4, 5, 6, 7, 8, 9, 10, 11, 12, 13, 14, 15, 16, 17] (.ops 18 .done)) (.region [] (.ops 9 .done)))))))) (.region [] (.ops 3 .done))))))) (.region [] (.ops 4 .done)))))))
theorem F48_tie (a0 : Option Addr) (a1 : (Int × Sl × Unit)) (K : Unit → World → Prop) : vcgF tab Try.prog Try.f48 h48 [(.pointer a0), (.agg (Cells.vals c37 a1).toArray)] (.tup []) K = F48 a0 a1 K := by kernel_rfl
theorem F48_calls {a0 : Option Addr} {a1 : (Int × Sl × Unit)} {K : Unit → World → Prop} {w : World} (h : F48 a0 a1 K w) : callT Try.prog 48 #[(.pointer a0), (.agg (Cells.vals c37 a1).toArray)] (.tup []) K w :=
  vcgF_sound tabOk Try.func48 h48 [(.pointer a0), (.agg (Cells.vals c37 a1).toArray)] (.tup []) K w (Eq.mpr (congrFun (F48_tie a0 a1 K) w) h)

/-- errors.is -/
noncomputable def F50 (a0 : Value) (a1 : Value) (a2 : Bool) (K : Bool → World → Prop) : World → Prop :=
  sloop (S := Value × Unit) (fun (s1 : Value × Unit) again2 =>
    join (S := Bool × Unit) (fun J3 =>
      sif a2 (
        rdB Try.prog (do eqGuard .eql 31 (Operand.tmp 16) (Operand.tmp 17) s1.1 a1; binOp .eql 31 s1.1 a1 : Sem Value) fun r5 =>
        J3 (r5, ())) (
        J3 (false, ()))) fun (s4 : Bool × Unit) =>
    sif s4.1 (
      K true) (
      rawT Try.prog (.tup [(.one .any), (.one .bool)]) (Instr.typeAssert s1.1 31 137 true) fun (x6 : (Value × Bool × Unit)) =>
      join (S := Bool × Unit) (fun J7 =>
        sif x6.2.1 (
          callX Try.prog (invoke (.fn (.method "Is") #[]) (#[x6.1] ++ #[a1])) (.one (.one .bool)) fun (x9 : Bool) =>
          J7 (x9, ())) (
          J7 (false, ()))) fun (s8 : Bool × Unit) =>
      sif s8.1 (
        K true) (
        rawT Try.prog (.tup [(.one .any), (.one .bool)]) (Instr.typeAssert s1.1 31 140 true) fun (x10 : Value × Bool × Unit) =>
        sif x10.2.1 (
          callX Try.prog (invoke (.fn (.method "Unwrap") #[]) (#[x10.1] ++ #[])) (.one (.one .any)) fun (x11 : Value) =>
          rdB Try.prog (do eqGuard .eql 31 (Operand.tmp 37) (Operand.const Value.nilIface) x11 .nilIface; binOp .eql 31 x11 .nilIface : Sem Value) fun r12 =>
          sif r12 (
            K false) (
            again2 (x11, ()))) (
          rawT Try.prog (.tup [(.one .any), (.one .bool)]) (Instr.typeAssert s1.1 31 141 true) fun (x13 : Value × Bool × Unit) =>
          sif x13.2.1 (
            join (S := Unit) (fun J14 =>
              callX Try.prog (invoke (.fn (.method "Unwrap") #[]) (#[x13.1] ++ #[])) (.one (.one .sl)) fun (x16 : Sl) =>
              sloop (S := Int × Unit) (fun (s17 : Int × Unit) again18 =>
                sif (decide (s17.1 < ((x16.len : Nat) : Int))) (
                  ix x16.a x16.len s17.1 fun p19 =>
                  ld (.any) (p19.add (scaled (Int.toNat s17.1) 1)) fun (x20 : Value) =>
                  callT Try.prog 50 #[x20, a1, (.bool a2)] (.one (.one .bool)) fun (x21 : Bool) =>
                  sif x21 (
                    K true) (
                    again18 ((IntKind.wrap .i64 (s17.1 + (1 : Int))), ()))) (
                  J14 ())) ((0 : Int), ())) fun (s15 : Unit) =>
            K false) (
            K false))))) (a0, ())
noncomputable def h50 : Hint := (.seq none (.region [] (.ops 1 .done)) (.block (.loop 18014398509479873 [(0, (.one .any))] (.block (.seq none (.seq (some (1032192, [(19, (.one .bool))])) (.region [] (.ops 2 (.split 15 (.ops 4 .done) (.skips 3 (.ops 1 .done))))) (.cond none (.seq none (.region [] (.ops 1 .done)) .leaf) .leaf)) (.seq none (.seq none (.region [] (.ops 7 .done)) (.seq (some (2113929216, [(30, (.one .bool))])) (.region [] (.ops 2 (.split 26 (.ops 4 .done) (.skips 3 (.ops 1 .done))))) (.cond none (.seq none (.region [] (.ops 1 .done)) .leaf) .leaf))) (.seq none (.region [] (.ops 1 .done)) (.block (.seq none (.region [] (.op (some (.tup [(.one .any), (.one .bool)])) (.ops 2 .done))) (.cond none (.seq none (.region [] (.ops 1 .done)) (.seq none (.region [] (.ops 3 .done)) (.seq none (.region [] (.ops 2 .done)) (.cond none (.seq none (.region [] (.ops 1 .done)) .leaf) .leaf)))) (.seq none (.region [] (.op (some (.tup [(.one .any), (.one .bool)])) (.ops 2 .done))) (.cond none (.seq none (.region [] (.ops 1 .done)) (.seq (some (18010000462975040, [])) (.seq none (.region [] (.ops 4 .done)) (.block (.loop 17979214137397312 [(45, (.one (.int .i64)))] (.seq none (.region [] (.ops 1 .done)) (.seq none (.cond none .leaf .leaf) (.seq none (.block (.seq none (.region [] (.ops 3 .done)) (.seq none (.region [] (.ops 4 .done)) (.cond none (.seq none (.region [] (.ops 1 .done)) .leaf) .leaf)))) (.region [] (.ops 2 .done)))))))) (.seq none (.region [] (.ops 1 .done)) .leaf))) (.seq none (.region [] (.ops 1 .done)) (.seq none (.region [] (.ops 1 .done)) .leaf))))))))))))))
theorem F50_tie (a0 : Value) (a1 : Value) (a2 : Bool) (K : Bool → World → Prop) : vcgF tab Try.prog Try.f50 h50 [a0, a1, (.bool a2)] (.one (.one .bool)) K = F50 a0 a1 a2 K := by kernel_rfl
theorem F50_calls {a0 : Value} {a1 : Value} {a2 : Bool} {K : Bool → World → Prop} {w : World} (h : F50 a0 a1 a2 K w) : callT Try.prog 50 #[a0, a1, (.bool a2)] (.one (.one .bool)) K w :=
  vcgF_sound tabOk Try.func50 h50 [a0, a1, (.bool a2)] (.one (.one .bool)) K w (Eq.mpr (congrFun (F50_tie a0 a1 a2 K) w) h)

/-- slices.Clone[[]int,int] -/
noncomputable def F51 (a0 : Sl) (K : Sl → World → Prop) : World → Prop :=
  sif (Option.isNone a0.a) (
    K ⟨none, 0, 0⟩) (
    newO (.cells #[] 3) fun b1 =>
    rawT Try.prog (.one (.one .sl)) (Builtin.append_ #[35, 35] 35 #[(.slice (some (at0 b1)) 0 0), (.slice a0.a a0.len a0.cap)]) fun (x2 : Sl) =>
    K x2)
noncomputable def h51 : Hint := (.seq none (.region [] (.ops 1 .done)) (.seq none (.seq none (.region [] (.ops 2 .done)) (.cond none (.seq none (.region [] (.ops 1 .done)) .leaf) .leaf)) (.seq none (.region [] (.ops 4 .done)) .leaf)))
theorem F51_tie (a0 : Sl) (K : Sl → World → Prop) : vcgF tab Try.prog Try.f51 h51 [(.slice a0.a a0.len a0.cap)] (.one (.one .sl)) K = F51 a0 K := by kernel_rfl
theorem F51_calls {a0 : Sl} {K : Sl → World → Prop} {w : World} (h : F51 a0 K w) : callT Try.prog 51 #[(.slice a0.a a0.len a0.cap)] (.one (.one .sl)) K w :=
  vcgF_sound tabOk Try.func51 h51 [(.slice a0.a a0.len a0.cap)] (.one (.one .sl)) K w (Eq.mpr (congrFun (F51_tie a0 K) w) h)

/-- copyist/copyistlaw16.sparing -/
noncomputable def F52 (a0 : Sl) (K : Sl → World → Prop) : World → Prop :=
  rawT Try.prog (.one (.one .sl)) (Builtin.append_ #[35, 35] 35 #[(.slice none 0 0), (.slice a0.a a0.len a0.cap)]) fun (x1 : Sl) =>
  newO (.cells #[(.int .i64 (-71 : Int)), (.int .i64 (-71 : Int)), (.int .i64 (-71 : Int)), (.int .i64 (-71 : Int)), (.int .i64 (-71 : Int)), (.int .i64 (-71 : Int)), (.int .i64 (-71 : Int)), (.int .i64 (-71 : Int))] 3) fun b2 =>
  rawT Try.prog (.one (.one .sl)) (Builtin.append_ #[35, 35] 35 #[(.slice x1.a x1.len x1.cap), (.slice (some (at0 b2)) 8 8)]) fun (x3 : Sl) =>
  slc x3.a 0 ((x3.cap : Nat) : Int) ((x3.cap : Nat) : Int) x3.cap 1 fun x4 =>
  join (S := Unit) (fun J5 =>
    sloop (S := Int × Unit) (fun (s7 : Int × Unit) again8 =>
      sif (decide (s7.1 < ((x4.len : Nat) : Int))) (
        ix x4.a x4.len s7.1 fun p9 =>
        stC (p9.add (scaled (Int.toNat s7.1) 1)) (.int .i64 (IntKind.wrap .i64 ((-71 : Int) - s7.1))) <|
        again8 ((IntKind.wrap .i64 (s7.1 + (1 : Int))), ())) (
        J5 ())) (((a0.len : Nat) : Int), ())) fun (s6 : Unit) =>
  slc x4.a 0 ((a0.len : Nat) : Int) ((x4.cap : Nat) : Int) x4.cap 1 fun x10 =>
  K x10
noncomputable def h52 : Hint := (.seq none (.region [] (.ops 1 .done)) (.seq none (.region [] (.ops 5 .done)) (.seq none (.region [] (.ops 5 .done)) (.seq (some (67100688, [])) (.seq none (.region [] (.ops 3 .done)) (.block (.loop 67076112 [(4, (.one (.int .i64)))] (.seq none (.seq none (.region [] (.ops 4 .done)) (.cond none .leaf .leaf)) (.seq none (.block (.region [] (.ops 6 .done))) (.region [] (.ops 3 .done))))))) (.seq none (.region [] (.ops 5 .done)) .leaf)))))
theorem F52_tie (a0 : Sl) (K : Sl → World → Prop) : vcgF tab Try.prog Try.f52 h52 [(.slice a0.a a0.len a0.cap)] (.one (.one .sl)) K = F52 a0 K := by kernel_rfl
theorem F52_calls {a0 : Sl} {K : Sl → World → Prop} {w : World} (h : F52 a0 K w) : callT Try.prog 52 #[(.slice a0.a a0.len a0.cap)] (.one (.one .sl)) K w :=
  vcgF_sound tabOk Try.func52 h52 [(.slice a0.a a0.len a0.cap)] (.one (.one .sl)) K w (Eq.mpr (congrFun (F52_tie a0 K) w) h)

/-- (*copyist/disk.Disk).Make -/
noncomputable def F53 (a0 : Option Addr) (a1 : ByteArray) (K : Value → World → Prop) : World → Prop :=
  newO (.cells #[(.pointer a0)] 24) fun b1 =>
  newO (.cells #[(.string a1)] 9) fun b2 =>
  ld (.ptr) (at0 b1) fun (x3 : Option Addr) =>
  ld (.str) (at0 b2) fun (x4 : ByteArray) =>
  callT Try.prog 39 #[(.pointer x3), (.string { data := #[109, 97, 107, 101] }), (.string x4), (.func (Fn.func 71) #[] #[(.pointer (some (at0 b1))), (.pointer (some (at0 b2)))]), .nilFunc] (.one (.one .any)) fun (x5 : Value) =>
  K x5
noncomputable def h53 : Hint := (.seq none (.region [] (.ops 3 .done)) (.seq none (.region [] (.ops 5 .done)) .leaf))
theorem F53_tie (a0 : Option Addr) (a1 : ByteArray) (K : Value → World → Prop) : vcgF tab Try.prog Try.f53 h53 [(.pointer a0), (.string a1)] (.one (.one .any)) K = F53 a0 a1 K := by kernel_rfl
theorem F53_calls {a0 : Option Addr} {a1 : ByteArray} {K : Value → World → Prop} {w : World} (h : F53 a0 a1 K w) : callT Try.prog 53 #[(.pointer a0), (.string a1)] (.one (.one .any)) K w :=
  vcgF_sound tabOk Try.func53 h53 [(.pointer a0), (.string a1)] (.one (.one .any)) K w (Eq.mpr (congrFun (F53_tie a0 a1 K) w) h)

/-- (*copyist/disk.Disk).Rename -/
noncomputable def F54 (a0 : Option Addr) (a1 : ByteArray) (a2 : ByteArray) (K : Value → World → Prop) : World → Prop :=
  newO (.cells #[(.pointer a0)] 24) fun b1 =>
  newO (.cells #[(.string a1)] 9) fun b2 =>
  newO (.cells #[(.string a2)] 9) fun b3 =>
  ld (.ptr) (at0 b1) fun (x4 : Option Addr) =>
  ld (.str) (at0 b2) fun (x5 : ByteArray) =>
  callT Try.prog 39 #[(.pointer x4), (.string { data := #[114, 101, 110, 97, 109, 101] }), (.string x5), (.func (Fn.func 73) #[] #[(.pointer (some (at0 b3))), (.pointer (some (at0 b1))), (.pointer (some (at0 b2)))]), .nilFunc] (.one (.one .any)) fun (x6 : Value) =>
  K x6
noncomputable def h54 : Hint := (.seq none (.region [] (.ops 4 .done)) (.seq none (.region [] (.ops 5 .done)) .leaf))
theorem F54_tie (a0 : Option Addr) (a1 : ByteArray) (a2 : ByteArray) (K : Value → World → Prop) : vcgF tab Try.prog Try.f54 h54 [(.pointer a0), (.string a1), (.string a2)] (.one (.one .any)) K = F54 a0 a1 a2 K := by kernel_rfl
theorem F54_calls {a0 : Option Addr} {a1 : ByteArray} {a2 : ByteArray} {K : Value → World → Prop} {w : World} (h : F54 a0 a1 a2 K w) : callT Try.prog 54 #[(.pointer a0), (.string a1), (.string a2)] (.one (.one .any)) K w :=
  vcgF_sound tabOk Try.func54 h54 [(.pointer a0), (.string a1), (.string a2)] (.one (.one .any)) K w (Eq.mpr (congrFun (F54_tie a0 a1 a2 K) w) h)

/-- (copyist/disk.directory).names -/
noncomputable def F55 (a0 : Option Nat) (K : Sl → World → Prop) : World → Prop :=
  join (S := Sl × Unit) (fun J1 =>
    rawT Try.prog (.one (.one .ptr)) (Instr.range 87 (.map a0)) fun (x3 : Option Addr) =>
    sloop (S := Sl × Unit) (fun (s4 : Sl × Unit) again5 =>
      nextE Try.prog (Instr.next (.pointer x3) false 0) fun r6 rest7 =>
      sif r6 (
        rawT Try.prog (.tup [(.one .str), (.one .ptr)]) (Instr.entry (.pointer x3)) fun (x8 : ByteArray × Option Addr × Unit) =>
        newO (.cells #[(.string x8.1)] 9) fun b9 =>
        rawT Try.prog (.one (.one .sl)) (Builtin.append_ #[59, 59] 59 #[(.slice s4.1.a s4.1.len s4.1.cap), (.slice (some (at0 b9)) 1 1)]) fun (x10 : Sl) =>
        again5 (x10, ())) (
        J1 (s4.1, ()))) (⟨none, 0, 0⟩, ())) fun (s2 : Sl × Unit) =>
  callT Try.prog 75 #[(.slice s2.1.a s2.1.len s2.1.cap)] (.tup []) fun (x11 : (Unit)) =>
  K s2.1
noncomputable def h55 : Hint := (.seq none (.region [] (.ops 1 .done)) (.seq none (.region [] (.ops 1 .done)) (.seq (some (32760, [(3, (.one .sl))])) (.seq none (.region [] (.ops 2 .done)) (.block (.loop 32664 [(3, (.one .sl))] (.seq none (.region [] (.ops 2 .done)) (.seq none (.cond none .leaf .leaf) (.block (.seq none (.region [] (.op (some (.tup [(.one .str), (.one .ptr)])) (.ops 2 .done))) (.region [] (.ops 5 .done))))))))) (.seq none (.region [] (.ops 2 .done)) (.seq none (.region [] (.ops 2 .done)) .leaf)))))
theorem F55_tie (a0 : Option Nat) (K : Sl → World → Prop) : vcgF tab Try.prog Try.f55 h55 [(.map a0)] (.one (.one .sl)) K = F55 a0 K := by kernel_rfl
theorem F55_calls {a0 : Option Nat} {K : Sl → World → Prop} {w : World} (h : F55 a0 K w) : callT Try.prog 55 #[(.map a0)] (.one (.one .sl)) K w :=
  vcgF_sound tabOk Try.func55 h55 [(.map a0)] (.one (.one .sl)) K w (Eq.mpr (congrFun (F55_tie a0 K) w) h)

/-- (*copyist/disk.file).cut -/
noncomputable def F56 (a0 : Option Addr) (a1 : Int) (K : Unit → World → Prop) : World → Prop :=
  drew <|
  nn a0 fun p1 =>
  ld (.int .i64) (p1.add 2) fun (x2 : Int) =>
  nn a0 fun p3 =>
  ld (.sl) (p3.add 1) fun (x4 : Sl) =>
  nn a0 fun p5 =>
  ld (.int .i64) (p5.add 2) fun (x6 : Int) =>
  nn a0 fun p7 =>
  ld (.sl) (p7.add 1) fun (x8 : Sl) =>
  slc x8.a 0 (IntKind.wrap .i64 (x2 + (if (IntKind.wrap .i64 (((x4.len : Nat) : Int) - x6)) < (if (0 : Int) > a1 then (0 : Int) else a1) then (IntKind.wrap .i64 (((x4.len : Nat) : Int) - x6)) else (if (0 : Int) > a1 then (0 : Int) else a1)))) (IntKind.wrap .i64 (x2 + (if (IntKind.wrap .i64 (((x4.len : Nat) : Int) - x6)) < (if (0 : Int) > a1 then (0 : Int) else a1) then (IntKind.wrap .i64 (((x4.len : Nat) : Int) - x6)) else (if (0 : Int) > a1 then (0 : Int) else a1)))) x8.cap 1 fun x9 =>
  nn a0 fun p10 =>
  stC (p10.add 1) (.slice x9.a x9.len x9.cap) <|
  callT Try.prog 38 #[(.pointer a0)] (.tup []) fun (x11 : (Unit)) =>
  K ()
noncomputable def h56 : Hint := (.seq none (.region [0, 1, 2, 3, 4, 5, 6, 7, 8, 9, 10, 11, 12, 13, 14, 15, 16, 17, 18] (.ops 19 .done)) (.seq none (.region [] (.ops 11 .done)) (.region [] (.ops 2 .done))))
theorem F56_tie (a0 : Option Addr) (a1 : Int) (K : Unit → World → Prop) : vcgF tab Try.prog Try.f56 h56 [(.pointer a0), (.int .i64 a1)] (.tup []) K = F56 a0 a1 K := by kernel_rfl
theorem F56_calls {a0 : Option Addr} {a1 : Int} {K : Unit → World → Prop} {w : World} (h : F56 a0 a1 K w) : callT Try.prog 56 #[(.pointer a0), (.int .i64 a1)] (.tup []) K w :=
  vcgF_sound tabOk Try.func56 h56 [(.pointer a0), (.int .i64 a1)] (.tup []) K w (Eq.mpr (congrFun (F56_tie a0 a1 K) w) h)

/-- maps.Clone[copyist/disk.directory,string,*copyist/disk.file] -/
noncomputable def F57 (a0 : Option Nat) (K : Option Nat → World → Prop) : World → Prop :=
  sif (Option.isNone a0) (
    K none) (
    callX Try.prog (callFunc 76 #[(.iface 87 (.map a0))]) (.one (.one .any)) fun (x1 : Value) =>
    rawT Try.prog (.one (.one .map)) (Instr.typeAssert x1 20 87 false) fun (x2 : Option Nat) =>
    K x2)
noncomputable def h57 : Hint := (.seq none (.region [] (.ops 1 .done)) (.seq none (.seq none (.region [] (.ops 2 .done)) (.cond none (.seq none (.region [] (.ops 1 .done)) .leaf) .leaf)) (.seq none (.region [] (.ops 5 .done)) .leaf)))
theorem F57_tie (a0 : Option Nat) (K : Option Nat → World → Prop) : vcgF tab Try.prog Try.f57 h57 [(.map a0)] (.one (.one .map)) K = F57 a0 K := by kernel_rfl
theorem F57_calls {a0 : Option Nat} {K : Option Nat → World → Prop} {w : World} (h : F57 a0 K w) : callT Try.prog 57 #[(.map a0)] (.one (.one .map)) K w :=
  vcgF_sound tabOk Try.func57 h57 [(.map a0)] (.one (.one .map)) K w (Eq.mpr (congrFun (F57_tie a0 K) w) h)

/-- (*copyist/disk.Disk).Read$1 -/
noncomputable def F58 (v0 : Addr) (v1 : Addr) (v2 : Addr) (K : Int → World → Prop) : World → Prop :=
  ld (.ptr) v0 fun (x1 : Option Addr) =>
  ld (.str) v1 fun (x2 : ByteArray) =>
  callT Try.prog 41 #[(.pointer x1), (.string x2)] (.tup [(.agg c102), (.one (.int .i64))]) fun (x3 : ((Option Addr × ByteArray × Unit) × Int × Unit)) =>
  newO (.cells #[(.pointer none), (.string { data := #[] })] 102) fun b4 =>
  aggSt (at0 b4) (.agg (Cells.vals c102 x3.1).toArray) 2 <|
  join (S := Unit) (fun J5 =>
    sif (x3.2.1 == (0 : Int)) (
      ld (.ptr) (at0 b4) fun (x7 : Option Addr) =>
      nn x7 fun p8 =>
      ld (.sl) (p8.add 1) fun (x9 : Sl) =>
      callT Try.prog 37 #[(.slice x9.a x9.len x9.cap)] (.one (.one .sl)) fun (x10 : Sl) =>
      stC v2 (.slice x10.a x10.len x10.cap) <|
      J5 ()) (
      J5 ())) fun (s6 : Unit) =>
  K x3.2.1
noncomputable def h58 : Hint := (.seq none (.region [] (.ops 1 .done)) (.seq none (.region [] (.ops 9 .done)) (.seq (some (1044480, [])) (.seq none (.region [] (.ops 2 .done)) (.cond none (.region [] (.ops 7 .done)) .leaf)) (.seq none (.region [] (.ops 2 .done)) .leaf))))
theorem F58_tie (v0 : Addr) (v1 : Addr) (v2 : Addr) (K : Int → World → Prop) : vcgF tab Try.prog Try.f58 h58 [(.pointer (some v0)), (.pointer (some v1)), (.pointer (some v2))] (.one (.one (.int .i64))) K = F58 v0 v1 v2 K := by kernel_rfl
theorem F58_calls {v0 : Addr} {v1 : Addr} {v2 : Addr} {K : Int → World → Prop} {w : World} (h : F58 v0 v1 v2 K w) : callT Try.prog 58 #[(.pointer (some v0)), (.pointer (some v1)), (.pointer (some v2))] (.one (.one (.int .i64))) K w :=
  vcgF_sound tabOk Try.func58 h58 [(.pointer (some v0)), (.pointer (some v1)), (.pointer (some v2))] (.one (.one (.int .i64))) K w (Eq.mpr (congrFun (F58_tie v0 v1 v2 K) w) h)

/-- (*copyist/disk.Disk).Stamp -/
noncomputable def F59 (a0 : Option Addr) (a1 : ByteArray) (K : ((Int × Int × Int × Unit) × Value × Unit) → World → Prop) : World → Prop :=
  newO (.cells #[(.pointer a0)] 24) fun b1 =>
  newO (.cells #[(.string a1)] 9) fun b2 =>
  newO (.cells #[(.int .i64 (0 : Int)), (.int .i64 (0 : Int)), (.int .i64 (0 : Int))] 68) fun b3 =>
  newO (.cells #[(.int .i64 (0 : Int)), (.int .i64 (0 : Int)), (.int .i64 (0 : Int))] 68) fun b4 =>
  ld (.ptr) (at0 b1) fun (x5 : Option Addr) =>
  ld (.str) (at0 b2) fun (x6 : ByteArray) =>
  callT Try.prog 39 #[(.pointer x5), (.string { data := #[115, 116, 97, 109, 112] }), (.string x6), (.func (Fn.func 77) #[] #[(.pointer (some (at0 b1))), (.pointer (some (at0 b2))), (.pointer (some (at0 b4)))]), .nilFunc] (.one (.one .any)) fun (x7 : Value) =>
  rdB Try.prog (do eqGuard .neq 31 (Operand.tmp 12) (Operand.const Value.nilIface) x7 .nilIface; binOp .neq 31 x7 .nilIface : Sem Value) fun r8 =>
  sif r8 (
    aggSt (at0 b3) (.agg #[(.int .i64 (0 : Int)), (.int .i64 (0 : Int)), (.int .i64 (0 : Int))]) 3 <|
    lds c68 (at0 b3) fun (x9 : (Int × Int × Int × Unit)) =>
    K (x9, x7, ())) (
    lds c68 (at0 b4) fun (x10 : (Int × Int × Int × Unit)) =>
    aggSt (at0 b3) (.agg (Cells.vals c68 x10).toArray) 3 <|
    lds c68 (at0 b3) fun (x11 : (Int × Int × Int × Unit)) =>
    K (x11, .nilIface, ()))
noncomputable def h59 : Hint := (.seq none (.region [] (.ops 4 .done)) (.seq none (.region [] (.ops 1 .done)) (.seq none (.region [] (.ops 5 .done)) (.seq none (.seq none (.region [] (.ops 2 .done)) (.cond none (.seq none (.region [] (.ops 4 .done)) .leaf) .leaf)) (.seq none (.region [] (.ops 3 .done)) .leaf)))))
theorem F59_tie (a0 : Option Addr) (a1 : ByteArray) (K : ((Int × Int × Int × Unit) × Value × Unit) → World → Prop) : vcgF tab Try.prog Try.f59 h59 [(.pointer a0), (.string a1)] (.tup [(.agg c68), (.one .any)]) K = F59 a0 a1 K := by kernel_rfl
theorem F59_calls {a0 : Option Addr} {a1 : ByteArray} {K : ((Int × Int × Int × Unit) × Value × Unit) → World → Prop} {w : World} (h : F59 a0 a1 K w) : callT Try.prog 59 #[(.pointer a0), (.string a1)] (.tup [(.agg c68), (.one .any)]) K w :=
  vcgF_sound tabOk Try.func59 h59 [(.pointer a0), (.string a1)] (.tup [(.agg c68), (.one .any)]) K w (Eq.mpr (congrFun (F59_tie a0 a1 K) w) h)

/-- (*copyist/disk.Disk).Append$1 -/
noncomputable def F60 (a0 : Sl) (v0 : Addr) (v1 : Addr) (v2 : Addr) (K : Int → World → Prop) : World → Prop :=
  ld (.ptr) v0 fun (x1 : Option Addr) =>
  ld (.str) v1 fun (x2 : ByteArray) =>
  callT Try.prog 41 #[(.pointer x1), (.string x2)] (.tup [(.agg c102), (.one (.int .i64))]) fun (x3 : ((Option Addr × ByteArray × Unit) × Int × Unit)) =>
  newO (.cells #[(.pointer none), (.string { data := #[] })] 102) fun b4 =>
  aggSt (at0 b4) (.agg (Cells.vals c102 x3.1).toArray) 2 <|
  sif (x3.2.1 != (0 : Int)) (
    K x3.2.1) (
    ld (.ptr) v0 fun (x5 : Option Addr) =>
    callT Try.prog 61 #[(.pointer x5)] (.one (.one (.int .i64))) fun (x6 : Int) =>
    stC v2 (.int .i64 (if x6 < ((a0.len : Nat) : Int) then x6 else ((a0.len : Nat) : Int))) <|
    drew <|
    ld (.ptr) (at0 b4) fun (x7 : Option Addr) =>
    ld (.ptr) (at0 b4) fun (x8 : Option Addr) =>
    nn x8 fun p9 =>
    ld (.sl) (p9.add 1) fun (x10 : Sl) =>
    ld (.int .i64) v2 fun (x11 : Int) =>
    slc a0.a 0 x11 ((a0.cap : Nat) : Int) a0.cap 1 fun x12 =>
    rawT Try.prog (.one (.one .sl)) (Builtin.append_ #[33, 33] 33 #[(.slice x10.a x10.len x10.cap), (.slice x12.a x12.len x12.cap)]) fun (x13 : Sl) =>
    keep (fun w => w.cell? (at0 b4) = some (Cell.val (.ptr) x7)) <|
    nn x7 fun p14 =>
    stC (p14.add 1) (.slice x13.a x13.len x13.cap) <|
    join (S := Unit) (fun J15 =>
      ld (.int .i64) v2 fun (x17 : Int) =>
      sif (decide (x17 > (0 : Int))) (
        ld (.ptr) (at0 b4) fun (x18 : Option Addr) =>
        nn x18 fun p19 =>
        ld (.int .i64) (p19.add 3) fun (x20 : Int) =>
        nn x18 fun p21 =>
        stC (p21.add 3) (.int .i64 (IntKind.wrap .i64 (x20 + (1 : Int)))) <|
        J15 ()) (
        J15 ())) fun (s16 : Unit) =>
    ld (.int .i64) v2 fun (x22 : Int) =>
    sif (decide (x22 < ((a0.len : Nat) : Int))) (
      K (161 : Int)) (
      K (0 : Int)))
noncomputable def h60 : Hint := (.seq none (.region [] (.ops 1 .done)) (.seq none (.region [] (.ops 9 .done)) (.seq none (.seq none (.region [] (.ops 2 .done)) (.cond none (.seq none (.region [] (.ops 2 .done)) .leaf) .leaf)) (.seq none (.region [] (.ops 6 .done)) (.seq none (.region [0, 1, 2, 3, 4, 5, 6, 7, 8, 9, 10, 11, 12, 13] (.ops 14 .done)) (.seq (some (35150012350464, [])) (.seq none (.region [] (.ops 2 .done)) (.cond none (.region [] (.ops 9 .done)) .leaf)) (.seq none (.seq none (.region [] (.ops 4 .done)) (.cond none (.seq none (.region [] (.ops 1 .done)) .leaf) .leaf)) (.seq none (.region [] (.ops 1 .done)) .leaf))))))))
theorem F60_tie (a0 : Sl) (v0 : Addr) (v1 : Addr) (v2 : Addr) (K : Int → World → Prop) : vcgF tab Try.prog Try.f60 h60 [(.slice a0.a a0.len a0.cap), (.pointer (some v0)), (.pointer (some v1)), (.pointer (some v2))] (.one (.one (.int .i64))) K = F60 a0 v0 v1 v2 K := by kernel_rfl
theorem F60_calls {a0 : Sl} {v0 : Addr} {v1 : Addr} {v2 : Addr} {K : Int → World → Prop} {w : World} (h : F60 a0 v0 v1 v2 K w) : callT Try.prog 60 #[(.slice a0.a a0.len a0.cap), (.pointer (some v0)), (.pointer (some v1)), (.pointer (some v2))] (.one (.one (.int .i64))) K w :=
  vcgF_sound tabOk Try.func60 h60 [(.slice a0.a a0.len a0.cap), (.pointer (some v0)), (.pointer (some v1)), (.pointer (some v2))] (.one (.one (.int .i64))) K w (Eq.mpr (congrFun (F60_tie a0 v0 v1 v2 K) w) h)

/-- (*copyist/disk.Disk).room -/
noncomputable def F61 (a0 : Option Addr) (K : Int → World → Prop) : World → Prop :=
  nn a0 fun p1 =>
  ld (.int .i64) p1 fun (x2 : Int) =>
  join (S := Int × Unit) (fun J3 =>
    nn a0 fun p5 =>
    ld (.map) (p5.add 1) fun (x6 : Option Nat) =>
    rawT Try.prog (.one (.one .ptr)) (Instr.range 87 (.map x6)) fun (x7 : Option Addr) =>
    sloop (S := Int × Unit) (fun (s8 : Int × Unit) again9 =>
      nextE Try.prog (Instr.next (.pointer x7) false 0) fun r10 rest11 =>
      sif r10 (
        rawT Try.prog (.tup [(.one .str), (.one .ptr)]) (Instr.entry (.pointer x7)) fun (x12 : ByteArray × Option Addr × Unit) =>
        nn x12.2.1 fun p13 =>
        ld (.sl) (p13.add 1) fun (x14 : Sl) =>
        again9 ((IntKind.wrap .i64 (s8.1 - ((x14.len : Nat) : Int))), ())) (
        J3 (s8.1, ()))) (x2, ())) fun (s4 : Int × Unit) =>
  K (if (0 : Int) > s4.1 then (0 : Int) else s4.1)
noncomputable def h61 : Hint := (.seq none (.region [] (.ops 1 .done)) (.seq none (.region [] (.ops 5 .done)) (.seq (some (67107880, [(3, (.one (.int .i64)))])) (.seq none (.region [] (.ops 5 .done)) (.block (.loop 67076136 [(3, (.one (.int .i64)))] (.seq none (.region [] (.ops 2 .done)) (.seq none (.cond none .leaf .leaf) (.block (.seq none (.region [] (.op (some (.tup [(.one .str), (.one .ptr)])) (.ops 2 .done))) (.region [] (.ops 8 .done))))))))) (.seq none (.region [] (.ops 3 .done)) .leaf))))
theorem F61_tie (a0 : Option Addr) (K : Int → World → Prop) : vcgF tab Try.prog Try.f61 h61 [(.pointer a0)] (.one (.one (.int .i64))) K = F61 a0 K := by kernel_rfl
theorem F61_calls {a0 : Option Addr} {K : Int → World → Prop} {w : World} (h : F61 a0 K w) : callT Try.prog 61 #[(.pointer a0)] (.one (.one (.int .i64))) K w :=
  vcgF_sound tabOk Try.func61 h61 [(.pointer a0)] (.one (.one (.int .i64))) K w (Eq.mpr (congrFun (F61_tie a0 K) w) h)

/-- (*copyist/disk.Disk).Append$2 -/
noncomputable def F62 (v0 : Addr) (v1 : Addr) (K : Int → World → Prop) : World → Prop :=
  ld (.any) v0 fun (x1 : Value) =>
  ld (.sl) v1 fun (x2 : Sl) =>
  callX Try.prog (do let d ← Deferred.ofValue x1 #[(.slice x2.a x2.len x2.cap)]; invoke d.target d.args : Sem Next) (.one (.one (.int .i64))) fun (x3 : Int) =>
  K x3
noncomputable def h62 : Hint := (.seq none (.region [] (.ops 1 .done)) (.seq none (.region [] (.ops 4 .done)) .leaf))
theorem F62_tie (v0 : Addr) (v1 : Addr) (K : Int → World → Prop) : vcgF tab Try.prog Try.f62 h62 [(.pointer (some v0)), (.pointer (some v1))] (.one (.one (.int .i64))) K = F62 v0 v1 K := by kernel_rfl
theorem F62_calls {v0 : Addr} {v1 : Addr} {K : Int → World → Prop} {w : World} (h : F62 v0 v1 K w) : callT Try.prog 62 #[(.pointer (some v0)), (.pointer (some v1))] (.one (.one (.int .i64))) K w :=
  vcgF_sound tabOk Try.func62 h62 [(.pointer (some v0)), (.pointer (some v1))] (.one (.one (.int .i64))) K w (Eq.mpr (congrFun (F62_tie v0 v1 K) w) h)

/-- (*copyist/disk.Disk).Append$3 -/
noncomputable def F63 (a0 : Int) (v0 : Addr) (v1 : Addr) (K : Int → World → Prop) : World → Prop :=
  drew <|
  ld (.any) v0 fun (x1 : Value) =>
  ld (.sl) v1 fun (x2 : Sl) =>
  ld (.sl) v1 fun (x3 : Sl) =>
  slc x2.a 0 (if ((x3.len : Nat) : Int) < (if (0 : Int) > a0 then (0 : Int) else a0) then ((x3.len : Nat) : Int) else (if (0 : Int) > a0 then (0 : Int) else a0)) ((x2.cap : Nat) : Int) x2.cap 1 fun x4 =>
  callX Try.prog (do let d ← Deferred.ofValue x1 #[(.slice x4.a x4.len x4.cap)]; invoke d.target d.args : Sem Next) (.one (.one (.int .i64))) fun (x5 : Int) =>
  join (S := Bool × Unit) (fun J6 =>
    sif (x5 != (0 : Int)) (
      J6 ((x5 != (161 : Int)), ())) (
      J6 (false, ()))) fun (s7 : Bool × Unit) =>
  sif s7.1 (
    K x5) (
    K (160 : Int))
noncomputable def h63 : Hint := (.seq none (.region [] (.ops 1 .done)) (.seq none (.seq none (.region [0, 1, 2, 3, 4, 5, 6, 7, 8, 9] (.ops 10 .done)) (.seq (some (2064384, [(20, (.one .bool))])) (.region [] (.ops 3 (.split 17 (.ops 3 .done) (.skips 2 (.ops 1 .done))))) (.cond none (.seq none (.region [] (.ops 2 .done)) .leaf) .leaf))) (.seq none (.region [] (.ops 1 .done)) .leaf)))
theorem F63_tie (a0 : Int) (v0 : Addr) (v1 : Addr) (K : Int → World → Prop) : vcgF tab Try.prog Try.f63 h63 [(.int .i64 a0), (.pointer (some v0)), (.pointer (some v1))] (.one (.one (.int .i64))) K = F63 a0 v0 v1 K := by kernel_rfl
theorem F63_calls {a0 : Int} {v0 : Addr} {v1 : Addr} {K : Int → World → Prop} {w : World} (h : F63 a0 v0 v1 K w) : callT Try.prog 63 #[(.int .i64 a0), (.pointer (some v0)), (.pointer (some v1))] (.one (.one (.int .i64))) K w :=
  vcgF_sound tabOk Try.func63 h63 [(.int .i64 a0), (.pointer (some v0)), (.pointer (some v1))] (.one (.one (.int .i64))) K w (Eq.mpr (congrFun (F63_tie a0 v0 v1 K) w) h)

/-- (*copyist/disk.Disk).SyncDir$1 -/
noncomputable def F64 (v0 : Addr) (K : Int → World → Prop) : World → Prop :=
  ld (.ptr) v0 fun (x1 : Option Addr) =>
  callT Try.prog 36 #[(.pointer x1)] (.tup []) fun (x2 : (Unit)) =>
  K (0 : Int)
noncomputable def h64 : Hint := (.seq none (.region [] (.ops 1 .done)) (.seq none (.region [] (.ops 2 .done)) (.seq none (.region [] (.ops 1 .done)) .leaf)))
theorem F64_tie (v0 : Addr) (K : Int → World → Prop) : vcgF tab Try.prog Try.f64 h64 [(.pointer (some v0))] (.one (.one (.int .i64))) K = F64 v0 K := by kernel_rfl
theorem F64_calls {v0 : Addr} {K : Int → World → Prop} {w : World} (h : F64 v0 K w) : callT Try.prog 64 #[(.pointer (some v0))] (.one (.one (.int .i64))) K w :=
  vcgF_sound tabOk Try.func64 h64 [(.pointer (some v0))] (.one (.one (.int .i64))) K w (Eq.mpr (congrFun (F64_tie v0 K) w) h)

/-- (*copyist/copyistref16.Disk).Seen -/
noncomputable def F65 (a0 : Option Addr) (K : Sl → World → Prop) : World → Prop :=
  nn a0 fun p1 =>
  ld (.sl) (p1.add 3) fun (x2 : Sl) =>
  callT Try.prog 70 #[(.pointer a0), (.int .i64 ((x2.len : Nat) : Int))] (.one (.one .sl)) fun (x3 : Sl) =>
  K x3
noncomputable def h65 : Hint := (.seq none (.region [] (.ops 1 .done)) (.seq none (.region [] (.ops 8 .done)) .leaf))
theorem F65_tie (a0 : Option Addr) (K : Sl → World → Prop) : vcgF tab Try.prog Try.f65 h65 [(.pointer a0)] (.one (.one .sl)) K = F65 a0 K := by kernel_rfl
theorem F65_calls {a0 : Option Addr} {K : Sl → World → Prop} {w : World} (h : F65 a0 K w) : callT Try.prog 65 #[(.pointer a0)] (.one (.one .sl)) K w :=
  vcgF_sound tabOk Try.func65 h65 [(.pointer a0)] (.one (.one .sl)) K w (Eq.mpr (congrFun (F65_tie a0 K) w) h)

/-- copyist/copyistref16.IsName -/
noncomputable def F66 (a0 : ByteArray) (K : Bool → World → Prop) : World → Prop :=
  join (S := Bool × Unit) (fun J1 =>
    sif (decide (((ByteArray.size a0 : Nat) : Int) < (1 : Int))) (
      J1 (true, ())) (
      J1 ((decide (((ByteArray.size a0 : Nat) : Int) > (32 : Int))), ()))) fun (s2 : Bool × Unit) =>
  sif s2.1 (
    K false) (
    join (S := Unit) (fun J3 =>
      sloop (S := Int × Unit) (fun (s5 : Int × Unit) again6 =>
        sif (decide (s5.1 < ((ByteArray.size a0 : Nat) : Int))) (
          sidx a0 s5.1 fun b7 =>
          join (S := Bool × Unit) (fun J8 =>
            sif (decide (((b7.toNat : Nat) : Int) ≥ (97 : Int))) (
              sif (decide (((b7.toNat : Nat) : Int) ≤ (122 : Int))) (
                J8 (true, ())) (
                sif (decide (((b7.toNat : Nat) : Int) ≥ (65 : Int))) (
                  sif (decide (((b7.toNat : Nat) : Int) ≤ (90 : Int))) (
                    J8 (true, ())) (
                    sif (decide (((b7.toNat : Nat) : Int) ≥ (48 : Int))) (
                      sif (decide (((b7.toNat : Nat) : Int) ≤ (57 : Int))) (
                        J8 (true, ())) (
                        sif (((b7.toNat : Nat) : Int) == (46 : Int)) (
                          J8 (true, ())) (
                          sif (((b7.toNat : Nat) : Int) == (95 : Int)) (
                            J8 (true, ())) (
                            sif (((b7.toNat : Nat) : Int) == (45 : Int)) (
                              J8 (true, ())) (
                              J8 ((((b7.toNat : Nat) : Int) == (126 : Int)), ())))))) (
                      sif (((b7.toNat : Nat) : Int) == (46 : Int)) (
                        J8 (true, ())) (
                        sif (((b7.toNat : Nat) : Int) == (95 : Int)) (
                          J8 (true, ())) (
                          sif (((b7.toNat : Nat) : Int) == (45 : Int)) (
                            J8 (true, ())) (
                            J8 ((((b7.toNat : Nat) : Int) == (126 : Int)), ()))))))) (
                  sif (decide (((b7.toNat : Nat) : Int) ≥ (48 : Int))) (
                    sif (decide (((b7.toNat : Nat) : Int) ≤ (57 : Int))) (
                      J8 (true, ())) (
                      sif (((b7.toNat : Nat) : Int) == (46 : Int)) (
                        J8 (true, ())) (
                        sif (((b7.toNat : Nat) : Int) == (95 : Int)) (
                          J8 (true, ())) (
                          sif (((b7.toNat : Nat) : Int) == (45 : Int)) (
                            J8 (true, ())) (
                            J8 ((((b7.toNat : Nat) : Int) == (126 : Int)), ())))))) (
                    sif (((b7.toNat : Nat) : Int) == (46 : Int)) (
                      J8 (true, ())) (
                      sif (((b7.toNat : Nat) : Int) == (95 : Int)) (
                        J8 (true, ())) (
                        sif (((b7.toNat : Nat) : Int) == (45 : Int)) (
                          J8 (true, ())) (
                          J8 ((((b7.toNat : Nat) : Int) == (126 : Int)), ())))))))) (
              sif (decide (((b7.toNat : Nat) : Int) ≥ (65 : Int))) (
                sif (decide (((b7.toNat : Nat) : Int) ≤ (90 : Int))) (
                  J8 (true, ())) (
                  sif (decide (((b7.toNat : Nat) : Int) ≥ (48 : Int))) (
                    sif (decide (((b7.toNat : Nat) : Int) ≤ (57 : Int))) (
                      J8 (true, ())) (
                      sif (((b7.toNat : Nat) : Int) == (46 : Int)) (
                        J8 (true, ())) (
                        sif (((b7.toNat : Nat) : Int) == (95 : Int)) (
                          J8 (true, ())) (
                          sif (((b7.toNat : Nat) : Int) == (45 : Int)) (
                            J8 (true, ())) (
                            J8 ((((b7.toNat : Nat) : Int) == (126 : Int)), ())))))) (
                    sif (((b7.toNat : Nat) : Int) == (46 : Int)) (
                      J8 (true, ())) (
                      sif (((b7.toNat : Nat) : Int) == (95 : Int)) (
                        J8 (true, ())) (
                        sif (((b7.toNat : Nat) : Int) == (45 : Int)) (
                          J8 (true, ())) (
                          J8 ((((b7.toNat : Nat) : Int) == (126 : Int)), ()))))))) (
                sif (decide (((b7.toNat : Nat) : Int) ≥ (48 : Int))) (
                  sif (decide (((b7.toNat : Nat) : Int) ≤ (57 : Int))) (
                    J8 (true, ())) (
                    sif (((b7.toNat : Nat) : Int) == (46 : Int)) (
                      J8 (true, ())) (
                      sif (((b7.toNat : Nat) : Int) == (95 : Int)) (
                        J8 (true, ())) (
                        sif (((b7.toNat : Nat) : Int) == (45 : Int)) (
                          J8 (true, ())) (
                          J8 ((((b7.toNat : Nat) : Int) == (126 : Int)), ())))))) (
                  sif (((b7.toNat : Nat) : Int) == (46 : Int)) (
                    J8 (true, ())) (
                    sif (((b7.toNat : Nat) : Int) == (95 : Int)) (
                      J8 (true, ())) (
                      sif (((b7.toNat : Nat) : Int) == (45 : Int)) (
                        J8 (true, ())) (
                        J8 ((((b7.toNat : Nat) : Int) == (126 : Int)), ())))))))) fun (s9 : Bool × Unit) =>
          sif (!s9.1) (
            K false) (
            again6 ((IntKind.wrap .i64 (s5.1 + (1 : Int))), ()))) (
          J3 ())) ((0 : Int), ())) fun (s4 : Unit) =>
    K true)
noncomputable def h66 : Hint := (.seq none (.region [] (.ops 1 .done)) (.seq none (.seq (some (16320, [(13, (.one .bool))])) (.region [] (.ops 4 (.split 9 (.skips 3 (.ops 1 .done)) (.ops 4 .done)))) (.cond none (.seq none (.region [] (.ops 1 .done)) .leaf) .leaf)) (.seq (some (9223372036854759484, [])) (.seq none (.region [] (.ops 1 .done)) (.block (.loop 9223372036854759484 [(3, (.one (.int .i64)))] (.seq none (.seq none (.region [] (.ops 4 .done)) (.cond none .leaf .leaf)) (.seq none (.block (.seq none (.region [] (.ops 4 .done)) (.seq (some (2305843009205305376, [(5, (.one .bool))])) (.region [] (.ops 3 (.split 25 (.ops 4 (.split 29 (.skips 6 (.ops 2 (.skips 6 (.ops 2 (.skips 2 (.ops 2 (.skips 2 (.ops 2 (.skips 2 (.ops 2 (.skips 2 (.ops 2 .done)))))))))))) (.ops 3 (.split 32 (.ops 5 (.split 37 (.skips 6 (.ops 2 (.skips 2 (.ops 2 (.skips 2 (.ops 2 (.skips 2 (.ops 2 (.skips 2 (.ops 2 .done)))))))))) (.ops 3 (.split 40 (.ops 5 (.split 45 (.skips 2 (.ops 2 (.skips 2 (.ops 2 (.skips 2 (.ops 2 (.skips 2 (.ops 2 .done)))))))) (.ops 4 (.split 49 (.skips 2 (.ops 2 (.skips 2 (.ops 2 (.skips 2 (.ops 2 .done)))))) (.ops 4 (.split 53 (.skips 2 (.ops 2 (.skips 2 (.ops 2 .done)))) (.ops 4 (.split 57 (.skips 2 (.ops 2 .done)) (.ops 4 .done))))))))) (.skips 2 (.ops 7 (.split 49 (.skips 2 (.ops 2 (.skips 2 (.ops 2 (.skips 2 (.ops 2 .done)))))) (.ops 4 (.split 53 (.skips 2 (.ops 2 (.skips 2 (.ops 2 .done)))) (.ops 4 (.split 57 (.skips 2 (.ops 2 .done)) (.ops 4 .done)))))))))))) (.skips 2 (.ops 6 (.split 40 (.ops 5 (.split 45 (.skips 2 (.ops 2 (.skips 2 (.ops 2 (.skips 2 (.ops 2 (.skips 2 (.ops 2 .done)))))))) (.ops 4 (.split 49 (.skips 2 (.ops 2 (.skips 2 (.ops 2 (.skips 2 (.ops 2 .done)))))) (.ops 4 (.split 53 (.skips 2 (.ops 2 (.skips 2 (.ops 2 .done)))) (.ops 4 (.split 57 (.skips 2 (.ops 2 .done)) (.ops 4 .done))))))))) (.skips 2 (.ops 7 (.split 49 (.skips 2 (.ops 2 (.skips 2 (.ops 2 (.skips 2 (.ops 2 .done)))))) (.ops 4 (.split 53 (.skips 2 (.ops 2 (.skips 2 (.ops 2 .done)))) (.ops 4 (.split 57 (.skips 2 (.ops 2 .done)) (.ops 4 .done))))))))))))))) (.skips 2 (.ops 5 (.split 32 (.ops 5 (.split 37 (.skips 6 (.ops 2 (.skips 2 (.ops 2 (.skips 2 (.ops 2 (.skips 2 (.ops 2 (.skips 2 (.ops 2 .done)))))))))) (.ops 3 (.split 40 (.ops 5 (.split 45 (.skips 2 (.ops 2 (.skips 2 (.ops 2 (.skips 2 (.ops 2 (.skips 2 (.ops 2 .done)))))))) (.ops 4 (.split 49 (.skips 2 (.ops 2 (.skips 2 (.ops 2 (.skips 2 (.ops 2 .done)))))) (.ops 4 (.split 53 (.skips 2 (.ops 2 (.skips 2 (.ops 2 .done)))) (.ops 4 (.split 57 (.skips 2 (.ops 2 .done)) (.ops 4 .done))))))))) (.skips 2 (.ops 7 (.split 49 (.skips 2 (.ops 2 (.skips 2 (.ops 2 (.skips 2 (.ops 2 .done)))))) (.ops 4 (.split 53 (.skips 2 (.ops 2 (.skips 2 (.ops 2 .done)))) (.ops 4 (.split 57 (.skips 2 (.ops 2 .done)) (.ops 4 .done)))))))))))) (.skips 2 (.ops 6 (.split 40 (.ops 5 (.split 45 (.skips 2 (.ops 2 (.skips 2 (.ops 2 (.skips 2 (.ops 2 (.skips 2 (.ops 2 .done)))))))) (.ops 4 (.split 49 (.skips 2 (.ops 2 (.skips 2 (.ops 2 (.skips 2 (.ops 2 .done)))))) (.ops 4 (.split 53 (.skips 2 (.ops 2 (.skips 2 (.ops 2 .done)))) (.ops 4 (.split 57 (.skips 2 (.ops 2 .done)) (.ops 4 .done))))))))) (.skips 2 (.ops 7 (.split 49 (.skips 2 (.ops 2 (.skips 2 (.ops 2 (.skips 2 (.ops 2 .done)))))) (.ops 4 (.split 53 (.skips 2 (.ops 2 (.skips 2 (.ops 2 .done)))) (.ops 4 (.split 57 (.skips 2 (.ops 2 .done)) (.ops 4 .done))))))))))))))))) (.seq none (.region [] (.ops 2 .done)) (.cond none (.seq none (.region [] (.ops 1 .done)) .leaf) .leaf))))) (.region [] (.ops 3 .done))))))) (.seq none (.region [] (.ops 1 .done)) .leaf))))
theorem F66_tie (a0 : ByteArray) (K : Bool → World → Prop) : vcgF tab Try.prog Try.f66 h66 [(.string a0)] (.one (.one .bool)) K = F66 a0 K := by kernel_rfl
theorem F66_calls {a0 : ByteArray} {K : Bool → World → Prop} {w : World} (h : F66 a0 K w) : callT Try.prog 66 #[(.string a0)] (.one (.one .bool)) K w :=
  vcgF_sound tabOk Try.func66 h66 [(.string a0)] (.one (.one .bool)) K w (Eq.mpr (congrFun (F66_tie a0 K) w) h)

/-- (*copyist/copyistref16.Disk).file -/
noncomputable def F67 (a0 : Option Addr) (a1 : ByteArray) (K : Int → World → Prop) : World → Prop :=
  callT Try.prog 65 #[(.pointer a0)] (.one (.one .sl)) fun (x1 : Sl) =>
  join (S := Unit) (fun J2 =>
    sloop (S := Int × Unit) (fun (s4 : Int × Unit) again5 =>
      sif (decide (s4.1 < ((x1.len : Nat) : Int))) (
        ix x1.a x1.len s4.1 fun p6 =>
        ld (.str) (p6.add (scaled (Int.toNat s4.1) 2)) fun (x7 : ByteArray) =>
        sif (ByteArray.toList x7 == ByteArray.toList a1) (
          ix x1.a x1.len s4.1 fun p8 =>
          ld (.int .i64) ((p8.add (scaled (Int.toNat s4.1) 2)).add 1) fun (x9 : Int) =>
          K x9) (
          again5 ((IntKind.wrap .i64 (s4.1 + (1 : Int))), ()))) (
        J2 ())) ((0 : Int), ())) fun (s3 : Unit) =>
  K (0 : Int)
noncomputable def h67 : Hint := (.seq none (.region [] (.ops 1 .done)) (.seq none (.region [] (.ops 3 .done)) (.seq (some (134217296, [])) (.seq none (.region [] (.ops 1 .done)) (.block (.loop 134217296 [(6, (.one (.int .i64)))] (.seq none (.seq none (.region [] (.ops 4 .done)) (.cond none .leaf .leaf)) (.seq none (.block (.seq none (.region [] (.ops 7 .done)) (.cond none (.seq none (.region [] (.ops 6 .done)) .leaf) .leaf))) (.region [] (.ops 3 .done))))))) (.seq none (.region [] (.ops 1 .done)) .leaf))))
theorem F67_tie (a0 : Option Addr) (a1 : ByteArray) (K : Int → World → Prop) : vcgF tab Try.prog Try.f67 h67 [(.pointer a0), (.string a1)] (.one (.one (.int .i64))) K = F67 a0 a1 K := by kernel_rfl
theorem F67_calls {a0 : Option Addr} {a1 : ByteArray} {K : Int → World → Prop} {w : World} (h : F67 a0 a1 K w) : callT Try.prog 67 #[(.pointer a0), (.string a1)] (.one (.one (.int .i64))) K w :=
  vcgF_sound tabOk Try.func67 h67 [(.pointer a0), (.string a1)] (.one (.one (.int .i64))) K w (Eq.mpr (congrFun (F67_tie a0 a1 K) w) h)

/-- (*copyist/copyistref16.Disk).fresh -/
noncomputable def F68 (a0 : Option Addr) (K : Int → World → Prop) : World → Prop :=
  nn a0 fun p1 =>
  ld (.sl) (p1.add 1) fun (x2 : Sl) =>
  newO (.cells #[(.slice none 0 0), (.int .i64 (0 : Int)), (.int .i64 (0 : Int))] 130) fun b3 =>
  rawT Try.prog (.one (.one .sl)) (Builtin.append_ #[80, 80] 80 #[(.slice x2.a x2.len x2.cap), (.slice (some (at0 b3)) 1 1)]) fun (x4 : Sl) =>
  nn a0 fun p5 =>
  stC (p5.add 1) (.slice x4.a x4.len x4.cap) <|
  nn a0 fun p6 =>
  ld (.sl) (p6.add 1) fun (x7 : Sl) =>
  K ((x7.len : Nat) : Int)
noncomputable def h68 : Hint := (.seq none (.region [] (.ops 1 .done)) (.seq none (.region [] (.ops 11 .done)) (.seq none (.region [] (.ops 6 .done)) .leaf)))
theorem F68_tie (a0 : Option Addr) (K : Int → World → Prop) : vcgF tab Try.prog Try.f68 h68 [(.pointer a0)] (.one (.one (.int .i64))) K = F68 a0 K := by kernel_rfl
theorem F68_calls {a0 : Option Addr} {K : Int → World → Prop} {w : World} (h : F68 a0 K w) : callT Try.prog 68 #[(.pointer a0)] (.one (.one (.int .i64))) K w :=
  vcgF_sound tabOk Try.func68 h68 [(.pointer a0)] (.one (.one (.int .i64))) K w (Eq.mpr (congrFun (F68_tie a0 K) w) h)

/-- (*copyist/copyistref16.Disk).put -/
noncomputable def F69 (a0 : Option Addr) (a1 : Int) (a2 : Sl) (K : (Int × Sl × Int × Int × Int × Int × Int × Unit) → World → Prop) : World → Prop :=
  newO (.cells #[(.int .i64 (0 : Int)), (.slice none 0 0), (.int .i64 (0 : Int)), (.int .i64 (0 : Int)), (.int .i64 (0 : Int)), (.int .i64 (0 : Int)), (.int .i64 (0 : Int))] 43) fun b1 =>
  drew <|
  nn a0 fun p2 =>
  ld (.int .i64) p2 fun (x3 : Int) =>
  callT Try.prog 78 #[(.pointer a0)] (.one (.one (.int .i64))) fun (x4 : Int) =>
  keep (fun w => w.cell? p2 = some (Cell.val (.int .i64) x3)) <|
  join (S := Unit) (fun J5 =>
    sloop (S := Int × Unit) (fun (s7 : Int × Unit) again8 =>
      sif (decide (s7.1 < (if (if (IntKind.wrap .i64 (x3 - x4)) > (0 : Int) then (IntKind.wrap .i64 (x3 - x4)) else (0 : Int)) < ((a2.len : Nat) : Int) then (if (IntKind.wrap .i64 (x3 - x4)) > (0 : Int) then (IntKind.wrap .i64 (x3 - x4)) else (0 : Int)) else ((a2.len : Nat) : Int)))) (
        drew <|
        nn a0 fun p9 =>
        ld (.sl) (p9.add 1) fun (x10 : Sl) =>
        nn a0 fun p11 =>
        ld (.sl) (p11.add 1) fun (x12 : Sl) =>
        ix x12.a x12.len (IntKind.wrap .i64 (a1 - (1 : Int))) fun p13 =>
        ld (.sl) (p13.add (scaled (Int.toNat (IntKind.wrap .i64 (a1 - (1 : Int)))) 3)) fun (x14 : Sl) =>
        ix a2.a a2.len s7.1 fun p15 =>
        ld (.int .u8) (p15.add (scaled (Int.toNat s7.1) 1)) fun (x16 : Int) =>
        newO (.cells #[(.int .u8 x16)] 5) fun b17 =>
        keep (fun w => w.cell? (p13.add (scaled (Int.toNat (IntKind.wrap .i64 (a1 - (1 : Int)))) 3)) = some (Cell.val (.sl) x14)) <|
        keep (fun w => w.cell? (p11.add 1) = some (Cell.val (.sl) x12)) <|
        keep (fun w => w.cell? (p9.add 1) = some (Cell.val (.sl) x10)) <|
        rawT Try.prog (.one (.one .sl)) (Builtin.append_ #[33, 33] 33 #[(.slice x14.a x14.len x14.cap), (.slice (some (at0 b17)) 1 1)]) fun (x18 : Sl) =>
        keep (fun w => w.cell? (p9.add 1) = some (Cell.val (.sl) x10)) <|
        ix x10.a x10.len (IntKind.wrap .i64 (a1 - (1 : Int))) fun p19 =>
        stC (p19.add (scaled (Int.toNat (IntKind.wrap .i64 (a1 - (1 : Int)))) 3)) (.slice x18.a x18.len x18.cap) <|
        again8 ((IntKind.wrap .i64 (s7.1 + (1 : Int))), ())) (
        J5 ())) ((0 : Int), ())) fun (s6 : Unit) =>
  join (S := Unit) (fun J20 =>
    sif (decide ((if (if (IntKind.wrap .i64 (x3 - x4)) > (0 : Int) then (IntKind.wrap .i64 (x3 - x4)) else (0 : Int)) < ((a2.len : Nat) : Int) then (if (IntKind.wrap .i64 (x3 - x4)) > (0 : Int) then (IntKind.wrap .i64 (x3 - x4)) else (0 : Int)) else ((a2.len : Nat) : Int)) > (0 : Int))) (
      nn a0 fun p22 =>
      ld (.sl) (p22.add 1) fun (x23 : Sl) =>
      ix x23.a x23.len (IntKind.wrap .i64 (a1 - (1 : Int))) fun p24 =>
      ld (.int .i64) ((p24.add (scaled (Int.toNat (IntKind.wrap .i64 (a1 - (1 : Int)))) 3)).add 2) fun (x25 : Int) =>
      ix x23.a x23.len (IntKind.wrap .i64 (a1 - (1 : Int))) fun p26 =>
      stC ((p26.add (scaled (Int.toNat (IntKind.wrap .i64 (a1 - (1 : Int)))) 3)).add 2) (.int .i64 (IntKind.wrap .i64 (x25 + (1 : Int)))) <|
      J20 ()) (
      J20 ())) fun (s21 : Unit) =>
  sif (decide ((if (if (IntKind.wrap .i64 (x3 - x4)) > (0 : Int) then (IntKind.wrap .i64 (x3 - x4)) else (0 : Int)) < ((a2.len : Nat) : Int) then (if (IntKind.wrap .i64 (x3 - x4)) > (0 : Int) then (IntKind.wrap .i64 (x3 - x4)) else (0 : Int)) else ((a2.len : Nat) : Int)) < ((a2.len : Nat) : Int))) (
    aggSt (at0 b1) (.agg #[(.int .i64 (if (if (IntKind.wrap .i64 (x3 - x4)) > (0 : Int) then (IntKind.wrap .i64 (x3 - x4)) else (0 : Int)) < ((a2.len : Nat) : Int) then (if (IntKind.wrap .i64 (x3 - x4)) > (0 : Int) then (IntKind.wrap .i64 (x3 - x4)) else (0 : Int)) else ((a2.len : Nat) : Int))), (.slice none 0 0), (.int .i64 (0 : Int)), (.int .i64 (0 : Int)), (.int .i64 (0 : Int)), (.int .i64 (161 : Int)), (.int .i64 (0 : Int))]) 7 <|
    lds c43 (at0 b1) fun (x27 : (Int × Sl × Int × Int × Int × Int × Int × Unit)) =>
    K x27) (
    aggSt (at0 b1) (.agg #[(.int .i64 (if (if (IntKind.wrap .i64 (x3 - x4)) > (0 : Int) then (IntKind.wrap .i64 (x3 - x4)) else (0 : Int)) < ((a2.len : Nat) : Int) then (if (IntKind.wrap .i64 (x3 - x4)) > (0 : Int) then (IntKind.wrap .i64 (x3 - x4)) else (0 : Int)) else ((a2.len : Nat) : Int))), (.slice none 0 0), (.int .i64 (0 : Int)), (.int .i64 (0 : Int)), (.int .i64 (0 : Int)), (.int .i64 (0 : Int)), (.int .i64 (0 : Int))]) 7 <|
    lds c43 (at0 b1) fun (x28 : (Int × Sl × Int × Int × Int × Int × Int × Unit)) =>
    K x28)
noncomputable def h69 : Hint := (.seq none (.region [] (.ops 1 .done)) (.seq none (.region [0, 1, 2, 3, 4, 5, 6, 7, 8, 9, 10, 11] (.ops 12 .done)) (.seq (some (281474975662336, [])) (.seq none (.region [] (.ops 1 .done)) (.block (.loop 281474975662336 [(8, (.one (.int .i64)))] (.seq none (.seq none (.region [] (.ops 3 .done)) (.cond none .leaf .leaf)) (.seq none (.block (.region [0, 1, 2, 3, 4, 5, 6, 7, 8, 9, 10, 11, 12, 13, 14, 15, 16, 17, 18, 19, 20, 21, 22, 23] (.ops 24 .done))) (.region [] (.ops 3 .done))))))) (.seq (some (4611404543450677248, [])) (.seq none (.region [] (.ops 2 .done)) (.cond none (.region [] (.ops 13 .done)) .leaf)) (.seq none (.seq none (.region [] (.ops 4 .done)) (.cond none (.seq none (.region [] (.ops 3 .done)) .leaf) .leaf)) (.seq none (.region [] (.ops 3 .done)) .leaf))))))
theorem F69_tie (a0 : Option Addr) (a1 : Int) (a2 : Sl) (K : (Int × Sl × Int × Int × Int × Int × Int × Unit) → World → Prop) : vcgF tab Try.prog Try.f69 h69 [(.pointer a0), (.int .i64 a1), (.slice a2.a a2.len a2.cap)] (.one (.agg c43)) K = F69 a0 a1 a2 K := by kernel_rfl
theorem F69_calls {a0 : Option Addr} {a1 : Int} {a2 : Sl} {K : (Int × Sl × Int × Int × Int × Int × Int × Unit) → World → Prop} {w : World} (h : F69 a0 a1 a2 K w) : callT Try.prog 69 #[(.pointer a0), (.int .i64 a1), (.slice a2.a a2.len a2.cap)] (.one (.agg c43)) K w :=
  vcgF_sound tabOk Try.func69 h69 [(.pointer a0), (.int .i64 a1), (.slice a2.a a2.len a2.cap)] (.one (.agg c43)) K w (Eq.mpr (congrFun (F69_tie a0 a1 a2 K) w) h)

/-- (*copyist/copyistref16.Disk).after -/
noncomputable def F70 (a0 : Option Addr) (a1 : Int) (K : Sl → World → Prop) : World → Prop :=
  nn a0 fun p1 =>
  ld (.sl) (p1.add 2) fun (x2 : Sl) =>
  join (S := Sl × Unit) (fun J3 =>
    sloop (S := Sl × Int × Unit) (fun (s5 : Sl × Int × Unit) again6 =>
      join (S := Bool × Unit) (fun J7 =>
        sif (decide (s5.2.1 < a1)) (
          nn a0 fun p9 =>
          ld (.sl) (p9.add 3) fun (x10 : Sl) =>
          J7 ((decide (s5.2.1 < ((x10.len : Nat) : Int))), ())) (
          J7 (false, ()))) fun (s8 : Bool × Unit) =>
      sif s8.1 (
        join (S := Sl × Unit) (fun J11 =>
          nn a0 fun p13 =>
          ld (.sl) (p13.add 3) fun (x14 : Sl) =>
          ix x14.a x14.len s5.2.1 fun p15 =>
          lds c127 (p15.add (scaled (Int.toNat s5.2.1) 3)) fun (x16 : (ByteArray × ByteArray × Int × Unit)) =>
          newO (.cells #[(.string { data := #[] }), (.string { data := #[] }), (.int .i64 (0 : Int))] 127) fun b17 =>
          aggSt (at0 b17) (.agg (Cells.vals c127 x16).toArray) 3 <|
          join (S := Sl × Unit) (fun J18 =>
            ld (.str) (at0 b17) fun (x20 : ByteArray) =>
            sif (!(ByteArray.toList x20 == ByteArray.toList ({ data := #[] }))) (
              ld (.str) (at0 b17) fun (x21 : ByteArray) =>
              callT Try.prog 79 #[(.slice s5.1.a s5.1.len s5.1.cap), (.string x21)] (.one (.one .sl)) fun (x22 : Sl) =>
              J18 (x22, ())) (
              J18 (s5.1, ()))) fun (s19 : Sl × Unit) =>
          ld (.str) (⟨b17, 1, none⟩ : Addr) fun (x23 : ByteArray) =>
          sif (!(ByteArray.toList x23 == ByteArray.toList ({ data := #[] }))) (
            ld (.str) (⟨b17, 1, none⟩ : Addr) fun (x24 : ByteArray) =>
            ld (.int .i64) (⟨b17, 2, none⟩ : Addr) fun (x25 : Int) =>
            callT Try.prog 80 #[(.slice s19.1.a s19.1.len s19.1.cap), (.string x24), (.int .i64 x25)] (.one (.one .sl)) fun (x26 : Sl) =>
            J11 (x26, ())) (
            J11 (s19.1, ()))) fun (s12 : Sl × Unit) =>
        again6 (s12.1, (IntKind.wrap .i64 (s5.2.1 + (1 : Int))), ())) (
        J3 (s5.1, ()))) (x2, (0 : Int), ())) fun (s4 : Sl × Unit) =>
  K s4.1
noncomputable def h70 : Hint := (.seq none (.region [] (.ops 1 .done)) (.seq none (.region [] (.ops 5 .done)) (.seq (some (562949953417440, [(5, (.one .sl))])) (.seq none (.region [] (.ops 1 .done)) (.block (.loop 562949953417440 [(5, (.one .sl)), (6, (.one (.int .i64)))] (.seq none (.seq (some (16773120, [(23, (.one .bool))])) (.region [] (.ops 4 (.split 15 (.ops 8 .done) (.skips 7 (.ops 1 .done))))) (.cond none .leaf .leaf)) (.seq (some (562949886312608, [(5, (.one .sl))])) (.block (.seq none (.region [] (.ops 9 .done)) (.seq (some (1090921693216, [(5, (.one .sl))])) (.seq none (.region [] (.ops 3 .done)) (.cond none (.region [] (.ops 5 .done)) .leaf)) (.seq none (.region [] (.ops 3 .done)) (.cond none (.region [] (.ops 7 .done)) .leaf))))) (.region [] (.ops 3 .done))))))) (.seq none (.region [] (.ops 2 .done)) .leaf))))
theorem F70_tie (a0 : Option Addr) (a1 : Int) (K : Sl → World → Prop) : vcgF tab Try.prog Try.f70 h70 [(.pointer a0), (.int .i64 a1)] (.one (.one .sl)) K = F70 a0 a1 K := by kernel_rfl
theorem F70_calls {a0 : Option Addr} {a1 : Int} {K : Sl → World → Prop} {w : World} (h : F70 a0 a1 K w) : callT Try.prog 70 #[(.pointer a0), (.int .i64 a1)] (.one (.one .sl)) K w :=
  vcgF_sound tabOk Try.func70 h70 [(.pointer a0), (.int .i64 a1)] (.one (.one .sl)) K w (Eq.mpr (congrFun (F70_tie a0 a1 K) w) h)

/-- (*copyist/disk.Disk).Make$1 -/
noncomputable def F71 (v0 : Addr) (v1 : Addr) (K : Int → World → Prop) : World → Prop :=
  ld (.ptr) v0 fun (x1 : Option Addr) =>
  ld (.str) v1 fun (x2 : ByteArray) =>
  callT Try.prog 41 #[(.pointer x1), (.string x2)] (.tup [(.agg c102), (.one (.int .i64))]) fun (x3 : ((Option Addr × ByteArray × Unit) × Int × Unit)) =>
  newO (.cells #[(.pointer none), (.string { data := #[] })] 102) fun b4 =>
  aggSt (at0 b4) (.agg (Cells.vals c102 x3.1).toArray) 2 <|
  sif (x3.2.1 == (164 : Int)) (
    K x3.2.1) (
    sif (x3.2.1 == (0 : Int)) (
      K (163 : Int)) (
      ld (.ptr) v0 fun (x5 : Option Addr) =>
      nn x5 fun p6 =>
      ld (.map) (p6.add 1) fun (x7 : Option Nat) =>
      rdN Try.prog (Builtin.len_ #[87] 3 #[(.map x7)]) fun x8 =>
      sif (decide (x8 ≥ (16 : Int))) (
        K (161 : Int)) (
        ld (.ptr) v0 fun (x9 : Option Addr) =>
        callT Try.prog 35 #[(.pointer x9)] (.one (.one .ptr)) fun (x10 : Option Addr) =>
        newO (.cells #[(.pointer none)] 85) fun b11 =>
        stC (at0 b11) (.pointer x10) <|
        ld (.ptr) v0 fun (x12 : Option Addr) =>
        callT Try.prog 43 #[(.pointer x12), (.func (Fn.func 72) #[] #[(.pointer (some (at0 b11))), (.pointer (some v1))])] (.tup []) fun (x13 : (Unit)) =>
        K (0 : Int))))
noncomputable def h71 : Hint := (.seq none (.region [] (.ops 1 .done)) (.seq none (.seq none (.region [] (.ops 9 .done)) (.block (.seq none (.region [] (.ops 3 .done)) (.cond none (.seq none (.region [] (.ops 2 .done)) .leaf) (.seq none (.region [] (.ops 3 .done)) (.cond none (.seq none (.region [] (.ops 1 .done)) .leaf) (.seq none (.region [] (.ops 7 .done)) (.cond none (.seq none (.region [] (.ops 1 .done)) .leaf) .leaf)))))))) (.seq none (.region [] (.ops 4 .done)) (.seq none (.region [] (.ops 3 .done)) (.seq none (.region [] (.ops 1 .done)) .leaf)))))
theorem F71_tie (v0 : Addr) (v1 : Addr) (K : Int → World → Prop) : vcgF tab Try.prog Try.f71 h71 [(.pointer (some v0)), (.pointer (some v1))] (.one (.one (.int .i64))) K = F71 v0 v1 K := by kernel_rfl
theorem F71_calls {v0 : Addr} {v1 : Addr} {K : Int → World → Prop} {w : World} (h : F71 v0 v1 K w) : callT Try.prog 71 #[(.pointer (some v0)), (.pointer (some v1))] (.one (.one (.int .i64))) K w :=
  vcgF_sound tabOk Try.func71 h71 [(.pointer (some v0)), (.pointer (some v1))] (.one (.one (.int .i64))) K w (Eq.mpr (congrFun (F71_tie v0 v1 K) w) h)

/-- (*copyist/disk.Disk).Make$1$1 -/
noncomputable def F72 (a0 : Option Nat) (v0 : Addr) (v1 : Addr) (K : Unit → World → Prop) : World → Prop :=
  ld (.str) v1 fun (x1 : ByteArray) =>
  ld (.ptr) v0 fun (x2 : Option Addr) =>
  rawU Try.prog (Instr.mapUpdate 87 (.map a0) (.string x1) (.pointer x2)) <|
  K ()
noncomputable def h72 : Hint := (.region [] (.ops 4 .done))
theorem F72_tie (a0 : Option Nat) (v0 : Addr) (v1 : Addr) (K : Unit → World → Prop) : vcgF tab Try.prog Try.f72 h72 [(.map a0), (.pointer (some v0)), (.pointer (some v1))] (.tup []) K = F72 a0 v0 v1 K := by kernel_rfl
theorem F72_calls {a0 : Option Nat} {v0 : Addr} {v1 : Addr} {K : Unit → World → Prop} {w : World} (h : F72 a0 v0 v1 K w) : callT Try.prog 72 #[(.map a0), (.pointer (some v0)), (.pointer (some v1))] (.tup []) K w :=
  vcgF_sound tabOk Try.func72 h72 [(.map a0), (.pointer (some v0)), (.pointer (some v1))] (.tup []) K w (Eq.mpr (congrFun (F72_tie a0 v0 v1 K) w) h)

/-- (*copyist/disk.Disk).Rename$1 -/
noncomputable def F73 (v0 : Addr) (v1 : Addr) (v2 : Addr) (K : Int → World → Prop) : World → Prop :=
  ld (.str) v0 fun (x1 : ByteArray) =>
  callT Try.prog 34 #[(.string x1)] (.one (.one .bool)) fun (x2 : Bool) =>
  sif (!x2) (
    K (164 : Int)) (
    ld (.ptr) v1 fun (x3 : Option Addr) =>
    ld (.str) v2 fun (x4 : ByteArray) =>
    callT Try.prog 41 #[(.pointer x3), (.string x4)] (.tup [(.agg c102), (.one (.int .i64))]) fun (x5 : ((Option Addr × ByteArray × Unit) × Int × Unit)) =>
    newO (.cells #[(.pointer none), (.string { data := #[] })] 102) fun b6 =>
    aggSt (at0 b6) (.agg (Cells.vals c102 x5.1).toArray) 2 <|
    join (S := Unit) (fun J7 =>
      join (S := Bool × Unit) (fun J9 =>
        sif (x5.2.1 == (0 : Int)) (
          ld (.str) v2 fun (x11 : ByteArray) =>
          ld (.str) v0 fun (x12 : ByteArray) =>
          J9 ((!(ByteArray.toList x11 == ByteArray.toList x12)), ())) (
          J9 (false, ()))) fun (s10 : Bool × Unit) =>
      sif s10.1 (
        ld (.ptr) v1 fun (x13 : Option Addr) =>
        callT Try.prog 43 #[(.pointer x13), (.func (Fn.func 74) #[] #[(.pointer (some (at0 b6))), (.pointer (some v0))])] (.tup []) fun (x14 : (Unit)) =>
        J7 ()) (
        J7 ())) fun (s8 : Unit) =>
    K x5.2.1)
noncomputable def h73 : Hint := (.seq none (.region [] (.ops 1 .done)) (.seq none (.seq none (.region [] (.ops 3 .done)) (.cond none (.seq none (.region [] (.ops 1 .done)) .leaf) .leaf)) (.seq none (.region [] (.ops 9 .done)) (.seq (some (33521664, [])) (.seq (some (4161536, [(21, (.one .bool))])) (.region [] (.ops 3 (.split 17 (.ops 4 .done) (.skips 3 (.ops 1 .done))))) (.cond none (.region [] (.ops 3 .done)) .leaf)) (.seq none (.region [] (.ops 2 .done)) .leaf)))))
theorem F73_tie (v0 : Addr) (v1 : Addr) (v2 : Addr) (K : Int → World → Prop) : vcgF tab Try.prog Try.f73 h73 [(.pointer (some v0)), (.pointer (some v1)), (.pointer (some v2))] (.one (.one (.int .i64))) K = F73 v0 v1 v2 K := by kernel_rfl
theorem F73_calls {v0 : Addr} {v1 : Addr} {v2 : Addr} {K : Int → World → Prop} {w : World} (h : F73 v0 v1 v2 K w) : callT Try.prog 73 #[(.pointer (some v0)), (.pointer (some v1)), (.pointer (some v2))] (.one (.one (.int .i64))) K w :=
  vcgF_sound tabOk Try.func73 h73 [(.pointer (some v0)), (.pointer (some v1)), (.pointer (some v2))] (.one (.one (.int .i64))) K w (Eq.mpr (congrFun (F73_tie v0 v1 v2 K) w) h)

/-- (*copyist/disk.Disk).Rename$1$1 -/
noncomputable def F74 (a0 : Option Nat) (v0 : Addr) (v1 : Addr) (K : Unit → World → Prop) : World → Prop :=
  ld (.str) (v0.add 1) fun (x1 : ByteArray) =>
  rawT Try.prog (.tup []) (Builtin.delete_ #[87, 9] 0 #[(.map a0), (.string x1)]) fun (x2 : (Unit)) =>
  ld (.str) v1 fun (x3 : ByteArray) =>
  ld (.ptr) v0 fun (x4 : Option Addr) =>
  rawU Try.prog (Instr.mapUpdate 87 (.map a0) (.string x3) (.pointer x4)) <|
  K ()
noncomputable def h74 : Hint := (.seq none (.region [] (.ops 4 .done)) (.region [] (.ops 5 .done)))
theorem F74_tie (a0 : Option Nat) (v0 : Addr) (v1 : Addr) (K : Unit → World → Prop) : vcgF tab Try.prog Try.f74 h74 [(.map a0), (.pointer (some v0)), (.pointer (some v1))] (.tup []) K = F74 a0 v0 v1 K := by kernel_rfl
theorem F74_calls {a0 : Option Nat} {v0 : Addr} {v1 : Addr} {K : Unit → World → Prop} {w : World} (h : F74 a0 v0 v1 K w) : callT Try.prog 74 #[(.map a0), (.pointer (some v0)), (.pointer (some v1))] (.tup []) K w :=
  vcgF_sound tabOk Try.func74 h74 [(.map a0), (.pointer (some v0)), (.pointer (some v1))] (.tup []) K w (Eq.mpr (congrFun (F74_tie a0 v0 v1 K) w) h)

/-- (*copyist/disk.Disk).Stamp$1 -/
noncomputable def F77 (v0 : Addr) (v1 : Addr) (v2 : Addr) (K : Int → World → Prop) : World → Prop :=
  ld (.ptr) v0 fun (x1 : Option Addr) =>
  ld (.str) v1 fun (x2 : ByteArray) =>
  callT Try.prog 41 #[(.pointer x1), (.string x2)] (.tup [(.agg c102), (.one (.int .i64))]) fun (x3 : ((Option Addr × ByteArray × Unit) × Int × Unit)) =>
  newO (.cells #[(.pointer none), (.string { data := #[] })] 102) fun b4 =>
  aggSt (at0 b4) (.agg (Cells.vals c102 x3.1).toArray) 2 <|
  join (S := Unit) (fun J5 =>
    sif (x3.2.1 == (0 : Int)) (
      drew <|
      ld (.ptr) (at0 b4) fun (x7 : Option Addr) =>
      nn x7 fun p8 =>
      ld (.int .i64) p8 fun (x9 : Int) =>
      ld (.ptr) (at0 b4) fun (x10 : Option Addr) =>
      nn x10 fun p11 =>
      ld (.sl) (p11.add 1) fun (x12 : Sl) =>
      ld (.ptr) (at0 b4) fun (x13 : Option Addr) =>
      nn x13 fun p14 =>
      ld (.int .i64) (p14.add 3) fun (x15 : Int) =>
      aggSt v2 (.agg #[(.int .i64 (0 : Int)), (.int .i64 (0 : Int)), (.int .i64 (0 : Int))]) 3 <|
      keep (fun w => w.cell? (p14.add 3) = some (Cell.val (.int .i64) x15)) <|
      keep (fun w => w.cell? (at0 b4) = some (Cell.val (.ptr) x13)) <|
      keep (fun w => w.cell? (p11.add 1) = some (Cell.val (.sl) x12)) <|
      keep (fun w => w.cell? (at0 b4) = some (Cell.val (.ptr) x10)) <|
      keep (fun w => w.cell? p8 = some (Cell.val (.int .i64) x9)) <|
      keep (fun w => w.cell? (at0 b4) = some (Cell.val (.ptr) x7)) <|
      chk (0 ≤ (0 : Int) ∧ (0 : Int) < ((3 : Nat) : Int)) <|
      stC (v2.add (scaled (Int.toNat (0 : Int)) 1)) (.int .i64 x9) <|
      keep (fun w => w.cell? (p14.add 3) = some (Cell.val (.int .i64) x15)) <|
      keep (fun w => w.cell? (at0 b4) = some (Cell.val (.ptr) x13)) <|
      keep (fun w => w.cell? (p11.add 1) = some (Cell.val (.sl) x12)) <|
      keep (fun w => w.cell? (at0 b4) = some (Cell.val (.ptr) x10)) <|
      chk (0 ≤ (1 : Int) ∧ (1 : Int) < ((3 : Nat) : Int)) <|
      stC (v2.add (scaled (Int.toNat (1 : Int)) 1)) (.int .i64 ((x12.len : Nat) : Int)) <|
      keep (fun w => w.cell? (p14.add 3) = some (Cell.val (.int .i64) x15)) <|
      keep (fun w => w.cell? (at0 b4) = some (Cell.val (.ptr) x13)) <|
      chk (0 ≤ (2 : Int) ∧ (2 : Int) < ((3 : Nat) : Int)) <|
      stC (v2.add (scaled (Int.toNat (2 : Int)) 1)) (.int .i64 x15) <|
      J5 ()) (
      J5 ())) fun (s6 : Unit) =>
  K x3.2.1
noncomputable def h77 : Hint := (.seq none (.region [] (.ops 1 .done)) (.seq none (.region [] (.ops 9 .done)) (.seq (some (8589930496, [])) (.seq none (.region [] (.ops 2 .done)) (.cond none (.region [0, 1, 2, 3, 4, 5, 6, 7, 8, 9, 10, 11, 12, 13, 14, 15, 16, 17, 18, 19, 20, 21, 22] (.ops 23 .done)) .leaf)) (.seq none (.region [] (.ops 2 .done)) .leaf))))
theorem F77_tie (v0 : Addr) (v1 : Addr) (v2 : Addr) (K : Int → World → Prop) : vcgF tab Try.prog Try.f77 h77 [(.pointer (some v0)), (.pointer (some v1)), (.pointer (some v2))] (.one (.one (.int .i64))) K = F77 v0 v1 v2 K := by kernel_rfl
theorem F77_calls {v0 : Addr} {v1 : Addr} {v2 : Addr} {K : Int → World → Prop} {w : World} (h : F77 v0 v1 v2 K w) : callT Try.prog 77 #[(.pointer (some v0)), (.pointer (some v1)), (.pointer (some v2))] (.one (.one (.int .i64))) K w :=
  vcgF_sound tabOk Try.func77 h77 [(.pointer (some v0)), (.pointer (some v1)), (.pointer (some v2))] (.one (.one (.int .i64))) K w (Eq.mpr (congrFun (F77_tie v0 v1 v2 K) w) h)

/-- (*copyist/copyistref16.Disk).Used -/
noncomputable def F78 (a0 : Option Addr) (K : Int → World → Prop) : World → Prop :=
  callT Try.prog 65 #[(.pointer a0)] (.one (.one .sl)) fun (x1 : Sl) =>
  join (S := Int × Unit) (fun J2 =>
    sloop (S := Int × Int × Unit) (fun (s4 : Int × Int × Unit) again5 =>
      sif (decide (s4.2.1 < ((x1.len : Nat) : Int))) (
        drew <|
        nn a0 fun p6 =>
        ld (.sl) (p6.add 1) fun (x7 : Sl) =>
        ix x1.a x1.len s4.2.1 fun p8 =>
        ld (.int .i64) ((p8.add (scaled (Int.toNat s4.2.1) 2)).add 1) fun (x9 : Int) =>
        ix x7.a x7.len (IntKind.wrap .i64 (x9 - (1 : Int))) fun p10 =>
        ld (.sl) (p10.add (scaled (Int.toNat (IntKind.wrap .i64 (x9 - (1 : Int)))) 3)) fun (x11 : Sl) =>
        again5 ((IntKind.wrap .i64 (s4.1 + ((x11.len : Nat) : Int))), (IntKind.wrap .i64 (s4.2.1 + (1 : Int))), ())) (
        J2 (s4.1, ()))) ((0 : Int), (0 : Int), ())) fun (s3 : Int × Unit) =>
  K s3.1
noncomputable def h78 : Hint := (.seq none (.region [] (.ops 1 .done)) (.seq none (.region [] (.ops 3 .done)) (.seq none (.region [] (.ops 1 .done)) (.seq (some (1073741616, [(4, (.one (.int .i64)))])) (.seq none (.region [] (.ops 1 .done)) (.block (.loop 1073741616 [(4, (.one (.int .i64))), (5, (.one (.int .i64)))] (.seq none (.seq none (.region [] (.ops 4 .done)) (.cond none .leaf .leaf)) (.seq none (.block (.region [0, 1, 2, 3, 4, 5, 6, 7, 8, 9, 10, 11, 12, 13, 14, 15, 16] (.ops 17 .done))) (.region [] (.ops 3 .done))))))) (.seq none (.region [] (.ops 2 .done)) .leaf)))))
theorem F78_tie (a0 : Option Addr) (K : Int → World → Prop) : vcgF tab Try.prog Try.f78 h78 [(.pointer a0)] (.one (.one (.int .i64))) K = F78 a0 K := by kernel_rfl
theorem F78_calls {a0 : Option Addr} {K : Int → World → Prop} {w : World} (h : F78 a0 K w) : callT Try.prog 78 #[(.pointer a0)] (.one (.one (.int .i64))) K w :=
  vcgF_sound tabOk Try.func78 h78 [(.pointer a0)] (.one (.one (.int .i64))) K w (Eq.mpr (congrFun (F78_tie a0 K) w) h)

/-- copyist/copyistref16.without -/
noncomputable def F79 (a0 : Sl) (a1 : ByteArray) (K : Sl → World → Prop) : World → Prop :=
  join (S := Sl × Unit) (fun J1 =>
    sloop (S := Sl × Int × Unit) (fun (s3 : Sl × Int × Unit) again4 =>
      sif (decide (s3.2.1 < ((a0.len : Nat) : Int))) (
        join (S := Sl × Unit) (fun J5 =>
          ix a0.a a0.len s3.2.1 fun p7 =>
          ld (.str) (p7.add (scaled (Int.toNat s3.2.1) 2)) fun (x8 : ByteArray) =>
          sif (!(ByteArray.toList x8 == ByteArray.toList a1)) (
            ix a0.a a0.len s3.2.1 fun p9 =>
            lds c133 (p9.add (scaled (Int.toNat s3.2.1) 2)) fun (x10 : (ByteArray × Int × Unit)) =>
            newO (.cells #[(.string x10.1), (.int .i64 x10.2.1)] 133) fun b11 =>
            rawT Try.prog (.one (.one .sl)) (Builtin.append_ #[81, 81] 81 #[(.slice s3.1.a s3.1.len s3.1.cap), (.slice (some (at0 b11)) 1 1)]) fun (x12 : Sl) =>
            J5 (x12, ())) (
            J5 (s3.1, ()))) fun (s6 : Sl × Unit) =>
        again4 (s6.1, (IntKind.wrap .i64 (s3.2.1 + (1 : Int))), ())) (
        J1 (s3.1, ()))) (⟨none, 0, 0⟩, (0 : Int), ())) fun (s2 : Sl × Unit) =>
  K s2.1
noncomputable def h79 : Hint := (.seq none (.region [] (.ops 1 .done)) (.seq none (.region [] (.ops 1 .done)) (.seq (some (134217696, [(5, (.one .sl))])) (.seq none (.region [] (.ops 1 .done)) (.block (.loop 134217696 [(5, (.one .sl)), (6, (.one (.int .i64)))] (.seq none (.seq none (.region [] (.ops 4 .done)) (.cond none .leaf .leaf)) (.seq (some (134209568, [(5, (.one .sl))])) (.block (.seq none (.region [] (.ops 7 .done)) (.cond none (.region [] (.ops 8 .done)) .leaf))) (.region [] (.ops 3 .done))))))) (.seq none (.region [] (.ops 2 .done)) .leaf))))
theorem F79_tie (a0 : Sl) (a1 : ByteArray) (K : Sl → World → Prop) : vcgF tab Try.prog Try.f79 h79 [(.slice a0.a a0.len a0.cap), (.string a1)] (.one (.one .sl)) K = F79 a0 a1 K := by kernel_rfl
theorem F79_calls {a0 : Sl} {a1 : ByteArray} {K : Sl → World → Prop} {w : World} (h : F79 a0 a1 K w) : callT Try.prog 79 #[(.slice a0.a a0.len a0.cap), (.string a1)] (.one (.one .sl)) K w :=
  vcgF_sound tabOk Try.func79 h79 [(.slice a0.a a0.len a0.cap), (.string a1)] (.one (.one .sl)) K w (Eq.mpr (congrFun (F79_tie a0 a1 K) w) h)

/-- copyist/copyistref16.with -/
noncomputable def F80 (a0 : Sl) (a1 : ByteArray) (a2 : Int) (K : Sl → World → Prop) : World → Prop :=
  callT Try.prog 79 #[(.slice a0.a a0.len a0.cap), (.string a1)] (.one (.one .sl)) fun (x1 : Sl) =>
  join (S := Sl × Bool × Unit) (fun J2 =>
    sloop (S := Sl × Bool × Int × Unit) (fun (s4 : Sl × Bool × Int × Unit) again5 =>
      sif (decide (s4.2.2.1 < ((x1.len : Nat) : Int))) (
        join (S := Sl × Bool × Unit) (fun J6 =>
          join (S := Bool × Unit) (fun J8 =>
            sif (!s4.2.1) (
              ix x1.a x1.len s4.2.2.1 fun p10 =>
              ld (.str) (p10.add (scaled (Int.toNat s4.2.2.1) 2)) fun (x11 : ByteArray) =>
              J8 ((!((Op.bytesLess (ByteArray.toList x11) (ByteArray.toList a1)) || (ByteArray.toList x11 == ByteArray.toList a1))), ())) (
              J8 (false, ()))) fun (s9 : Bool × Unit) =>
          sif s9.1 (
            newO (.cells #[(.string a1), (.int .i64 a2)] 133) fun b12 =>
            rawT Try.prog (.one (.one .sl)) (Builtin.append_ #[81, 81] 81 #[(.slice s4.1.a s4.1.len s4.1.cap), (.slice (some (at0 b12)) 1 1)]) fun (x13 : Sl) =>
            J6 (x13, true, ())) (
            J6 (s4.1, s4.2.1, ()))) fun (s7 : Sl × Bool × Unit) =>
        ix x1.a x1.len s4.2.2.1 fun p14 =>
        lds c133 (p14.add (scaled (Int.toNat s4.2.2.1) 2)) fun (x15 : (ByteArray × Int × Unit)) =>
        newO (.cells #[(.string x15.1), (.int .i64 x15.2.1)] 133) fun b16 =>
        rawT Try.prog (.one (.one .sl)) (Builtin.append_ #[81, 81] 81 #[(.slice s7.1.a s7.1.len s7.1.cap), (.slice (some (at0 b16)) 1 1)]) fun (x17 : Sl) =>
        again5 (x17, s7.2.1, (IntKind.wrap .i64 (s4.2.2.1 + (1 : Int))), ())) (
        J2 (s4.1, s4.2.1, ()))) (⟨none, 0, 0⟩, false, (0 : Int), ())) fun (s3 : Sl × Bool × Unit) =>
  join (S := Sl × Unit) (fun J18 =>
    sif (!s3.2.1) (
      newO (.cells #[(.string a1), (.int .i64 a2)] 133) fun b20 =>
      rawT Try.prog (.one (.one .sl)) (Builtin.append_ #[81, 81] 81 #[(.slice s3.1.a s3.1.len s3.1.cap), (.slice (some (at0 b20)) 1 1)]) fun (x21 : Sl) =>
      J18 (x21, ())) (
      J18 (s3.1, ()))) fun (s19 : Sl × Unit) =>
  K s19.1
noncomputable def h80 : Hint := (.seq none (.region [] (.ops 1 .done)) (.seq none (.region [] (.ops 4 .done)) (.seq none (.region [] (.ops 1 .done)) (.seq none (.region [] (.ops 1 .done)) (.seq (some (8796093014912, [(7, (.one .sl)), (8, (.one .bool))])) (.seq none (.region [] (.ops 1 .done)) (.block (.loop 8796093014912 [(7, (.one .sl)), (8, (.one .bool)), (9, (.one (.int .i64)))] (.seq none (.seq none (.region [] (.ops 4 .done)) (.cond none .leaf .leaf)) (.seq none (.block (.seq (some (68718952832, [(7, (.one .sl)), (8, (.one .bool))])) (.seq (some (1073217536, [(29, (.one .bool))])) (.region [] (.ops 3 (.split 21 (.ops 8 .done) (.skips 7 (.ops 1 .done))))) (.cond none (.seq none (.region [] (.ops 7 .done)) (.region [] (.ops 1 .done))) .leaf)) (.region [] (.ops 8 .done)))) (.region [] (.ops 3 .done))))))) (.seq (some (2243003720663168, [(7, (.one .sl))])) (.seq none (.region [] (.ops 2 .done)) (.cond none (.region [] (.ops 7 .done)) .leaf)) (.seq none (.region [] (.ops 2 .done)) .leaf)))))))
theorem F80_tie (a0 : Sl) (a1 : ByteArray) (a2 : Int) (K : Sl → World → Prop) : vcgF tab Try.prog Try.f80 h80 [(.slice a0.a a0.len a0.cap), (.string a1), (.int .i64 a2)] (.one (.one .sl)) K = F80 a0 a1 a2 K := by kernel_rfl
theorem F80_calls {a0 : Sl} {a1 : ByteArray} {a2 : Int} {K : Sl → World → Prop} {w : World} (h : F80 a0 a1 a2 K w) : callT Try.prog 80 #[(.slice a0.a a0.len a0.cap), (.string a1), (.int .i64 a2)] (.one (.one .sl)) K w :=
  vcgF_sound tabOk Try.func80 h80 [(.slice a0.a a0.len a0.cap), (.string a1), (.int .i64 a2)] (.one (.one .sl)) K w (Eq.mpr (congrFun (F80_tie a0 a1 a2 K) w) h)

/-- (*copyist/disk.Fail).Unwrap -/
noncomputable def F119 (a0 : Option Addr) (K : Value → World → Prop) : World → Prop :=
  nn a0 fun p1 =>
  ld (.any) (p1.add 3) fun (x2 : Value) =>
  K x2
noncomputable def h119 : Hint := (.seq none (.region [] (.ops 1 .done)) (.seq none (.region [] (.ops 5 .done)) .leaf))
theorem F119_tie (a0 : Option Addr) (K : Value → World → Prop) : vcgF tab Try.prog Try.f119 h119 [(.pointer a0)] (.one (.one .any)) K = F119 a0 K := by kernel_rfl
theorem F119_calls {a0 : Option Addr} {K : Value → World → Prop} {w : World} (h : F119 a0 K w) : callT Try.prog 119 #[(.pointer a0)] (.one (.one .any)) K w :=
  vcgF_sound tabOk Try.func119 h119 [(.pointer a0)] (.one (.one .any)) K w (Eq.mpr (congrFun (F119_tie a0 K) w) h)

end Go.Proofs.Ytdabehgbhndimaa
