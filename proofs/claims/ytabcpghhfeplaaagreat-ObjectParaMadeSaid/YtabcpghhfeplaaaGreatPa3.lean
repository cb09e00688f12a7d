/- YtabcpghhfeplaaaGreatPa3: parts of the proof, put together by program. -/
import Derived.Test.YtabcpghhfeplaaaGreatPa2
set_option linter.unusedVariables false
set_option linter.unusedSimpArgs false
set_option linter.unusedSectionVars false
set_option linter.unusedSimpArgs false
set_option linter.unusedVariables false
set_option maxRecDepth 100000
set_option linter.unusedVariables false
namespace Go.Proofs.YtabcpghhfeplaaaGreat
open Go Go.Vx
noncomputable def F23 (a0 : Option Addr) (a1 : Int) (a2 : Int) (K : Sl → World → Prop) : World → Prop :=
 newO (.cells #[(.slice none 0 0)] 26) fun b1 =>
 callT Tryz.prog 47 #[(.pointer a0), (.int .i64 a1), (.int .i64 a2), (.func (Fn.func 48) #[] #[(.pointer (some (at0 b1)))])] (.tup []) fun (x2 : (Unit)) =>
 ld (.sl) (at0 b1) fun (x3 : Sl) =>
 K x3
noncomputable def h23 : Hint := (.seq none (.region [] (.ops 1 .done)) (.seq none (.region [] (.ops 1 .done)) (.seq none (.region [] (.ops 5 .done)) (.seq none (.region [] (.ops 2 .done)) .leaf))))
theorem F23_tie (a0 : Option Addr) (a1 : Int) (a2 : Int) (K : Sl → World → Prop) : vcgF tab Tryz.prog Tryz.f23 h23 [(.pointer a0), (.int .i64 a1), (.int .i64 a2)] (.one (.one .sl)) K = F23 a0 a1 a2 K := by kernel_rfl
theorem F23_calls {a0 : Option Addr} {a1 : Int} {a2 : Int} {K : Sl → World → Prop} {w : World} (h : F23 a0 a1 a2 K w) : callT Tryz.prog 23 #[(.pointer a0), (.int .i64 a1), (.int .i64 a2)] (.one (.one .sl)) K w :=
  vcgF_sound tabOk Tryz.func23 h23 [(.pointer a0), (.int .i64 a1), (.int .i64 a2)] (.one (.one .sl)) K w (Eq.mpr (congrFun (F23_tie a0 a1 a2 K) w) h)
noncomputable def F34 (a0 : Int) (a1 : Sl) (K : (Sl × Int × Unit) → World → Prop) : World → Prop :=
 callT Tryz.prog 61 #[(.int .i64 a0)] (.one (.one .bool)) fun (x1 : Bool) =>
 sif (!x1) (
 K (⟨none, 0, 0⟩, (10 : Int), ())) (
 join (S := Sl × Unit) (fun J2 =>
 sloop (S := Sl × Int × Unit) (fun (s4 : Sl × Int × Unit) again5 =>
 sif (decide (s4.2.1 < ((a1.len : Nat) : Int))) (
 callT Tryz.prog 62 #[(.int .i64 a0), (.slice a1.a a1.len a1.cap), (.int .i64 s4.2.1)] (.tup [(.one (.int .i64)), (.one (.int .i64))]) fun (x6 : (Int × Int × Unit)) =>
 newO (.cells #[(.int .i64 x6.1)] 3) fun b7 =>
 rawT Tryz.prog (.one (.one .sl)) (Builtin.append_ #[26, 26] 26 #[(.slice s4.1.a s4.1.len s4.1.cap), (.slice (some (at0 b7)) 1 1)]) fun (x8 : Sl) =>
 again5 (x8, (IntKind.wrap .i64 (s4.2.1 + x6.2.1)), ())) (
 J2 (s4.1, ()))) (⟨none, 0, 0⟩, (0 : Int), ())) fun (s3 : Sl × Unit) =>
 K (s3.1, (0 : Int), ()))
noncomputable def h34 : Hint := (.seq none (.region [] (.ops 2 .done)) (.seq none (.region [] (.ops 3 .done)) (.seq none (.seq none (.region [] (.ops 2 .done)) (.cond none (.seq none (.region [] (.ops 2 .done)) .leaf) .leaf)) (.seq none (.region [] (.ops 1 .done)) (.seq none (.region [] (.ops 1 .done)) (.seq (some (8589903744, [(7, (.one .sl))])) (.block (.loop 8589903744 [(7, (.one .sl)), (8, (.one (.int .i64)))] (.seq none (.seq none (.region [] (.ops 4 .done)) (.cond none .leaf .leaf)) (.block (.seq none (.region [] (.ops 9 .done)) (.seq none (.region [] (.ops 5 .done)) (.region [] (.ops 4 .done)))))))) (.seq none (.region [] (.ops 3 .done)) .leaf)))))))
theorem F34_tie (a0 : Int) (a1 : Sl) (K : (Sl × Int × Unit) → World → Prop) : vcgF tab Tryz.prog Tryz.f34 h34 [(.int .i64 a0), (.slice a1.a a1.len a1.cap)] (.tup [(.one .sl), (.one (.int .i64))]) K = F34 a0 a1 K := by kernel_rfl
theorem F34_calls {a0 : Int} {a1 : Sl} {K : (Sl × Int × Unit) → World → Prop} {w : World} (h : F34 a0 a1 K w) : callT Tryz.prog 34 #[(.int .i64 a0), (.slice a1.a a1.len a1.cap)] (.tup [(.one .sl), (.one (.int .i64))]) K w :=
  vcgF_sound tabOk Tryz.func34 h34 [(.int .i64 a0), (.slice a1.a a1.len a1.cap)] (.tup [(.one .sl), (.one (.int .i64))]) K w (Eq.mpr (congrFun (F34_tie a0 a1 K) w) h)
noncomputable def F35 (a0 : Int) (a1 : Sl) (a2 : Int) (K : (Option Addr × Int × Unit) → World → Prop) : World → Prop :=
 join (S := Bool × Unit) (fun J1 =>
 sif (decide (a0 < (1 : Int))) (
 J1 (true, ())) (
 J1 ((decide (a0 > (4 : Int))), ()))) fun (s2 : Bool × Unit) =>
 sif s2.1 (
 K (none, (10 : Int), ())) (
 join (S := Bool × Unit) (fun J3 =>
 sif (decide (a2 < (0 : Int))) (
 J3 (true, ())) (
 J3 ((decide (a2 > (65536 : Int))), ()))) fun (s4 : Bool × Unit) =>
 sif s4.1 (
 K (none, (1 : Int), ())) (
 sif (decide (((a1.len : Nat) : Int) > a2)) (
 K (none, (50 : Int), ())) (
 rawT Tryz.prog (.one (.one .sl)) (Instr.makeSlice 22 (.int .i64 ((a1.len : Nat) : Int)) (.int .i64 ((a1.len : Nat) : Int))) fun (x5 : Sl) =>
 rawT Tryz.prog (.one (.one (.int .i64))) (Builtin.copy_ #[22, 22] 3 #[(.slice x5.a x5.len x5.cap), (.slice a1.a a1.len a1.cap)]) fun (x6 : Int) =>
 newO (.cells #[(.int .i64 a0), (.int .i64 a2), (.pointer none), (.slice none 0 0)] 107) fun b7 =>
 join (S := Sl × Unit) (fun J8 =>
 sloop (S := Sl × Int × Unit) (fun (s10 : Sl × Int × Unit) again11 =>
 sif (decide (s10.2.1 < ((x5.len : Nat) : Int))) (
 join (S := Int × Unit) (fun J12 =>
 sloop (S := Int × Int × Unit) (fun (s14 : Int × Int × Unit) again15 =>
 join (S := Bool × Unit) (fun J16 =>
 sif (decide (s14.1 < ((x5.len : Nat) : Int))) (
 J16 ((decide (s14.2.1 < (128 : Int))), ())) (
 J16 (false, ()))) fun (s17 : Bool × Unit) =>
 sif s17.1 (
 callT Tryz.prog 63 #[(.int .i64 a0), (.slice x5.a x5.len x5.cap), (.int .i64 s14.1)] (.tup [(.one (.int .i64)), (.one (.int .i64))]) fun (x18 : (Int × Int × Unit)) =>
 again15 ((IntKind.wrap .i64 (s14.1 + x18.2.1)), (IntKind.wrap .i64 (s14.2.1 + (1 : Int))), ())) (
 J12 (s14.1, ()))) (s10.2.1, (0 : Int), ())) fun (s13 : Int × Unit) =>
 slc x5.a s10.2.1 s13.1 s13.1 x5.cap 1 fun x19 =>
 callT Tryz.prog 64 #[(.int .i64 a0), (.slice x19.a x19.len x19.cap), (.int .i64 s10.2.1)] (.one (.agg c112)) fun (x20 : (Sl × Int × Int × Int × Int × Bool × Bool × Unit)) =>
 newO (.cells #[(.slice x20.1.a x20.1.len x20.1.cap), (.int .i64 x20.2.1), (.int .i64 x20.2.2.1), (.int .i64 x20.2.2.2.1), (.int .i64 x20.2.2.2.2.1), (.bool x20.2.2.2.2.2.1), (.bool x20.2.2.2.2.2.2.1)] 112) fun b21 =>
 rawT Tryz.prog (.one (.one .sl)) (Builtin.append_ #[108, 108] 108 #[(.slice s10.1.a s10.1.len s10.1.cap), (.slice (some (at0 b21)) 1 1)]) fun (x22 : Sl) =>
 again11 (x22, s13.1, ())) (
 J8 (s10.1, ()))) (⟨none, 0, 0⟩, (0 : Int), ())) fun (s9 : Sl × Unit) =>
 callT Tryz.prog 65 #[(.slice s9.1.a s9.1.len s9.1.cap)] (.one (.agg c105)) fun (x23 : (Option Addr × Unit)) =>
 nn (some (at0 b7)) fun p24 =>
 aggSt (p24.add 2) (.agg (Cells.vals c105 x23).toArray) 1 <|
 K ((some (at0 b7)), (0 : Int), ()))))
noncomputable def h35 : Hint := (.seq none (.region [] (.ops 2 .done)) (.seq none (.block (.seq (some (8323072, [(16, (.one .bool))])) (.region [] (.ops 3 (.split 19 (.skips 2 (.ops 2 .done)) (.ops 4 .done)))) (.cond none (.seq none (.region [] (.ops 2 .done)) .leaf) (.seq (some (1065353216, [(23, (.one .bool))])) (.region [] (.ops 3 (.split 26 (.skips 2 (.ops 2 .done)) (.ops 4 .done)))) (.cond none (.seq none (.region [] (.ops 2 .done)) .leaf) (.seq none (.region [] (.ops 5 .done)) (.cond none (.seq none (.region [] (.ops 2 .done)) .leaf) .leaf))))))) (.seq none (.region [] (.ops 4 .done)) (.seq none (.region [] (.ops 3 .done)) (.seq none (.region [] (.ops 5 .done)) (.seq none (.region [] (.ops 1 .done)) (.seq (some (4835703278423332326800384, [(10, (.one .sl))])) (.seq none (.region [] (.ops 1 .done)) (.block (.loop 4835703278423332326800384 [(10, (.one .sl)), (11, (.one (.int .i64)))] (.seq none (.seq none (.region [] (.ops 4 .done)) (.cond none .leaf .leaf)) (.block (.seq none (.region [] (.ops 3 .done)) (.seq (some (1180590494817504522240, [(12, (.one (.int .i64)))])) (.block (.loop 1180590494817504522240 [(12, (.one (.int .i64))), (13, (.one (.int .i64)))] (.seq none (.seq (some (287104476244869120, [(57, (.one .bool))])) (.region [] (.ops 5 (.split 54 (.ops 3 .done) (.skips 2 (.ops 1 .done))))) (.cond none .leaf .leaf)) (.seq none (.block (.seq none (.region [] (.ops 9 .done)) (.region [] (.ops 4 .done)))) (.region [] (.ops 3 .done)))))) (.seq none (.region [] (.ops 12 .done)) (.region [] (.ops 2 .done)))))))))) (.seq none (.region [] (.ops 6 .done)) (.seq none (.region [] (.ops 3 .done)) .leaf)))))))))
theorem F35_tie (a0 : Int) (a1 : Sl) (a2 : Int) (K : (Option Addr × Int × Unit) → World → Prop) : vcgF tab Tryz.prog Tryz.f35 h35 [(.int .i64 a0), (.slice a1.a a1.len a1.cap), (.int .i64 a2)] (.tup [(.one .ptr), (.one (.int .i64))]) K = F35 a0 a1 a2 K := by kernel_rfl
theorem F35_calls {a0 : Int} {a1 : Sl} {a2 : Int} {K : (Option Addr × Int × Unit) → World → Prop} {w : World} (h : F35 a0 a1 a2 K w) : callT Tryz.prog 35 #[(.int .i64 a0), (.slice a1.a a1.len a1.cap), (.int .i64 a2)] (.tup [(.one .ptr), (.one (.int .i64))]) K w :=
  vcgF_sound tabOk Tryz.func35 h35 [(.int .i64 a0), (.slice a1.a a1.len a1.cap), (.int .i64 a2)] (.tup [(.one .ptr), (.one (.int .i64))]) K w (Eq.mpr (congrFun (F35_tie a0 a1 a2 K) w) h)
noncomputable def F40 (a0 : Option Addr) (K : Int → World → Prop) : World → Prop :=
 nn a0 fun p1 =>
 lds c105 (p1.add 2) fun (x2 : (Option Addr × Unit)) =>
 callT Tryz.prog 70 #[(.agg (Cells.vals c105 x2).toArray)] (.one (.agg c110)) fun (x3 : (Int × Int × Int × Bool × Bool × Unit)) =>
 K x3.1
noncomputable def h40 : Hint := (.seq none (.region [] (.ops 1 .done)) (.seq none (.region [] (.ops 7 .done)) .leaf))
theorem F40_tie (a0 : Option Addr) (K : Int → World → Prop) : vcgF tab Tryz.prog Tryz.f40 h40 [(.pointer a0)] (.one (.one (.int .i64))) K = F40 a0 K := by kernel_rfl
theorem F40_calls {a0 : Option Addr} {K : Int → World → Prop} {w : World} (h : F40 a0 K w) : callT Tryz.prog 40 #[(.pointer a0)] (.one (.one (.int .i64))) K w :=
  vcgF_sound tabOk Tryz.func40 h40 [(.pointer a0)] (.one (.one (.int .i64))) K w (Eq.mpr (congrFun (F40_tie a0 K) w) h)
noncomputable def F47 (a0 : Option Addr) (a1 : Int) (a2 : Int) (a3 : Value) (K : Unit → World → Prop) : World → Prop :=
 newO (.cells #[(.pointer a0)] 25) fun b1 =>
 chk (oneAll [a3] = true) <|
 newO (.cells #[a3] 79) fun b2 =>
 ld (.ptr) (at0 b1) fun (x3 : Option Addr) =>
 callT Tryz.prog 40 #[(.pointer x3)] (.one (.one (.int .i64))) fun (x4 : Int) =>
 sif (decide ((if (0 : Int) > a1 then (0 : Int) else a1) ≥ (if x4 < a2 then x4 else a2))) (
 K ()) (
 ld (.ptr) (at0 b1) fun (x5 : Option Addr) =>
 callT Tryz.prog 73 #[(.pointer x5), (.int .i64 (if (0 : Int) > a1 then (0 : Int) else a1))] (.tup [(.one (.int .i64)), (.one (.int .i64))]) fun (x6 : (Int × Int × Unit)) =>
 newO (.cells #[(.int .i64 (0 : Int))] 3) fun b7 =>
 stC (at0 b7) (.int .i64 x6.2.1) <|
 newO (.cells #[(.int .i64 (0 : Int))] 3) fun b8 =>
 stC (at0 b8) (.int .i64 (IntKind.wrap .i64 ((if x4 < a2 then x4 else a2) - (if (0 : Int) > a1 then (0 : Int) else a1)))) <|
 ld (.ptr) (at0 b1) fun (x9 : Option Addr) =>
 nn x9 fun p10 =>
 lds c105 (p10.add 2) fun (x11 : (Option Addr × Unit)) =>
 callT Tryz.prog 74 #[(.agg (Cells.vals c105 x11).toArray), (.int .i64 x6.1)] (.one (.one .any)) fun (x12 : Value) =>
 rangeE (S := (Sl × Int × Int × Int × Int × Bool × Bool × Unit) × Unit) Tryz.prog (Slots.vals [(39, (.agg c112))]) x12 (fun l13 rc14 R15 (s16 : (Sl × Int × Int × Int × Int × Bool × Bool × Unit) × Unit) =>
 newO (.cells #[(.slice none 0 0), (.int .i64 (0 : Int)), (.int .i64 (0 : Int)), (.int .i64 (0 : Int)), (.int .i64 (0 : Int)), (.bool false), (.bool false)] 112) fun b18 =>
 aggSt (at0 b18) (.agg (Cells.vals c112 s16.1).toArray) 7 <|
 begR l13 rc14 <|
 sloop (S := Int × Unit) (fun (s19 : Int × Unit) again20 =>
 ld (.sl) (at0 b18) fun (x21 : Sl) =>
 sif (decide (s19.1 < ((x21.len : Nat) : Int))) (
 drew <|
 ld (.ptr) (at0 b1) fun (x22 : Option Addr) =>
 nn x22 fun p23 =>
 ld (.int .i64) p23 fun (x24 : Int) =>
 ld (.sl) (at0 b18) fun (x25 : Sl) =>
 callT Tryz.prog 63 #[(.int .i64 x24), (.slice x25.a x25.len x25.cap), (.int .i64 s19.1)] (.tup [(.one (.int .i64)), (.one (.int .i64))]) fun (x26 : (Int × Int × Unit)) =>
 join (S := Unit) (fun J27 =>
 ld (.int .i64) (at0 b7) fun (x29 : Int) =>
 sif (decide (x29 > (0 : Int))) (
 ld (.int .i64) (at0 b7) fun (x30 : Int) =>
 stC (at0 b7) (.int .i64 (IntKind.wrap .i64 (x30 - (1 : Int)))) <|
 J27 ()) (
 join (S := Unit) (fun J31 =>
 ld (.int .i64) (⟨b18, 1, none⟩ : Addr) fun (x33 : Int) =>
 sif (decide (x33 < (0 : Int))) (
 ld (.any) (at0 b2) fun (x34 : Value) =>
 callX Tryz.prog (do let d ← Deferred.ofValue x34 #[(.int .i64 x26.1), (.int .i64 (-1 : Int))]; invoke d.target d.args : Sem Next) (.tup []) fun (x35 : (Unit)) =>
 J31 ()) (
 ld (.any) (at0 b2) fun (x36 : Value) =>
 ld (.int .i64) (⟨b18, 1, none⟩ : Addr) fun (x37 : Int) =>
 callX Tryz.prog (do let d ← Deferred.ofValue x36 #[(.int .i64 x26.1), (.int .i64 (IntKind.wrap .i64 (x37 + s19.1)))]; invoke d.target d.args : Sem Next) (.tup []) fun (x38 : (Unit)) =>
 J31 ())) fun (s32 : Unit) =>
 ld (.int .i64) (at0 b8) fun (x39 : Int) =>
 stC (at0 b8) (.int .i64 (IntKind.wrap .i64 (x39 - (1 : Int)))) <|
 ld (.int .i64) (at0 b8) fun (x40 : Int) =>
 sif (x40 == (0 : Int)) (
 endR l13 rc14 (some .ret) R15) (
 J27 ()))) fun (s28 : Unit) =>
 again20 ((IntKind.wrap .i64 (s19.1 + x26.2.1)), ())) (
 endR l13 rc14 none R15)) ((0 : Int), ())) fun D17 => aft (
 endM D17 <|
 K ()) (fun i41 =>
 onE i41 0 (
 endM D17 <|
 K ()) (
 fun _ => False)) (
 endM D17 <|
 K ()))
noncomputable def h47 : Hint := (.seq none (.region [] (.ops 2 .done)) (.seq none (.region [] (.ops 8 .done)) (.seq none (.seq none (.region [] (.ops 3 .done)) (.cond none .leaf .leaf)) (.seq none (.region [] (.ops 9 .done)) (.seq none (.region [] (.ops 5 .done)) (.seq none (.region [] (.ops 6 .done)) (.block (.range [(39, (.agg c112))] (.region [] (.ops 2 .done)) (.block (.seq none (.region [] (.ops 1 .done)) (.block (.loop 1208925819613529663107072 [(12, (.one (.int .i64)))] (.seq none (.seq none (.region [] (.ops 5 .done)) (.cond none .leaf .leaf)) (.block (.seq none (.region [0, 1, 2, 3, 4, 5, 6, 7, 8, 9, 10, 11, 12] (.ops 13 .done)) (.seq (some (151115655394234608910336, [])) (.seq none (.region [] (.ops 2 .done)) (.cond none (.region [] (.ops 3 .done)) (.seq (some (9443580044234683580416, [])) (.seq none (.region [] (.ops 3 .done)) (.cond none (.region [] (.ops 3 .done)) (.region [] (.ops 7 .done)))) (.seq none (.region [] (.ops 3 .done)) (.seq none (.region [] (.ops 2 .done)) (.cond none .leaf .leaf)))))) (.region [] (.ops 4 .done))))))))))))))))))
theorem F47_tie (a0 : Option Addr) (a1 : Int) (a2 : Int) (a3 : Value) (K : Unit → World → Prop) : vcgF tab Tryz.prog Tryz.f47 h47 [(.pointer a0), (.int .i64 a1), (.int .i64 a2), a3] (.tup []) K = F47 a0 a1 a2 a3 K := by kernel_rfl
theorem F47_calls {a0 : Option Addr} {a1 : Int} {a2 : Int} {a3 : Value} {K : Unit → World → Prop} {w : World} (h : F47 a0 a1 a2 a3 K w) : callT Tryz.prog 47 #[(.pointer a0), (.int .i64 a1), (.int .i64 a2), a3] (.tup []) K w :=
  vcgF_sound tabOk Tryz.func47 h47 [(.pointer a0), (.int .i64 a1), (.int .i64 a2), a3] (.tup []) K w (Eq.mpr (congrFun (F47_tie a0 a1 a2 a3 K) w) h)
noncomputable def F48 (a0 : Int) (a1 : Int) (v0 : Addr) (K : Unit → World → Prop) : World → Prop :=
 ld (.sl) v0 fun (x1 : Sl) =>
 newO (.cells #[(.int .i64 a0)] 3) fun b2 =>
 rawT Tryz.prog (.one (.one .sl)) (Builtin.append_ #[26, 26] 26 #[(.slice x1.a x1.len x1.cap), (.slice (some (at0 b2)) 1 1)]) fun (x3 : Sl) =>
 stC v0 (.slice x3.a x3.len x3.cap) <|
 K ()
noncomputable def h48 : Hint := (.region [] (.ops 5 .done))
theorem F48_tie (a0 : Int) (a1 : Int) (v0 : Addr) (K : Unit → World → Prop) : vcgF tab Tryz.prog Tryz.f48 h48 [(.int .i64 a0), (.int .i64 a1), (.pointer (some v0))] (.tup []) K = F48 a0 a1 v0 K := by kernel_rfl
theorem F48_calls {a0 : Int} {a1 : Int} {v0 : Addr} {K : Unit → World → Prop} {w : World} (h : F48 a0 a1 v0 K w) : callT Tryz.prog 48 #[(.int .i64 a0), (.int .i64 a1), (.pointer (some v0))] (.tup []) K w :=
  vcgF_sound tabOk Tryz.func48 h48 [(.int .i64 a0), (.int .i64 a1), (.pointer (some v0))] (.tup []) K w (Eq.mpr (congrFun (F48_tie a0 a1 v0 K) w) h)
noncomputable def F50 (a0 : Option Addr) (a1 : Sl) (K : Int → World → Prop) : World → Prop :=
 callT Tryz.prog 77 #[(.pointer a0), (.slice a1.a a1.len a1.cap)] (.one (.one (.int .i64))) fun (x1 : Int) =>
 sif (x1 != (0 : Int)) (
 K x1) (
 join (S := Unit) (fun J2 =>
 sloop (S := Int × Unit) (fun (s4 : Int × Unit) again5 =>
 sif (decide (s4.1 ≥ (0 : Int))) (
 join (S := Unit) (fun J6 =>
 ix a1.a a1.len s4.1 fun p8 =>
 lds c83 (p8.add (scaled (Int.toNat s4.1) 3)) fun (x9 : (Int × Int × Sl × Unit)) =>
 newO (.cells #[(.int .i64 (0 : Int)), (.int .i64 (0 : Int)), (.slice none 0 0)] 83) fun b10 =>
 aggSt (at0 b10) (.agg (Cells.vals c83 x9).toArray) 3 <|
 join (S := Bool × Unit) (fun J11 =>
 ld (.int .i64) (at0 b10) fun (x13 : Int) =>
 ld (.int .i64) (⟨b10, 1, none⟩ : Addr) fun (x14 : Int) =>
 sif (decide (x13 < x14)) (
 J11 (true, ())) (
 ld (.sl) (⟨b10, 2, none⟩ : Addr) fun (x15 : Sl) =>
 J11 ((decide (((x15.len : Nat) : Int) > (0 : Int))), ()))) fun (s12 : Bool × Unit) =>
 sif s12.1 (
 ld (.int .i64) (at0 b10) fun (x16 : Int) =>
 ld (.int .i64) (⟨b10, 1, none⟩ : Addr) fun (x17 : Int) =>
 ld (.sl) (⟨b10, 2, none⟩ : Addr) fun (x18 : Sl) =>
 callT Tryz.prog 78 #[(.pointer a0), (.int .i64 x16), (.int .i64 x17), (.slice x18.a x18.len x18.cap)] (.tup []) fun (x19 : (Unit)) =>
 J6 ()) (
 J6 ())) fun (s7 : Unit) =>
 again5 ((IntKind.wrap .i64 (s4.1 - (1 : Int))), ())) (
 J2 ())) ((IntKind.wrap .i64 (((a1.len : Nat) : Int) - (1 : Int))), ())) fun (s3 : Unit) =>
 K (0 : Int))
noncomputable def h50 : Hint := (.seq none (.region [] (.ops 1 .done)) (.seq none (.seq none (.region [] (.ops 4 .done)) (.seq none (.region [] (.ops 2 .done)) (.cond none (.seq none (.region [] (.ops 2 .done)) .leaf) .leaf))) (.seq (some (17592186028224, [])) (.seq none (.region [] (.ops 4 .done)) (.block (.loop 17592185913536 [(6, (.one (.int .i64)))] (.seq none (.seq none (.region [] (.ops 2 .done)) (.cond none .leaf .leaf)) (.seq (some (17592183947392, [])) (.block (.seq none (.region [] (.ops 6 .done)) (.seq (some (68685922304, [(35, (.one .bool))])) (.region [] (.ops 6 (.split 30 (.skips 4 (.ops 1 .done)) (.ops 5 .done)))) (.cond none (.region [] (.ops 8 .done)) .leaf)))) (.region [] (.ops 3 .done))))))) (.seq none (.region [] (.ops 1 .done)) .leaf))))
theorem F50_tie (a0 : Option Addr) (a1 : Sl) (K : Int → World → Prop) : vcgF tab Tryz.prog Tryz.f50 h50 [(.pointer a0), (.slice a1.a a1.len a1.cap)] (.one (.one (.int .i64))) K = F50 a0 a1 K := by kernel_rfl
theorem F50_calls {a0 : Option Addr} {a1 : Sl} {K : Int → World → Prop} {w : World} (h : F50 a0 a1 K w) : callT Tryz.prog 50 #[(.pointer a0), (.slice a1.a a1.len a1.cap)] (.one (.one (.int .i64))) K w :=
  vcgF_sound tabOk Tryz.func50 h50 [(.pointer a0), (.slice a1.a a1.len a1.cap)] (.one (.one (.int .i64))) K w (Eq.mpr (congrFun (F50_tie a0 a1 K) w) h)
noncomputable def F61 (a0 : Int) (K : Bool → World → Prop) : World → Prop :=
 sif (decide (a0 ≥ (1 : Int))) (
 K (decide (a0 ≤ (4 : Int)))) (
 K false)
noncomputable def h61 : Hint := (.seq none (.region [] (.ops 1 .done)) (.seq none (.region [] (.ops 3 (.split 5 (.ops 4 .done) (.skips 2 (.ops 2 .done))))) .leaf))
theorem F61_tie (a0 : Int) (K : Bool → World → Prop) : vcgF tab Tryz.prog Tryz.f61 h61 [(.int .i64 a0)] (.one (.one .bool)) K = F61 a0 K := by kernel_rfl
theorem F61_calls {a0 : Int} {K : Bool → World → Prop} {w : World} (h : F61 a0 K w) : callT Tryz.prog 61 #[(.int .i64 a0)] (.one (.one .bool)) K w :=
  vcgF_sound tabOk Tryz.func61 h61 [(.int .i64 a0)] (.one (.one .bool)) K w (Eq.mpr (congrFun (F61_tie a0 K) w) h)
noncomputable def F62 (a0 : Int) (a1 : Sl) (a2 : Int) (K : (Int × Int × Unit) → World → Prop) : World → Prop :=
 sif (a0 == (1 : Int)) (
 callT Tryz.prog 83 #[(.slice a1.a a1.len a1.cap), (.int .i64 a2)] (.tup [(.one (.int .i64)), (.one (.int .i64))]) fun (x1 : (Int × Int × Unit)) =>
 K (x1.1, x1.2.1, ())) (
 sif (a0 == (4 : Int)) (
 ix a1.a a1.len a2 fun p2 =>
 ld (.int .u8) (p2.add (scaled (Int.toNat a2) 1)) fun (x3 : Int) =>
 K ((IntKind.wrap .i64 x3), (1 : Int), ())) (
 callT Tryz.prog 84 #[(.int .i64 a0), (.slice a1.a a1.len a1.cap), (.int .i64 a2)] (.one (.one (.int .i64))) fun (x4 : Int) =>
 sif (decide (x4 < (0 : Int))) (
 ix a1.a a1.len a2 fun p5 =>
 ld (.int .u8) (p5.add (scaled (Int.toNat a2) 1)) fun (x6 : Int) =>
 K ((IntKind.wrap .i64 ((-1 : Int) - (IntKind.wrap .i64 x6))), (1 : Int), ())) (
 callT Tryz.prog 84 #[(.int .i64 a0), (.slice a1.a a1.len a1.cap), (.int .i64 (IntKind.wrap .i64 (a2 + (2 : Int))))] (.one (.one (.int .i64))) fun (x7 : Int) =>
 join (S := Bool × Unit) (fun J8 =>
 sif (decide (x4 ≥ (55296 : Int))) (
 sif (decide (x4 < (56320 : Int))) (
 sif (decide (x7 ≥ (56320 : Int))) (
 J8 ((decide (x7 < (57344 : Int))), ())) (
 J8 (false, ()))) (
 J8 (false, ()))) (
 J8 (false, ()))) fun (s9 : Bool × Unit) =>
 sif s9.1 (
 K ((IntKind.wrap .i64 ((IntKind.wrap .i64 ((IntKind.wrap .i64 ((65536 : Int) + (IntKind.wrap .i64 ((IntKind.wrap .i64 (x4 - (55296 : Int))) * (1024 : Int))))) + x7)) - (56320 : Int))), (4 : Int), ())) (
 K (x4, (2 : Int), ())))))
noncomputable def h62 : Hint := (.seq none (.region [] (.ops 2 .done)) (.seq none (.seq none (.region [] (.ops 2 .done)) (.cond none (.seq none (.region [] (.ops 7 .done)) .leaf) .leaf)) (.seq none (.seq none (.region [] (.ops 2 .done)) (.cond none (.seq none (.region [] (.ops 7 .done)) .leaf) .leaf)) (.seq none (.region [] (.ops 5 .done)) (.seq none (.seq none (.region [] (.ops 2 .done)) (.cond none (.seq none (.region [] (.ops 8 .done)) .leaf) .leaf)) (.seq none (.region [] (.ops 6 .done)) (.seq none (.seq (some (36026597995708416, [(54, (.one .bool))])) (.region [] (.ops 3 (.split 43 (.ops 4 (.split 47 (.ops 4 (.split 51 (.ops 3 .done) (.skips 2 (.ops 1 .done)))) (.skips 2 (.ops 2 (.skips 2 (.ops 1 .done)))))) (.skips 2 (.ops 2 (.skips 2 (.ops 2 (.skips 2 (.ops 1 .done))))))))) (.cond none (.seq none (.region [] (.ops 9 .done)) .leaf) .leaf)) (.seq none (.region [] (.ops 3 .done)) .leaf))))))))
theorem F62_tie (a0 : Int) (a1 : Sl) (a2 : Int) (K : (Int × Int × Unit) → World → Prop) : vcgF tab Tryz.prog Tryz.f62 h62 [(.int .i64 a0), (.slice a1.a a1.len a1.cap), (.int .i64 a2)] (.tup [(.one (.int .i64)), (.one (.int .i64))]) K = F62 a0 a1 a2 K := by kernel_rfl
theorem F62_calls {a0 : Int} {a1 : Sl} {a2 : Int} {K : (Int × Int × Unit) → World → Prop} {w : World} (h : F62 a0 a1 a2 K w) : callT Tryz.prog 62 #[(.int .i64 a0), (.slice a1.a a1.len a1.cap), (.int .i64 a2)] (.tup [(.one (.int .i64)), (.one (.int .i64))]) K w :=
  vcgF_sound tabOk Tryz.func62 h62 [(.int .i64 a0), (.slice a1.a a1.len a1.cap), (.int .i64 a2)] (.tup [(.one (.int .i64)), (.one (.int .i64))]) K w (Eq.mpr (congrFun (F62_tie a0 a1 a2 K) w) h)
noncomputable def F63 (a0 : Int) (a1 : Sl) (a2 : Int) (K : (Int × Int × Unit) → World → Prop) : World → Prop :=
 callT Tryz.prog 85 #[(.int .i64 a0)] (.one (.one .any)) fun (x1 : Value) =>
 join (S := Bool × Unit) (fun J2 =>
 rdB Tryz.prog (do eqGuard .eql 132 (Operand.tmp 11) (Operand.const Value.nilIface) x1 .nilIface; binOp .eql 132 x1 .nilIface : Sem Value) fun r4 =>
 sif r4 (
 J2 (true, ())) (
 sif (decide (a2 < (0 : Int))) (
 J2 (true, ())) (
 J2 ((decide (a2 ≥ ((a1.len : Nat) : Int))), ())))) fun (s3 : Bool × Unit) =>
 sif s3.1 (
 K ((0 : Int), (0 : Int), ())) (
 drew <|
 slc a1.a a2 ((a1.len : Nat) : Int) ((a1.cap : Nat) : Int) a1.cap 1 fun x5 =>
 chk (methOk Tryz.prog x1 "copyist/codec.first") <|
 callX Tryz.prog (invoke (.fn (.method "copyist/codec.first") #[]) (#[x1] ++ #[(.slice x5.a x5.len x5.cap)])) (.tup [(.one (.int .i64)), (.one (.int .i64))]) fun (x6 : (Int × Int × Unit)) =>
 K (x6.1, x6.2.1, ()))
noncomputable def h63 : Hint := (.seq none (.region [] (.ops 2 .done)) (.seq none (.region [] (.ops 3 .done)) (.seq none (.seq (some (8386560, [(22, (.one .bool))])) (.region [] (.ops 3 (.split 13 (.skips 2 (.ops 2 (.skips 4 (.ops 1 .done)))) (.ops 4 (.split 17 (.skips 4 (.ops 1 .done)) (.ops 5 .done)))))) (.cond none (.seq none (.region [] (.ops 2 .done)) .leaf) .leaf)) (.seq none (.region [0, 1, 2, 3, 4, 5, 6, 7, 8, 9, 10, 11] (.ops 12 .done)) .leaf))))
theorem F63_tie (a0 : Int) (a1 : Sl) (a2 : Int) (K : (Int × Int × Unit) → World → Prop) : vcgF tab Tryz.prog Tryz.f63 h63 [(.int .i64 a0), (.slice a1.a a1.len a1.cap), (.int .i64 a2)] (.tup [(.one (.int .i64)), (.one (.int .i64))]) K = F63 a0 a1 a2 K := by kernel_rfl
theorem F63_calls {a0 : Int} {a1 : Sl} {a2 : Int} {K : (Int × Int × Unit) → World → Prop} {w : World} (h : F63 a0 a1 a2 K w) : callT Tryz.prog 63 #[(.int .i64 a0), (.slice a1.a a1.len a1.cap), (.int .i64 a2)] (.tup [(.one (.int .i64)), (.one (.int .i64))]) K w :=
  vcgF_sound tabOk Tryz.func63 h63 [(.int .i64 a0), (.slice a1.a a1.len a1.cap), (.int .i64 a2)] (.tup [(.one (.int .i64)), (.one (.int .i64))]) K w (Eq.mpr (congrFun (F63_tie a0 a1 a2 K) w) h)
noncomputable def F64 (a0 : Int) (a1 : Sl) (a2 : Int) (K : (Sl × Int × Int × Int × Int × Bool × Bool × Unit) → World → Prop) : World → Prop :=
 newO (.cells #[(.slice none 0 0), (.int .i64 (0 : Int)), (.int .i64 (0 : Int)), (.int .i64 (0 : Int)), (.int .i64 (0 : Int)), (.bool false), (.bool false)] 112) fun b1 =>
 newO (.cells #[(.slice none 0 0), (.int .i64 (0 : Int)), (.int .i64 (0 : Int)), (.int .i64 (0 : Int)), (.int .i64 (0 : Int)), (.bool false), (.bool false)] 112) fun b2 =>
 aggSt (at0 b2) (.agg #[(.slice a1.a a1.len a1.cap), (.int .i64 a2), (.int .i64 (0 : Int)), (.int .i64 (0 : Int)), (.int .i64 (0 : Int)), (.bool false), (.bool false)]) 7 <|
 join (S := Unit) (fun J3 =>
 sloop (S := Int × Unit) (fun (s5 : Int × Unit) again6 =>
 sif (decide (s5.1 < ((a1.len : Nat) : Int))) (
 callT Tryz.prog 63 #[(.int .i64 a0), (.slice a1.a a1.len a1.cap), (.int .i64 s5.1)] (.tup [(.one (.int .i64)), (.one (.int .i64))]) fun (x7 : (Int × Int × Unit)) =>
 drew <|
 lds c110 (⟨b2, 2, none⟩ : Addr) fun (x8 : (Int × Int × Int × Bool × Bool × Unit)) =>
 callT Tryz.prog 87 #[(.int .i64 x7.1), (.int .i64 x7.2.1)] (.one (.agg c110)) fun (x9 : (Int × Int × Int × Bool × Bool × Unit)) =>
 keep (fun w => cellsAt w (⟨b2, 2, none⟩ : Addr) 0 (Cells.vals c110 x8)) <|
 callT Tryz.prog 86 #[(.agg (Cells.vals c110 x8).toArray), (.agg (Cells.vals c110 x9).toArray)] (.one (.agg c110)) fun (x10 : (Int × Int × Int × Bool × Bool × Unit)) =>
 aggSt (⟨b2, 2, none⟩ : Addr) (.agg (Cells.vals c110 x10).toArray) 5 <|
 again6 ((IntKind.wrap .i64 (s5.1 + x7.2.1)), ())) (
 J3 ())) ((0 : Int), ())) fun (s4 : Unit) =>
 lds c112 (at0 b2) fun (x11 : (Sl × Int × Int × Int × Int × Bool × Bool × Unit)) =>
 aggSt (at0 b1) (.agg (Cells.vals c112 x11).toArray) 7 <|
 lds c112 (at0 b1) fun (x12 : (Sl × Int × Int × Int × Int × Bool × Bool × Unit)) =>
 K x12
noncomputable def h64 : Hint := (.seq none (.region [] (.ops 1 .done)) (.seq none (.region [] (.ops 5 .done)) (.seq (some (34359723776, [])) (.seq none (.region [] (.ops 1 .done)) (.block (.loop 34359723776 [(8, (.one (.int .i64)))] (.seq none (.seq none (.region [] (.ops 4 .done)) (.cond none .leaf .leaf)) (.block (.seq none (.region [] (.ops 9 .done)) (.seq none (.region [0, 1, 2, 3, 4, 5, 6, 7] (.ops 8 .done)) (.region [] (.ops 4 .done))))))))) (.seq none (.region [] (.ops 2 .done)) .leaf))))
theorem F64_tie (a0 : Int) (a1 : Sl) (a2 : Int) (K : (Sl × Int × Int × Int × Int × Bool × Bool × Unit) → World → Prop) : vcgF tab Tryz.prog Tryz.f64 h64 [(.int .i64 a0), (.slice a1.a a1.len a1.cap), (.int .i64 a2)] (.one (.agg c112)) K = F64 a0 a1 a2 K := by kernel_rfl
theorem F64_calls {a0 : Int} {a1 : Sl} {a2 : Int} {K : (Sl × Int × Int × Int × Int × Bool × Bool × Unit) → World → Prop} {w : World} (h : F64 a0 a1 a2 K w) : callT Tryz.prog 64 #[(.int .i64 a0), (.slice a1.a a1.len a1.cap), (.int .i64 a2)] (.one (.agg c112)) K w :=
  vcgF_sound tabOk Tryz.func64 h64 [(.int .i64 a0), (.slice a1.a a1.len a1.cap), (.int .i64 a2)] (.one (.agg c112)) K w (Eq.mpr (congrFun (F64_tie a0 a1 a2 K) w) h)
noncomputable def F65 (a0 : Sl) (K : (Option Addr × Unit) → World → Prop) : World → Prop :=
 newO (.cells #[(.pointer none)] 105) fun b1 =>
 callT Tryz.prog 88 #[(.slice a0.a a0.len a0.cap)] (.one (.one .ptr)) fun (x2 : Option Addr) =>
 aggSt (at0 b1) (.agg #[(.pointer x2)]) 1 <|
 lds c105 (at0 b1) fun (x3 : (Option Addr × Unit)) =>
 K x3
noncomputable def h65 : Hint := (.seq none (.region [] (.ops 1 .done)) (.seq none (.region [] (.ops 4 .done)) .leaf))
theorem F65_tie (a0 : Sl) (K : (Option Addr × Unit) → World → Prop) : vcgF tab Tryz.prog Tryz.f65 h65 [(.slice a0.a a0.len a0.cap)] (.one (.agg c105)) K = F65 a0 K := by kernel_rfl
theorem F65_calls {a0 : Sl} {K : (Option Addr × Unit) → World → Prop} {w : World} (h : F65 a0 K w) : callT Tryz.prog 65 #[(.slice a0.a a0.len a0.cap)] (.one (.agg c105)) K w :=
  vcgF_sound tabOk Tryz.func65 h65 [(.slice a0.a a0.len a0.cap)] (.one (.agg c105)) K w (Eq.mpr (congrFun (F65_tie a0 K) w) h)
noncomputable def F66 (a0 : Option Addr) (a1 : Int) (K : Int → World → Prop) : World → Prop :=
 sif (decide (a1 ≤ (0 : Int))) (
 K (0 : Int)) (
 callT Tryz.prog 40 #[(.pointer a0)] (.one (.one (.int .i64))) fun (x1 : Int) =>
 sif (decide (a1 ≥ x1)) (
 nn a0 fun p2 =>
 lds c105 (p2.add 2) fun (x3 : (Option Addr × Unit)) =>
 callT Tryz.prog 70 #[(.agg (Cells.vals c105 x3).toArray)] (.one (.agg c110)) fun (x4 : (Int × Int × Int × Bool × Bool × Unit)) =>
 K x4.2.2.1) (
 callT Tryz.prog 89 #[(.pointer a0), (.int .i64 a1)] (.one (.agg c110)) fun (x5 : (Int × Int × Int × Bool × Bool × Unit)) =>
 newO (.cells #[(.int .i64 (0 : Int)), (.int .i64 (0 : Int)), (.int .i64 (0 : Int)), (.bool false), (.bool false)] 110) fun b6 =>
 aggSt (at0 b6) (.agg (Cells.vals c110 x5).toArray) 5 <|
 join (S := Bool × Unit) (fun J7 =>
 ld (.bool) (⟨b6, 4, none⟩ : Addr) fun (x9 : Bool) =>
 sif x9 (
 callT Tryz.prog 23 #[(.pointer a0), (.int .i64 a1), (.int .i64 (IntKind.wrap .i64 (a1 + (1 : Int))))] (.one (.one .sl)) fun (x10 : Sl) =>
 ix x10.a x10.len (0 : Int) fun p11 =>
 ld (.int .i64) (p11.add (scaled (Int.toNat (0 : Int)) 1)) fun (x12 : Int) =>
 J7 ((x12 == (10 : Int)), ())) (
 J7 (false, ()))) fun (s8 : Bool × Unit) =>
 sif s8.1 (
 ld (.int .i64) (⟨b6, 2, none⟩ : Addr) fun (x13 : Int) =>
 K (IntKind.wrap .i64 (x13 - (1 : Int)))) (
 ld (.int .i64) (⟨b6, 2, none⟩ : Addr) fun (x14 : Int) =>
 K x14)))
noncomputable def h66 : Hint := (.seq none (.region [] (.ops 1 .done)) (.seq none (.block (.seq none (.region [] (.ops 3 .done)) (.cond none (.seq none (.region [] (.ops 1 .done)) .leaf) (.seq none (.region [] (.ops 5 .done)) (.cond none (.seq none (.region [] (.ops 7 .done)) .leaf) .leaf))))) (.seq none (.region [] (.ops 5 .done)) (.seq none (.seq (some (34351349760, [(34, (.one .bool))])) (.region [] (.ops 3 (.split 25 (.ops 9 .done) (.skips 8 (.ops 1 .done))))) (.cond none (.seq none (.region [] (.ops 4 .done)) .leaf) .leaf)) (.seq none (.region [] (.ops 3 .done)) .leaf)))))
theorem F66_tie (a0 : Option Addr) (a1 : Int) (K : Int → World → Prop) : vcgF tab Tryz.prog Tryz.f66 h66 [(.pointer a0), (.int .i64 a1)] (.one (.one (.int .i64))) K = F66 a0 a1 K := by kernel_rfl
theorem F66_calls {a0 : Option Addr} {a1 : Int} {K : Int → World → Prop} {w : World} (h : F66 a0 a1 K w) : callT Tryz.prog 66 #[(.pointer a0), (.int .i64 a1)] (.one (.one (.int .i64))) K w :=
  vcgF_sound tabOk Tryz.func66 h66 [(.pointer a0), (.int .i64 a1)] (.one (.one (.int .i64))) K w (Eq.mpr (congrFun (F66_tie a0 a1 K) w) h)
noncomputable def F67 (a0 : Option Addr) (a1 : Int) (K : Int → World → Prop) : World → Prop :=
 sif (a1 == (0 : Int)) (
 K (0 : Int)) (
 join (S := Bool × Unit) (fun J1 =>
 sif (decide (a1 < (0 : Int))) (
 J1 (true, ())) (
 nn a0 fun p3 =>
 lds c105 (p3.add 2) fun (x4 : (Option Addr × Unit)) =>
 callT Tryz.prog 70 #[(.agg (Cells.vals c105 x4).toArray)] (.one (.agg c110)) fun (x5 : (Int × Int × Int × Bool × Bool × Unit)) =>
 J1 ((decide (a1 > x5.2.2.1)), ()))) fun (s2 : Bool × Unit) =>
 sif s2.1 (
 K (-1 : Int)) (
 nn a0 fun p6 =>
 lds c105 (p6.add 2) fun (x7 : (Option Addr × Unit)) =>
 callT Tryz.prog 90 #[(.agg (Cells.vals c105 x7).toArray), (.int .i64 (1 : Int)), (.int .i64 a1)] (.one (.one (.int .i64))) fun (x8 : Int) =>
 nn a0 fun p9 =>
 lds c105 (p9.add 2) fun (x10 : (Option Addr × Unit)) =>
 callT Tryz.prog 91 #[(.agg (Cells.vals c105 x10).toArray), (.int .i64 (IntKind.wrap .i64 (x8 - (1 : Int))))] (.one (.agg c110)) fun (x11 : (Int × Int × Int × Bool × Bool × Unit)) =>
 newO (.cells #[(.int .i64 (0 : Int)), (.int .i64 (0 : Int)), (.int .i64 (0 : Int)), (.bool false), (.bool false)] 110) fun b12 =>
 aggSt (at0 b12) (.agg (Cells.vals c110 x11).toArray) 5 <|
 nn a0 fun p13 =>
 lds c105 (p13.add 2) fun (x14 : (Option Addr × Unit)) =>
 callT Tryz.prog 92 #[(.agg (Cells.vals c105 x14).toArray), (.int .i64 (IntKind.wrap .i64 (x8 - (1 : Int))))] (.tup [(.agg c112), (.one .bool)]) fun (x15 : ((Sl × Int × Int × Int × Int × Bool × Bool × Unit) × Bool × Unit)) =>
 newO (.cells #[(.slice none 0 0), (.int .i64 (0 : Int)), (.int .i64 (0 : Int)), (.int .i64 (0 : Int)), (.int .i64 (0 : Int)), (.bool false), (.bool false)] 112) fun b16 =>
 aggSt (at0 b16) (.agg (Cells.vals c112 x15.1).toArray) 7 <|
 join (S := Unit) (fun J17 =>
 sloop (S := Int × Unit) (fun (s19 : Int × Unit) again20 =>
 join (S := Bool × Unit) (fun J21 =>
 ld (.sl) (at0 b16) fun (x23 : Sl) =>
 sif (decide (s19.1 < ((x23.len : Nat) : Int))) (
 ld (.int .i64) (⟨b12, 2, none⟩ : Addr) fun (x24 : Int) =>
 J21 ((decide (x24 < a1)), ())) (
 J21 (false, ()))) fun (s22 : Bool × Unit) =>
 sif s22.1 (
 drew <|
 nn a0 fun p25 =>
 ld (.int .i64) p25 fun (x26 : Int) =>
 ld (.sl) (at0 b16) fun (x27 : Sl) =>
 callT Tryz.prog 63 #[(.int .i64 x26), (.slice x27.a x27.len x27.cap), (.int .i64 s19.1)] (.tup [(.one (.int .i64)), (.one (.int .i64))]) fun (x28 : (Int × Int × Unit)) =>
 drew <|
 lds c110 (at0 b12) fun (x29 : (Int × Int × Int × Bool × Bool × Unit)) =>
 callT Tryz.prog 87 #[(.int .i64 x28.1), (.int .i64 x28.2.1)] (.one (.agg c110)) fun (x30 : (Int × Int × Int × Bool × Bool × Unit)) =>
 keep (fun w => cellsAt w (at0 b12) 0 (Cells.vals c110 x29)) <|
 callT Tryz.prog 86 #[(.agg (Cells.vals c110 x29).toArray), (.agg (Cells.vals c110 x30).toArray)] (.one (.agg c110)) fun (x31 : (Int × Int × Int × Bool × Bool × Unit)) =>
 aggSt (at0 b12) (.agg (Cells.vals c110 x31).toArray) 5 <|
 again20 ((IntKind.wrap .i64 (s19.1 + x28.2.1)), ())) (
 J17 ())) ((0 : Int), ())) fun (s18 : Unit) =>
 ld (.int .i64) (at0 b12) fun (x32 : Int) =>
 ld (.int .i64) (at0 b12) fun (x33 : Int) =>
 callT Tryz.prog 23 #[(.pointer a0), (.int .i64 x32), (.int .i64 (IntKind.wrap .i64 (x33 + (1 : Int))))] (.one (.one .sl)) fun (x34 : Sl) =>
 join (S := Bool × Unit) (fun J35 =>
 ld (.bool) (⟨b12, 4, none⟩ : Addr) fun (x37 : Bool) =>
 sif x37 (
 sif (((x34.len : Nat) : Int) == (1 : Int)) (
 ix x34.a x34.len (0 : Int) fun p38 =>
 ld (.int .i64) (p38.add (scaled (Int.toNat (0 : Int)) 1)) fun (x39 : Int) =>
 J35 ((x39 == (10 : Int)), ())) (
 J35 (false, ()))) (
 J35 (false, ()))) fun (s36 : Bool × Unit) =>
 sif s36.1 (
 ld (.int .i64) (at0 b12) fun (x40 : Int) =>
 K (IntKind.wrap .i64 (x40 + (1 : Int)))) (
 ld (.int .i64) (at0 b12) fun (x41 : Int) =>
 K x41)))
noncomputable def h67 : Hint := (.seq none (.region [] (.ops 1 .done)) (.seq none (.block (.seq none (.region [] (.ops 3 .done)) (.cond none (.seq none (.region [] (.ops 1 .done)) .leaf) (.seq (some (536805376, [(16, (.one .bool))])) (.region [] (.ops 3 (.split 19 (.skips 8 (.ops 2 .done)) (.ops 10 .done)))) (.cond none (.seq none (.region [] (.ops 1 .done)) .leaf) .leaf))))) (.seq none (.region [] (.ops 8 .done)) (.seq none (.region [] (.ops 8 .done)) (.seq none (.region [] (.ops 12 .done)) (.seq (some (2417851636977458535730688, [])) (.seq none (.region [] (.ops 1 .done)) (.block (.loop 2417851636977458535730688 [(9, (.one (.int .i64)))] (.seq none (.seq (some (4609434218613702656, [(61, (.one .bool))])) (.region [] (.ops 6 (.split 56 (.ops 5 .done) (.skips 4 (.ops 1 .done))))) (.cond none .leaf .leaf)) (.block (.seq none (.region [0, 1, 2, 3, 4, 5, 6, 7, 8, 9, 10, 11, 12] (.ops 13 .done)) (.seq none (.region [0, 1, 2, 3, 4, 5] (.ops 6 .done)) (.region [] (.ops 4 .done))))))))) (.seq none (.seq none (.region [] (.ops 8 .done)) (.seq (some (2534991715446637457924681629696, [(100, (.one .bool))])) (.region [] (.ops 3 (.split 90 (.ops 5 (.split 95 (.ops 5 .done) (.skips 4 (.ops 1 .done)))) (.skips 3 (.ops 2 (.skips 4 (.ops 1 .done))))))) (.cond none (.seq none (.region [] (.ops 4 .done)) .leaf) .leaf))) (.seq none (.region [] (.ops 3 .done)) .leaf))))))))
theorem F67_tie (a0 : Option Addr) (a1 : Int) (K : Int → World → Prop) : vcgF tab Tryz.prog Tryz.f67 h67 [(.pointer a0), (.int .i64 a1)] (.one (.one (.int .i64))) K = F67 a0 a1 K := by kernel_rfl
theorem F67_calls {a0 : Option Addr} {a1 : Int} {K : Int → World → Prop} {w : World} (h : F67 a0 a1 K w) : callT Tryz.prog 67 #[(.pointer a0), (.int .i64 a1)] (.one (.one (.int .i64))) K w :=
  vcgF_sound tabOk Tryz.func67 h67 [(.pointer a0), (.int .i64 a1)] (.one (.one (.int .i64))) K w (Eq.mpr (congrFun (F67_tie a0 a1 K) w) h)
noncomputable def F70 (a0 : (Option Addr × Unit)) (K : (Int × Int × Int × Bool × Bool × Unit) → World → Prop) : World → Prop :=
 newO (.cells #[(.pointer a0.1)] 105) fun b1 =>
 newO (.cells #[(.int .i64 (0 : Int)), (.int .i64 (0 : Int)), (.int .i64 (0 : Int)), (.bool false), (.bool false)] 110) fun b2 =>
 ld (.ptr) (at0 b1) fun (x3 : Option Addr) =>
 sif (Option.isNone x3) (
 newO (.cells #[(.int .i64 (0 : Int)), (.int .i64 (0 : Int)), (.int .i64 (0 : Int)), (.bool false), (.bool false)] 110) fun b4 =>
 lds c110 (at0 b4) fun (x5 : (Int × Int × Int × Bool × Bool × Unit)) =>
 aggSt (at0 b2) (.agg (Cells.vals c110 x5).toArray) 5 <|
 lds c110 (at0 b2) fun (x6 : (Int × Int × Int × Bool × Bool × Unit)) =>
 K x6) (
 ld (.ptr) (at0 b1) fun (x7 : Option Addr) =>
 nn x7 fun p8 =>
 lds c110 (p8.add 11) fun (x9 : (Int × Int × Int × Bool × Bool × Unit)) =>
 aggSt (at0 b2) (.agg (Cells.vals c110 x9).toArray) 5 <|
 lds c110 (at0 b2) fun (x10 : (Int × Int × Int × Bool × Bool × Unit)) =>
 K x10)
noncomputable def h70 : Hint := (.seq none (.region [] (.ops 2 .done)) (.seq none (.seq none (.region [] (.ops 3 .done)) (.cond none (.seq none (.region [] (.ops 1 .done)) (.seq none (.region [] (.ops 2 .done)) .leaf)) .leaf)) (.seq none (.region [] (.ops 6 .done)) .leaf)))
theorem F70_tie (a0 : (Option Addr × Unit)) (K : (Int × Int × Int × Bool × Bool × Unit) → World → Prop) : vcgF tab Tryz.prog Tryz.f70 h70 [(.agg (Cells.vals c105 a0).toArray)] (.one (.agg c110)) K = F70 a0 K := by kernel_rfl
theorem F70_calls {a0 : (Option Addr × Unit)} {K : (Int × Int × Int × Bool × Bool × Unit) → World → Prop} {w : World} (h : F70 a0 K w) : callT Tryz.prog 70 #[(.agg (Cells.vals c105 a0).toArray)] (.one (.agg c110)) K w :=
  vcgF_sound tabOk Tryz.func70 h70 [(.agg (Cells.vals c105 a0).toArray)] (.one (.agg c110)) K w (Eq.mpr (congrFun (F70_tie a0 K) w) h)
noncomputable def F73 (a0 : Option Addr) (a1 : Int) (K : (Int × Int × Unit) → World → Prop) : World → Prop :=
 sif (decide (a1 ≤ (0 : Int))) (
 K ((0 : Int), (0 : Int), ())) (
 nn a0 fun p1 =>
 lds c105 (p1.add 2) fun (x2 : (Option Addr × Unit)) =>
 callT Tryz.prog 90 #[(.agg (Cells.vals c105 x2).toArray), (.int .i64 (0 : Int)), (.int .i64 a1)] (.one (.one (.int .i64))) fun (x3 : Int) =>
 nn a0 fun p4 =>
 lds c105 (p4.add 2) fun (x5 : (Option Addr × Unit)) =>
 callT Tryz.prog 91 #[(.agg (Cells.vals c105 x5).toArray), (.int .i64 (IntKind.wrap .i64 (x3 - (1 : Int))))] (.one (.agg c110)) fun (x6 : (Int × Int × Int × Bool × Bool × Unit)) =>
 K ((IntKind.wrap .i64 (x3 - (1 : Int))), (IntKind.wrap .i64 (a1 - x6.1)), ()))
noncomputable def h73 : Hint := (.seq none (.region [] (.ops 2 .done)) (.seq none (.seq none (.region [] (.ops 2 .done)) (.cond none (.seq none (.region [] (.ops 2 .done)) .leaf) .leaf)) (.seq none (.region [] (.ops 8 .done)) (.seq none (.region [] (.ops 12 .done)) .leaf))))
theorem F73_tie (a0 : Option Addr) (a1 : Int) (K : (Int × Int × Unit) → World → Prop) : vcgF tab Tryz.prog Tryz.f73 h73 [(.pointer a0), (.int .i64 a1)] (.tup [(.one (.int .i64)), (.one (.int .i64))]) K = F73 a0 a1 K := by kernel_rfl
theorem F73_calls {a0 : Option Addr} {a1 : Int} {K : (Int × Int × Unit) → World → Prop} {w : World} (h : F73 a0 a1 K w) : callT Tryz.prog 73 #[(.pointer a0), (.int .i64 a1)] (.tup [(.one (.int .i64)), (.one (.int .i64))]) K w :=
  vcgF_sound tabOk Tryz.func73 h73 [(.pointer a0), (.int .i64 a1)] (.tup [(.one (.int .i64)), (.one (.int .i64))]) K w (Eq.mpr (congrFun (F73_tie a0 a1 K) w) h)
noncomputable def F74 (a0 : (Option Addr × Unit)) (a1 : Int) (K : Value → World → Prop) : World → Prop :=
 newO (.cells #[(.pointer a0.1)] 105) fun b1 =>
 newO (.cells #[(.int .i64 a1)] 3) fun b2 =>
 K (.func (Fn.func 100) #[] #[(.pointer (some (at0 b1))), (.pointer (some (at0 b2)))])
noncomputable def h74 : Hint := (.seq none (.region [] (.ops 3 .done)) (.seq none (.region [] (.ops 2 .done)) .leaf))
theorem F74_tie (a0 : (Option Addr × Unit)) (a1 : Int) (K : Value → World → Prop) : vcgF tab Tryz.prog Tryz.f74 h74 [(.agg (Cells.vals c105 a0).toArray), (.int .i64 a1)] (.one (.one .any)) K = F74 a0 a1 K := by kernel_rfl
theorem F74_calls {a0 : (Option Addr × Unit)} {a1 : Int} {K : Value → World → Prop} {w : World} (h : F74 a0 a1 K w) : callT Tryz.prog 74 #[(.agg (Cells.vals c105 a0).toArray), (.int .i64 a1)] (.one (.one .any)) K w :=
  vcgF_sound tabOk Tryz.func74 h74 [(.agg (Cells.vals c105 a0).toArray), (.int .i64 a1)] (.one (.one .any)) K w (Eq.mpr (congrFun (F74_tie a0 a1 K) w) h)
noncomputable def F77 (a0 : Option Addr) (a1 : Sl) (K : Int → World → Prop) : World → Prop :=
 sif (decide (((a1.len : Nat) : Int) > (70000 : Int))) (
 K (3 : Int)) (
 callT Tryz.prog 40 #[(.pointer a0)] (.one (.one (.int .i64))) fun (x1 : Int) =>
 join (S := Unit) (fun J2 =>
 sloop (S := Int × Int × Unit) (fun (s4 : Int × Int × Unit) again5 =>
 sif (decide (s4.2.1 < ((a1.len : Nat) : Int))) (
 ix a1.a a1.len s4.2.1 fun p6 =>
 lds c83 (p6.add (scaled (Int.toNat s4.2.1) 3)) fun (x7 : (Int × Int × Sl × Unit)) =>
 newO (.cells #[(.int .i64 (0 : Int)), (.int .i64 (0 : Int)), (.slice none 0 0)] 83) fun b8 =>
 aggSt (at0 b8) (.agg (Cells.vals c83 x7).toArray) 3 <|
 join (S := Bool × Unit) (fun J9 =>
 ld (.int .i64) (at0 b8) fun (x11 : Int) =>
 sif (decide (x11 < s4.1)) (
 J9 (true, ())) (
 ld (.int .i64) (⟨b8, 1, none⟩ : Addr) fun (x12 : Int) =>
 ld (.int .i64) (at0 b8) fun (x13 : Int) =>
 sif (decide (x12 < x13)) (
 J9 (true, ())) (
 ld (.int .i64) (⟨b8, 1, none⟩ : Addr) fun (x14 : Int) =>
 J9 ((decide (x14 > x1)), ())))) fun (s10 : Bool × Unit) =>
 sif s10.1 (
 K (2 : Int)) (
 ld (.int .i64) (⟨b8, 1, none⟩ : Addr) fun (x15 : Int) =>
 again5 (x15, (IntKind.wrap .i64 (s4.2.1 + (1 : Int))), ()))) (
 J2 ())) ((0 : Int), (0 : Int), ())) fun (s3 : Unit) =>
 callT Tryz.prog 110 #[(.pointer a0)] (.one (.one (.int .i64))) fun (x16 : Int) =>
 join (S := Int × Unit) (fun J17 =>
 sloop (S := Int × Int × Unit) (fun (s19 : Int × Int × Unit) again20 =>
 sif (decide (s19.2.1 < ((a1.len : Nat) : Int))) (
 join (S := Int × Unit) (fun J21 =>
 ix a1.a a1.len s19.2.1 fun p23 =>
 lds c83 (p23.add (scaled (Int.toNat s19.2.1) 3)) fun (x24 : (Int × Int × Sl × Unit)) =>
 newO (.cells #[(.int .i64 (0 : Int)), (.int .i64 (0 : Int)), (.slice none 0 0)] 83) fun b25 =>
 aggSt (at0 b25) (.agg (Cells.vals c83 x24).toArray) 3 <|
 ld (.sl) (⟨b25, 2, none⟩ : Addr) fun (x26 : Sl) =>
 sloop (S := Int × Int × Unit) (fun (s27 : Int × Int × Unit) again28 =>
 sif (decide (s27.2.1 < ((x26.len : Nat) : Int))) (
 ix x26.a x26.len s27.2.1 fun p29 =>
 ld (.int .i64) (p29.add (scaled (Int.toNat s27.2.1) 1)) fun (x30 : Int) =>
 nn a0 fun p31 =>
 ld (.int .i64) p31 fun (x32 : Int) =>
 callT Tryz.prog 111 #[(.int .i64 x32), (.int .i64 x30)] (.one (.one (.int .i64))) fun (x33 : Int) =>
 sif (x33 == (0 : Int)) (
 K (11 : Int)) (
 again28 ((IntKind.wrap .i64 (s27.1 + x33)), (IntKind.wrap .i64 (s27.2.1 + (1 : Int))), ()))) (
 J21 (s27.1, ()))) (s19.1, (0 : Int), ())) fun (s22 : Int × Unit) =>
 again20 (s22.1, (IntKind.wrap .i64 (s19.2.1 + (1 : Int))), ())) (
 J17 (s19.1, ()))) (x16, (0 : Int), ())) fun (s18 : Int × Unit) =>
 join (S := Int × Unit) (fun J34 =>
 sloop (S := Int × Int × Unit) (fun (s36 : Int × Int × Unit) again37 =>
 sif (decide (s36.2.1 < ((a1.len : Nat) : Int))) (
 join (S := Int × Unit) (fun J38 =>
 ix a1.a a1.len s36.2.1 fun p40 =>
 lds c83 (p40.add (scaled (Int.toNat s36.2.1) 3)) fun (x41 : (Int × Int × Sl × Unit)) =>
 newO (.cells #[(.int .i64 (0 : Int)), (.int .i64 (0 : Int)), (.slice none 0 0)] 83) fun b42 =>
 aggSt (at0 b42) (.agg (Cells.vals c83 x41).toArray) 3 <|
 ld (.int .i64) (⟨b42, 1, none⟩ : Addr) fun (x43 : Int) =>
 ld (.int .i64) (at0 b42) fun (x44 : Int) =>
 sif (decide (x43 > x44)) (
 drew <|
 ld (.int .i64) (⟨b42, 1, none⟩ : Addr) fun (x45 : Int) =>
 ld (.int .i64) (at0 b42) fun (x46 : Int) =>
 callT Tryz.prog 89 #[(.pointer a0), (.int .i64 x45)] (.one (.agg c110)) fun (x47 : (Int × Int × Int × Bool × Bool × Unit)) =>
 keep (fun w => w.cell? (at0 b42) = some (Cell.val (.int .i64) x46)) <|
 callT Tryz.prog 89 #[(.pointer a0), (.int .i64 x46)] (.one (.agg c110)) fun (x48 : (Int × Int × Int × Bool × Bool × Unit)) =>
 J38 ((IntKind.wrap .i64 (s36.1 - (IntKind.wrap .i64 (x47.2.1 - x48.2.1)))), ())) (
 J38 (s36.1, ()))) fun (s39 : Int × Unit) =>
 again37 (s39.1, (IntKind.wrap .i64 (s36.2.1 + (1 : Int))), ())) (
 J34 (s36.1, ()))) (s18.1, (0 : Int), ())) fun (s35 : Int × Unit) =>
 nn a0 fun p49 =>
 ld (.int .i64) (p49.add 1) fun (x50 : Int) =>
 sif (decide (s35.1 > x50)) (
 K (50 : Int)) (
 K (0 : Int)))
noncomputable def h77 : Hint := (.seq none (.region [] (.ops 1 .done)) (.seq none (.seq none (.region [] (.ops 3 .done)) (.cond none (.seq none (.region [] (.ops 1 .done)) .leaf) .leaf)) (.seq none (.region [] (.ops 4 .done)) (.seq (some (281474972516656, [])) (.seq none (.region [] (.ops 3 .done)) (.block (.loop 281474959933744 [(5, (.one (.int .i64))), (24, (.one (.int .i64)))] (.seq none (.region [] (.ops 1 .done)) (.seq none (.cond none .leaf .leaf) (.seq none (.block (.seq none (.region [] (.ops 4 .done)) (.seq none (.seq (some (35184103653376, [(44, (.one .bool))])) (.region [] (.ops 5 (.split 32 (.skips 5 (.ops 2 (.skips 4 (.ops 1 .done)))) (.ops 7 (.split 39 (.skips 4 (.ops 1 .done)) (.ops 5 .done)))))) (.cond none (.seq none (.region [] (.ops 1 .done)) .leaf) .leaf)) (.region [] (.ops 3 .done))))) (.region [] (.ops 2 .done)))))))) (.seq none (.region [] (.ops 3 .done)) (.seq (some (75557862600014416603664, [(9, (.one (.int .i64)))])) (.seq none (.region [] (.ops 3 .done)) (.block (.loop 75557859222314696075792 [(9, (.one (.int .i64))), (52, (.one (.int .i64)))] (.seq none (.region [] (.ops 1 .done)) (.seq none (.cond none .leaf .leaf) (.seq (some (37778913848558652254736, [(9, (.one (.int .i64)))])) (.block (.seq none (.region [] (.ops 4 .done)) (.seq none (.region [] (.ops 4 .done)) (.block (.loop 37778355402204858311184 [(9, (.one (.int .i64))), (59, (.one (.int .i64)))] (.seq none (.region [] (.ops 1 .done)) (.seq none (.cond none .leaf .leaf) (.seq none (.block (.seq none (.region [] (.ops 3 .done)) (.seq none (.region [] (.ops 7 .done)) (.seq none (.seq none (.region [] (.ops 2 .done)) (.cond none (.seq none (.region [] (.ops 1 .done)) .leaf) .leaf)) (.region [] (.ops 4 .done)))))) (.region [] (.ops 2 .done)))))))))) (.region [] (.ops 2 .done)))))))) (.seq (some (2535301124898595077079083057664, [(9, (.one (.int .i64)))])) (.seq none (.region [] (.ops 3 .done)) (.block (.loop 2535300898225003899336112800256 [(9, (.one (.int .i64))), (78, (.one (.int .i64)))] (.seq none (.region [] (.ops 1 .done)) (.seq none (.cond none .leaf .leaf) (.seq (some (1267649391302409786867528565248, [(9, (.one (.int .i64)))])) (.block (.seq none (.region [] (.ops 4 .done)) (.seq none (.region [] (.ops 5 .done)) (.cond none (.region [0, 1, 2, 3, 6, 7, 8, 4, 5, 9, 10, 11, 12, 13] (.ops 14 .done)) .leaf)))) (.region [] (.ops 2 .done)))))))) (.seq none (.seq none (.region [] (.ops 6 .done)) (.cond none (.seq none (.region [] (.ops 1 .done)) .leaf) .leaf)) (.seq none (.region [] (.ops 1 .done)) .leaf)))))))))
theorem F77_tie (a0 : Option Addr) (a1 : Sl) (K : Int → World → Prop) : vcgF tab Tryz.prog Tryz.f77 h77 [(.pointer a0), (.slice a1.a a1.len a1.cap)] (.one (.one (.int .i64))) K = F77 a0 a1 K := by kernel_rfl
theorem F77_calls {a0 : Option Addr} {a1 : Sl} {K : Int → World → Prop} {w : World} (h : F77 a0 a1 K w) : callT Tryz.prog 77 #[(.pointer a0), (.slice a1.a a1.len a1.cap)] (.one (.one (.int .i64))) K w :=
  vcgF_sound tabOk Tryz.func77 h77 [(.pointer a0), (.slice a1.a a1.len a1.cap)] (.one (.one (.int .i64))) K w (Eq.mpr (congrFun (F77_tie a0 a1 K) w) h)
noncomputable def F78 (a0 : Option Addr) (a1 : Int) (a2 : Int) (a3 : Sl) (K : Unit → World → Prop) : World → Prop :=
 callT Tryz.prog 73 #[(.pointer a0), (.int .i64 a1)] (.tup [(.one (.int .i64)), (.one (.int .i64))]) fun (x1 : (Int × Int × Unit)) =>
 callT Tryz.prog 73 #[(.pointer a0), (.int .i64 a2)] (.tup [(.one (.int .i64)), (.one (.int .i64))]) fun (x2 : (Int × Int × Unit)) =>
 join (S := Sl × Unit) (fun J3 =>
 nn a0 fun p5 =>
 lds c105 (p5.add 2) fun (x6 : (Option Addr × Unit)) =>
 callT Tryz.prog 92 #[(.agg (Cells.vals c105 x6).toArray), (.int .i64 x1.1)] (.tup [(.agg c112), (.one .bool)]) fun (x7 : ((Sl × Int × Int × Int × Int × Bool × Bool × Unit) × Bool × Unit)) =>
 newO (.cells #[(.slice none 0 0), (.int .i64 (0 : Int)), (.int .i64 (0 : Int)), (.int .i64 (0 : Int)), (.int .i64 (0 : Int)), (.bool false), (.bool false)] 112) fun b8 =>
 aggSt (at0 b8) (.agg (Cells.vals c112 x7.1).toArray) 7 <|
 join (S := Bool × Unit) (fun J9 =>
 sif x7.2.1 (
 J9 ((decide (x1.2.1 > (0 : Int))), ())) (
 J9 (false, ()))) fun (s10 : Bool × Unit) =>
 sif s10.1 (
 join (S := Addr × Unit) (fun J11 =>
 drew <|
 lds c112 (at0 b8) fun (x13 : (Sl × Int × Int × Int × Int × Bool × Bool × Unit)) =>
 nn a0 fun p14 =>
 ld (.int .i64) p14 fun (x15 : Int) =>
 both (
 newO (.cells #[(.slice none 0 0), (.int .i64 (0 : Int)), (.int .i64 (0 : Int)), (.int .i64 (0 : Int)), (.int .i64 (0 : Int)), (.bool false), (.bool false)] 112) fun b16 =>
 keep (fun w => w.cell? p14 = some (Cell.val (.int .i64) x15)) <|
 keep (fun w => cellsAt w (at0 b8) 0 (Cells.vals c112 x13)) <|
 both (
 newO (.cells #[(.slice none 0 0), (.int .i64 (0 : Int)), (.int .i64 (0 : Int)), (.int .i64 (0 : Int)), (.int .i64 (0 : Int)), (.bool false), (.bool false)] 112) fun b17 =>
 keep (fun w => w.cell? p14 = some (Cell.val (.int .i64) x15)) <|
 keep (fun w => cellsAt w (at0 b8) 0 (Cells.vals c112 x13)) <|
 callT Tryz.prog 112 #[(.agg (Cells.vals c112 x13).toArray), (.int .i64 x15), (.int .i64 x1.2.1)] (.tup [(.agg c112), (.agg c112)]) fun (x18 : ((Sl × Int × Int × Int × Int × Bool × Bool × Unit) × (Sl × Int × Int × Int × Int × Bool × Bool × Unit) × Unit)) =>
 aggSt (at0 b16) (.agg (Cells.vals c112 x18.1).toArray) 7 <|
 aggSt (at0 b17) (.agg (Cells.vals c112 x18.2.1).toArray) 7 <|
 J11 ((at0 b16), ())) <|
 callT Tryz.prog 112 #[(.agg (Cells.vals c112 x13).toArray), (.int .i64 x15), (.int .i64 x1.2.1)] (.tup [(.agg c112), (.agg c112)]) fun (x19 : ((Sl × Int × Int × Int × Int × Bool × Bool × Unit) × (Sl × Int × Int × Int × Int × Bool × Bool × Unit) × Unit)) =>
 both (
 newO (.cells #[(.slice none 0 0), (.int .i64 (0 : Int)), (.int .i64 (0 : Int)), (.int .i64 (0 : Int)), (.int .i64 (0 : Int)), (.bool false), (.bool false)] 112) fun b20 =>
 keep (fun w => w.cell? p14 = some (Cell.val (.int .i64) x15)) <|
 keep (fun w => cellsAt w (at0 b8) 0 (Cells.vals c112 x13)) <|
 aggSt (at0 b16) (.agg (Cells.vals c112 x19.1).toArray) 7 <|
 aggSt (at0 b20) (.agg (Cells.vals c112 x19.2.1).toArray) 7 <|
 J11 ((at0 b16), ())) <|
 nothing) <|
 both (
 newO (.cells #[(.slice none 0 0), (.int .i64 (0 : Int)), (.int .i64 (0 : Int)), (.int .i64 (0 : Int)), (.int .i64 (0 : Int)), (.bool false), (.bool false)] 112) fun b21 =>
 keep (fun w => w.cell? p14 = some (Cell.val (.int .i64) x15)) <|
 keep (fun w => cellsAt w (at0 b8) 0 (Cells.vals c112 x13)) <|
 both (
 newO (.cells #[(.slice none 0 0), (.int .i64 (0 : Int)), (.int .i64 (0 : Int)), (.int .i64 (0 : Int)), (.int .i64 (0 : Int)), (.bool false), (.bool false)] 112) fun b22 =>
 keep (fun w => w.cell? p14 = some (Cell.val (.int .i64) x15)) <|
 keep (fun w => cellsAt w (at0 b8) 0 (Cells.vals c112 x13)) <|
 callT Tryz.prog 112 #[(.agg (Cells.vals c112 x13).toArray), (.int .i64 x15), (.int .i64 x1.2.1)] (.tup [(.agg c112), (.agg c112)]) fun (x23 : ((Sl × Int × Int × Int × Int × Bool × Bool × Unit) × (Sl × Int × Int × Int × Int × Bool × Bool × Unit) × Unit)) =>
 aggSt (at0 b22) (.agg (Cells.vals c112 x23.1).toArray) 7 <|
 aggSt (at0 b21) (.agg (Cells.vals c112 x23.2.1).toArray) 7 <|
 J11 ((at0 b22), ())) <|
 callT Tryz.prog 112 #[(.agg (Cells.vals c112 x13).toArray), (.int .i64 x15), (.int .i64 x1.2.1)] (.tup [(.agg c112), (.agg c112)]) fun (x24 : ((Sl × Int × Int × Int × Int × Bool × Bool × Unit) × (Sl × Int × Int × Int × Int × Bool × Bool × Unit) × Unit)) =>
 both (
 newO (.cells #[(.slice none 0 0), (.int .i64 (0 : Int)), (.int .i64 (0 : Int)), (.int .i64 (0 : Int)), (.int .i64 (0 : Int)), (.bool false), (.bool false)] 112) fun b25 =>
 keep (fun w => w.cell? p14 = some (Cell.val (.int .i64) x15)) <|
 keep (fun w => cellsAt w (at0 b8) 0 (Cells.vals c112 x13)) <|
 aggSt (at0 b25) (.agg (Cells.vals c112 x24.1).toArray) 7 <|
 aggSt (at0 b21) (.agg (Cells.vals c112 x24.2.1).toArray) 7 <|
 J11 ((at0 b25), ())) <|
 nothing) <|
 callT Tryz.prog 112 #[(.agg (Cells.vals c112 x13).toArray), (.int .i64 x15), (.int .i64 x1.2.1)] (.tup [(.agg c112), (.agg c112)]) fun (x26 : ((Sl × Int × Int × Int × Int × Bool × Bool × Unit) × (Sl × Int × Int × Int × Int × Bool × Bool × Unit) × Unit)) =>
 both (
 newO (.cells #[(.slice none 0 0), (.int .i64 (0 : Int)), (.int .i64 (0 : Int)), (.int .i64 (0 : Int)), (.int .i64 (0 : Int)), (.bool false), (.bool false)] 112) fun b27 =>
 keep (fun w => w.cell? p14 = some (Cell.val (.int .i64) x15)) <|
 keep (fun w => cellsAt w (at0 b8) 0 (Cells.vals c112 x13)) <|
 both (
 newO (.cells #[(.slice none 0 0), (.int .i64 (0 : Int)), (.int .i64 (0 : Int)), (.int .i64 (0 : Int)), (.int .i64 (0 : Int)), (.bool false), (.bool false)] 112) fun b28 =>
 keep (fun w => w.cell? p14 = some (Cell.val (.int .i64) x15)) <|
 keep (fun w => cellsAt w (at0 b8) 0 (Cells.vals c112 x13)) <|
 aggSt (at0 b27) (.agg (Cells.vals c112 x26.1).toArray) 7 <|
 aggSt (at0 b28) (.agg (Cells.vals c112 x26.2.1).toArray) 7 <|
 J11 ((at0 b27), ())) <|
 nothing) <|
 both (
 newO (.cells #[(.slice none 0 0), (.int .i64 (0 : Int)), (.int .i64 (0 : Int)), (.int .i64 (0 : Int)), (.int .i64 (0 : Int)), (.bool false), (.bool false)] 112) fun b29 =>
 keep (fun w => w.cell? p14 = some (Cell.val (.int .i64) x15)) <|
 keep (fun w => cellsAt w (at0 b8) 0 (Cells.vals c112 x13)) <|
 both (
 newO (.cells #[(.slice none 0 0), (.int .i64 (0 : Int)), (.int .i64 (0 : Int)), (.int .i64 (0 : Int)), (.int .i64 (0 : Int)), (.bool false), (.bool false)] 112) fun b30 =>
 keep (fun w => w.cell? p14 = some (Cell.val (.int .i64) x15)) <|
 keep (fun w => cellsAt w (at0 b8) 0 (Cells.vals c112 x13)) <|
 aggSt (at0 b30) (.agg (Cells.vals c112 x26.1).toArray) 7 <|
 aggSt (at0 b29) (.agg (Cells.vals c112 x26.2.1).toArray) 7 <|
 J11 ((at0 b30), ())) <|
 nothing) <|
 nothing) fun (s12 : Addr × Unit) =>
 lds c112 s12.1 fun (x31 : (Sl × Int × Int × Int × Int × Bool × Bool × Unit)) =>
 newO (.cells #[(.slice x31.1.a x31.1.len x31.1.cap), (.int .i64 x31.2.1), (.int .i64 x31.2.2.1), (.int .i64 x31.2.2.2.1), (.int .i64 x31.2.2.2.2.1), (.bool x31.2.2.2.2.2.1), (.bool x31.2.2.2.2.2.2.1)] 112) fun b32 =>
 rawT Tryz.prog (.one (.one .sl)) (Builtin.append_ #[108, 108] 108 #[(.slice none 0 0), (.slice (some (at0 b32)) 1 1)]) fun (x33 : Sl) =>
 J3 (x33, ())) (
 J3 (⟨none, 0, 0⟩, ()))) fun (s4 : Sl × Unit) =>
 callT Tryz.prog 113 #[(.pointer a0), (.slice a3.a a3.len a3.cap)] (.one (.one .sl)) fun (x34 : Sl) =>
 rawT Tryz.prog (.one (.one .sl)) (Builtin.append_ #[108, 108] 108 #[(.slice s4.1.a s4.1.len s4.1.cap), (.slice x34.a x34.len x34.cap)]) fun (x35 : Sl) =>
 join (S := Sl × Unit) (fun J36 =>
 nn a0 fun p38 =>
 lds c105 (p38.add 2) fun (x39 : (Option Addr × Unit)) =>
 callT Tryz.prog 92 #[(.agg (Cells.vals c105 x39).toArray), (.int .i64 x2.1)] (.tup [(.agg c112), (.one .bool)]) fun (x40 : ((Sl × Int × Int × Int × Int × Bool × Bool × Unit) × Bool × Unit)) =>
 newO (.cells #[(.slice none 0 0), (.int .i64 (0 : Int)), (.int .i64 (0 : Int)), (.int .i64 (0 : Int)), (.int .i64 (0 : Int)), (.bool false), (.bool false)] 112) fun b41 =>
 aggSt (at0 b41) (.agg (Cells.vals c112 x40.1).toArray) 7 <|
 sif x40.2.1 (
 join (S := Addr × Unit) (fun J42 =>
 drew <|
 lds c112 (at0 b41) fun (x44 : (Sl × Int × Int × Int × Int × Bool × Bool × Unit)) =>
 nn a0 fun p45 =>
 ld (.int .i64) p45 fun (x46 : Int) =>
 both (
 newO (.cells #[(.slice none 0 0), (.int .i64 (0 : Int)), (.int .i64 (0 : Int)), (.int .i64 (0 : Int)), (.int .i64 (0 : Int)), (.bool false), (.bool false)] 112) fun b47 =>
 keep (fun w => w.cell? p45 = some (Cell.val (.int .i64) x46)) <|
 keep (fun w => cellsAt w (at0 b41) 0 (Cells.vals c112 x44)) <|
 both (
 newO (.cells #[(.slice none 0 0), (.int .i64 (0 : Int)), (.int .i64 (0 : Int)), (.int .i64 (0 : Int)), (.int .i64 (0 : Int)), (.bool false), (.bool false)] 112) fun b48 =>
 keep (fun w => w.cell? p45 = some (Cell.val (.int .i64) x46)) <|
 keep (fun w => cellsAt w (at0 b41) 0 (Cells.vals c112 x44)) <|
 callT Tryz.prog 112 #[(.agg (Cells.vals c112 x44).toArray), (.int .i64 x46), (.int .i64 x2.2.1)] (.tup [(.agg c112), (.agg c112)]) fun (x49 : ((Sl × Int × Int × Int × Int × Bool × Bool × Unit) × (Sl × Int × Int × Int × Int × Bool × Bool × Unit) × Unit)) =>
 aggSt (at0 b47) (.agg (Cells.vals c112 x49.1).toArray) 7 <|
 aggSt (at0 b48) (.agg (Cells.vals c112 x49.2.1).toArray) 7 <|
 J42 ((at0 b48), ())) <|
 callT Tryz.prog 112 #[(.agg (Cells.vals c112 x44).toArray), (.int .i64 x46), (.int .i64 x2.2.1)] (.tup [(.agg c112), (.agg c112)]) fun (x50 : ((Sl × Int × Int × Int × Int × Bool × Bool × Unit) × (Sl × Int × Int × Int × Int × Bool × Bool × Unit) × Unit)) =>
 both (
 newO (.cells #[(.slice none 0 0), (.int .i64 (0 : Int)), (.int .i64 (0 : Int)), (.int .i64 (0 : Int)), (.int .i64 (0 : Int)), (.bool false), (.bool false)] 112) fun b51 =>
 keep (fun w => w.cell? p45 = some (Cell.val (.int .i64) x46)) <|
 keep (fun w => cellsAt w (at0 b41) 0 (Cells.vals c112 x44)) <|
 aggSt (at0 b47) (.agg (Cells.vals c112 x50.1).toArray) 7 <|
 aggSt (at0 b51) (.agg (Cells.vals c112 x50.2.1).toArray) 7 <|
 J42 ((at0 b51), ())) <|
 nothing) <|
 both (
 newO (.cells #[(.slice none 0 0), (.int .i64 (0 : Int)), (.int .i64 (0 : Int)), (.int .i64 (0 : Int)), (.int .i64 (0 : Int)), (.bool false), (.bool false)] 112) fun b52 =>
 keep (fun w => w.cell? p45 = some (Cell.val (.int .i64) x46)) <|
 keep (fun w => cellsAt w (at0 b41) 0 (Cells.vals c112 x44)) <|
 both (
 newO (.cells #[(.slice none 0 0), (.int .i64 (0 : Int)), (.int .i64 (0 : Int)), (.int .i64 (0 : Int)), (.int .i64 (0 : Int)), (.bool false), (.bool false)] 112) fun b53 =>
 keep (fun w => w.cell? p45 = some (Cell.val (.int .i64) x46)) <|
 keep (fun w => cellsAt w (at0 b41) 0 (Cells.vals c112 x44)) <|
 callT Tryz.prog 112 #[(.agg (Cells.vals c112 x44).toArray), (.int .i64 x46), (.int .i64 x2.2.1)] (.tup [(.agg c112), (.agg c112)]) fun (x54 : ((Sl × Int × Int × Int × Int × Bool × Bool × Unit) × (Sl × Int × Int × Int × Int × Bool × Bool × Unit) × Unit)) =>
 aggSt (at0 b53) (.agg (Cells.vals c112 x54.1).toArray) 7 <|
 aggSt (at0 b52) (.agg (Cells.vals c112 x54.2.1).toArray) 7 <|
 J42 ((at0 b52), ())) <|
 callT Tryz.prog 112 #[(.agg (Cells.vals c112 x44).toArray), (.int .i64 x46), (.int .i64 x2.2.1)] (.tup [(.agg c112), (.agg c112)]) fun (x55 : ((Sl × Int × Int × Int × Int × Bool × Bool × Unit) × (Sl × Int × Int × Int × Int × Bool × Bool × Unit) × Unit)) =>
 both (
 newO (.cells #[(.slice none 0 0), (.int .i64 (0 : Int)), (.int .i64 (0 : Int)), (.int .i64 (0 : Int)), (.int .i64 (0 : Int)), (.bool false), (.bool false)] 112) fun b56 =>
 keep (fun w => w.cell? p45 = some (Cell.val (.int .i64) x46)) <|
 keep (fun w => cellsAt w (at0 b41) 0 (Cells.vals c112 x44)) <|
 aggSt (at0 b56) (.agg (Cells.vals c112 x55.1).toArray) 7 <|
 aggSt (at0 b52) (.agg (Cells.vals c112 x55.2.1).toArray) 7 <|
 J42 ((at0 b52), ())) <|
 nothing) <|
 callT Tryz.prog 112 #[(.agg (Cells.vals c112 x44).toArray), (.int .i64 x46), (.int .i64 x2.2.1)] (.tup [(.agg c112), (.agg c112)]) fun (x57 : ((Sl × Int × Int × Int × Int × Bool × Bool × Unit) × (Sl × Int × Int × Int × Int × Bool × Bool × Unit) × Unit)) =>
 both (
 newO (.cells #[(.slice none 0 0), (.int .i64 (0 : Int)), (.int .i64 (0 : Int)), (.int .i64 (0 : Int)), (.int .i64 (0 : Int)), (.bool false), (.bool false)] 112) fun b58 =>
 keep (fun w => w.cell? p45 = some (Cell.val (.int .i64) x46)) <|
 keep (fun w => cellsAt w (at0 b41) 0 (Cells.vals c112 x44)) <|
 both (
 newO (.cells #[(.slice none 0 0), (.int .i64 (0 : Int)), (.int .i64 (0 : Int)), (.int .i64 (0 : Int)), (.int .i64 (0 : Int)), (.bool false), (.bool false)] 112) fun b59 =>
 keep (fun w => w.cell? p45 = some (Cell.val (.int .i64) x46)) <|
 keep (fun w => cellsAt w (at0 b41) 0 (Cells.vals c112 x44)) <|
 aggSt (at0 b58) (.agg (Cells.vals c112 x57.1).toArray) 7 <|
 aggSt (at0 b59) (.agg (Cells.vals c112 x57.2.1).toArray) 7 <|
 J42 ((at0 b59), ())) <|
 nothing) <|
 both (
 newO (.cells #[(.slice none 0 0), (.int .i64 (0 : Int)), (.int .i64 (0 : Int)), (.int .i64 (0 : Int)), (.int .i64 (0 : Int)), (.bool false), (.bool false)] 112) fun b60 =>
 keep (fun w => w.cell? p45 = some (Cell.val (.int .i64) x46)) <|
 keep (fun w => cellsAt w (at0 b41) 0 (Cells.vals c112 x44)) <|
 both (
 newO (.cells #[(.slice none 0 0), (.int .i64 (0 : Int)), (.int .i64 (0 : Int)), (.int .i64 (0 : Int)), (.int .i64 (0 : Int)), (.bool false), (.bool false)] 112) fun b61 =>
 keep (fun w => w.cell? p45 = some (Cell.val (.int .i64) x46)) <|
 keep (fun w => cellsAt w (at0 b41) 0 (Cells.vals c112 x44)) <|
 aggSt (at0 b61) (.agg (Cells.vals c112 x57.1).toArray) 7 <|
 aggSt (at0 b60) (.agg (Cells.vals c112 x57.2.1).toArray) 7 <|
 J42 ((at0 b60), ())) <|
 nothing) <|
 nothing) fun (s43 : Addr × Unit) =>
 ld (.int .i64) (s43.1.add 2) fun (x62 : Int) =>
 sif (decide (x62 > (0 : Int))) (
 lds c112 s43.1 fun (x63 : (Sl × Int × Int × Int × Int × Bool × Bool × Unit)) =>
 newO (.cells #[(.slice x63.1.a x63.1.len x63.1.cap), (.int .i64 x63.2.1), (.int .i64 x63.2.2.1), (.int .i64 x63.2.2.2.1), (.int .i64 x63.2.2.2.2.1), (.bool x63.2.2.2.2.2.1), (.bool x63.2.2.2.2.2.2.1)] 112) fun b64 =>
 rawT Tryz.prog (.one (.one .sl)) (Builtin.append_ #[108, 108] 108 #[(.slice x35.a x35.len x35.cap), (.slice (some (at0 b64)) 1 1)]) fun (x65 : Sl) =>
 J36 (x65, ())) (
 J36 (x35, ()))) (
 J36 (x35, ()))) fun (s37 : Sl × Unit) =>
 drew <|
 nn a0 fun p66 =>
 lds c105 (p66.add 2) fun (x67 : (Option Addr × Unit)) =>
 nn a0 fun p68 =>
 lds c105 (p68.add 2) fun (x69 : (Option Addr × Unit)) =>
 callT Tryz.prog 115 #[(.agg (Cells.vals c105 x69).toArray)] (.one (.one (.int .i64))) fun (x70 : Int) =>
 keep (fun w => cellsAt w (p66.add 2) 0 (Cells.vals c105 x67)) <|
 callT Tryz.prog 114 #[(.agg (Cells.vals c105 x67).toArray), (.int .i64 x1.1), (.int .i64 (if x70 < (IntKind.wrap .i64 (x2.1 + (1 : Int))) then x70 else (IntKind.wrap .i64 (x2.1 + (1 : Int))))), (.slice s37.1.a s37.1.len s37.1.cap)] (.tup [(.agg c105), (.one (.int .i64))]) fun (x71 : ((Option Addr × Unit) × Int × Unit)) =>
 nn a0 fun p72 =>
 aggSt (p72.add 2) (.agg (Cells.vals c105 x71.1).toArray) 1 <|
 K ()
noncomputable def h78 : Hint := (.seq none (.region [] (.ops 8 .done)) (.seq none (.region [] (.ops 8 .done)) (.seq none (.region [] (.ops 1 .done)) (.seq (some (2305843000623886336, [(12, (.one .sl))])) (.seq none (.region [] (.ops 12 .done)) (.seq (some (136339441844224, [(46, (.one .bool))])) (.region [] (.ops 2 (.split 43 (.ops 3 .done) (.skips 2 (.ops 1 .done))))) (.cond none (.seq (some (143974450587598848, [(15, (.one .addr))])) (.region [0, 1, 2, 3, 4, 5, 6, 7, 8, 9, 12, 13] (.float [10, 11] (.ops 6 (.alt none (.alt none (.plain (.ops 6 .done)) (.ops 4 (.alt none (.plain (.ops 2 .done)) .stop))) (.alt none (.alt none (.plain (.ops 6 .done)) (.ops 4 (.alt none (.plain (.ops 2 .done)) .stop))) (.ops 4 (.alt none (.alt none (.plain (.ops 2 .done)) .stop) (.alt none (.alt none (.plain (.ops 2 .done)) .stop) .stop)))))))) (.region [] (.ops 5 .done))) .leaf))) (.seq none (.region [] (.ops 6 .done)) (.seq (some (19807040554779108103549751296, [(12, (.one .sl))])) (.seq none (.region [] (.ops 12 .done)) (.seq none (.region [] (.ops 1 .done)) (.cond none (.seq (some (77295694591610352859348992, [(20, (.one .addr))])) (.region [0, 1, 2, 3, 4, 5, 6, 7, 8, 9, 12, 13] (.float [10, 11] (.ops 6 (.alt none (.alt none (.plain (.ops 6 .done)) (.ops 4 (.alt none (.plain (.ops 2 .done)) .stop))) (.alt none (.alt none (.plain (.ops 6 .done)) (.ops 4 (.alt none (.plain (.ops 2 .done)) .stop))) (.ops 4 (.alt none (.alt none (.plain (.ops 2 .done)) .stop) (.alt none (.alt none (.plain (.ops 2 .done)) .stop) .stop)))))))) (.seq none (.region [] (.ops 4 .done)) (.cond none (.region [] (.ops 5 .done)) .leaf))) .leaf))) (.region [0, 1, 2, 3, 4, 5, 6, 7, 8, 9, 10, 11, 14, 12, 13, 15, 16, 17, 18, 19, 20, 21] (.ops 22 .done))))))))
theorem F78_tie (a0 : Option Addr) (a1 : Int) (a2 : Int) (a3 : Sl) (K : Unit → World → Prop) : vcgF tab Tryz.prog Tryz.f78 h78 [(.pointer a0), (.int .i64 a1), (.int .i64 a2), (.slice a3.a a3.len a3.cap)] (.tup []) K = F78 a0 a1 a2 a3 K := by kernel_rfl
theorem F78_calls {a0 : Option Addr} {a1 : Int} {a2 : Int} {a3 : Sl} {K : Unit → World → Prop} {w : World} (h : F78 a0 a1 a2 a3 K w) : callT Tryz.prog 78 #[(.pointer a0), (.int .i64 a1), (.int .i64 a2), (.slice a3.a a3.len a3.cap)] (.tup []) K w :=
  vcgF_sound tabOk Tryz.func78 h78 [(.pointer a0), (.int .i64 a1), (.int .i64 a2), (.slice a3.a a3.len a3.cap)] (.tup []) K w (Eq.mpr (congrFun (F78_tie a0 a1 a2 a3 K) w) h)
noncomputable def F83 (a0 : Sl) (a1 : Int) (K : (Int × Int × Unit) → World → Prop) : World → Prop :=
 join (S := Unit) (fun J1 =>
 sloop (S := Int × Unit) (fun (s3 : Int × Unit) again4 =>
 join (S := Bool × Unit) (fun J5 =>
 sif (decide (s3.1 ≤ (4 : Int))) (
 J5 ((decide ((IntKind.wrap .i64 (a1 + s3.1)) ≤ ((a0.len : Nat) : Int))), ())) (
 J5 (false, ()))) fun (s6 : Bool × Unit) =>
 sif s6.1 (
 join (S := Unit) (fun J7 =>
 callT Tryz.prog 116 #[(.slice a0.a a0.len a0.cap), (.int .i64 a1), (.int .i64 s3.1)] (.one (.one (.int .i64))) fun (x9 : Int) =>
 callT Tryz.prog 117 #[(.int .i64 x9)] (.one (.one .bool)) fun (x10 : Bool) =>
 sif (!x10) (
 J7 ()) (
 callT Tryz.prog 118 #[(.int .i64 x9)] (.one (.one .sl)) fun (x11 : Sl) =>
 callT Tryz.prog 119 #[(.slice a0.a a0.len a0.cap), (.int .i64 a1), (.slice x11.a x11.len x11.cap)] (.one (.one .bool)) fun (x12 : Bool) =>
 join (S := Bool × Unit) (fun J13 =>
 sif (((x11.len : Nat) : Int) == s3.1) (
 J13 (x12, ())) (
 J13 (false, ()))) fun (s14 : Bool × Unit) =>
 sif s14.1 (
 K (x9, s3.1, ())) (
 J7 ()))) fun (s8 : Unit) =>
 again4 ((IntKind.wrap .i64 (s3.1 + (1 : Int))), ())) (
 J1 ())) ((1 : Int), ())) fun (s2 : Unit) =>
 ix a0.a a0.len a1 fun p15 =>
 ld (.int .u8) (p15.add (scaled (Int.toNat a1) 1)) fun (x16 : Int) =>
 K ((IntKind.wrap .i64 ((-1 : Int) - (IntKind.wrap .i64 x16))), (1 : Int), ())
noncomputable def h83 : Hint := (.seq none (.region [] (.ops 2 .done)) (.seq (some (70368744177648, [])) (.seq none (.region [] (.ops 1 .done)) (.block (.loop 70368744177648 [(6, (.one (.int .i64)))] (.seq none (.seq (some (2095104, [(20, (.one .bool))])) (.region [] (.ops 3 (.split 13 (.ops 7 .done) (.skips 6 (.ops 1 .done))))) (.cond none .leaf .leaf)) (.seq (some (70368735791024, [])) (.block (.seq none (.region [] (.ops 5 .done)) (.seq none (.region [] (.ops 3 .done)) (.seq none (.seq none (.region [] (.ops 2 .done)) (.cond none .leaf .leaf)) (.seq none (.region [] (.ops 3 .done)) (.seq none (.region [] (.ops 5 .done)) (.seq (some (17454747090944, [(43, (.one .bool))])) (.region [] (.ops 5 (.split 41 (.ops 2 .done) (.skips 1 (.ops 1 .done))))) (.cond none (.seq none (.region [] (.ops 4 .done)) .leaf) .leaf)))))))) (.region [] (.ops 3 .done))))))) (.seq none (.region [] (.ops 8 .done)) .leaf)))
theorem F83_tie (a0 : Sl) (a1 : Int) (K : (Int × Int × Unit) → World → Prop) : vcgF tab Tryz.prog Tryz.f83 h83 [(.slice a0.a a0.len a0.cap), (.int .i64 a1)] (.tup [(.one (.int .i64)), (.one (.int .i64))]) K = F83 a0 a1 K := by kernel_rfl
theorem F83_calls {a0 : Sl} {a1 : Int} {K : (Int × Int × Unit) → World → Prop} {w : World} (h : F83 a0 a1 K w) : callT Tryz.prog 83 #[(.slice a0.a a0.len a0.cap), (.int .i64 a1)] (.tup [(.one (.int .i64)), (.one (.int .i64))]) K w :=
  vcgF_sound tabOk Tryz.func83 h83 [(.slice a0.a a0.len a0.cap), (.int .i64 a1)] (.tup [(.one (.int .i64)), (.one (.int .i64))]) K w (Eq.mpr (congrFun (F83_tie a0 a1 K) w) h)
noncomputable def F84 (a0 : Int) (a1 : Sl) (a2 : Int) (K : Int → World → Prop) : World → Prop :=
 sif (decide ((IntKind.wrap .i64 (a2 + (2 : Int))) > ((a1.len : Nat) : Int))) (
 K (-1 : Int)) (
 sif (a0 == (2 : Int)) (
 drew <|
 ix a1.a a1.len a2 fun p1 =>
 ld (.int .u8) (p1.add (scaled (Int.toNat a2) 1)) fun (x2 : Int) =>
 ix a1.a a1.len (IntKind.wrap .i64 (a2 + (1 : Int))) fun p3 =>
 ld (.int .u8) (p3.add (scaled (Int.toNat (IntKind.wrap .i64 (a2 + (1 : Int)))) 1)) fun (x4 : Int) =>
 K (IntKind.wrap .i64 ((IntKind.wrap .i64 x2) + (IntKind.wrap .i64 ((256 : Int) * (IntKind.wrap .i64 x4)))))) (
 drew <|
 ix a1.a a1.len a2 fun p5 =>
 ld (.int .u8) (p5.add (scaled (Int.toNat a2) 1)) fun (x6 : Int) =>
 ix a1.a a1.len (IntKind.wrap .i64 (a2 + (1 : Int))) fun p7 =>
 ld (.int .u8) (p7.add (scaled (Int.toNat (IntKind.wrap .i64 (a2 + (1 : Int)))) 1)) fun (x8 : Int) =>
 K (IntKind.wrap .i64 ((IntKind.wrap .i64 ((256 : Int) * (IntKind.wrap .i64 x6))) + (IntKind.wrap .i64 x8)))))
noncomputable def h84 : Hint := (.seq none (.region [] (.ops 1 .done)) (.seq none (.seq none (.region [] (.ops 5 .done)) (.cond none (.seq none (.region [] (.ops 1 .done)) .leaf) .leaf)) (.seq none (.seq none (.region [] (.ops 2 .done)) (.cond none (.seq none (.region [0, 1, 2, 3, 4, 5, 6, 7, 8, 9, 10, 11, 12, 13] (.ops 14 .done)) .leaf) .leaf)) (.seq none (.region [0, 1, 2, 3, 4, 5, 6, 7, 8, 9, 10, 11, 12, 13] (.ops 14 .done)) .leaf))))
theorem F84_tie (a0 : Int) (a1 : Sl) (a2 : Int) (K : Int → World → Prop) : vcgF tab Tryz.prog Tryz.f84 h84 [(.int .i64 a0), (.slice a1.a a1.len a1.cap), (.int .i64 a2)] (.one (.one (.int .i64))) K = F84 a0 a1 a2 K := by kernel_rfl
theorem F84_calls {a0 : Int} {a1 : Sl} {a2 : Int} {K : Int → World → Prop} {w : World} (h : F84 a0 a1 a2 K w) : callT Tryz.prog 84 #[(.int .i64 a0), (.slice a1.a a1.len a1.cap), (.int .i64 a2)] (.one (.one (.int .i64))) K w :=
  vcgF_sound tabOk Tryz.func84 h84 [(.int .i64 a0), (.slice a1.a a1.len a1.cap), (.int .i64 a2)] (.one (.one (.int .i64))) K w (Eq.mpr (congrFun (F84_tie a0 a1 a2 K) w) h)
noncomputable def F85 (a0 : Int) (K : Value → World → Prop) : World → Prop :=
 sif (a0 == (1 : Int)) (
 K (.iface 163 (.agg #[]))) (
 sif (a0 == (2 : Int)) (
 K (.iface 165 (.agg #[(.int .i64 (0 : Int))]))) (
 sif (a0 == (3 : Int)) (
 K (.iface 165 (.agg #[(.int .i64 (1 : Int))]))) (
 sif (a0 == (4 : Int)) (
 K (.iface 166 (.agg #[]))) (
 K .nilIface))))
noncomputable def h85 : Hint := (.seq none (.region [] (.ops 1 .done)) (.seq none (.seq none (.region [] (.ops 1 .done)) (.block (.seq none (.region [] (.ops 2 .done)) (.cond none (.seq none (.region [] (.ops 3 .done)) .leaf) (.seq none (.region [] (.ops 2 .done)) (.cond none (.seq none (.region [] (.ops 3 .done)) .leaf) (.seq none (.region [] (.ops 2 .done)) (.cond none (.seq none (.region [] (.ops 3 .done)) .leaf) (.seq none (.region [] (.ops 2 .done)) (.cond none (.seq none (.region [] (.ops 3 .done)) .leaf) .leaf)))))))))) (.seq none (.region [] (.ops 1 .done)) .leaf)))
theorem F85_tie (a0 : Int) (K : Value → World → Prop) : vcgF tab Tryz.prog Tryz.f85 h85 [(.int .i64 a0)] (.one (.one .any)) K = F85 a0 K := by kernel_rfl
theorem F85_calls {a0 : Int} {K : Value → World → Prop} {w : World} (h : F85 a0 K w) : callT Tryz.prog 85 #[(.int .i64 a0)] (.one (.one .any)) K w :=
  vcgF_sound tabOk Tryz.func85 h85 [(.int .i64 a0)] (.one (.one .any)) K w (Eq.mpr (congrFun (F85_tie a0 K) w) h)
noncomputable def F86 (a0 : (Int × Int × Int × Bool × Bool × Unit)) (a1 : (Int × Int × Int × Bool × Bool × Unit)) (K : (Int × Int × Int × Bool × Bool × Unit) → World → Prop) : World → Prop :=
 newO (.cells #[(.int .i64 a0.1), (.int .i64 a0.2.1), (.int .i64 a0.2.2.1), (.bool a0.2.2.2.1), (.bool a0.2.2.2.2.1)] 110) fun b1 =>
 newO (.cells #[(.int .i64 a1.1), (.int .i64 a1.2.1), (.int .i64 a1.2.2.1), (.bool a1.2.2.2.1), (.bool a1.2.2.2.2.1)] 110) fun b2 =>
 newO (.cells #[(.int .i64 (0 : Int)), (.int .i64 (0 : Int)), (.int .i64 (0 : Int)), (.bool false), (.bool false)] 110) fun b3 =>
 ld (.int .i64) (at0 b1) fun (x4 : Int) =>
 sif (x4 == (0 : Int)) (
 lds c110 (at0 b2) fun (x5 : (Int × Int × Int × Bool × Bool × Unit)) =>
 aggSt (at0 b3) (.agg (Cells.vals c110 x5).toArray) 5 <|
 lds c110 (at0 b3) fun (x6 : (Int × Int × Int × Bool × Bool × Unit)) =>
 K x6) (
 ld (.int .i64) (at0 b2) fun (x7 : Int) =>
 sif (x7 == (0 : Int)) (
 lds c110 (at0 b1) fun (x8 : (Int × Int × Int × Bool × Bool × Unit)) =>
 aggSt (at0 b3) (.agg (Cells.vals c110 x8).toArray) 5 <|
 lds c110 (at0 b3) fun (x9 : (Int × Int × Int × Bool × Bool × Unit)) =>
 K x9) (
 ld (.int .i64) (at0 b1) fun (x10 : Int) =>
 ld (.int .i64) (at0 b2) fun (x11 : Int) =>
 ld (.int .i64) (⟨b1, 1, none⟩ : Addr) fun (x12 : Int) =>
 ld (.int .i64) (⟨b2, 1, none⟩ : Addr) fun (x13 : Int) =>
 ld (.int .i64) (⟨b1, 2, none⟩ : Addr) fun (x14 : Int) =>
 ld (.int .i64) (⟨b2, 2, none⟩ : Addr) fun (x15 : Int) =>
 ld (.bool) (⟨b1, 3, none⟩ : Addr) fun (x16 : Bool) =>
 ld (.bool) (⟨b2, 4, none⟩ : Addr) fun (x17 : Bool) =>
 newO (.cells #[(.int .i64 (0 : Int)), (.int .i64 (0 : Int)), (.int .i64 (0 : Int)), (.bool false), (.bool false)] 110) fun b18 =>
 aggSt (at0 b18) (.agg #[(.int .i64 (IntKind.wrap .i64 (x10 + x11))), (.int .i64 (IntKind.wrap .i64 (x12 + x13))), (.int .i64 (IntKind.wrap .i64 (x14 + x15))), (.bool x16), (.bool x17)]) 5 <|
 join (S := Unit) (fun J19 =>
 join (S := Bool × Unit) (fun J21 =>
 ld (.bool) (⟨b1, 4, none⟩ : Addr) fun (x23 : Bool) =>
 sif x23 (
 ld (.bool) (⟨b2, 3, none⟩ : Addr) fun (x24 : Bool) =>
 J21 (x24, ())) (
 J21 (false, ()))) fun (s22 : Bool × Unit) =>
 sif s22.1 (
 ld (.int .i64) (⟨b18, 2, none⟩ : Addr) fun (x25 : Int) =>
 stC (⟨b18, 2, none⟩ : Addr) (.int .i64 (IntKind.wrap .i64 (x25 - (1 : Int)))) <|
 J19 ()) (
 J19 ())) fun (s20 : Unit) =>
 lds c110 (at0 b18) fun (x26 : (Int × Int × Int × Bool × Bool × Unit)) =>
 aggSt (at0 b3) (.agg (Cells.vals c110 x26).toArray) 5 <|
 lds c110 (at0 b3) fun (x27 : (Int × Int × Int × Bool × Bool × Unit)) =>
 K x27))
noncomputable def h86 : Hint := (.seq none (.region [] (.ops 3 .done)) (.seq none (.seq none (.region [] (.ops 3 .done)) (.cond none (.seq none (.region [] (.ops 2 .done)) .leaf) .leaf)) (.seq none (.seq none (.region [] (.ops 3 .done)) (.cond none (.seq none (.region [] (.ops 2 .done)) .leaf) .leaf)) (.seq none (.region [] (.ops 22 .done)) (.seq (some (17575006175232, [])) (.seq (some (1082331758592, [(39, (.one .bool))])) (.region [] (.ops 3 (.split 36 (.ops 3 .done) (.skips 2 (.ops 1 .done))))) (.cond none (.region [] (.ops 5 .done)) .leaf)) (.seq none (.region [] (.ops 2 .done)) .leaf))))))
theorem F86_tie (a0 : (Int × Int × Int × Bool × Bool × Unit)) (a1 : (Int × Int × Int × Bool × Bool × Unit)) (K : (Int × Int × Int × Bool × Bool × Unit) → World → Prop) : vcgF tab Tryz.prog Tryz.f86 h86 [(.agg (Cells.vals c110 a0).toArray), (.agg (Cells.vals c110 a1).toArray)] (.one (.agg c110)) K = F86 a0 a1 K := by kernel_rfl
theorem F86_calls {a0 : (Int × Int × Int × Bool × Bool × Unit)} {a1 : (Int × Int × Int × Bool × Bool × Unit)} {K : (Int × Int × Int × Bool × Bool × Unit) → World → Prop} {w : World} (h : F86 a0 a1 K w) : callT Tryz.prog 86 #[(.agg (Cells.vals c110 a0).toArray), (.agg (Cells.vals c110 a1).toArray)] (.one (.agg c110)) K w :=
  vcgF_sound tabOk Tryz.func86 h86 [(.agg (Cells.vals c110 a0).toArray), (.agg (Cells.vals c110 a1).toArray)] (.one (.agg c110)) K w (Eq.mpr (congrFun (F86_tie a0 a1 K) w) h)
noncomputable def F87 (a0 : Int) (a1 : Int) (K : (Int × Int × Int × Bool × Bool × Unit) → World → Prop) : World → Prop :=
 newO (.cells #[(.int .i64 (0 : Int)), (.int .i64 (0 : Int)), (.int .i64 (0 : Int)), (.bool false), (.bool false)] 110) fun b1 =>
 newO (.cells #[(.int .i64 (0 : Int)), (.int .i64 (0 : Int)), (.int .i64 (0 : Int)), (.bool false), (.bool false)] 110) fun b2 =>
 aggSt (at0 b2) (.agg #[(.int .i64 (1 : Int)), (.int .i64 a1), (.int .i64 (0 : Int)), (.bool (a0 == (10 : Int))), (.bool (a0 == (13 : Int)))]) 5 <|
 join (S := Unit) (fun J3 =>
 join (S := Bool × Unit) (fun J5 =>
 ld (.bool) (⟨b2, 3, none⟩ : Addr) fun (x7 : Bool) =>
 sif x7 (
 J5 (true, ())) (
 ld (.bool) (⟨b2, 4, none⟩ : Addr) fun (x8 : Bool) =>
 J5 (x8, ()))) fun (s6 : Bool × Unit) =>
 sif s6.1 (
 stC (⟨b2, 2, none⟩ : Addr) (.int .i64 (1 : Int)) <|
 J3 ()) (
 J3 ())) fun (s4 : Unit) =>
 lds c110 (at0 b2) fun (x9 : (Int × Int × Int × Bool × Bool × Unit)) =>
 aggSt (at0 b1) (.agg (Cells.vals c110 x9).toArray) 5 <|
 lds c110 (at0 b1) fun (x10 : (Int × Int × Int × Bool × Bool × Unit)) =>
 K x10
noncomputable def h87 : Hint := (.seq none (.region [] (.ops 1 .done)) (.seq none (.region [] (.ops 8 .done)) (.seq (some (520192, [])) (.seq (some (258048, [(17, (.one .bool))])) (.region [] (.ops 3 (.split 14 (.skips 2 (.ops 1 .done)) (.ops 3 .done)))) (.cond none (.region [] (.ops 2 .done)) .leaf)) (.seq none (.region [] (.ops 2 .done)) .leaf))))
theorem F87_tie (a0 : Int) (a1 : Int) (K : (Int × Int × Int × Bool × Bool × Unit) → World → Prop) : vcgF tab Tryz.prog Tryz.f87 h87 [(.int .i64 a0), (.int .i64 a1)] (.one (.agg c110)) K = F87 a0 a1 K := by kernel_rfl
theorem F87_calls {a0 : Int} {a1 : Int} {K : (Int × Int × Int × Bool × Bool × Unit) → World → Prop} {w : World} (h : F87 a0 a1 K w) : callT Tryz.prog 87 #[(.int .i64 a0), (.int .i64 a1)] (.one (.agg c110)) K w :=
  vcgF_sound tabOk Tryz.func87 h87 [(.int .i64 a0), (.int .i64 a1)] (.one (.agg c110)) K w (Eq.mpr (congrFun (F87_tie a0 a1 K) w) h)
noncomputable def F88 (a0 : Sl) (K : Option Addr → World → Prop) : World → Prop :=
 sif (((a0.len : Nat) : Int) == (0 : Int)) (
 K none) (
 chk ((2 : Int) ≠ 0) <|
 drew <|
 slc a0.a 0 (IntKind.wrap .i64 (Int.tdiv ((a0.len : Nat) : Int) (2 : Int))) ((a0.cap : Nat) : Int) a0.cap 7 fun x1 =>
 ix a0.a a0.len (IntKind.wrap .i64 (Int.tdiv ((a0.len : Nat) : Int) (2 : Int))) fun p2 =>
 lds c112 (p2.add (scaled (Int.toNat (IntKind.wrap .i64 (Int.tdiv ((a0.len : Nat) : Int) (2 : Int)))) 7)) fun (x3 : (Sl × Int × Int × Int × Int × Bool × Bool × Unit)) =>
 slc a0.a (IntKind.wrap .i64 ((IntKind.wrap .i64 (Int.tdiv ((a0.len : Nat) : Int) (2 : Int))) + (1 : Int))) ((a0.len : Nat) : Int) ((a0.cap : Nat) : Int) a0.cap 7 fun x4 =>
 callT Tryz.prog 88 #[(.slice x1.a x1.len x1.cap)] (.one (.one .ptr)) fun (x5 : Option Addr) =>
 keep (fun w => cellsAt w (p2.add (scaled (Int.toNat (IntKind.wrap .i64 (Int.tdiv ((a0.len : Nat) : Int) (2 : Int)))) 7)) 0 (Cells.vals c112 x3)) <|
 callT Tryz.prog 88 #[(.slice x4.a x4.len x4.cap)] (.one (.one .ptr)) fun (x6 : Option Addr) =>
 keep (fun w => cellsAt w (p2.add (scaled (Int.toNat (IntKind.wrap .i64 (Int.tdiv ((a0.len : Nat) : Int) (2 : Int)))) 7)) 0 (Cells.vals c112 x3)) <|
 callT Tryz.prog 120 #[(.pointer x5), (.agg (Cells.vals c112 x3).toArray), (.pointer x6)] (.one (.one .ptr)) fun (x7 : Option Addr) =>
 K x7)
noncomputable def h88 : Hint := (.seq none (.region [] (.ops 1 .done)) (.seq none (.seq none (.region [] (.ops 3 .done)) (.cond none (.seq none (.region [] (.ops 1 .done)) .leaf) .leaf)) (.seq none (.region [] (.ops 4 .done)) (.seq none (.region [0, 1, 2, 4, 5, 6, 7, 8, 9, 10, 11, 3, 12, 13, 14] (.ops 15 .done)) .leaf))))
theorem F88_tie (a0 : Sl) (K : Option Addr → World → Prop) : vcgF tab Tryz.prog Tryz.f88 h88 [(.slice a0.a a0.len a0.cap)] (.one (.one .ptr)) K = F88 a0 K := by kernel_rfl
theorem F88_calls {a0 : Sl} {K : Option Addr → World → Prop} {w : World} (h : F88 a0 K w) : callT Tryz.prog 88 #[(.slice a0.a a0.len a0.cap)] (.one (.one .ptr)) K w :=
  vcgF_sound tabOk Tryz.func88 h88 [(.slice a0.a a0.len a0.cap)] (.one (.one .ptr)) K w (Eq.mpr (congrFun (F88_tie a0 K) w) h)
noncomputable def F89 (a0 : Option Addr) (a1 : Int) (K : (Int × Int × Int × Bool × Bool × Unit) → World → Prop) : World → Prop :=
 newO (.cells #[(.int .i64 (0 : Int)), (.int .i64 (0 : Int)), (.int .i64 (0 : Int)), (.bool false), (.bool false)] 110) fun b1 =>
 callT Tryz.prog 73 #[(.pointer a0), (.int .i64 a1)] (.tup [(.one (.int .i64)), (.one (.int .i64))]) fun (x2 : (Int × Int × Unit)) =>
 nn a0 fun p3 =>
 lds c105 (p3.add 2) fun (x4 : (Option Addr × Unit)) =>
 callT Tryz.prog 91 #[(.agg (Cells.vals c105 x4).toArray), (.int .i64 x2.1)] (.one (.agg c110)) fun (x5 : (Int × Int × Int × Bool × Bool × Unit)) =>
 newO (.cells #[(.int .i64 (0 : Int)), (.int .i64 (0 : Int)), (.int .i64 (0 : Int)), (.bool false), (.bool false)] 110) fun b6 =>
 aggSt (at0 b6) (.agg (Cells.vals c110 x5).toArray) 5 <|
 join (S := Unit) (fun J7 =>
 nn a0 fun p9 =>
 lds c105 (p9.add 2) fun (x10 : (Option Addr × Unit)) =>
 callT Tryz.prog 92 #[(.agg (Cells.vals c105 x10).toArray), (.int .i64 x2.1)] (.tup [(.agg c112), (.one .bool)]) fun (x11 : ((Sl × Int × Int × Int × Int × Bool × Bool × Unit) × Bool × Unit)) =>
 newO (.cells #[(.slice none 0 0), (.int .i64 (0 : Int)), (.int .i64 (0 : Int)), (.int .i64 (0 : Int)), (.int .i64 (0 : Int)), (.bool false), (.bool false)] 112) fun b12 =>
 aggSt (at0 b12) (.agg (Cells.vals c112 x11.1).toArray) 7 <|
 sif x11.2.1 (
 join (S := Addr × Unit) (fun J13 =>
 drew <|
 lds c112 (at0 b12) fun (x15 : (Sl × Int × Int × Int × Int × Bool × Bool × Unit)) =>
 nn a0 fun p16 =>
 ld (.int .i64) p16 fun (x17 : Int) =>
 both (
 newO (.cells #[(.slice none 0 0), (.int .i64 (0 : Int)), (.int .i64 (0 : Int)), (.int .i64 (0 : Int)), (.int .i64 (0 : Int)), (.bool false), (.bool false)] 112) fun b18 =>
 keep (fun w => w.cell? p16 = some (Cell.val (.int .i64) x17)) <|
 keep (fun w => cellsAt w (at0 b12) 0 (Cells.vals c112 x15)) <|
 both (
 newO (.cells #[(.slice none 0 0), (.int .i64 (0 : Int)), (.int .i64 (0 : Int)), (.int .i64 (0 : Int)), (.int .i64 (0 : Int)), (.bool false), (.bool false)] 112) fun b19 =>
 keep (fun w => w.cell? p16 = some (Cell.val (.int .i64) x17)) <|
 keep (fun w => cellsAt w (at0 b12) 0 (Cells.vals c112 x15)) <|
 callT Tryz.prog 112 #[(.agg (Cells.vals c112 x15).toArray), (.int .i64 x17), (.int .i64 x2.2.1)] (.tup [(.agg c112), (.agg c112)]) fun (x20 : ((Sl × Int × Int × Int × Int × Bool × Bool × Unit) × (Sl × Int × Int × Int × Int × Bool × Bool × Unit) × Unit)) =>
 aggSt (at0 b18) (.agg (Cells.vals c112 x20.1).toArray) 7 <|
 aggSt (at0 b19) (.agg (Cells.vals c112 x20.2.1).toArray) 7 <|
 J13 ((at0 b18), ())) <|
 callT Tryz.prog 112 #[(.agg (Cells.vals c112 x15).toArray), (.int .i64 x17), (.int .i64 x2.2.1)] (.tup [(.agg c112), (.agg c112)]) fun (x21 : ((Sl × Int × Int × Int × Int × Bool × Bool × Unit) × (Sl × Int × Int × Int × Int × Bool × Bool × Unit) × Unit)) =>
 both (
 newO (.cells #[(.slice none 0 0), (.int .i64 (0 : Int)), (.int .i64 (0 : Int)), (.int .i64 (0 : Int)), (.int .i64 (0 : Int)), (.bool false), (.bool false)] 112) fun b22 =>
 keep (fun w => w.cell? p16 = some (Cell.val (.int .i64) x17)) <|
 keep (fun w => cellsAt w (at0 b12) 0 (Cells.vals c112 x15)) <|
 aggSt (at0 b18) (.agg (Cells.vals c112 x21.1).toArray) 7 <|
 aggSt (at0 b22) (.agg (Cells.vals c112 x21.2.1).toArray) 7 <|
 J13 ((at0 b18), ())) <|
 nothing) <|
 both (
 newO (.cells #[(.slice none 0 0), (.int .i64 (0 : Int)), (.int .i64 (0 : Int)), (.int .i64 (0 : Int)), (.int .i64 (0 : Int)), (.bool false), (.bool false)] 112) fun b23 =>
 keep (fun w => w.cell? p16 = some (Cell.val (.int .i64) x17)) <|
 keep (fun w => cellsAt w (at0 b12) 0 (Cells.vals c112 x15)) <|
 both (
 newO (.cells #[(.slice none 0 0), (.int .i64 (0 : Int)), (.int .i64 (0 : Int)), (.int .i64 (0 : Int)), (.int .i64 (0 : Int)), (.bool false), (.bool false)] 112) fun b24 =>
 keep (fun w => w.cell? p16 = some (Cell.val (.int .i64) x17)) <|
 keep (fun w => cellsAt w (at0 b12) 0 (Cells.vals c112 x15)) <|
 callT Tryz.prog 112 #[(.agg (Cells.vals c112 x15).toArray), (.int .i64 x17), (.int .i64 x2.2.1)] (.tup [(.agg c112), (.agg c112)]) fun (x25 : ((Sl × Int × Int × Int × Int × Bool × Bool × Unit) × (Sl × Int × Int × Int × Int × Bool × Bool × Unit) × Unit)) =>
 aggSt (at0 b24) (.agg (Cells.vals c112 x25.1).toArray) 7 <|
 aggSt (at0 b23) (.agg (Cells.vals c112 x25.2.1).toArray) 7 <|
 J13 ((at0 b24), ())) <|
 callT Tryz.prog 112 #[(.agg (Cells.vals c112 x15).toArray), (.int .i64 x17), (.int .i64 x2.2.1)] (.tup [(.agg c112), (.agg c112)]) fun (x26 : ((Sl × Int × Int × Int × Int × Bool × Bool × Unit) × (Sl × Int × Int × Int × Int × Bool × Bool × Unit) × Unit)) =>
 both (
 newO (.cells #[(.slice none 0 0), (.int .i64 (0 : Int)), (.int .i64 (0 : Int)), (.int .i64 (0 : Int)), (.int .i64 (0 : Int)), (.bool false), (.bool false)] 112) fun b27 =>
 keep (fun w => w.cell? p16 = some (Cell.val (.int .i64) x17)) <|
 keep (fun w => cellsAt w (at0 b12) 0 (Cells.vals c112 x15)) <|
 aggSt (at0 b27) (.agg (Cells.vals c112 x26.1).toArray) 7 <|
 aggSt (at0 b23) (.agg (Cells.vals c112 x26.2.1).toArray) 7 <|
 J13 ((at0 b27), ())) <|
 nothing) <|
 callT Tryz.prog 112 #[(.agg (Cells.vals c112 x15).toArray), (.int .i64 x17), (.int .i64 x2.2.1)] (.tup [(.agg c112), (.agg c112)]) fun (x28 : ((Sl × Int × Int × Int × Int × Bool × Bool × Unit) × (Sl × Int × Int × Int × Int × Bool × Bool × Unit) × Unit)) =>
 both (
 newO (.cells #[(.slice none 0 0), (.int .i64 (0 : Int)), (.int .i64 (0 : Int)), (.int .i64 (0 : Int)), (.int .i64 (0 : Int)), (.bool false), (.bool false)] 112) fun b29 =>
 keep (fun w => w.cell? p16 = some (Cell.val (.int .i64) x17)) <|
 keep (fun w => cellsAt w (at0 b12) 0 (Cells.vals c112 x15)) <|
 both (
 newO (.cells #[(.slice none 0 0), (.int .i64 (0 : Int)), (.int .i64 (0 : Int)), (.int .i64 (0 : Int)), (.int .i64 (0 : Int)), (.bool false), (.bool false)] 112) fun b30 =>
 keep (fun w => w.cell? p16 = some (Cell.val (.int .i64) x17)) <|
 keep (fun w => cellsAt w (at0 b12) 0 (Cells.vals c112 x15)) <|
 aggSt (at0 b29) (.agg (Cells.vals c112 x28.1).toArray) 7 <|
 aggSt (at0 b30) (.agg (Cells.vals c112 x28.2.1).toArray) 7 <|
 J13 ((at0 b29), ())) <|
 nothing) <|
 both (
 newO (.cells #[(.slice none 0 0), (.int .i64 (0 : Int)), (.int .i64 (0 : Int)), (.int .i64 (0 : Int)), (.int .i64 (0 : Int)), (.bool false), (.bool false)] 112) fun b31 =>
 keep (fun w => w.cell? p16 = some (Cell.val (.int .i64) x17)) <|
 keep (fun w => cellsAt w (at0 b12) 0 (Cells.vals c112 x15)) <|
 both (
 newO (.cells #[(.slice none 0 0), (.int .i64 (0 : Int)), (.int .i64 (0 : Int)), (.int .i64 (0 : Int)), (.int .i64 (0 : Int)), (.bool false), (.bool false)] 112) fun b32 =>
 keep (fun w => w.cell? p16 = some (Cell.val (.int .i64) x17)) <|
 keep (fun w => cellsAt w (at0 b12) 0 (Cells.vals c112 x15)) <|
 aggSt (at0 b32) (.agg (Cells.vals c112 x28.1).toArray) 7 <|
 aggSt (at0 b31) (.agg (Cells.vals c112 x28.2.1).toArray) 7 <|
 J13 ((at0 b32), ())) <|
 nothing) <|
 nothing) fun (s14 : Addr × Unit) =>
 lds c110 (at0 b6) fun (x33 : (Int × Int × Int × Bool × Bool × Unit)) =>
 lds c110 (s14.1.add 2) fun (x34 : (Int × Int × Int × Bool × Bool × Unit)) =>
 callT Tryz.prog 86 #[(.agg (Cells.vals c110 x33).toArray), (.agg (Cells.vals c110 x34).toArray)] (.one (.agg c110)) fun (x35 : (Int × Int × Int × Bool × Bool × Unit)) =>
 aggSt (at0 b6) (.agg (Cells.vals c110 x35).toArray) 5 <|
 J7 ()) (
 J7 ())) fun (s8 : Unit) =>
 lds c110 (at0 b6) fun (x36 : (Int × Int × Int × Bool × Bool × Unit)) =>
 aggSt (at0 b1) (.agg (Cells.vals c110 x36).toArray) 5 <|
 lds c110 (at0 b1) fun (x37 : (Int × Int × Int × Bool × Bool × Unit)) =>
 K x37
noncomputable def h89 : Hint := (.seq none (.region [] (.ops 1 .done)) (.seq none (.region [] (.ops 8 .done)) (.seq none (.region [] (.ops 8 .done)) (.seq (some (281474959937280, [])) (.seq none (.region [] (.ops 12 .done)) (.seq none (.region [] (.ops 1 .done)) (.cond none (.seq (some (17575006178304, [(10, (.one .addr))])) (.region [0, 1, 2, 3, 4, 5, 6, 7, 8, 9, 12, 13] (.float [10, 11] (.ops 6 (.alt none (.alt none (.plain (.ops 6 .done)) (.ops 4 (.alt none (.plain (.ops 2 .done)) .stop))) (.alt none (.alt none (.plain (.ops 6 .done)) (.ops 4 (.alt none (.plain (.ops 2 .done)) .stop))) (.ops 4 (.alt none (.alt none (.plain (.ops 2 .done)) .stop) (.alt none (.alt none (.plain (.ops 2 .done)) .stop) .stop)))))))) (.region [] (.ops 5 .done))) .leaf))) (.seq none (.region [] (.ops 2 .done)) .leaf)))))
theorem F89_tie (a0 : Option Addr) (a1 : Int) (K : (Int × Int × Int × Bool × Bool × Unit) → World → Prop) : vcgF tab Tryz.prog Tryz.f89 h89 [(.pointer a0), (.int .i64 a1)] (.one (.agg c110)) K = F89 a0 a1 K := by kernel_rfl
theorem F89_calls {a0 : Option Addr} {a1 : Int} {K : (Int × Int × Int × Bool × Bool × Unit) → World → Prop} {w : World} (h : F89 a0 a1 K w) : callT Tryz.prog 89 #[(.pointer a0), (.int .i64 a1)] (.one (.agg c110)) K w :=
  vcgF_sound tabOk Tryz.func89 h89 [(.pointer a0), (.int .i64 a1)] (.one (.agg c110)) K w (Eq.mpr (congrFun (F89_tie a0 a1 K) w) h)
noncomputable def F90 (a0 : (Option Addr × Unit)) (a1 : Int) (a2 : Int) (K : Int → World → Prop) : World → Prop :=
 newO (.cells #[(.pointer a0.1)] 105) fun b1 =>
 sif (decide (a2 ≤ (0 : Int))) (
 K (0 : Int)) (
 newO (.cells #[(.int .i64 (0 : Int)), (.int .i64 (0 : Int)), (.int .i64 (0 : Int)), (.bool false), (.bool false)] 110) fun b2 =>
 join (S := Int × Unit) (fun J3 =>
 ld (.ptr) (at0 b1) fun (x5 : Option Addr) =>
 sloop (S := Int × Option Addr × Unit) (fun (s6 : Int × Option Addr × Unit) again7 =>
 sif (!(Option.isNone s6.2.1)) (
 lds c110 (at0 b2) fun (x8 : (Int × Int × Int × Bool × Bool × Unit)) =>
 newO (.cells #[(.int .i64 (0 : Int)), (.int .i64 (0 : Int)), (.int .i64 (0 : Int)), (.bool false), (.bool false)] 110) fun b9 =>
 aggSt (at0 b9) (.agg (Cells.vals c110 x8).toArray) 5 <|
 join (S := Unit) (fun J10 =>
 nn s6.2.1 fun p12 =>
 ld (.ptr) p12 fun (x13 : Option Addr) =>
 sif (!(Option.isNone x13)) (
 drew <|
 lds c110 (at0 b2) fun (x14 : (Int × Int × Int × Bool × Bool × Unit)) =>
 nn s6.2.1 fun p15 =>
 ld (.ptr) p15 fun (x16 : Option Addr) =>
 nn x16 fun p17 =>
 lds c110 (p17.add 11) fun (x18 : (Int × Int × Int × Bool × Bool × Unit)) =>
 callX Tryz.prog (invoke (.fn (.method "Add") #[]) (#[(.iface 110 (.agg (Cells.vals c110 x14).toArray))] ++ #[(.agg (Cells.vals c110 x18).toArray)])) (.one (.agg c110)) fun (x19 : (Int × Int × Int × Bool × Bool × Unit)) =>
 aggSt (at0 b9) (.agg (Cells.vals c110 x19).toArray) 5 <|
 J10 ()) (
 J10 ())) fun (s11 : Unit) =>
 lds c110 (at0 b9) fun (x20 : (Int × Int × Int × Bool × Bool × Unit)) =>
 callX Tryz.prog (invoke (.fn (.method "Key") #[]) (#[(.iface 110 (.agg (Cells.vals c110 x20).toArray))] ++ #[(.int .i64 a1)])) (.one (.one (.int .i64))) fun (x21 : Int) =>
 sif (decide (x21 ≥ a2)) (
 nn s6.2.1 fun p22 =>
 ld (.ptr) p22 fun (x23 : Option Addr) =>
 again7 (s6.1, x23, ())) (
 nn s6.2.1 fun p24 =>
 ld (.ptr) p24 fun (x25 : Option Addr) =>
 callT Tryz.prog 102 #[(.pointer x25)] (.one (.one (.int .i64))) fun (x26 : Int) =>
 drew <|
 lds c110 (at0 b9) fun (x27 : (Int × Int × Int × Bool × Bool × Unit)) =>
 nn s6.2.1 fun p28 =>
 lds c112 (p28.add 2) fun (x29 : (Sl × Int × Int × Int × Int × Bool × Bool × Unit)) =>
 callX Tryz.prog (invoke (.fn (.method "Measure") #[]) (#[(.iface 112 (.agg (Cells.vals c112 x29).toArray))] ++ #[])) (.one (.agg c110)) fun (x30 : (Int × Int × Int × Bool × Bool × Unit)) =>
 keep (fun w => cellsAt w (at0 b9) 0 (Cells.vals c110 x27)) <|
 callX Tryz.prog (invoke (.fn (.method "Add") #[]) (#[(.iface 110 (.agg (Cells.vals c110 x27).toArray))] ++ #[(.agg (Cells.vals c110 x30).toArray)])) (.one (.agg c110)) fun (x31 : (Int × Int × Int × Bool × Bool × Unit)) =>
 aggSt (at0 b2) (.agg (Cells.vals c110 x31).toArray) 5 <|
 lds c110 (at0 b2) fun (x32 : (Int × Int × Int × Bool × Bool × Unit)) =>
 callX Tryz.prog (invoke (.fn (.method "Key") #[]) (#[(.iface 110 (.agg (Cells.vals c110 x32).toArray))] ++ #[(.int .i64 a1)])) (.one (.one (.int .i64))) fun (x33 : Int) =>
 sif (decide (x33 ≥ a2)) (
 K (IntKind.wrap .i64 (s6.1 + (IntKind.wrap .i64 (x26 + (1 : Int)))))) (
 nn s6.2.1 fun p34 =>
 ld (.ptr) (p34.add 1) fun (x35 : Option Addr) =>
 again7 ((IntKind.wrap .i64 (s6.1 + (IntKind.wrap .i64 (x26 + (1 : Int))))), x35, ())))) (
 J3 (s6.1, ()))) ((0 : Int), x5, ())) fun (s4 : Int × Unit) =>
 K (IntKind.wrap .i64 (s4.1 + (1 : Int))))
noncomputable def h90 : Hint := (.seq none (.region [] (.ops 2 .done)) (.seq none (.seq none (.region [] (.ops 2 .done)) (.cond none (.seq none (.region [] (.ops 1 .done)) .leaf) .leaf)) (.seq none (.region [] (.ops 1 .done)) (.seq none (.region [] (.ops 1 .done)) (.seq (some (2361183241434822600512, [(8, (.one (.int .i64)))])) (.seq none (.region [] (.ops 3 .done)) (.block (.loop 2361183241434822575936 [(8, (.one (.int .i64))), (9, (.one .ptr))] (.seq none (.seq none (.region [] (.ops 2 .done)) (.cond none .leaf .leaf)) (.block (.seq none (.region [] (.ops 3 .done)) (.seq (some (8589672448, [])) (.seq none (.region [] (.ops 5 .done)) (.cond none (.region [0, 1, 2, 3, 4, 5, 6, 7, 8, 9, 10] (.ops 11 .done)) .leaf)) (.seq none (.seq none (.region [] (.ops 6 .done)) (.cond none (.seq none (.region [] (.ops 5 .done)) .leaf) .leaf)) (.seq none (.region [] (.ops 9 .done)) (.seq none (.region [0, 1, 2, 3, 4, 5, 6, 7, 8, 9] (.ops 10 .done)) (.seq none (.seq none (.region [] (.ops 6 .done)) (.cond none (.seq none (.region [] (.ops 2 .done)) .leaf) .leaf)) (.region [] (.ops 5 .done))))))))))))) (.seq none (.region [] (.ops 3 .done)) .leaf))))))
theorem F90_tie (a0 : (Option Addr × Unit)) (a1 : Int) (a2 : Int) (K : Int → World → Prop) : vcgF tab Tryz.prog Tryz.f90 h90 [(.agg (Cells.vals c105 a0).toArray), (.int .i64 a1), (.int .i64 a2)] (.one (.one (.int .i64))) K = F90 a0 a1 a2 K := by kernel_rfl
theorem F90_calls {a0 : (Option Addr × Unit)} {a1 : Int} {a2 : Int} {K : Int → World → Prop} {w : World} (h : F90 a0 a1 a2 K w) : callT Tryz.prog 90 #[(.agg (Cells.vals c105 a0).toArray), (.int .i64 a1), (.int .i64 a2)] (.one (.one (.int .i64))) K w :=
  vcgF_sound tabOk Tryz.func90 h90 [(.agg (Cells.vals c105 a0).toArray), (.int .i64 a1), (.int .i64 a2)] (.one (.one (.int .i64))) K w (Eq.mpr (congrFun (F90_tie a0 a1 a2 K) w) h)
noncomputable def F91 (a0 : (Option Addr × Unit)) (a1 : Int) (K : (Int × Int × Int × Bool × Bool × Unit) → World → Prop) : World → Prop :=
 newO (.cells #[(.pointer a0.1)] 105) fun b1 =>
 newO (.cells #[(.int .i64 (0 : Int)), (.int .i64 (0 : Int)), (.int .i64 (0 : Int)), (.bool false), (.bool false)] 110) fun b2 =>
 newO (.cells #[(.int .i64 (0 : Int)), (.int .i64 (0 : Int)), (.int .i64 (0 : Int)), (.bool false), (.bool false)] 110) fun b3 =>
 lds c105 (at0 b1) fun (x4 : (Option Addr × Unit)) =>
 callT Tryz.prog 115 #[(.agg (Cells.vals c105 x4).toArray)] (.one (.one (.int .i64))) fun (x5 : Int) =>
 join (S := Unit) (fun J6 =>
 ld (.ptr) (at0 b1) fun (x8 : Option Addr) =>
 sloop (S := Int × Option Addr × Unit) (fun (s9 : Int × Option Addr × Unit) again10 =>
 join (S := Bool × Unit) (fun J11 =>
 sif (!(Option.isNone s9.2.1)) (
 J11 ((decide (s9.1 > (0 : Int))), ())) (
 J11 (false, ()))) fun (s12 : Bool × Unit) =>
 sif s12.1 (
 nn s9.2.1 fun p13 =>
 ld (.ptr) p13 fun (x14 : Option Addr) =>
 callT Tryz.prog 102 #[(.pointer x14)] (.one (.one (.int .i64))) fun (x15 : Int) =>
 sif (decide (s9.1 ≤ x15)) (
 nn s9.2.1 fun p16 =>
 ld (.ptr) p16 fun (x17 : Option Addr) =>
 again10 (s9.1, x17, ())) (
 join (S := Unit) (fun J18 =>
 nn s9.2.1 fun p20 =>
 ld (.ptr) p20 fun (x21 : Option Addr) =>
 sif (!(Option.isNone x21)) (
 drew <|
 lds c110 (at0 b3) fun (x22 : (Int × Int × Int × Bool × Bool × Unit)) =>
 nn s9.2.1 fun p23 =>
 ld (.ptr) p23 fun (x24 : Option Addr) =>
 nn x24 fun p25 =>
 lds c110 (p25.add 11) fun (x26 : (Int × Int × Int × Bool × Bool × Unit)) =>
 callX Tryz.prog (invoke (.fn (.method "Add") #[]) (#[(.iface 110 (.agg (Cells.vals c110 x22).toArray))] ++ #[(.agg (Cells.vals c110 x26).toArray)])) (.one (.agg c110)) fun (x27 : (Int × Int × Int × Bool × Bool × Unit)) =>
 aggSt (at0 b3) (.agg (Cells.vals c110 x27).toArray) 5 <|
 J18 ()) (
 J18 ())) fun (s19 : Unit) =>
 drew <|
 lds c110 (at0 b3) fun (x28 : (Int × Int × Int × Bool × Bool × Unit)) =>
 nn s9.2.1 fun p29 =>
 lds c112 (p29.add 2) fun (x30 : (Sl × Int × Int × Int × Int × Bool × Bool × Unit)) =>
 callX Tryz.prog (invoke (.fn (.method "Measure") #[]) (#[(.iface 112 (.agg (Cells.vals c112 x30).toArray))] ++ #[])) (.one (.agg c110)) fun (x31 : (Int × Int × Int × Bool × Bool × Unit)) =>
 keep (fun w => cellsAt w (at0 b3) 0 (Cells.vals c110 x28)) <|
 callX Tryz.prog (invoke (.fn (.method "Add") #[]) (#[(.iface 110 (.agg (Cells.vals c110 x28).toArray))] ++ #[(.agg (Cells.vals c110 x31).toArray)])) (.one (.agg c110)) fun (x32 : (Int × Int × Int × Bool × Bool × Unit)) =>
 aggSt (at0 b3) (.agg (Cells.vals c110 x32).toArray) 5 <|
 nn s9.2.1 fun p33 =>
 ld (.ptr) (p33.add 1) fun (x34 : Option Addr) =>
 again10 ((IntKind.wrap .i64 ((IntKind.wrap .i64 (s9.1 - x15)) - (1 : Int))), x34, ()))) (
 J6 ())) ((if x5 < a1 then x5 else a1), x8, ())) fun (s7 : Unit) =>
 lds c110 (at0 b3) fun (x35 : (Int × Int × Int × Bool × Bool × Unit)) =>
 aggSt (at0 b2) (.agg (Cells.vals c110 x35).toArray) 5 <|
 lds c110 (at0 b2) fun (x36 : (Int × Int × Int × Bool × Bool × Unit)) =>
 K x36
noncomputable def h91 : Hint := (.seq none (.region [] (.ops 2 .done)) (.seq none (.region [] (.ops 1 .done)) (.seq none (.region [] (.ops 5 .done)) (.seq (some (18446744073709547714, [])) (.seq none (.region [] (.ops 3 .done)) (.block (.loop 18446744073709535426 [(1, (.one (.int .i64))), (6, (.one .ptr))] (.seq none (.seq (some (1032192, [(19, (.one .bool))])) (.region [] (.ops 3 (.split 16 (.ops 3 .done) (.skips 2 (.ops 1 .done))))) (.cond none .leaf .leaf)) (.block (.seq none (.region [] (.ops 6 .done)) (.seq none (.seq none (.region [] (.ops 3 .done)) (.cond none (.seq none (.region [] (.ops 5 .done)) .leaf) .leaf)) (.seq (some (140733193388032, [])) (.seq none (.region [] (.ops 5 .done)) (.cond none (.region [0, 1, 2, 3, 4, 5, 6, 7, 8, 9, 10] (.ops 11 .done)) .leaf)) (.seq none (.region [0, 1, 2, 3, 4, 5, 6, 7, 8, 9] (.ops 10 .done)) (.region [] (.ops 10 .done))))))))))) (.seq none (.region [] (.ops 2 .done)) .leaf)))))
theorem F91_tie (a0 : (Option Addr × Unit)) (a1 : Int) (K : (Int × Int × Int × Bool × Bool × Unit) → World → Prop) : vcgF tab Tryz.prog Tryz.f91 h91 [(.agg (Cells.vals c105 a0).toArray), (.int .i64 a1)] (.one (.agg c110)) K = F91 a0 a1 K := by kernel_rfl
theorem F91_calls {a0 : (Option Addr × Unit)} {a1 : Int} {K : (Int × Int × Int × Bool × Bool × Unit) → World → Prop} {w : World} (h : F91 a0 a1 K w) : callT Tryz.prog 91 #[(.agg (Cells.vals c105 a0).toArray), (.int .i64 a1)] (.one (.agg c110)) K w :=
  vcgF_sound tabOk Tryz.func91 h91 [(.agg (Cells.vals c105 a0).toArray), (.int .i64 a1)] (.one (.agg c110)) K w (Eq.mpr (congrFun (F91_tie a0 a1 K) w) h)
noncomputable def F92 (a0 : (Option Addr × Unit)) (a1 : Int) (K : ((Sl × Int × Int × Int × Int × Bool × Bool × Unit) × Bool × Unit) → World → Prop) : World → Prop :=
 newO (.cells #[(.pointer a0.1)] 105) fun b1 =>
 newO (.cells #[(.slice none 0 0), (.int .i64 (0 : Int)), (.int .i64 (0 : Int)), (.int .i64 (0 : Int)), (.int .i64 (0 : Int)), (.bool false), (.bool false)] 112) fun b2 =>
 join (S := Unit) (fun J3 =>
 ld (.ptr) (at0 b1) fun (x5 : Option Addr) =>
 sloop (S := Int × Option Addr × Unit) (fun (s6 : Int × Option Addr × Unit) again7 =>
 join (S := Bool × Unit) (fun J8 =>
 sif (!(Option.isNone s6.2.1)) (
 J8 ((decide (s6.1 ≥ (0 : Int))), ())) (
 J8 (false, ()))) fun (s9 : Bool × Unit) =>
 sif s9.1 (
 nn s6.2.1 fun p10 =>
 ld (.ptr) p10 fun (x11 : Option Addr) =>
 callT Tryz.prog 102 #[(.pointer x11)] (.one (.one (.int .i64))) fun (x12 : Int) =>
 sif (s6.1 == x12) (
 nn s6.2.1 fun p13 =>
 lds c112 (p13.add 2) fun (x14 : (Sl × Int × Int × Int × Int × Bool × Bool × Unit)) =>
 aggSt (at0 b2) (.agg (Cells.vals c112 x14).toArray) 7 <|
 lds c112 (at0 b2) fun (x15 : (Sl × Int × Int × Int × Int × Bool × Bool × Unit)) =>
 K (x15, true, ())) (
 sif (decide (s6.1 < x12)) (
 nn s6.2.1 fun p16 =>
 ld (.ptr) p16 fun (x17 : Option Addr) =>
 again7 (s6.1, x17, ())) (
 nn s6.2.1 fun p18 =>
 ld (.ptr) (p18.add 1) fun (x19 : Option Addr) =>
 again7 ((IntKind.wrap .i64 ((IntKind.wrap .i64 (s6.1 - x12)) - (1 : Int))), x19, ())))) (
 J3 ())) (a1, x5, ())) fun (s4 : Unit) =>
 newO (.cells #[(.slice none 0 0), (.int .i64 (0 : Int)), (.int .i64 (0 : Int)), (.int .i64 (0 : Int)), (.int .i64 (0 : Int)), (.bool false), (.bool false)] 112) fun b20 =>
 lds c112 (at0 b20) fun (x21 : (Sl × Int × Int × Int × Int × Bool × Bool × Unit)) =>
 aggSt (at0 b2) (.agg (Cells.vals c112 x21).toArray) 7 <|
 lds c112 (at0 b2) fun (x22 : (Sl × Int × Int × Int × Int × Bool × Bool × Unit)) =>
 K (x22, false, ())
noncomputable def h92 : Hint := (.seq none (.region [] (.ops 3 .done)) (.seq (some (70368744177378, [])) (.seq none (.region [] (.ops 3 .done)) (.block (.loop 70368744175842 [(1, (.one (.int .i64))), (6, (.one .ptr))] (.seq none (.seq (some (129024, [(16, (.one .bool))])) (.region [] (.ops 3 (.split 13 (.ops 3 .done) (.skips 2 (.ops 1 .done))))) (.cond none .leaf .leaf)) (.block (.seq none (.region [] (.ops 6 .done)) (.block (.seq none (.region [] (.ops 4 .done)) (.cond none (.seq none (.region [] (.ops 6 .done)) .leaf) (.seq none (.region [] (.ops 4 .done)) (.cond none (.region [] (.ops 5 .done)) (.region [] (.ops 10 .done))))))))))))) (.seq none (.region [] (.ops 1 .done)) (.seq none (.region [] (.ops 3 .done)) .leaf))))
theorem F92_tie (a0 : (Option Addr × Unit)) (a1 : Int) (K : ((Sl × Int × Int × Int × Int × Bool × Bool × Unit) × Bool × Unit) → World → Prop) : vcgF tab Tryz.prog Tryz.f92 h92 [(.agg (Cells.vals c105 a0).toArray), (.int .i64 a1)] (.tup [(.agg c112), (.one .bool)]) K = F92 a0 a1 K := by kernel_rfl
theorem F92_calls {a0 : (Option Addr × Unit)} {a1 : Int} {K : ((Sl × Int × Int × Int × Int × Bool × Bool × Unit) × Bool × Unit) → World → Prop} {w : World} (h : F92 a0 a1 K w) : callT Tryz.prog 92 #[(.agg (Cells.vals c105 a0).toArray), (.int .i64 a1)] (.tup [(.agg c112), (.one .bool)]) K w :=
  vcgF_sound tabOk Tryz.func92 h92 [(.agg (Cells.vals c105 a0).toArray), (.int .i64 a1)] (.tup [(.agg c112), (.one .bool)]) K w (Eq.mpr (congrFun (F92_tie a0 a1 K) w) h)
noncomputable def F100 (a0 : Value) (v0 : Addr) (v1 : Addr) (K : Unit → World → Prop) : World → Prop :=
 chk (oneAll [a0] = true) <|
 newO (.cells #[a0] 146) fun b1 =>
 newO (.cells #[.nilFunc] 147) fun b2 =>
 chk (isOne (.func (Fn.func 101) #[] #[(.pointer (some (at0 b2))), (.pointer (some (at0 b1)))]) = true) <|
 stC (at0 b2) (.func (Fn.func 101) #[] #[(.pointer (some (at0 b2))), (.pointer (some (at0 b1)))]) <|
 ld (.any) (at0 b2) fun (x3 : Value) =>
 ld (.ptr) v0 fun (x4 : Option Addr) =>
 ld (.int .i64) v1 fun (x5 : Int) =>
 callX Tryz.prog (do let d ← Deferred.ofValue x3 #[(.pointer x4), (.int .i64 (if x5 > (0 : Int) then x5 else (0 : Int)))]; invoke d.target d.args : Sem Next) (.one (.one .bool)) fun (x6 : Bool) =>
 K ()
noncomputable def h100 : Hint := (.seq none (.region [] (.ops 1 .done)) (.seq none (.region [] (.ops 1 .done)) (.seq none (.region [] (.ops 2 .done)) (.region [] (.ops 6 .done)))))
theorem F100_tie (a0 : Value) (v0 : Addr) (v1 : Addr) (K : Unit → World → Prop) : vcgF tab Tryz.prog Tryz.f100 h100 [a0, (.pointer (some v0)), (.pointer (some v1))] (.tup []) K = F100 a0 v0 v1 K := by kernel_rfl
theorem F100_calls {a0 : Value} {v0 : Addr} {v1 : Addr} {K : Unit → World → Prop} {w : World} (h : F100 a0 v0 v1 K w) : callT Tryz.prog 100 #[a0, (.pointer (some v0)), (.pointer (some v1))] (.tup []) K w :=
  vcgF_sound tabOk Tryz.func100 h100 [a0, (.pointer (some v0)), (.pointer (some v1))] (.tup []) K w (Eq.mpr (congrFun (F100_tie a0 v0 v1 K) w) h)
noncomputable def F101 (a0 : Option Addr) (a1 : Int) (v0 : Addr) (v1 : Addr) (K : Bool → World → Prop) : World → Prop :=
 join (S := Bool × Unit) (fun J1 =>
 sif (Option.isNone a0) (
 J1 (true, ())) (
 nn a0 fun p3 =>
 ld (.int .i64) (p3.add 9) fun (x4 : Int) =>
 J1 ((decide (a1 ≥ x4)), ()))) fun (s2 : Bool × Unit) =>
 sif s2.1 (
 K true) (
 nn a0 fun p5 =>
 ld (.ptr) p5 fun (x6 : Option Addr) =>
 callT Tryz.prog 102 #[(.pointer x6)] (.one (.one (.int .i64))) fun (x7 : Int) =>
 join (S := Bool × Unit) (fun J8 =>
 drew <|
 sif (decide (a1 < x7)) (
 ld (.any) v0 fun (x10 : Value) =>
 nn a0 fun p11 =>
 ld (.ptr) p11 fun (x12 : Option Addr) =>
 callX Tryz.prog (do let d ← Deferred.ofValue x10 #[(.pointer x12), (.int .i64 a1)]; invoke d.target d.args : Sem Next) (.one (.one .bool)) fun (x13 : Bool) =>
 J8 ((!x13), ())) (
 J8 (false, ()))) fun (s9 : Bool × Unit) =>
 sif s9.1 (
 K false) (
 join (S := Bool × Unit) (fun J14 =>
 drew <|
 sif (decide (a1 ≤ x7)) (
 ld (.any) v1 fun (x16 : Value) =>
 nn a0 fun p17 =>
 lds c112 (p17.add 2) fun (x18 : (Sl × Int × Int × Int × Int × Bool × Bool × Unit)) =>
 callX Tryz.prog (do let d ← Deferred.ofValue x16 #[(.agg (Cells.vals c112 x18).toArray)]; invoke d.target d.args : Sem Next) (.one (.one .bool)) fun (x19 : Bool) =>
 J14 ((!x19), ())) (
 J14 (false, ()))) fun (s15 : Bool × Unit) =>
 sif s15.1 (
 K false) (
 drew <|
 ld (.any) v0 fun (x20 : Value) =>
 nn a0 fun p21 =>
 ld (.ptr) (p21.add 1) fun (x22 : Option Addr) =>
 callX Tryz.prog (do let d ← Deferred.ofValue x20 #[(.pointer x22), (.int .i64 (if (IntKind.wrap .i64 ((IntKind.wrap .i64 (a1 - x7)) - (1 : Int))) > (0 : Int) then (IntKind.wrap .i64 ((IntKind.wrap .i64 (a1 - x7)) - (1 : Int))) else (0 : Int)))]; invoke d.target d.args : Sem Next) (.one (.one .bool)) fun (x23 : Bool) =>
 K x23)))
noncomputable def h101 : Hint := (.seq none (.region [] (.ops 1 .done)) (.seq none (.seq (some (261888, [(17, (.one .bool))])) (.region [] (.ops 3 (.split 10 (.skips 6 (.ops 1 .done)) (.ops 7 .done)))) (.cond none (.seq none (.region [] (.ops 1 .done)) .leaf) .leaf)) (.seq none (.region [] (.ops 6 .done)) (.seq none (.seq (some (68711088128, [(35, (.one .bool))])) (.region [0, 1, 2, 3, 4, 5, 6, 7, 8, 9, 10, 11, 12] (.ops 4 (.split 26 (.ops 9 .done) (.skips 8 (.ops 1 .done))))) (.cond none (.seq none (.region [] (.ops 1 .done)) .leaf) .leaf)) (.seq none (.seq (some (281406257233920, [(47, (.one .bool))])) (.region [0, 1, 2, 3, 4, 5, 6, 7, 8, 9, 10, 11] (.ops 4 (.split 39 (.ops 8 .done) (.skips 7 (.ops 1 .done))))) (.cond none (.seq none (.region [] (.ops 1 .done)) .leaf) .leaf)) (.seq none (.region [0, 1, 2, 3, 4, 5, 6, 7, 8, 9, 10, 11] (.ops 12 .done)) .leaf))))))
theorem F101_tie (a0 : Option Addr) (a1 : Int) (v0 : Addr) (v1 : Addr) (K : Bool → World → Prop) : vcgF tab Tryz.prog Tryz.f101 h101 [(.pointer a0), (.int .i64 a1), (.pointer (some v0)), (.pointer (some v1))] (.one (.one .bool)) K = F101 a0 a1 v0 v1 K := by kernel_rfl
theorem F101_calls {a0 : Option Addr} {a1 : Int} {v0 : Addr} {v1 : Addr} {K : Bool → World → Prop} {w : World} (h : F101 a0 a1 v0 v1 K w) : callT Tryz.prog 101 #[(.pointer a0), (.int .i64 a1), (.pointer (some v0)), (.pointer (some v1))] (.one (.one .bool)) K w :=
  vcgF_sound tabOk Tryz.func101 h101 [(.pointer a0), (.int .i64 a1), (.pointer (some v0)), (.pointer (some v1))] (.one (.one .bool)) K w (Eq.mpr (congrFun (F101_tie a0 a1 v0 v1 K) w) h)
noncomputable def F102 (a0 : Option Addr) (K : Int → World → Prop) : World → Prop :=
 sif (Option.isNone a0) (
 K (0 : Int)) (
 nn a0 fun p1 =>
 ld (.int .i64) (p1.add 9) fun (x2 : Int) =>
 K x2)
noncomputable def h102 : Hint := (.seq none (.region [] (.ops 1 .done)) (.seq none (.seq none (.region [] (.ops 2 .done)) (.cond none (.seq none (.region [] (.ops 1 .done)) .leaf) .leaf)) (.seq none (.region [] (.ops 5 .done)) .leaf)))
theorem F102_tie (a0 : Option Addr) (K : Int → World → Prop) : vcgF tab Tryz.prog Tryz.f102 h102 [(.pointer a0)] (.one (.one (.int .i64))) K = F102 a0 K := by kernel_rfl
theorem F102_calls {a0 : Option Addr} {K : Int → World → Prop} {w : World} (h : F102 a0 K w) : callT Tryz.prog 102 #[(.pointer a0)] (.one (.one (.int .i64))) K w :=
  vcgF_sound tabOk Tryz.func102 h102 [(.pointer a0)] (.one (.one (.int .i64))) K w (Eq.mpr (congrFun (F102_tie a0 K) w) h)
noncomputable def F110 (a0 : Option Addr) (K : Int → World → Prop) : World → Prop :=
 nn a0 fun p1 =>
 lds c105 (p1.add 2) fun (x2 : (Option Addr × Unit)) =>
 callT Tryz.prog 70 #[(.agg (Cells.vals c105 x2).toArray)] (.one (.agg c110)) fun (x3 : (Int × Int × Int × Bool × Bool × Unit)) =>
 K x3.2.1
noncomputable def h110 : Hint := (.seq none (.region [] (.ops 1 .done)) (.seq none (.region [] (.ops 7 .done)) .leaf))
theorem F110_tie (a0 : Option Addr) (K : Int → World → Prop) : vcgF tab Tryz.prog Tryz.f110 h110 [(.pointer a0)] (.one (.one (.int .i64))) K = F110 a0 K := by kernel_rfl
theorem F110_calls {a0 : Option Addr} {K : Int → World → Prop} {w : World} (h : F110 a0 K w) : callT Tryz.prog 110 #[(.pointer a0)] (.one (.one (.int .i64))) K w :=
  vcgF_sound tabOk Tryz.func110 h110 [(.pointer a0)] (.one (.one (.int .i64))) K w (Eq.mpr (congrFun (F110_tie a0 K) w) h)
noncomputable def F111 (a0 : Int) (a1 : Int) (K : Int → World → Prop) : World → Prop :=
 callT Tryz.prog 85 #[(.int .i64 a0)] (.one (.one .any)) fun (x1 : Value) =>
 rdB Tryz.prog (do eqGuard .eql 132 (Operand.tmp 8) (Operand.const Value.nilIface) x1 .nilIface; binOp .eql 132 x1 .nilIface : Sem Value) fun r2 =>
 sif r2 (
 K (0 : Int)) (
 callX Tryz.prog (invoke (.fn (.method "copyist/codec.size") #[]) (#[x1] ++ #[(.int .i64 a1)])) (.one (.one (.int .i64))) fun (x3 : Int) =>
 K x3)
noncomputable def h111 : Hint := (.seq none (.region [] (.ops 1 .done)) (.seq none (.region [] (.ops 3 .done)) (.seq none (.seq none (.region [] (.ops 2 .done)) (.cond none (.seq none (.region [] (.ops 1 .done)) .leaf) .leaf)) (.seq none (.region [] (.ops 4 .done)) .leaf))))
theorem F111_tie (a0 : Int) (a1 : Int) (K : Int → World → Prop) : vcgF tab Tryz.prog Tryz.f111 h111 [(.int .i64 a0), (.int .i64 a1)] (.one (.one (.int .i64))) K = F111 a0 a1 K := by kernel_rfl
theorem F111_calls {a0 : Int} {a1 : Int} {K : Int → World → Prop} {w : World} (h : F111 a0 a1 K w) : callT Tryz.prog 111 #[(.int .i64 a0), (.int .i64 a1)] (.one (.one (.int .i64))) K w :=
  vcgF_sound tabOk Tryz.func111 h111 [(.int .i64 a0), (.int .i64 a1)] (.one (.one (.int .i64))) K w (Eq.mpr (congrFun (F111_tie a0 a1 K) w) h)
noncomputable def F112 (a0 : (Sl × Int × Int × Int × Int × Bool × Bool × Unit)) (a1 : Int) (a2 : Int) (K : ((Sl × Int × Int × Int × Int × Bool × Bool × Unit) × (Sl × Int × Int × Int × Int × Bool × Bool × Unit) × Unit) → World → Prop) : World → Prop :=
 newO (.cells #[(.slice a0.1.a a0.1.len a0.1.cap), (.int .i64 a0.2.1), (.int .i64 a0.2.2.1), (.int .i64 a0.2.2.2.1), (.int .i64 a0.2.2.2.2.1), (.bool a0.2.2.2.2.2.1), (.bool a0.2.2.2.2.2.2.1)] 112) fun b1 =>
 newO (.cells #[(.slice none 0 0), (.int .i64 (0 : Int)), (.int .i64 (0 : Int)), (.int .i64 (0 : Int)), (.int .i64 (0 : Int)), (.bool false), (.bool false)] 112) fun b2 =>
 newO (.cells #[(.slice none 0 0), (.int .i64 (0 : Int)), (.int .i64 (0 : Int)), (.int .i64 (0 : Int)), (.int .i64 (0 : Int)), (.bool false), (.bool false)] 112) fun b3 =>
 join (S := Int × Unit) (fun J4 =>
 sloop (S := Int × Int × Unit) (fun (s6 : Int × Int × Unit) again7 =>
 join (S := Bool × Unit) (fun J8 =>
 sif (decide (s6.1 > (0 : Int))) (
 ld (.sl) (at0 b1) fun (x10 : Sl) =>
 J8 ((decide (s6.2.1 < ((x10.len : Nat) : Int))), ())) (
 J8 (false, ()))) fun (s9 : Bool × Unit) =>
 sif s9.1 (
 ld (.sl) (at0 b1) fun (x11 : Sl) =>
 callT Tryz.prog 63 #[(.int .i64 a1), (.slice x11.a x11.len x11.cap), (.int .i64 s6.2.1)] (.tup [(.one (.int .i64)), (.one (.int .i64))]) fun (x12 : (Int × Int × Unit)) =>
 again7 ((IntKind.wrap .i64 (s6.1 - (1 : Int))), (IntKind.wrap .i64 (s6.2.1 + x12.2.1)), ())) (
 J4 (s6.2.1, ()))) (a2, (0 : Int), ())) fun (s5 : Int × Unit) =>
 ld (.int .i64) (⟨b1, 1, none⟩ : Addr) fun (x13 : Int) =>
 join (S := Int × Unit) (fun J14 =>
 sif (decide (x13 ≥ (0 : Int))) (
 J14 ((IntKind.wrap .i64 (x13 + s5.1)), ())) (
 J14 (x13, ()))) fun (s15 : Int × Unit) =>
 drew <|
 ld (.sl) (at0 b1) fun (x16 : Sl) =>
 slc x16.a 0 s5.1 s5.1 x16.cap 1 fun x17 =>
 ld (.int .i64) (⟨b1, 1, none⟩ : Addr) fun (x18 : Int) =>
 ld (.sl) (at0 b1) fun (x19 : Sl) =>
 slc x19.a s5.1 ((x19.len : Nat) : Int) ((x19.cap : Nat) : Int) x19.cap 1 fun x20 =>
 callT Tryz.prog 64 #[(.int .i64 a1), (.slice x17.a x17.len x17.cap), (.int .i64 x18)] (.one (.agg c112)) fun (x21 : (Sl × Int × Int × Int × Int × Bool × Bool × Unit)) =>
 keep (fun w => w.cell? (at0 b1) = some (Cell.val (.sl) x19)) <|
 callT Tryz.prog 64 #[(.int .i64 a1), (.slice x20.a x20.len x20.cap), (.int .i64 s15.1)] (.one (.agg c112)) fun (x22 : (Sl × Int × Int × Int × Int × Bool × Bool × Unit)) =>
 aggSt (at0 b2) (.agg (Cells.vals c112 x21).toArray) 7 <|
 aggSt (at0 b3) (.agg (Cells.vals c112 x22).toArray) 7 <|
 lds c112 (at0 b2) fun (x23 : (Sl × Int × Int × Int × Int × Bool × Bool × Unit)) =>
 lds c112 (at0 b3) fun (x24 : (Sl × Int × Int × Int × Int × Bool × Bool × Unit)) =>
 K (x23, x24, ())
noncomputable def h112 : Hint := (.seq none (.region [] (.ops 3 .done)) (.seq none (.region [] (.ops 1 .done)) (.seq (some (17179866884, [(8, (.one (.int .i64)))])) (.block (.loop 17179866884 [(2, (.one (.int .i64))), (8, (.one (.int .i64)))] (.seq none (.seq (some (2093056, [(20, (.one .bool))])) (.region [] (.ops 3 (.split 14 (.ops 6 .done) (.skips 5 (.ops 1 .done))))) (.cond none .leaf .leaf)) (.seq none (.block (.seq none (.region [] (.ops 10 .done)) (.region [] (.ops 4 .done)))) (.region [] (.ops 3 .done)))))) (.seq none (.region [] (.ops 3 .done)) (.seq (some (2130303780864, [(11, (.one (.int .i64)))])) (.seq none (.region [] (.ops 2 .done)) (.cond none (.region [] (.ops 4 .done)) .leaf)) (.seq none (.region [0, 1, 2, 3, 4, 5, 6, 7, 9, 10, 11, 12, 13, 14, 8, 15, 16, 17] (.ops 18 .done)) .leaf))))))
theorem F112_tie (a0 : (Sl × Int × Int × Int × Int × Bool × Bool × Unit)) (a1 : Int) (a2 : Int) (K : ((Sl × Int × Int × Int × Int × Bool × Bool × Unit) × (Sl × Int × Int × Int × Int × Bool × Bool × Unit) × Unit) → World → Prop) : vcgF tab Tryz.prog Tryz.f112 h112 [(.agg (Cells.vals c112 a0).toArray), (.int .i64 a1), (.int .i64 a2)] (.tup [(.agg c112), (.agg c112)]) K = F112 a0 a1 a2 K := by kernel_rfl
theorem F112_calls {a0 : (Sl × Int × Int × Int × Int × Bool × Bool × Unit)} {a1 : Int} {a2 : Int} {K : ((Sl × Int × Int × Int × Int × Bool × Bool × Unit) × (Sl × Int × Int × Int × Int × Bool × Bool × Unit) × Unit) → World → Prop} {w : World} (h : F112 a0 a1 a2 K w) : callT Tryz.prog 112 #[(.agg (Cells.vals c112 a0).toArray), (.int .i64 a1), (.int .i64 a2)] (.tup [(.agg c112), (.agg c112)]) K w :=
  vcgF_sound tabOk Tryz.func112 h112 [(.agg (Cells.vals c112 a0).toArray), (.int .i64 a1), (.int .i64 a2)] (.tup [(.agg c112), (.agg c112)]) K w (Eq.mpr (congrFun (F112_tie a0 a1 a2 K) w) h)
noncomputable def F113 (a0 : Option Addr) (a1 : Sl) (K : Sl → World → Prop) : World → Prop :=
 newO (.cells #[(.pointer a0)] 25) fun b1 =>
 newO (.cells #[(.slice none 0 0)] 108) fun b2 =>
 ld (.ptr) (at0 b1) fun (x3 : Option Addr) =>
 nn x3 fun p4 =>
 ld (.sl) (p4.add 3) fun (x5 : Sl) =>
 newO (.cells #[(.int .i64 (0 : Int))] 3) fun b6 =>
 stC (at0 b6) (.int .i64 ((x5.len : Nat) : Int)) <|
 newO (.cells #[(.int .i64 (0 : Int))] 3) fun b7 =>
 stC (at0 b7) (.int .i64 (0 : Int)) <|
 join (S := Unit) (fun J8 =>
 sloop (S := Int × Unit) (fun (s10 : Int × Unit) again11 =>
 sif (decide (s10.1 < ((a1.len : Nat) : Int))) (
 join (S := Unit) (fun J12 =>
 ix a1.a a1.len s10.1 fun p14 =>
 ld (.int .i64) (p14.add (scaled (Int.toNat s10.1) 1)) fun (x15 : Int) =>
 join (S := Bool × Unit) (fun J16 =>
 sif (decide (x15 ≥ (0 : Int))) (
 sif (decide (x15 < (55296 : Int))) (
 J16 (true, ())) (
 J16 ((decide (x15 > (57343 : Int))), ()))) (
 J16 (false, ()))) fun (s17 : Bool × Unit) =>
 join (S := Unit) (fun J18 =>
 join (S := Bool × Unit) (fun J20 =>
 sif (!s17.1) (
 J20 (true, ())) (
 ld (.int .i64) (at0 b7) fun (x22 : Int) =>
 J20 ((x22 == (128 : Int)), ()))) fun (s21 : Bool × Unit) =>
 sif s21.1 (
 callX Tryz.prog (do let d ← Deferred.ofValue (.func (Fn.func 141) #[] #[(.pointer (some (at0 b1))), (.pointer (some (at0 b6))), (.pointer (some (at0 b2))), (.pointer (some (at0 b7)))]) #[]; invoke d.target d.args : Sem Next) (.tup []) fun (x23 : (Unit)) =>
 J18 ()) (
 J18 ())) fun (s19 : Unit) =>
 ld (.ptr) (at0 b1) fun (x24 : Option Addr) =>
 nn x24 fun p25 =>
 ld (.int .i64) p25 fun (x26 : Int) =>
 newO (.cells #[(.int .i64 x15)] 3) fun b27 =>
 callT Tryz.prog 142 #[(.int .i64 x26), (.slice (some (at0 b27)) 1 1)] (.tup [(.one .sl), (.one (.int .i64)), (.one (.int .i64))]) fun (x28 : (Sl × Int × Int × Unit)) =>
 drew <|
 ld (.ptr) (at0 b1) fun (x29 : Option Addr) =>
 ld (.ptr) (at0 b1) fun (x30 : Option Addr) =>
 nn x30 fun p31 =>
 ld (.sl) (p31.add 3) fun (x32 : Sl) =>
 rawT Tryz.prog (.one (.one .sl)) (Builtin.append_ #[22, 22] 22 #[(.slice x32.a x32.len x32.cap), (.slice x28.1.a x28.1.len x28.1.cap)]) fun (x33 : Sl) =>
 keep (fun w => w.cell? (at0 b1) = some (Cell.val (.ptr) x29)) <|
 nn x29 fun p34 =>
 stC (p34.add 3) (.slice x33.a x33.len x33.cap) <|
 ld (.int .i64) (at0 b7) fun (x35 : Int) =>
 stC (at0 b7) (.int .i64 (IntKind.wrap .i64 (x35 + (1 : Int)))) <|
 sif (!s17.1) (
 callX Tryz.prog (do let d ← Deferred.ofValue (.func (Fn.func 141) #[] #[(.pointer (some (at0 b1))), (.pointer (some (at0 b6))), (.pointer (some (at0 b2))), (.pointer (some (at0 b7)))]) #[]; invoke d.target d.args : Sem Next) (.tup []) fun (x36 : (Unit)) =>
 J12 ()) (
 J12 ())) fun (s13 : Unit) =>
 again11 ((IntKind.wrap .i64 (s10.1 + (1 : Int))), ())) (
 J8 ())) ((0 : Int), ())) fun (s9 : Unit) =>
 callX Tryz.prog (do let d ← Deferred.ofValue (.func (Fn.func 141) #[] #[(.pointer (some (at0 b1))), (.pointer (some (at0 b6))), (.pointer (some (at0 b2))), (.pointer (some (at0 b7)))]) #[]; invoke d.target d.args : Sem Next) (.tup []) fun (x37 : (Unit)) =>
 ld (.sl) (at0 b2) fun (x38 : Sl) =>
 K x38
noncomputable def h113 : Hint := (.seq none (.region [] (.ops 2 .done)) (.seq none (.region [] (.ops 1 .done)) (.seq none (.region [] (.ops 7 .done)) (.seq none (.region [] (.ops 2 .done)) (.seq none (.region [] (.ops 2 .done)) (.seq (some (4722366482869643148288, [])) (.seq none (.region [] (.ops 3 .done)) (.block (.loop 4722366482869636856832 [(23, (.one (.int .i64)))] (.seq none (.region [] (.ops 1 .done)) (.seq none (.cond none .leaf .leaf) (.seq (some (2361183241434789084160, [])) (.block (.seq none (.region [] (.ops 3 .done)) (.seq (some (137304737792, [(11, (.one .bool))])) (.region [] (.ops 3 (.split 29 (.ops 3 (.split 32 (.skips 2 (.ops 3 .done)) (.ops 5 .done))) (.skips 6 (.ops 2 .done))))) (.seq (some (35046933135360, [])) (.seq (some (8658654068736, [(42, (.one .bool))])) (.region [] (.ops 3 (.split 39 (.skips 2 (.ops 1 .done)) (.ops 3 .done)))) (.cond none (.region [] (.ops 2 .done)) .leaf)) (.seq none (.region [] (.ops 14 .done)) (.seq none (.region [0, 1, 2, 3, 4, 5, 6, 7, 8, 9] (.ops 10 .done)) (.seq none (.region [] (.ops 3 .done)) (.seq none (.region [] (.ops 2 .done)) (.cond none (.region [] (.ops 2 .done)) .leaf))))))))) (.region [] (.ops 2 .done)))))))) (.seq none (.region [] (.ops 2 .done)) (.seq none (.region [] (.ops 2 .done)) .leaf))))))))
theorem F113_tie (a0 : Option Addr) (a1 : Sl) (K : Sl → World → Prop) : vcgF tab Tryz.prog Tryz.f113 h113 [(.pointer a0), (.slice a1.a a1.len a1.cap)] (.one (.one .sl)) K = F113 a0 a1 K := by kernel_rfl
theorem F113_calls {a0 : Option Addr} {a1 : Sl} {K : Sl → World → Prop} {w : World} (h : F113 a0 a1 K w) : callT Tryz.prog 113 #[(.pointer a0), (.slice a1.a a1.len a1.cap)] (.one (.one .sl)) K w :=
  vcgF_sound tabOk Tryz.func113 h113 [(.pointer a0), (.slice a1.a a1.len a1.cap)] (.one (.one .sl)) K w (Eq.mpr (congrFun (F113_tie a0 a1 K) w) h)
noncomputable def F114 (a0 : (Option Addr × Unit)) (a1 : Int) (a2 : Int) (a3 : Sl) (K : ((Option Addr × Unit) × Int × Unit) → World → Prop) : World → Prop :=
 newO (.cells #[(.pointer a0.1)] 105) fun b1 =>
 newO (.cells #[(.pointer none)] 105) fun b2 =>
 join (S := Bool × Unit) (fun J3 =>
 sif (decide (a1 < (0 : Int))) (
 J3 (true, ())) (
 sif (decide (a1 > a2)) (
 J3 (true, ())) (
 lds c105 (at0 b1) fun (x5 : (Option Addr × Unit)) =>
 callT Tryz.prog 115 #[(.agg (Cells.vals c105 x5).toArray)] (.one (.one (.int .i64))) fun (x6 : Int) =>
 J3 ((decide (a2 > x6)), ())))) fun (s4 : Bool × Unit) =>
 sif s4.1 (
 aggSt (at0 b2) (.agg #[(.pointer none)]) 1 <|
 lds c105 (at0 b2) fun (x7 : (Option Addr × Unit)) =>
 K (x7, (1 : Int), ())) (
 ld (.ptr) (at0 b1) fun (x8 : Option Addr) =>
 callT Tryz.prog 143 #[(.pointer x8), (.int .i64 a1)] (.tup [(.one .ptr), (.one .ptr)]) fun (x9 : (Option Addr × Option Addr × Unit)) =>
 ld (.ptr) (at0 b1) fun (x10 : Option Addr) =>
 callT Tryz.prog 143 #[(.pointer x10), (.int .i64 a2)] (.tup [(.one .ptr), (.one .ptr)]) fun (x11 : (Option Addr × Option Addr × Unit)) =>
 callT Tryz.prog 88 #[(.slice a3.a a3.len a3.cap)] (.one (.one .ptr)) fun (x12 : Option Addr) =>
 callT Tryz.prog 144 #[(.pointer x9.1), (.pointer x12)] (.one (.one .ptr)) fun (x13 : Option Addr) =>
 callT Tryz.prog 144 #[(.pointer x13), (.pointer x11.2.1)] (.one (.one .ptr)) fun (x14 : Option Addr) =>
 aggSt (at0 b2) (.agg #[(.pointer x14)]) 1 <|
 lds c105 (at0 b2) fun (x15 : (Option Addr × Unit)) =>
 K (x15, (0 : Int), ()))
noncomputable def h114 : Hint := (.seq none (.region [] (.ops 3 .done)) (.seq none (.seq (some (134201344, [(26, (.one .bool))])) (.region [] (.ops 3 (.split 16 (.skips 3 (.ops 2 (.skips 4 (.ops 1 .done)))) (.ops 5 (.split 21 (.skips 4 (.ops 1 .done)) (.ops 5 .done)))))) (.cond none (.seq none (.region [] (.ops 3 .done)) .leaf) .leaf)) (.seq none (.region [] (.ops 9 .done)) (.seq none (.region [] (.ops 9 .done)) (.seq none (.region [] (.ops 9 .done)) .leaf)))))
theorem F114_tie (a0 : (Option Addr × Unit)) (a1 : Int) (a2 : Int) (a3 : Sl) (K : ((Option Addr × Unit) × Int × Unit) → World → Prop) : vcgF tab Tryz.prog Tryz.f114 h114 [(.agg (Cells.vals c105 a0).toArray), (.int .i64 a1), (.int .i64 a2), (.slice a3.a a3.len a3.cap)] (.tup [(.agg c105), (.one (.int .i64))]) K = F114 a0 a1 a2 a3 K := by kernel_rfl
theorem F114_calls {a0 : (Option Addr × Unit)} {a1 : Int} {a2 : Int} {a3 : Sl} {K : ((Option Addr × Unit) × Int × Unit) → World → Prop} {w : World} (h : F114 a0 a1 a2 a3 K w) : callT Tryz.prog 114 #[(.agg (Cells.vals c105 a0).toArray), (.int .i64 a1), (.int .i64 a2), (.slice a3.a a3.len a3.cap)] (.tup [(.agg c105), (.one (.int .i64))]) K w :=
  vcgF_sound tabOk Tryz.func114 h114 [(.agg (Cells.vals c105 a0).toArray), (.int .i64 a1), (.int .i64 a2), (.slice a3.a a3.len a3.cap)] (.tup [(.agg c105), (.one (.int .i64))]) K w (Eq.mpr (congrFun (F114_tie a0 a1 a2 a3 K) w) h)
noncomputable def F115 (a0 : (Option Addr × Unit)) (K : Int → World → Prop) : World → Prop :=
 newO (.cells #[(.pointer a0.1)] 105) fun b1 =>
 ld (.ptr) (at0 b1) fun (x2 : Option Addr) =>
 callT Tryz.prog 102 #[(.pointer x2)] (.one (.one (.int .i64))) fun (x3 : Int) =>
 K x3
noncomputable def h115 : Hint := (.seq none (.region [] (.ops 2 .done)) (.seq none (.region [] (.ops 4 .done)) .leaf))
theorem F115_tie (a0 : (Option Addr × Unit)) (K : Int → World → Prop) : vcgF tab Tryz.prog Tryz.f115 h115 [(.agg (Cells.vals c105 a0).toArray)] (.one (.one (.int .i64))) K = F115 a0 K := by kernel_rfl
theorem F115_calls {a0 : (Option Addr × Unit)} {K : Int → World → Prop} {w : World} (h : F115 a0 K w) : callT Tryz.prog 115 #[(.agg (Cells.vals c105 a0).toArray)] (.one (.one (.int .i64))) K w :=
  vcgF_sound tabOk Tryz.func115 h115 [(.agg (Cells.vals c105 a0).toArray)] (.one (.one (.int .i64))) K w (Eq.mpr (congrFun (F115_tie a0 K) w) h)
noncomputable def F116 (a0 : Sl) (a1 : Int) (a2 : Int) (K : Int → World → Prop) : World → Prop :=
 newO (.cells #[(.int .i64 (0 : Int)), (.int .i64 (0 : Int)), (.int .i64 (0 : Int)), (.int .i64 (0 : Int)), (.int .i64 (0 : Int))] 192) fun b1 =>
 aggSt (at0 b1) (.agg #[(.int .i64 (0 : Int)), (.int .i64 (0 : Int)), (.int .i64 (192 : Int)), (.int .i64 (224 : Int)), (.int .i64 (240 : Int))]) 5 <|
 drew <|
 ix a0.a a0.len a1 fun p2 =>
 ld (.int .u8) (p2.add (scaled (Int.toNat a1) 1)) fun (x3 : Int) =>
 chk (0 ≤ a2 ∧ a2 < ((5 : Nat) : Int)) <|
 ld (.int .i64) ((at0 b1).add (scaled (Int.toNat a2) 1)) fun (x4 : Int) =>
 join (S := Int × Unit) (fun J5 =>
 sloop (S := Int × Int × Unit) (fun (s7 : Int × Int × Unit) again8 =>
 sif (decide (s7.2.1 < a2)) (
 ix a0.a a0.len (IntKind.wrap .i64 (a1 + s7.2.1)) fun p9 =>
 ld (.int .u8) (p9.add (scaled (Int.toNat (IntKind.wrap .i64 (a1 + s7.2.1))) 1)) fun (x10 : Int) =>
 again8 ((IntKind.wrap .i64 ((IntKind.wrap .i64 ((IntKind.wrap .i64 (s7.1 * (64 : Int))) + (IntKind.wrap .i64 x10))) - (128 : Int))), (IntKind.wrap .i64 (s7.2.1 + (1 : Int))), ())) (
 J5 (s7.1, ()))) ((IntKind.wrap .i64 ((IntKind.wrap .i64 x3) - x4)), (1 : Int), ())) fun (s6 : Int × Unit) =>
 K s6.1
noncomputable def h116 : Hint := (.seq none (.region [] (.ops 1 .done)) (.seq none (.region [] (.ops 3 .done)) (.seq none (.region [0, 1, 2, 3, 4, 5, 6, 7, 8, 9] (.ops 10 .done)) (.seq (some (68718428928, [(8, (.one (.int .i64)))])) (.seq none (.region [] (.ops 1 .done)) (.block (.loop 68718428928 [(8, (.one (.int .i64))), (9, (.one (.int .i64)))] (.seq none (.seq none (.region [] (.ops 3 .done)) (.cond none .leaf .leaf)) (.seq none (.block (.region [] (.ops 12 .done))) (.region [] (.ops 3 .done))))))) (.seq none (.region [] (.ops 2 .done)) .leaf)))))
theorem F116_tie (a0 : Sl) (a1 : Int) (a2 : Int) (K : Int → World → Prop) : vcgF tab Tryz.prog Tryz.f116 h116 [(.slice a0.a a0.len a0.cap), (.int .i64 a1), (.int .i64 a2)] (.one (.one (.int .i64))) K = F116 a0 a1 a2 K := by kernel_rfl
theorem F116_calls {a0 : Sl} {a1 : Int} {a2 : Int} {K : Int → World → Prop} {w : World} (h : F116 a0 a1 a2 K w) : callT Tryz.prog 116 #[(.slice a0.a a0.len a0.cap), (.int .i64 a1), (.int .i64 a2)] (.one (.one (.int .i64))) K w :=
  vcgF_sound tabOk Tryz.func116 h116 [(.slice a0.a a0.len a0.cap), (.int .i64 a1), (.int .i64 a2)] (.one (.one (.int .i64))) K w (Eq.mpr (congrFun (F116_tie a0 a1 a2 K) w) h)
noncomputable def F117 (a0 : Int) (K : Bool → World → Prop) : World → Prop :=
 sif (decide (a0 ≥ (0 : Int))) (
 sif (decide (a0 < (55296 : Int))) (
 K true) (
 sif (decide (a0 > (57343 : Int))) (
 K (decide (a0 ≤ (1114111 : Int)))) (
 K false))) (
 sif (decide (a0 > (57343 : Int))) (
 K (decide (a0 ≤ (1114111 : Int)))) (
 K false))
noncomputable def h117 : Hint := (.seq none (.region [] (.ops 1 .done)) (.seq none (.region [] (.ops 3 (.split 5 (.ops 4 (.split 9 (.skips 6 (.ops 2 .done)) (.ops 3 (.split 12 (.ops 5 .done) (.skips 2 (.ops 3 .done)))))) (.skips 2 (.ops 5 (.split 12 (.ops 5 .done) (.skips 2 (.ops 3 .done)))))))) .leaf))
theorem F117_tie (a0 : Int) (K : Bool → World → Prop) : vcgF tab Tryz.prog Tryz.f117 h117 [(.int .i64 a0)] (.one (.one .bool)) K = F117 a0 K := by kernel_rfl
theorem F117_calls {a0 : Int} {K : Bool → World → Prop} {w : World} (h : F117 a0 K w) : callT Tryz.prog 117 #[(.int .i64 a0)] (.one (.one .bool)) K w :=
  vcgF_sound tabOk Tryz.func117 h117 [(.int .i64 a0)] (.one (.one .bool)) K w (Eq.mpr (congrFun (F117_tie a0 K) w) h)
noncomputable def F118 (a0 : Int) (K : Sl → World → Prop) : World → Prop :=
 sif (decide (a0 < (128 : Int))) (
 newO (.cells #[(.int .u8 (IntKind.wrap .u8 a0))] 5) fun b1 =>
 K ⟨(some (at0 b1)), 1, 1⟩) (
 sif (decide (a0 < (2048 : Int))) (
 chk ((64 : Int) ≠ 0) <|
 chk ((64 : Int) ≠ 0) <|
 newO (.cells #[(.int .u8 (IntKind.wrap .u8 (IntKind.wrap .i64 ((192 : Int) + (IntKind.wrap .i64 (Int.tdiv a0 (64 : Int))))))), (.int .u8 (IntKind.wrap .u8 (IntKind.wrap .i64 ((128 : Int) + (Int.tmod a0 (64 : Int))))))] 5) fun b2 =>
 K ⟨(some (at0 b2)), 2, 2⟩) (
 sif (decide (a0 < (65536 : Int))) (
 chk ((4096 : Int) ≠ 0) <|
 chk ((64 : Int) ≠ 0) <|
 chk ((64 : Int) ≠ 0) <|
 chk ((64 : Int) ≠ 0) <|
 newO (.cells #[(.int .u8 (IntKind.wrap .u8 (IntKind.wrap .i64 ((224 : Int) + (IntKind.wrap .i64 (Int.tdiv a0 (4096 : Int))))))), (.int .u8 (IntKind.wrap .u8 (IntKind.wrap .i64 ((128 : Int) + (Int.tmod (IntKind.wrap .i64 (Int.tdiv a0 (64 : Int))) (64 : Int)))))), (.int .u8 (IntKind.wrap .u8 (IntKind.wrap .i64 ((128 : Int) + (Int.tmod a0 (64 : Int))))))] 5) fun b3 =>
 K ⟨(some (at0 b3)), 3, 3⟩) (
 chk ((262144 : Int) ≠ 0) <|
 chk ((4096 : Int) ≠ 0) <|
 chk ((64 : Int) ≠ 0) <|
 chk ((64 : Int) ≠ 0) <|
 chk ((64 : Int) ≠ 0) <|
 chk ((64 : Int) ≠ 0) <|
 newO (.cells #[(.int .u8 (IntKind.wrap .u8 (IntKind.wrap .i64 ((240 : Int) + (IntKind.wrap .i64 (Int.tdiv a0 (262144 : Int))))))), (.int .u8 (IntKind.wrap .u8 (IntKind.wrap .i64 ((128 : Int) + (Int.tmod (IntKind.wrap .i64 (Int.tdiv a0 (4096 : Int))) (64 : Int)))))), (.int .u8 (IntKind.wrap .u8 (IntKind.wrap .i64 ((128 : Int) + (Int.tmod (IntKind.wrap .i64 (Int.tdiv a0 (64 : Int))) (64 : Int)))))), (.int .u8 (IntKind.wrap .u8 (IntKind.wrap .i64 ((128 : Int) + (Int.tmod a0 (64 : Int))))))] 5) fun b4 =>
 K ⟨(some (at0 b4)), 4, 4⟩)))
noncomputable def h118 : Hint := (.seq none (.region [] (.ops 1 .done)) (.seq none (.block (.seq none (.region [] (.ops 3 .done)) (.cond none (.seq none (.region [] (.ops 4 .done)) .leaf) (.seq none (.region [] (.ops 3 .done)) (.cond none (.seq none (.region [] (.ops 10 .done)) .leaf) (.seq none (.region [] (.ops 3 .done)) (.cond none (.seq none (.region [] (.ops 15 .done)) .leaf) .leaf))))))) (.seq none (.region [] (.ops 20 .done)) .leaf)))
theorem F118_tie (a0 : Int) (K : Sl → World → Prop) : vcgF tab Tryz.prog Tryz.f118 h118 [(.int .i64 a0)] (.one (.one .sl)) K = F118 a0 K := by kernel_rfl
theorem F118_calls {a0 : Int} {K : Sl → World → Prop} {w : World} (h : F118 a0 K w) : callT Tryz.prog 118 #[(.int .i64 a0)] (.one (.one .sl)) K w :=
  vcgF_sound tabOk Tryz.func118 h118 [(.int .i64 a0)] (.one (.one .sl)) K w (Eq.mpr (congrFun (F118_tie a0 K) w) h)
noncomputable def F119 (a0 : Sl) (a1 : Int) (a2 : Sl) (K : Bool → World → Prop) : World → Prop :=
 sif (decide ((IntKind.wrap .i64 (a1 + ((a2.len : Nat) : Int))) > ((a0.len : Nat) : Int))) (
 K false) (
 join (S := Unit) (fun J1 =>
 sloop (S := Int × Unit) (fun (s3 : Int × Unit) again4 =>
 sif (decide (s3.1 < ((a2.len : Nat) : Int))) (
 drew <|
 ix a0.a a0.len (IntKind.wrap .i64 (a1 + s3.1)) fun p5 =>
 ld (.int .u8) (p5.add (scaled (Int.toNat (IntKind.wrap .i64 (a1 + s3.1))) 1)) fun (x6 : Int) =>
 ix a2.a a2.len s3.1 fun p7 =>
 ld (.int .u8) (p7.add (scaled (Int.toNat s3.1) 1)) fun (x8 : Int) =>
 sif (x6 != x8) (
 K false) (
 again4 ((IntKind.wrap .i64 (s3.1 + (1 : Int))), ()))) (
 J1 ())) ((0 : Int), ())) fun (s2 : Unit) =>
 K true)
noncomputable def h119 : Hint := (.seq none (.region [] (.ops 1 .done)) (.seq none (.seq none (.region [] (.ops 7 .done)) (.cond none (.seq none (.region [] (.ops 1 .done)) .leaf) .leaf)) (.seq (some (4294934720, [])) (.seq none (.region [] (.ops 1 .done)) (.block (.loop 4294934720 [(7, (.one (.int .i64)))] (.seq none (.seq none (.region [] (.ops 4 .done)) (.cond none .leaf .leaf)) (.seq none (.block (.seq none (.region [0, 1, 2, 3, 4, 5, 6, 7, 8, 9, 10] (.ops 11 .done)) (.cond none (.seq none (.region [] (.ops 1 .done)) .leaf) .leaf))) (.region [] (.ops 3 .done))))))) (.seq none (.region [] (.ops 1 .done)) .leaf))))
theorem F119_tie (a0 : Sl) (a1 : Int) (a2 : Sl) (K : Bool → World → Prop) : vcgF tab Tryz.prog Tryz.f119 h119 [(.slice a0.a a0.len a0.cap), (.int .i64 a1), (.slice a2.a a2.len a2.cap)] (.one (.one .bool)) K = F119 a0 a1 a2 K := by kernel_rfl
theorem F119_calls {a0 : Sl} {a1 : Int} {a2 : Sl} {K : Bool → World → Prop} {w : World} (h : F119 a0 a1 a2 K w) : callT Tryz.prog 119 #[(.slice a0.a a0.len a0.cap), (.int .i64 a1), (.slice a2.a a2.len a2.cap)] (.one (.one .bool)) K w :=
  vcgF_sound tabOk Tryz.func119 h119 [(.slice a0.a a0.len a0.cap), (.int .i64 a1), (.slice a2.a a2.len a2.cap)] (.one (.one .bool)) K w (Eq.mpr (congrFun (F119_tie a0 a1 a2 K) w) h)
noncomputable def F120 (a0 : Option Addr) (a1 : (Sl × Int × Int × Int × Int × Bool × Bool × Unit)) (a2 : Option Addr) (K : Option Addr → World → Prop) : World → Prop :=
 newO (.cells #[(.slice a1.1.a a1.1.len a1.1.cap), (.int .i64 a1.2.1), (.int .i64 a1.2.2.1), (.int .i64 a1.2.2.2.1), (.int .i64 a1.2.2.2.2.1), (.bool a1.2.2.2.2.2.1), (.bool a1.2.2.2.2.2.2.1)] 112) fun b1 =>
 drew <|
 lds c112 (at0 b1) fun (x2 : (Sl × Int × Int × Int × Int × Bool × Bool × Unit)) =>
 callT Tryz.prog 102 #[(.pointer a0)] (.one (.one (.int .i64))) fun (x3 : Int) =>
 keep (fun w => cellsAt w (at0 b1) 0 (Cells.vals c112 x2)) <|
 callT Tryz.prog 102 #[(.pointer a2)] (.one (.one (.int .i64))) fun (x4 : Int) =>
 keep (fun w => cellsAt w (at0 b1) 0 (Cells.vals c112 x2)) <|
 callT Tryz.prog 145 #[(.pointer a0)] (.one (.one (.int .i64))) fun (x5 : Int) =>
 keep (fun w => cellsAt w (at0 b1) 0 (Cells.vals c112 x2)) <|
 callT Tryz.prog 145 #[(.pointer a2)] (.one (.one (.int .i64))) fun (x6 : Int) =>
 keep (fun w => cellsAt w (at0 b1) 0 (Cells.vals c112 x2)) <|
 newO (.cells (Value.cells (.agg #[(.pointer a0), (.pointer a2), (.slice x2.1.a x2.1.len x2.1.cap), (.int .i64 x2.2.1), (.int .i64 x2.2.2.1), (.int .i64 x2.2.2.2.1), (.int .i64 x2.2.2.2.2.1), (.bool x2.2.2.2.2.2.1), (.bool x2.2.2.2.2.2.2.1), (.int .i64 (IntKind.wrap .i64 ((IntKind.wrap .i64 (x3 + (1 : Int))) + x4))), (.int .i64 (IntKind.wrap .i64 ((if x6 > x5 then x6 else x5) + (1 : Int)))), (.int .i64 (0 : Int)), (.int .i64 (0 : Int)), (.int .i64 (0 : Int)), (.bool false), (.bool false)])) 144) fun b7 =>
 lds c112 (at0 b1) fun (x8 : (Sl × Int × Int × Int × Int × Bool × Bool × Unit)) =>
 callX Tryz.prog (invoke (.fn (.method "Measure") #[]) (#[(.iface 112 (.agg (Cells.vals c112 x8).toArray))] ++ #[])) (.one (.agg c110)) fun (x9 : (Int × Int × Int × Bool × Bool × Unit)) =>
 nn (some (at0 b7)) fun p10 =>
 aggSt (p10.add 11) (.agg (Cells.vals c110 x9).toArray) 5 <|
 join (S := Unit) (fun J11 =>
 sif (!(Option.isNone a0)) (
 drew <|
 nn a0 fun p13 =>
 lds c110 (p13.add 11) fun (x14 : (Int × Int × Int × Bool × Bool × Unit)) =>
 nn (some (at0 b7)) fun p15 =>
 lds c110 (p15.add 11) fun (x16 : (Int × Int × Int × Bool × Bool × Unit)) =>
 callX Tryz.prog (invoke (.fn (.method "Add") #[]) (#[(.iface 110 (.agg (Cells.vals c110 x14).toArray))] ++ #[(.agg (Cells.vals c110 x16).toArray)])) (.one (.agg c110)) fun (x17 : (Int × Int × Int × Bool × Bool × Unit)) =>
 nn (some (at0 b7)) fun p18 =>
 aggSt (p18.add 11) (.agg (Cells.vals c110 x17).toArray) 5 <|
 J11 ()) (
 J11 ())) fun (s12 : Unit) =>
 join (S := Unit) (fun J19 =>
 sif (!(Option.isNone a2)) (
 drew <|
 nn (some (at0 b7)) fun p21 =>
 lds c110 (p21.add 11) fun (x22 : (Int × Int × Int × Bool × Bool × Unit)) =>
 nn a2 fun p23 =>
 lds c110 (p23.add 11) fun (x24 : (Int × Int × Int × Bool × Bool × Unit)) =>
 callX Tryz.prog (invoke (.fn (.method "Add") #[]) (#[(.iface 110 (.agg (Cells.vals c110 x22).toArray))] ++ #[(.agg (Cells.vals c110 x24).toArray)])) (.one (.agg c110)) fun (x25 : (Int × Int × Int × Bool × Bool × Unit)) =>
 nn (some (at0 b7)) fun p26 =>
 aggSt (p26.add 11) (.agg (Cells.vals c110 x25).toArray) 5 <|
 J19 ()) (
 J19 ())) fun (s20 : Unit) =>
 K (some (at0 b7))
noncomputable def h120 : Hint := (.seq none (.region [] (.ops 2 .done)) (.seq none (.region [0, 1, 2, 3, 6, 9, 11, 4, 5, 7, 8, 10, 12, 13, 14, 15, 16, 17] (.ops 18 .done)) (.seq none (.region [] (.ops 7 .done)) (.seq (some (70366596694016, [])) (.seq none (.region [] (.ops 2 .done)) (.cond none (.region [0, 1, 2, 3, 4, 5, 6, 7, 8, 9, 10, 11, 12, 13] (.ops 14 .done)) .leaf)) (.seq (some (2305772640469516288, [])) (.seq none (.region [] (.ops 2 .done)) (.cond none (.region [0, 1, 2, 3, 4, 5, 6, 7, 8, 9, 10, 11, 12, 13] (.ops 14 .done)) .leaf)) (.seq none (.region [] (.ops 2 .done)) .leaf))))))
theorem F120_tie (a0 : Option Addr) (a1 : (Sl × Int × Int × Int × Int × Bool × Bool × Unit)) (a2 : Option Addr) (K : Option Addr → World → Prop) : vcgF tab Tryz.prog Tryz.f120 h120 [(.pointer a0), (.agg (Cells.vals c112 a1).toArray), (.pointer a2)] (.one (.one .ptr)) K = F120 a0 a1 a2 K := by kernel_rfl
theorem F120_calls {a0 : Option Addr} {a1 : (Sl × Int × Int × Int × Int × Bool × Bool × Unit)} {a2 : Option Addr} {K : Option Addr → World → Prop} {w : World} (h : F120 a0 a1 a2 K w) : callT Tryz.prog 120 #[(.pointer a0), (.agg (Cells.vals c112 a1).toArray), (.pointer a2)] (.one (.one .ptr)) K w :=
  vcgF_sound tabOk Tryz.func120 h120 [(.pointer a0), (.agg (Cells.vals c112 a1).toArray), (.pointer a2)] (.one (.one .ptr)) K w (Eq.mpr (congrFun (F120_tie a0 a1 a2 K) w) h)
noncomputable def F141 (v0 : Addr) (v1 : Addr) (v2 : Addr) (v3 : Addr) (K : Unit → World → Prop) : World → Prop :=
 ld (.ptr) v0 fun (x1 : Option Addr) =>
 nn x1 fun p2 =>
 ld (.sl) (p2.add 3) fun (x3 : Sl) =>
 ld (.int .i64) v1 fun (x4 : Int) =>
 sif (decide (((x3.len : Nat) : Int) > x4)) (
 drew <|
 ld (.sl) v2 fun (x5 : Sl) =>
 ld (.ptr) v0 fun (x6 : Option Addr) =>
 nn x6 fun p7 =>
 ld (.int .i64) p7 fun (x8 : Int) =>
 ld (.ptr) v0 fun (x9 : Option Addr) =>
 nn x9 fun p10 =>
 ld (.sl) (p10.add 3) fun (x11 : Sl) =>
 ld (.int .i64) v1 fun (x12 : Int) =>
 slc x11.a x12 ((x3.len : Nat) : Int) ((x3.len : Nat) : Int) x11.cap 1 fun x13 =>
 callT Tryz.prog 64 #[(.int .i64 x8), (.slice x13.a x13.len x13.cap), (.int .i64 (-1 : Int))] (.one (.agg c112)) fun (x14 : (Sl × Int × Int × Int × Int × Bool × Bool × Unit)) =>
 keep (fun w => w.cell? v2 = some (Cell.val (.sl) x5)) <|
 newO (.cells #[(.slice x14.1.a x14.1.len x14.1.cap), (.int .i64 x14.2.1), (.int .i64 x14.2.2.1), (.int .i64 x14.2.2.2.1), (.int .i64 x14.2.2.2.2.1), (.bool x14.2.2.2.2.2.1), (.bool x14.2.2.2.2.2.2.1)] 112) fun b15 =>
 keep (fun w => w.cell? v2 = some (Cell.val (.sl) x5)) <|
 rawT Tryz.prog (.one (.one .sl)) (Builtin.append_ #[108, 108] 108 #[(.slice x5.a x5.len x5.cap), (.slice (some (at0 b15)) 1 1)]) fun (x16 : Sl) =>
 stC v2 (.slice x16.a x16.len x16.cap) <|
 stC v1 (.int .i64 ((x3.len : Nat) : Int)) <|
 stC v3 (.int .i64 (0 : Int)) <|
 K ()) (
 K ())
noncomputable def h141 : Hint := (.seq none (.region [] (.ops 6 .done)) (.seq none (.region [] (.ops 3 .done)) (.cond none (.seq none (.region [0, 1, 2, 3, 4, 5, 6, 7, 8, 9, 10, 11, 12, 13, 14, 15, 16] (.ops 17 .done)) (.region [] (.ops 3 .done))) .leaf)))
theorem F141_tie (v0 : Addr) (v1 : Addr) (v2 : Addr) (v3 : Addr) (K : Unit → World → Prop) : vcgF tab Tryz.prog Tryz.f141 h141 [(.pointer (some v0)), (.pointer (some v1)), (.pointer (some v2)), (.pointer (some v3))] (.tup []) K = F141 v0 v1 v2 v3 K := by kernel_rfl
theorem F141_calls {v0 : Addr} {v1 : Addr} {v2 : Addr} {v3 : Addr} {K : Unit → World → Prop} {w : World} (h : F141 v0 v1 v2 v3 K w) : callT Tryz.prog 141 #[(.pointer (some v0)), (.pointer (some v1)), (.pointer (some v2)), (.pointer (some v3))] (.tup []) K w :=
  vcgF_sound tabOk Tryz.func141 h141 [(.pointer (some v0)), (.pointer (some v1)), (.pointer (some v2)), (.pointer (some v3))] (.tup []) K w (Eq.mpr (congrFun (F141_tie v0 v1 v2 v3 K) w) h)
noncomputable def F142 (a0 : Int) (a1 : Sl) (K : (Sl × Int × Int × Unit) → World → Prop) : World → Prop :=
 callT Tryz.prog 85 #[(.int .i64 a0)] (.one (.one .any)) fun (x1 : Value) =>
 rdB Tryz.prog (do eqGuard .eql 132 (Operand.tmp 13) (Operand.const Value.nilIface) x1 .nilIface; binOp .eql 132 x1 .nilIface : Sem Value) fun r2 =>
 sif r2 (
 K (⟨none, 0, 0⟩, (0 : Int), (10 : Int), ())) (
 join (S := Sl × Unit) (fun J3 =>
 sloop (S := Sl × Int × Unit) (fun (s5 : Sl × Int × Unit) again6 =>
 sif (decide (s5.2.1 < ((a1.len : Nat) : Int))) (
 ix a1.a a1.len s5.2.1 fun p7 =>
 ld (.int .i64) (p7.add (scaled (Int.toNat s5.2.1) 1)) fun (x8 : Int) =>
 callX Tryz.prog (invoke (.fn (.method "copyist/codec.size") #[]) (#[x1] ++ #[(.int .i64 x8)])) (.one (.one (.int .i64))) fun (x9 : Int) =>
 sif (x9 == (0 : Int)) (
 K (⟨none, 0, 0⟩, s5.2.1, (11 : Int), ())) (
 callX Tryz.prog (invoke (.fn (.method "copyist/codec.put") #[]) (#[x1] ++ #[(.slice s5.1.a s5.1.len s5.1.cap), (.int .i64 x8)])) (.one (.one .sl)) fun (x10 : Sl) =>
 again6 (x10, (IntKind.wrap .i64 (s5.2.1 + (1 : Int))), ()))) (
 J3 (s5.1, ()))) (⟨none, 0, 0⟩, (0 : Int), ())) fun (s4 : Sl × Unit) =>
 K (s4.1, (0 : Int), (0 : Int), ()))
noncomputable def h142 : Hint := (.seq none (.region [] (.ops 3 .done)) (.seq none (.region [] (.ops 3 .done)) (.seq none (.seq none (.region [] (.ops 2 .done)) (.cond none (.seq none (.region [] (.ops 3 .done)) .leaf) .leaf)) (.seq none (.region [] (.ops 1 .done)) (.seq (some (4294936432, [(8, (.one .sl))])) (.seq none (.region [] (.ops 3 .done)) (.block (.loop 4294838128 [(8, (.one .sl)), (17, (.one (.int .i64)))] (.seq none (.region [] (.ops 1 .done)) (.seq none (.cond none .leaf .leaf) (.seq none (.block (.seq none (.region [] (.ops 5 .done)) (.seq none (.seq none (.region [] (.ops 4 .done)) (.cond none (.seq none (.region [] (.ops 4 .done)) .leaf) .leaf)) (.region [] (.ops 5 .done))))) (.region [] (.ops 2 .done)))))))) (.seq none (.region [] (.ops 4 .done)) .leaf))))))
theorem F142_tie (a0 : Int) (a1 : Sl) (K : (Sl × Int × Int × Unit) → World → Prop) : vcgF tab Tryz.prog Tryz.f142 h142 [(.int .i64 a0), (.slice a1.a a1.len a1.cap)] (.tup [(.one .sl), (.one (.int .i64)), (.one (.int .i64))]) K = F142 a0 a1 K := by kernel_rfl
theorem F142_calls {a0 : Int} {a1 : Sl} {K : (Sl × Int × Int × Unit) → World → Prop} {w : World} (h : F142 a0 a1 K w) : callT Tryz.prog 142 #[(.int .i64 a0), (.slice a1.a a1.len a1.cap)] (.tup [(.one .sl), (.one (.int .i64)), (.one (.int .i64))]) K w :=
  vcgF_sound tabOk Tryz.func142 h142 [(.int .i64 a0), (.slice a1.a a1.len a1.cap)] (.tup [(.one .sl), (.one (.int .i64)), (.one (.int .i64))]) K w (Eq.mpr (congrFun (F142_tie a0 a1 K) w) h)
noncomputable def F143 (a0 : Option Addr) (a1 : Int) (K : (Option Addr × Option Addr × Unit) → World → Prop) : World → Prop :=
 sif (Option.isNone a0) (
 K (none, none, ())) (
 nn a0 fun p1 =>
 ld (.ptr) p1 fun (x2 : Option Addr) =>
 callT Tryz.prog 102 #[(.pointer x2)] (.one (.one (.int .i64))) fun (x3 : Int) =>
 sif (decide (a1 ≤ x3)) (
 nn a0 fun p4 =>
 ld (.ptr) p4 fun (x5 : Option Addr) =>
 callT Tryz.prog 143 #[(.pointer x5), (.int .i64 a1)] (.tup [(.one .ptr), (.one .ptr)]) fun (x6 : (Option Addr × Option Addr × Unit)) =>
 drew <|
 nn a0 fun p7 =>
 lds c112 (p7.add 2) fun (x8 : (Sl × Int × Int × Int × Int × Bool × Bool × Unit)) =>
 nn a0 fun p9 =>
 ld (.ptr) (p9.add 1) fun (x10 : Option Addr) =>
 callT Tryz.prog 156 #[(.pointer x6.2.1), (.agg (Cells.vals c112 x8).toArray), (.pointer x10)] (.one (.one .ptr)) fun (x11 : Option Addr) =>
 K (x6.1, x11, ())) (
 nn a0 fun p12 =>
 ld (.ptr) (p12.add 1) fun (x13 : Option Addr) =>
 callT Tryz.prog 143 #[(.pointer x13), (.int .i64 (IntKind.wrap .i64 ((IntKind.wrap .i64 (a1 - x3)) - (1 : Int))))] (.tup [(.one .ptr), (.one .ptr)]) fun (x14 : (Option Addr × Option Addr × Unit)) =>
 drew <|
 nn a0 fun p15 =>
 ld (.ptr) p15 fun (x16 : Option Addr) =>
 nn a0 fun p17 =>
 lds c112 (p17.add 2) fun (x18 : (Sl × Int × Int × Int × Int × Bool × Bool × Unit)) =>
 callT Tryz.prog 156 #[(.pointer x16), (.agg (Cells.vals c112 x18).toArray), (.pointer x14.1)] (.one (.one .ptr)) fun (x19 : Option Addr) =>
 K (x19, x14.2.1, ())))
noncomputable def h143 : Hint := (.seq none (.region [] (.ops 2 .done)) (.seq none (.seq none (.region [] (.ops 2 .done)) (.cond none (.seq none (.region [] (.ops 2 .done)) .leaf) .leaf)) (.seq none (.region [] (.ops 6 .done)) (.seq none (.region [] (.ops 3 .done)) (.cond none (.seq none (.region [] (.ops 11 .done)) (.seq none (.region [0, 1, 2, 3, 4, 5, 6, 7, 8, 9, 10, 11, 12] (.ops 13 .done)) .leaf)) (.seq none (.region [] (.ops 14 .done)) (.seq none (.region [0, 1, 2, 3, 4, 5, 6, 7, 8, 10, 9, 11, 12] (.ops 13 .done)) .leaf)))))))
theorem F143_tie (a0 : Option Addr) (a1 : Int) (K : (Option Addr × Option Addr × Unit) → World → Prop) : vcgF tab Tryz.prog Tryz.f143 h143 [(.pointer a0), (.int .i64 a1)] (.tup [(.one .ptr), (.one .ptr)]) K = F143 a0 a1 K := by kernel_rfl
theorem F143_calls {a0 : Option Addr} {a1 : Int} {K : (Option Addr × Option Addr × Unit) → World → Prop} {w : World} (h : F143 a0 a1 K w) : callT Tryz.prog 143 #[(.pointer a0), (.int .i64 a1)] (.tup [(.one .ptr), (.one .ptr)]) K w :=
  vcgF_sound tabOk Tryz.func143 h143 [(.pointer a0), (.int .i64 a1)] (.tup [(.one .ptr), (.one .ptr)]) K w (Eq.mpr (congrFun (F143_tie a0 a1 K) w) h)
noncomputable def F144 (a0 : Option Addr) (a1 : Option Addr) (K : Option Addr → World → Prop) : World → Prop :=
 sif (Option.isNone a1) (
 K a0) (
 callT Tryz.prog 157 #[(.pointer a1)] (.tup [(.agg c112), (.one .ptr)]) fun (x1 : ((Sl × Int × Int × Int × Int × Bool × Bool × Unit) × Option Addr × Unit)) =>
 newO (.cells #[(.slice none 0 0), (.int .i64 (0 : Int)), (.int .i64 (0 : Int)), (.int .i64 (0 : Int)), (.int .i64 (0 : Int)), (.bool false), (.bool false)] 112) fun b2 =>
 aggSt (at0 b2) (.agg (Cells.vals c112 x1.1).toArray) 7 <|
 lds c112 (at0 b2) fun (x3 : (Sl × Int × Int × Int × Int × Bool × Bool × Unit)) =>
 callT Tryz.prog 156 #[(.pointer a0), (.agg (Cells.vals c112 x3).toArray), (.pointer x1.2.1)] (.one (.one .ptr)) fun (x4 : Option Addr) =>
 K x4)
noncomputable def h144 : Hint := (.seq none (.region [] (.ops 1 .done)) (.seq none (.seq none (.region [] (.ops 2 .done)) (.cond none (.seq none (.region [] (.ops 2 .done)) .leaf) .leaf)) (.seq none (.region [] (.ops 8 .done)) (.seq none (.region [] (.ops 5 .done)) .leaf))))
theorem F144_tie (a0 : Option Addr) (a1 : Option Addr) (K : Option Addr → World → Prop) : vcgF tab Tryz.prog Tryz.f144 h144 [(.pointer a0), (.pointer a1)] (.one (.one .ptr)) K = F144 a0 a1 K := by kernel_rfl
theorem F144_calls {a0 : Option Addr} {a1 : Option Addr} {K : Option Addr → World → Prop} {w : World} (h : F144 a0 a1 K w) : callT Tryz.prog 144 #[(.pointer a0), (.pointer a1)] (.one (.one .ptr)) K w :=
  vcgF_sound tabOk Tryz.func144 h144 [(.pointer a0), (.pointer a1)] (.one (.one .ptr)) K w (Eq.mpr (congrFun (F144_tie a0 a1 K) w) h)
noncomputable def F145 (a0 : Option Addr) (K : Int → World → Prop) : World → Prop :=
 sif (Option.isNone a0) (
 K (0 : Int)) (
 nn a0 fun p1 =>
 ld (.int .i64) (p1.add 10) fun (x2 : Int) =>
 K x2)
noncomputable def h145 : Hint := (.seq none (.region [] (.ops 1 .done)) (.seq none (.seq none (.region [] (.ops 2 .done)) (.cond none (.seq none (.region [] (.ops 1 .done)) .leaf) .leaf)) (.seq none (.region [] (.ops 5 .done)) .leaf)))
theorem F145_tie (a0 : Option Addr) (K : Int → World → Prop) : vcgF tab Tryz.prog Tryz.f145 h145 [(.pointer a0)] (.one (.one (.int .i64))) K = F145 a0 K := by kernel_rfl
theorem F145_calls {a0 : Option Addr} {K : Int → World → Prop} {w : World} (h : F145 a0 K w) : callT Tryz.prog 145 #[(.pointer a0)] (.one (.one (.int .i64))) K w :=
  vcgF_sound tabOk Tryz.func145 h145 [(.pointer a0)] (.one (.one (.int .i64))) K w (Eq.mpr (congrFun (F145_tie a0 K) w) h)
noncomputable def F156 (a0 : Option Addr) (a1 : (Sl × Int × Int × Int × Int × Bool × Bool × Unit)) (a2 : Option Addr) (K : Option Addr → World → Prop) : World → Prop :=
 newO (.cells #[(.slice a1.1.a a1.1.len a1.1.cap), (.int .i64 a1.2.1), (.int .i64 a1.2.2.1), (.int .i64 a1.2.2.2.1), (.int .i64 a1.2.2.2.2.1), (.bool a1.2.2.2.2.2.1), (.bool a1.2.2.2.2.2.2.1)] 112) fun b1 =>
 callT Tryz.prog 145 #[(.pointer a0)] (.one (.one (.int .i64))) fun (x2 : Int) =>
 callT Tryz.prog 145 #[(.pointer a2)] (.one (.one (.int .i64))) fun (x3 : Int) =>
 sif (decide (x2 > (IntKind.wrap .i64 (x3 + (1 : Int))))) (
 drew <|
 nn a0 fun p4 =>
 ld (.ptr) p4 fun (x5 : Option Addr) =>
 nn a0 fun p6 =>
 lds c112 (p6.add 2) fun (x7 : (Sl × Int × Int × Int × Int × Bool × Bool × Unit)) =>
 nn a0 fun p8 =>
 ld (.ptr) (p8.add 1) fun (x9 : Option Addr) =>
 lds c112 (at0 b1) fun (x10 : (Sl × Int × Int × Int × Int × Bool × Bool × Unit)) =>
 callT Tryz.prog 156 #[(.pointer x9), (.agg (Cells.vals c112 x10).toArray), (.pointer a2)] (.one (.one .ptr)) fun (x11 : Option Addr) =>
 keep (fun w => cellsAt w (p6.add 2) 0 (Cells.vals c112 x7)) <|
 keep (fun w => w.cell? p4 = some (Cell.val (.ptr) x5)) <|
 callT Tryz.prog 164 #[(.pointer x5), (.agg (Cells.vals c112 x7).toArray), (.pointer x11)] (.one (.one .ptr)) fun (x12 : Option Addr) =>
 K x12) (
 callT Tryz.prog 145 #[(.pointer a2)] (.one (.one (.int .i64))) fun (x13 : Int) =>
 callT Tryz.prog 145 #[(.pointer a0)] (.one (.one (.int .i64))) fun (x14 : Int) =>
 sif (decide (x13 > (IntKind.wrap .i64 (x14 + (1 : Int))))) (
 drew <|
 lds c112 (at0 b1) fun (x15 : (Sl × Int × Int × Int × Int × Bool × Bool × Unit)) =>
 nn a2 fun p16 =>
 ld (.ptr) p16 fun (x17 : Option Addr) =>
 nn a2 fun p18 =>
 lds c112 (p18.add 2) fun (x19 : (Sl × Int × Int × Int × Int × Bool × Bool × Unit)) =>
 nn a2 fun p20 =>
 ld (.ptr) (p20.add 1) fun (x21 : Option Addr) =>
 callT Tryz.prog 156 #[(.pointer a0), (.agg (Cells.vals c112 x15).toArray), (.pointer x17)] (.one (.one .ptr)) fun (x22 : Option Addr) =>
 keep (fun w => w.cell? (p20.add 1) = some (Cell.val (.ptr) x21)) <|
 keep (fun w => cellsAt w (p18.add 2) 0 (Cells.vals c112 x19)) <|
 callT Tryz.prog 164 #[(.pointer x22), (.agg (Cells.vals c112 x19).toArray), (.pointer x21)] (.one (.one .ptr)) fun (x23 : Option Addr) =>
 K x23) (
 lds c112 (at0 b1) fun (x24 : (Sl × Int × Int × Int × Int × Bool × Bool × Unit)) =>
 callT Tryz.prog 120 #[(.pointer a0), (.agg (Cells.vals c112 x24).toArray), (.pointer a2)] (.one (.one .ptr)) fun (x25 : Option Addr) =>
 K x25))
noncomputable def h156 : Hint := (.seq none (.region [] (.ops 2 .done)) (.seq none (.block (.seq none (.region [] (.ops 7 .done)) (.cond none (.seq none (.region [0, 1, 2, 3, 4, 5, 6, 7, 8, 9, 10, 11, 12, 13, 14, 15, 16] (.ops 17 .done)) .leaf) (.seq none (.region [] (.ops 7 .done)) (.cond none (.seq none (.region [0, 1, 2, 3, 4, 5, 7, 8, 9, 10, 11, 12, 13, 14, 6, 15, 16] (.ops 17 .done)) .leaf) .leaf))))) (.seq none (.region [] (.ops 5 .done)) .leaf)))
theorem F156_tie (a0 : Option Addr) (a1 : (Sl × Int × Int × Int × Int × Bool × Bool × Unit)) (a2 : Option Addr) (K : Option Addr → World → Prop) : vcgF tab Tryz.prog Tryz.f156 h156 [(.pointer a0), (.agg (Cells.vals c112 a1).toArray), (.pointer a2)] (.one (.one .ptr)) K = F156 a0 a1 a2 K := by kernel_rfl
theorem F156_calls {a0 : Option Addr} {a1 : (Sl × Int × Int × Int × Int × Bool × Bool × Unit)} {a2 : Option Addr} {K : Option Addr → World → Prop} {w : World} (h : F156 a0 a1 a2 K w) : callT Tryz.prog 156 #[(.pointer a0), (.agg (Cells.vals c112 a1).toArray), (.pointer a2)] (.one (.one .ptr)) K w :=
  vcgF_sound tabOk Tryz.func156 h156 [(.pointer a0), (.agg (Cells.vals c112 a1).toArray), (.pointer a2)] (.one (.one .ptr)) K w (Eq.mpr (congrFun (F156_tie a0 a1 a2 K) w) h)
noncomputable def F157 (a0 : Option Addr) (K : ((Sl × Int × Int × Int × Int × Bool × Bool × Unit) × Option Addr × Unit) → World → Prop) : World → Prop :=
 newO (.cells #[(.slice none 0 0), (.int .i64 (0 : Int)), (.int .i64 (0 : Int)), (.int .i64 (0 : Int)), (.int .i64 (0 : Int)), (.bool false), (.bool false)] 112) fun b1 =>
 nn a0 fun p2 =>
 ld (.ptr) p2 fun (x3 : Option Addr) =>
 sif (Option.isNone x3) (
 drew <|
 nn a0 fun p4 =>
 lds c112 (p4.add 2) fun (x5 : (Sl × Int × Int × Int × Int × Bool × Bool × Unit)) =>
 nn a0 fun p6 =>
 ld (.ptr) (p6.add 1) fun (x7 : Option Addr) =>
 aggSt (at0 b1) (.agg (Cells.vals c112 x5).toArray) 7 <|
 keep (fun w => w.cell? (p6.add 1) = some (Cell.val (.ptr) x7)) <|
 lds c112 (at0 b1) fun (x8 : (Sl × Int × Int × Int × Int × Bool × Bool × Unit)) =>
 K (x8, x7, ())) (
 nn a0 fun p9 =>
 ld (.ptr) p9 fun (x10 : Option Addr) =>
 callT Tryz.prog 157 #[(.pointer x10)] (.tup [(.agg c112), (.one .ptr)]) fun (x11 : ((Sl × Int × Int × Int × Int × Bool × Bool × Unit) × Option Addr × Unit)) =>
 newO (.cells #[(.slice none 0 0), (.int .i64 (0 : Int)), (.int .i64 (0 : Int)), (.int .i64 (0 : Int)), (.int .i64 (0 : Int)), (.bool false), (.bool false)] 112) fun b12 =>
 aggSt (at0 b12) (.agg (Cells.vals c112 x11.1).toArray) 7 <|
 drew <|
 lds c112 (at0 b12) fun (x13 : (Sl × Int × Int × Int × Int × Bool × Bool × Unit)) =>
 nn a0 fun p14 =>
 lds c112 (p14.add 2) fun (x15 : (Sl × Int × Int × Int × Int × Bool × Bool × Unit)) =>
 nn a0 fun p16 =>
 ld (.ptr) (p16.add 1) fun (x17 : Option Addr) =>
 callT Tryz.prog 164 #[(.pointer x11.2.1), (.agg (Cells.vals c112 x15).toArray), (.pointer x17)] (.one (.one .ptr)) fun (x18 : Option Addr) =>
 keep (fun w => cellsAt w (at0 b12) 0 (Cells.vals c112 x13)) <|
 aggSt (at0 b1) (.agg (Cells.vals c112 x13).toArray) 7 <|
 lds c112 (at0 b1) fun (x19 : (Sl × Int × Int × Int × Int × Bool × Bool × Unit)) =>
 K (x19, x18, ()))
noncomputable def h157 : Hint := (.seq none (.region [] (.ops 2 .done)) (.seq none (.seq none (.region [] (.ops 5 .done)) (.cond none (.seq none (.region [0, 1, 2, 3, 4, 5, 6, 7, 8, 9] (.ops 10 .done)) .leaf) .leaf)) (.seq none (.region [] (.ops 11 .done)) (.seq none (.region [0, 1, 2, 3, 4, 5, 6, 7, 8, 9, 10, 11, 12] (.ops 13 .done)) .leaf))))
theorem F157_tie (a0 : Option Addr) (K : ((Sl × Int × Int × Int × Int × Bool × Bool × Unit) × Option Addr × Unit) → World → Prop) : vcgF tab Tryz.prog Tryz.f157 h157 [(.pointer a0)] (.tup [(.agg c112), (.one .ptr)]) K = F157 a0 K := by kernel_rfl
theorem F157_calls {a0 : Option Addr} {K : ((Sl × Int × Int × Int × Int × Bool × Bool × Unit) × Option Addr × Unit) → World → Prop} {w : World} (h : F157 a0 K w) : callT Tryz.prog 157 #[(.pointer a0)] (.tup [(.agg c112), (.one .ptr)]) K w :=
  vcgF_sound tabOk Tryz.func157 h157 [(.pointer a0)] (.tup [(.agg c112), (.one .ptr)]) K w (Eq.mpr (congrFun (F157_tie a0 K) w) h)
noncomputable def F164 (a0 : Option Addr) (a1 : (Sl × Int × Int × Int × Int × Bool × Bool × Unit)) (a2 : Option Addr) (K : Option Addr → World → Prop) : World → Prop :=
 newO (.cells #[(.slice a1.1.a a1.1.len a1.1.cap), (.int .i64 a1.2.1), (.int .i64 a1.2.2.1), (.int .i64 a1.2.2.2.1), (.int .i64 a1.2.2.2.2.1), (.bool a1.2.2.2.2.2.1), (.bool a1.2.2.2.2.2.2.1)] 112) fun b1 =>
 callT Tryz.prog 145 #[(.pointer a0)] (.one (.one (.int .i64))) fun (x2 : Int) =>
 callT Tryz.prog 145 #[(.pointer a2)] (.one (.one (.int .i64))) fun (x3 : Int) =>
 sif (decide (x2 > (IntKind.wrap .i64 (x3 + (1 : Int))))) (
 drew <|
 nn a0 fun p4 =>
 ld (.ptr) p4 fun (x5 : Option Addr) =>
 nn a0 fun p6 =>
 ld (.ptr) (p6.add 1) fun (x7 : Option Addr) =>
 callT Tryz.prog 145 #[(.pointer x5)] (.one (.one (.int .i64))) fun (x8 : Int) =>
 keep (fun w => w.cell? (p6.add 1) = some (Cell.val (.ptr) x7)) <|
 callT Tryz.prog 145 #[(.pointer x7)] (.one (.one (.int .i64))) fun (x9 : Int) =>
 sif (decide (x8 ≥ x9)) (
 drew <|
 nn a0 fun p10 =>
 ld (.ptr) p10 fun (x11 : Option Addr) =>
 nn a0 fun p12 =>
 lds c112 (p12.add 2) fun (x13 : (Sl × Int × Int × Int × Int × Bool × Bool × Unit)) =>
 nn a0 fun p14 =>
 ld (.ptr) (p14.add 1) fun (x15 : Option Addr) =>
 lds c112 (at0 b1) fun (x16 : (Sl × Int × Int × Int × Int × Bool × Bool × Unit)) =>
 callT Tryz.prog 120 #[(.pointer x15), (.agg (Cells.vals c112 x16).toArray), (.pointer a2)] (.one (.one .ptr)) fun (x17 : Option Addr) =>
 keep (fun w => cellsAt w (p12.add 2) 0 (Cells.vals c112 x13)) <|
 keep (fun w => w.cell? p10 = some (Cell.val (.ptr) x11)) <|
 callT Tryz.prog 120 #[(.pointer x11), (.agg (Cells.vals c112 x13).toArray), (.pointer x17)] (.one (.one .ptr)) fun (x18 : Option Addr) =>
 K x18) (
 nn a0 fun p19 =>
 ld (.ptr) (p19.add 1) fun (x20 : Option Addr) =>
 drew <|
 nn a0 fun p21 =>
 ld (.ptr) p21 fun (x22 : Option Addr) =>
 nn a0 fun p23 =>
 lds c112 (p23.add 2) fun (x24 : (Sl × Int × Int × Int × Int × Bool × Bool × Unit)) =>
 nn x20 fun p25 =>
 ld (.ptr) p25 fun (x26 : Option Addr) =>
 nn x20 fun p27 =>
 lds c112 (p27.add 2) fun (x28 : (Sl × Int × Int × Int × Int × Bool × Bool × Unit)) =>
 nn x20 fun p29 =>
 ld (.ptr) (p29.add 1) fun (x30 : Option Addr) =>
 lds c112 (at0 b1) fun (x31 : (Sl × Int × Int × Int × Int × Bool × Bool × Unit)) =>
 callT Tryz.prog 120 #[(.pointer x22), (.agg (Cells.vals c112 x24).toArray), (.pointer x26)] (.one (.one .ptr)) fun (x32 : Option Addr) =>
 keep (fun w => cellsAt w (at0 b1) 0 (Cells.vals c112 x31)) <|
 keep (fun w => w.cell? (p29.add 1) = some (Cell.val (.ptr) x30)) <|
 keep (fun w => cellsAt w (p27.add 2) 0 (Cells.vals c112 x28)) <|
 callT Tryz.prog 120 #[(.pointer x30), (.agg (Cells.vals c112 x31).toArray), (.pointer a2)] (.one (.one .ptr)) fun (x33 : Option Addr) =>
 keep (fun w => cellsAt w (p27.add 2) 0 (Cells.vals c112 x28)) <|
 callT Tryz.prog 120 #[(.pointer x32), (.agg (Cells.vals c112 x28).toArray), (.pointer x33)] (.one (.one .ptr)) fun (x34 : Option Addr) =>
 K x34)) (
 callT Tryz.prog 145 #[(.pointer a2)] (.one (.one (.int .i64))) fun (x35 : Int) =>
 callT Tryz.prog 145 #[(.pointer a0)] (.one (.one (.int .i64))) fun (x36 : Int) =>
 sif (decide (x35 > (IntKind.wrap .i64 (x36 + (1 : Int))))) (
 drew <|
 nn a2 fun p37 =>
 ld (.ptr) (p37.add 1) fun (x38 : Option Addr) =>
 nn a2 fun p39 =>
 ld (.ptr) p39 fun (x40 : Option Addr) =>
 callT Tryz.prog 145 #[(.pointer x38)] (.one (.one (.int .i64))) fun (x41 : Int) =>
 keep (fun w => w.cell? p39 = some (Cell.val (.ptr) x40)) <|
 callT Tryz.prog 145 #[(.pointer x40)] (.one (.one (.int .i64))) fun (x42 : Int) =>
 sif (decide (x41 ≥ x42)) (
 drew <|
 lds c112 (at0 b1) fun (x43 : (Sl × Int × Int × Int × Int × Bool × Bool × Unit)) =>
 nn a2 fun p44 =>
 ld (.ptr) p44 fun (x45 : Option Addr) =>
 nn a2 fun p46 =>
 lds c112 (p46.add 2) fun (x47 : (Sl × Int × Int × Int × Int × Bool × Bool × Unit)) =>
 nn a2 fun p48 =>
 ld (.ptr) (p48.add 1) fun (x49 : Option Addr) =>
 callT Tryz.prog 120 #[(.pointer a0), (.agg (Cells.vals c112 x43).toArray), (.pointer x45)] (.one (.one .ptr)) fun (x50 : Option Addr) =>
 keep (fun w => w.cell? (p48.add 1) = some (Cell.val (.ptr) x49)) <|
 keep (fun w => cellsAt w (p46.add 2) 0 (Cells.vals c112 x47)) <|
 callT Tryz.prog 120 #[(.pointer x50), (.agg (Cells.vals c112 x47).toArray), (.pointer x49)] (.one (.one .ptr)) fun (x51 : Option Addr) =>
 K x51) (
 nn a2 fun p52 =>
 ld (.ptr) p52 fun (x53 : Option Addr) =>
 drew <|
 lds c112 (at0 b1) fun (x54 : (Sl × Int × Int × Int × Int × Bool × Bool × Unit)) =>
 nn x53 fun p55 =>
 ld (.ptr) p55 fun (x56 : Option Addr) =>
 nn x53 fun p57 =>
 lds c112 (p57.add 2) fun (x58 : (Sl × Int × Int × Int × Int × Bool × Bool × Unit)) =>
 nn x53 fun p59 =>
 ld (.ptr) (p59.add 1) fun (x60 : Option Addr) =>
 nn a2 fun p61 =>
 lds c112 (p61.add 2) fun (x62 : (Sl × Int × Int × Int × Int × Bool × Bool × Unit)) =>
 nn a2 fun p63 =>
 ld (.ptr) (p63.add 1) fun (x64 : Option Addr) =>
 callT Tryz.prog 120 #[(.pointer a0), (.agg (Cells.vals c112 x54).toArray), (.pointer x56)] (.one (.one .ptr)) fun (x65 : Option Addr) =>
 keep (fun w => w.cell? (p63.add 1) = some (Cell.val (.ptr) x64)) <|
 keep (fun w => cellsAt w (p61.add 2) 0 (Cells.vals c112 x62)) <|
 keep (fun w => w.cell? (p59.add 1) = some (Cell.val (.ptr) x60)) <|
 keep (fun w => cellsAt w (p57.add 2) 0 (Cells.vals c112 x58)) <|
 callT Tryz.prog 120 #[(.pointer x60), (.agg (Cells.vals c112 x62).toArray), (.pointer x64)] (.one (.one .ptr)) fun (x66 : Option Addr) =>
 keep (fun w => cellsAt w (p57.add 2) 0 (Cells.vals c112 x58)) <|
 callT Tryz.prog 120 #[(.pointer x65), (.agg (Cells.vals c112 x58).toArray), (.pointer x66)] (.one (.one .ptr)) fun (x67 : Option Addr) =>
 K x67)) (
 lds c112 (at0 b1) fun (x68 : (Sl × Int × Int × Int × Int × Bool × Bool × Unit)) =>
 callT Tryz.prog 120 #[(.pointer a0), (.agg (Cells.vals c112 x68).toArray), (.pointer a2)] (.one (.one .ptr)) fun (x69 : Option Addr) =>
 K x69))
noncomputable def h164 : Hint := (.seq none (.region [] (.ops 2 .done)) (.seq none (.block (.seq none (.region [] (.ops 7 .done)) (.cond none (.seq none (.seq none (.region [0, 1, 2, 3, 5, 6, 7, 8, 4, 9, 10] (.ops 11 .done)) (.cond none (.seq none (.region [0, 1, 2, 3, 4, 5, 6, 7, 8, 9, 10, 11, 12, 13, 14, 15, 16] (.ops 17 .done)) .leaf) .leaf)) (.seq none (.region [] (.ops 5 .done)) (.seq none (.region [0, 1, 2, 3, 4, 5, 6, 7, 8, 9, 10, 11, 13, 14, 15, 16, 17, 18, 19, 20, 21, 22, 12, 23, 24, 25] (.ops 26 .done)) .leaf))) (.seq none (.region [] (.ops 7 .done)) (.cond none (.seq none (.seq none (.region [0, 1, 2, 3, 5, 6, 7, 8, 4, 9, 10] (.ops 11 .done)) (.cond none (.seq none (.region [0, 1, 2, 3, 4, 5, 7, 8, 9, 10, 11, 12, 13, 14, 6, 15, 16] (.ops 17 .done)) .leaf) .leaf)) (.seq none (.region [] (.ops 5 .done)) (.seq none (.region [0, 1, 2, 3, 4, 5, 7, 8, 9, 10, 11, 12, 13, 14, 15, 16, 17, 18, 19, 20, 21, 22, 6, 23, 24, 25] (.ops 26 .done)) .leaf))) .leaf))))) (.seq none (.region [] (.ops 5 .done)) .leaf)))
theorem F164_tie (a0 : Option Addr) (a1 : (Sl × Int × Int × Int × Int × Bool × Bool × Unit)) (a2 : Option Addr) (K : Option Addr → World → Prop) : vcgF tab Tryz.prog Tryz.f164 h164 [(.pointer a0), (.agg (Cells.vals c112 a1).toArray), (.pointer a2)] (.one (.one .ptr)) K = F164 a0 a1 a2 K := by kernel_rfl
theorem F164_calls {a0 : Option Addr} {a1 : (Sl × Int × Int × Int × Int × Bool × Bool × Unit)} {a2 : Option Addr} {K : Option Addr → World → Prop} {w : World} (h : F164 a0 a1 a2 K w) : callT Tryz.prog 164 #[(.pointer a0), (.agg (Cells.vals c112 a1).toArray), (.pointer a2)] (.one (.one .ptr)) K w :=
  vcgF_sound tabOk Tryz.func164 h164 [(.pointer a0), (.agg (Cells.vals c112 a1).toArray), (.pointer a2)] (.one (.one .ptr)) K w (Eq.mpr (congrFun (F164_tie a0 a1 a2 K) w) h)
noncomputable def F192 (a0 : (Int × Int × Int × Bool × Bool × Unit)) (a1 : Int) (K : Int → World → Prop) : World → Prop :=
 newO (.cells #[(.int .i64 a0.1), (.int .i64 a0.2.1), (.int .i64 a0.2.2.1), (.bool a0.2.2.2.1), (.bool a0.2.2.2.2.1)] 110) fun b1 =>
 sif (a1 == (0 : Int)) (
 ld (.int .i64) (at0 b1) fun (x2 : Int) =>
 K x2) (
 sif (a1 == (1 : Int)) (
 ld (.int .i64) (⟨b1, 2, none⟩ : Addr) fun (x3 : Int) =>
 K x3) (
 K (0 : Int)))
noncomputable def h192 : Hint := (.seq none (.region [] (.ops 2 .done)) (.seq none (.seq none (.region [] (.ops 1 .done)) (.block (.seq none (.region [] (.ops 2 .done)) (.cond none (.seq none (.region [] (.ops 3 .done)) .leaf) (.seq none (.region [] (.ops 2 .done)) (.cond none (.seq none (.region [] (.ops 3 .done)) .leaf) .leaf)))))) (.seq none (.region [] (.ops 1 .done)) .leaf)))
theorem F192_tie (a0 : (Int × Int × Int × Bool × Bool × Unit)) (a1 : Int) (K : Int → World → Prop) : vcgF tab Tryz.prog Tryz.f192 h192 [(.agg (Cells.vals c110 a0).toArray), (.int .i64 a1)] (.one (.one (.int .i64))) K = F192 a0 a1 K := by kernel_rfl
theorem F192_calls {a0 : (Int × Int × Int × Bool × Bool × Unit)} {a1 : Int} {K : Int → World → Prop} {w : World} (h : F192 a0 a1 K w) : callT Tryz.prog 192 #[(.agg (Cells.vals c110 a0).toArray), (.int .i64 a1)] (.one (.one (.int .i64))) K w :=
  vcgF_sound tabOk Tryz.func192 h192 [(.agg (Cells.vals c110 a0).toArray), (.int .i64 a1)] (.one (.one (.int .i64))) K w (Eq.mpr (congrFun (F192_tie a0 a1 K) w) h)
noncomputable def F193 (a0 : (Sl × Int × Int × Int × Int × Bool × Bool × Unit)) (K : (Int × Int × Int × Bool × Bool × Unit) → World → Prop) : World → Prop :=
 newO (.cells #[(.slice a0.1.a a0.1.len a0.1.cap), (.int .i64 a0.2.1), (.int .i64 a0.2.2.1), (.int .i64 a0.2.2.2.1), (.int .i64 a0.2.2.2.2.1), (.bool a0.2.2.2.2.2.1), (.bool a0.2.2.2.2.2.2.1)] 112) fun b1 =>
 newO (.cells #[(.int .i64 (0 : Int)), (.int .i64 (0 : Int)), (.int .i64 (0 : Int)), (.bool false), (.bool false)] 110) fun b2 =>
 lds c110 (⟨b1, 2, none⟩ : Addr) fun (x3 : (Int × Int × Int × Bool × Bool × Unit)) =>
 aggSt (at0 b2) (.agg (Cells.vals c110 x3).toArray) 5 <|
 lds c110 (at0 b2) fun (x4 : (Int × Int × Int × Bool × Bool × Unit)) =>
 K x4
noncomputable def h193 : Hint := (.seq none (.region [] (.ops 2 .done)) (.seq none (.region [] (.ops 3 .done)) .leaf))
theorem F193_tie (a0 : (Sl × Int × Int × Int × Int × Bool × Bool × Unit)) (K : (Int × Int × Int × Bool × Bool × Unit) → World → Prop) : vcgF tab Tryz.prog Tryz.f193 h193 [(.agg (Cells.vals c112 a0).toArray)] (.one (.agg c110)) K = F193 a0 K := by kernel_rfl
theorem F193_calls {a0 : (Sl × Int × Int × Int × Int × Bool × Bool × Unit)} {K : (Int × Int × Int × Bool × Bool × Unit) → World → Prop} {w : World} (h : F193 a0 K w) : callT Tryz.prog 193 #[(.agg (Cells.vals c112 a0).toArray)] (.one (.agg c110)) K w :=
  vcgF_sound tabOk Tryz.func193 h193 [(.agg (Cells.vals c112 a0).toArray)] (.one (.agg c110)) K w (Eq.mpr (congrFun (F193_tie a0 K) w) h)
noncomputable def F194 (a0 : (Unit)) (a1 : Sl) (K : (Int × Int × Unit) → World → Prop) : World → Prop :=
 newO (.cells #[] 163) fun b1 =>
 callT Tryz.prog 199 #[(.slice a1.a a1.len a1.cap)] (.tup [(.one (.int .i64)), (.one (.int .i64))]) fun (x2 : (Int × Int × Unit)) =>
 join (S := Bool × Unit) (fun J3 =>
 sif (x2.2.1 == (0 : Int)) (
 J3 (true, ())) (
 J3 ((decide (x2.1 < x2.2.1)), ()))) fun (s4 : Bool × Unit) =>
 sif s4.1 (
 ix a1.a a1.len (0 : Int) fun p5 =>
 ld (.int .u8) (p5.add (scaled (Int.toNat (0 : Int)) 1)) fun (x6 : Int) =>
 K ((IntKind.wrap .i64 ((-1 : Int) - (IntKind.wrap .i64 x6))), (1 : Int), ())) (
 ix a1.a a1.len (0 : Int) fun p7 =>
 ld (.int .u8) (p7.add (scaled (Int.toNat (0 : Int)) 1)) fun (x8 : Int) =>
 join (S := Int × Unit) (fun J9 =>
 sif (x2.2.1 == (2 : Int)) (
 J9 ((IntKind.wrap .i64 ((BitVec.toNat (BitVec.ofInt (IntKind.bits .i64) (IntKind.wrap .i64 x8) &&& BitVec.ofInt (IntKind.bits .i64) (31 : Int)) : Nat) : Int)), ())) (
 sif (x2.2.1 == (3 : Int)) (
 J9 ((IntKind.wrap .i64 ((BitVec.toNat (BitVec.ofInt (IntKind.bits .i64) (IntKind.wrap .i64 x8) &&& BitVec.ofInt (IntKind.bits .i64) (15 : Int)) : Nat) : Int)), ())) (
 sif (x2.2.1 == (4 : Int)) (
 J9 ((IntKind.wrap .i64 ((BitVec.toNat (BitVec.ofInt (IntKind.bits .i64) (IntKind.wrap .i64 x8) &&& BitVec.ofInt (IntKind.bits .i64) (7 : Int)) : Nat) : Int)), ())) (
 J9 ((IntKind.wrap .i64 x8), ()))))) fun (s10 : Int × Unit) =>
 join (S := Int × Unit) (fun J11 =>
 slc a1.a (1 : Int) x2.2.1 ((a1.cap : Nat) : Int) a1.cap 1 fun x13 =>
 sloop (S := Int × Int × Unit) (fun (s14 : Int × Int × Unit) again15 =>
 sif (decide (s14.2.1 < ((x13.len : Nat) : Int))) (
 ix x13.a x13.len s14.2.1 fun p16 =>
 ld (.int .u8) (p16.add (scaled (Int.toNat s14.2.1) 1)) fun (x17 : Int) =>
 chk (0 ≤ (6 : Int)) <|
 again15 ((IntKind.wrap .i64 ((BitVec.toNat (BitVec.ofInt (IntKind.bits .i64) (IntKind.wrap .i64 (s14.1 * 2 ^ (min (Int.toNat (6 : Int)) (IntKind.bits .i64)))) ||| BitVec.ofInt (IntKind.bits .i64) (IntKind.wrap .i64 (IntKind.wrap .u8 ((BitVec.toNat (BitVec.ofInt (IntKind.bits .u8) x17 &&& BitVec.ofInt (IntKind.bits .u8) (63 : Int)) : Nat) : Int)))) : Nat) : Int)), (IntKind.wrap .i64 (s14.2.1 + (1 : Int))), ())) (
 J11 (s14.1, ()))) (s10.1, (0 : Int), ())) fun (s12 : Int × Unit) =>
 K (s12.1, x2.2.1, ()))
noncomputable def h194 : Hint := (.seq none (.region [] (.ops 3 .done)) (.seq none (.region [] (.ops 7 .done)) (.seq none (.seq (some (8323072, [(22, (.one .bool))])) (.region [] (.ops 3 (.split 18 (.skips 3 (.ops 1 .done)) (.ops 4 .done)))) (.cond none (.seq none (.region [] (.ops 7 .done)) .leaf) .leaf)) (.seq none (.region [] (.ops 5 .done)) (.seq (some (35180077121792, [(8, (.one (.int .i64)))])) (.seq none (.region [] (.ops 1 .done)) (.block (.seq none (.region [] (.ops 2 .done)) (.cond none (.region [] (.ops 3 .done)) (.seq none (.region [] (.ops 2 .done)) (.cond none (.region [] (.ops 3 .done)) (.seq none (.region [] (.ops 2 .done)) (.cond none (.region [] (.ops 3 .done)) .leaf)))))))) (.seq (some (1152886320234759424, [(8, (.one (.int .i64)))])) (.seq none (.region [] (.ops 5 .done)) (.block (.loop 1152358554653426944 [(8, (.one (.int .i64))), (49, (.one (.int .i64)))] (.seq none (.region [] (.ops 1 .done)) (.seq none (.cond none .leaf .leaf) (.seq none (.block (.seq none (.region [] (.ops 3 .done)) (.region [] (.ops 7 .done)))) (.region [] (.ops 2 .done)))))))) (.seq none (.region [] (.ops 4 .done)) .leaf)))))))
theorem F194_tie (a0 : (Unit)) (a1 : Sl) (K : (Int × Int × Unit) → World → Prop) : vcgF tab Tryz.prog Tryz.f194 h194 [(.agg (Cells.vals c163 a0).toArray), (.slice a1.a a1.len a1.cap)] (.tup [(.one (.int .i64)), (.one (.int .i64))]) K = F194 a0 a1 K := by kernel_rfl
theorem F194_calls {a0 : (Unit)} {a1 : Sl} {K : (Int × Int × Unit) → World → Prop} {w : World} (h : F194 a0 a1 K w) : callT Tryz.prog 194 #[(.agg (Cells.vals c163 a0).toArray), (.slice a1.a a1.len a1.cap)] (.tup [(.one (.int .i64)), (.one (.int .i64))]) K w :=
  vcgF_sound tabOk Tryz.func194 h194 [(.agg (Cells.vals c163 a0).toArray), (.slice a1.a a1.len a1.cap)] (.tup [(.one (.int .i64)), (.one (.int .i64))]) K w (Eq.mpr (congrFun (F194_tie a0 a1 K) w) h)
noncomputable def F197 (a0 : (Unit)) (a1 : Sl) (a2 : Int) (K : Sl → World → Prop) : World → Prop :=
 newO (.cells #[] 163) fun b1 =>
 lds c163 (at0 b1) fun (x2 : (Unit)) =>
 callT Tryz.prog 198 #[(.agg (Cells.vals c163 x2).toArray), (.int .i64 a2)] (.one (.one (.int .i64))) fun (x3 : Int) =>
 sif (decide (a2 < (0 : Int))) (
 newO (.cells #[(.int .u8 (IntKind.wrap .u8 (IntKind.wrap .i64 ((-1 : Int) - a2))))] 5) fun b4 =>
 rawT Tryz.prog (.one (.one .sl)) (Builtin.append_ #[22, 22] 22 #[(.slice a1.a a1.len a1.cap), (.slice (some (at0 b4)) 1 1)]) fun (x5 : Sl) =>
 K x5) (
 sif (x3 == (1 : Int)) (
 newO (.cells #[(.int .u8 (IntKind.wrap .u8 a2))] 5) fun b6 =>
 rawT Tryz.prog (.one (.one .sl)) (Builtin.append_ #[22, 22] 22 #[(.slice a1.a a1.len a1.cap), (.slice (some (at0 b6)) 1 1)]) fun (x7 : Sl) =>
 K x7) (
 newO (.cells #[(.int .u8 (0 : Int)), (.int .u8 (0 : Int)), (.int .u8 (0 : Int)), (.int .u8 (0 : Int)), (.int .u8 (0 : Int))] 224) fun b8 =>
 aggSt (at0 b8) (.agg #[(.int .u8 (0 : Int)), (.int .u8 (0 : Int)), (.int .u8 (192 : Int)), (.int .u8 (224 : Int)), (.int .u8 (240 : Int))]) 5 <|
 drew <|
 chk (0 ≤ x3 ∧ x3 < ((5 : Nat) : Int)) <|
 ld (.int .u8) ((at0 b8).add (scaled (Int.toNat x3) 1)) fun (x9 : Int) =>
 chk (0 ≤ (IntKind.wrap .i64 ((6 : Int) * (IntKind.wrap .i64 (x3 - (1 : Int)))))) <|
 newO (.cells #[(.int .u8 (IntKind.wrap .u8 ((BitVec.toNat (BitVec.ofInt (IntKind.bits .u8) x9 ||| BitVec.ofInt (IntKind.bits .u8) (IntKind.wrap .u8 (Int.fdiv a2 (2 ^ (min (Int.toNat (IntKind.wrap .i64 ((6 : Int) * (IntKind.wrap .i64 (x3 - (1 : Int)))))) (IntKind.bits .i64)))))) : Nat) : Int)))] 5) fun b10 =>
 rawT Tryz.prog (.one (.one .sl)) (Builtin.append_ #[22, 22] 22 #[(.slice a1.a a1.len a1.cap), (.slice (some (at0 b10)) 1 1)]) fun (x11 : Sl) =>
 join (S := Sl × Unit) (fun J12 =>
 sloop (S := Sl × Int × Unit) (fun (s14 : Sl × Int × Unit) again15 =>
 sif (decide (s14.2.1 ≥ (0 : Int))) (
 chk (0 ≤ (IntKind.wrap .i64 ((6 : Int) * s14.2.1))) <|
 newO (.cells #[(.int .u8 (IntKind.wrap .u8 ((BitVec.toNat (BitVec.ofInt (IntKind.bits .u8) (128 : Int) ||| BitVec.ofInt (IntKind.bits .u8) (IntKind.wrap .u8 ((BitVec.toNat (BitVec.ofInt (IntKind.bits .u8) (IntKind.wrap .u8 (Int.fdiv a2 (2 ^ (min (Int.toNat (IntKind.wrap .i64 ((6 : Int) * s14.2.1))) (IntKind.bits .i64))))) &&& BitVec.ofInt (IntKind.bits .u8) (63 : Int)) : Nat) : Int))) : Nat) : Int)))] 5) fun b16 =>
 rawT Tryz.prog (.one (.one .sl)) (Builtin.append_ #[22, 22] 22 #[(.slice s14.1.a s14.1.len s14.1.cap), (.slice (some (at0 b16)) 1 1)]) fun (x17 : Sl) =>
 again15 (x17, (IntKind.wrap .i64 (s14.2.1 - (1 : Int))), ())) (
 J12 (s14.1, ()))) (x11, (IntKind.wrap .i64 (x3 - (2 : Int))), ())) fun (s13 : Sl × Unit) =>
 K s13.1))
noncomputable def h197 : Hint := (.seq none (.region [] (.ops 2 .done)) (.seq none (.region [] (.ops 4 .done)) (.seq none (.seq none (.region [] (.ops 2 .done)) (.cond none (.seq none (.region [] (.ops 7 .done)) .leaf) .leaf)) (.seq none (.seq none (.region [] (.ops 2 .done)) (.cond none (.seq none (.region [] (.ops 6 .done)) .leaf) .leaf)) (.seq none (.region [] (.ops 3 .done)) (.seq none (.region [0, 1, 2, 3, 4, 5, 6, 7, 8, 9, 10, 11, 12, 13] (.ops 14 .done)) (.seq (some (288225978105201154, [(1, (.one .sl))])) (.seq none (.region [] (.ops 3 .done)) (.block (.loop 288212783965667842 [(1, (.one .sl)), (9, (.one (.int .i64)))] (.seq none (.seq none (.region [] (.ops 2 .done)) (.cond none .leaf .leaf)) (.seq none (.block (.region [] (.ops 11 .done))) (.region [] (.ops 3 .done))))))) (.seq none (.region [] (.ops 2 .done)) .leaf))))))))
theorem F197_tie (a0 : (Unit)) (a1 : Sl) (a2 : Int) (K : Sl → World → Prop) : vcgF tab Tryz.prog Tryz.f197 h197 [(.agg (Cells.vals c163 a0).toArray), (.slice a1.a a1.len a1.cap), (.int .i64 a2)] (.one (.one .sl)) K = F197 a0 a1 a2 K := by kernel_rfl
theorem F197_calls {a0 : (Unit)} {a1 : Sl} {a2 : Int} {K : Sl → World → Prop} {w : World} (h : F197 a0 a1 a2 K w) : callT Tryz.prog 197 #[(.agg (Cells.vals c163 a0).toArray), (.slice a1.a a1.len a1.cap), (.int .i64 a2)] (.one (.one .sl)) K w :=
  vcgF_sound tabOk Tryz.func197 h197 [(.agg (Cells.vals c163 a0).toArray), (.slice a1.a a1.len a1.cap), (.int .i64 a2)] (.one (.one .sl)) K w (Eq.mpr (congrFun (F197_tie a0 a1 a2 K) w) h)
noncomputable def F198 (a0 : (Unit)) (a1 : Int) (K : Int → World → Prop) : World → Prop :=
 newO (.cells #[] 163) fun b1 =>
 join (S := Bool × Unit) (fun J2 =>
 sif (decide (a1 < (-256 : Int))) (
 J2 (true, ())) (
 sif (decide (a1 > (-129 : Int))) (
 sif (decide (a1 < (0 : Int))) (
 J2 (true, ())) (
 sif (decide (a1 > (1114111 : Int))) (
 J2 (true, ())) (
 sif (decide (a1 ≥ (55296 : Int))) (
 J2 ((decide (a1 ≤ (57343 : Int))), ())) (
 J2 (false, ()))))) (
 sif (decide (a1 > (1114111 : Int))) (
 J2 (true, ())) (
 sif (decide (a1 ≥ (55296 : Int))) (
 J2 ((decide (a1 ≤ (57343 : Int))), ())) (
 J2 (false, ())))))) fun (s3 : Bool × Unit) =>
 sif s3.1 (
 K (0 : Int)) (
 sif (decide (a1 < (128 : Int))) (
 K (1 : Int)) (
 sif (decide (a1 < (2048 : Int))) (
 K (2 : Int)) (
 sif (decide (a1 < (65536 : Int))) (
 K (3 : Int)) (
 K (4 : Int)))))
noncomputable def h198 : Hint := (.seq none (.region [] (.ops 2 .done)) (.seq none (.block (.seq (some (268435424, [(5, (.one .bool))])) (.region [] (.ops 3 (.split 8 (.skips 6 (.ops 2 (.skips 2 (.ops 2 (.skips 6 (.ops 2 .done)))))) (.ops 3 (.split 11 (.ops 5 (.split 16 (.skips 2 (.ops 2 (.skips 6 (.ops 2 .done)))) (.ops 4 (.split 20 (.skips 6 (.ops 2 .done)) (.ops 3 (.split 23 (.ops 5 .done) (.skips 2 (.ops 3 .done)))))))) (.skips 2 (.ops 7 (.split 20 (.skips 6 (.ops 2 .done)) (.ops 3 (.split 23 (.ops 5 .done) (.skips 2 (.ops 3 .done)))))))))))) (.cond none (.seq none (.region [] (.ops 1 .done)) .leaf) (.seq none (.region [] (.ops 3 .done)) (.cond none (.seq none (.region [] (.ops 1 .done)) .leaf) (.seq none (.region [] (.ops 3 .done)) (.cond none (.seq none (.region [] (.ops 1 .done)) .leaf) (.seq none (.region [] (.ops 3 .done)) (.cond none (.seq none (.region [] (.ops 1 .done)) .leaf) .leaf))))))))) (.seq none (.region [] (.ops 1 .done)) .leaf)))
theorem F198_tie (a0 : (Unit)) (a1 : Int) (K : Int → World → Prop) : vcgF tab Tryz.prog Tryz.f198 h198 [(.agg (Cells.vals c163 a0).toArray), (.int .i64 a1)] (.one (.one (.int .i64))) K = F198 a0 a1 K := by kernel_rfl
theorem F198_calls {a0 : (Unit)} {a1 : Int} {K : Int → World → Prop} {w : World} (h : F198 a0 a1 K w) : callT Tryz.prog 198 #[(.agg (Cells.vals c163 a0).toArray), (.int .i64 a1)] (.one (.one (.int .i64))) K w :=
  vcgF_sound tabOk Tryz.func198 h198 [(.agg (Cells.vals c163 a0).toArray), (.int .i64 a1)] (.one (.one (.int .i64))) K w (Eq.mpr (congrFun (F198_tie a0 a1 K) w) h)
noncomputable def F199 (a0 : Sl) (K : (Int × Int × Unit) → World → Prop) : World → Prop :=
 ix a0.a a0.len (0 : Int) fun p1 =>
 ld (.int .u8) (p1.add (scaled (Int.toNat (0 : Int)) 1)) fun (x2 : Int) =>
 callT Tryz.prog 200 #[(.int .u8 x2)] (.tup [(.one (.int .i64)), (.one (.int .u8)), (.one (.int .u8))]) fun (x3 : (Int × Int × Int × Unit)) =>
 sif (decide (x3.1 < (2 : Int))) (
 K (x3.1, x3.1, ())) (
 join (S := Bool × Unit) (fun J4 =>
 sif (decide (((a0.len : Nat) : Int) < (2 : Int))) (
 J4 (true, ())) (
 ix a0.a a0.len (1 : Int) fun p6 =>
 ld (.int .u8) (p6.add (scaled (Int.toNat (1 : Int)) 1)) fun (x7 : Int) =>
 sif (decide (x7 < x3.2.1)) (
 J4 (true, ())) (
 ix a0.a a0.len (1 : Int) fun p8 =>
 ld (.int .u8) (p8.add (scaled (Int.toNat (1 : Int)) 1)) fun (x9 : Int) =>
 J4 ((decide (x9 > x3.2.2.1)), ())))) fun (s5 : Bool × Unit) =>
 sif s5.1 (
 K ((1 : Int), x3.1, ())) (
 join (S := Int × Unit) (fun J10 =>
 sloop (S := Int × Unit) (fun (s12 : Int × Unit) again13 =>
 join (S := Bool × Unit) (fun J14 =>
 sif (decide (s12.1 < x3.1)) (
 sif (decide (s12.1 < ((a0.len : Nat) : Int))) (
 ix a0.a a0.len s12.1 fun p16 =>
 ld (.int .u8) (p16.add (scaled (Int.toNat s12.1) 1)) fun (x17 : Int) =>
 J14 (((IntKind.wrap .u8 ((BitVec.toNat (BitVec.ofInt (IntKind.bits .u8) x17 &&& BitVec.ofInt (IntKind.bits .u8) (192 : Int)) : Nat) : Int)) == (128 : Int)), ())) (
 J14 (false, ()))) (
 J14 (false, ()))) fun (s15 : Bool × Unit) =>
 sif s15.1 (
 again13 ((IntKind.wrap .i64 (s12.1 + (1 : Int))), ())) (
 J10 (s12.1, ()))) ((2 : Int), ())) fun (s11 : Int × Unit) =>
 K (s11.1, x3.1, ())))
noncomputable def h199 : Hint := (.seq none (.region [] (.ops 2 .done)) (.seq none (.region [] (.ops 11 .done)) (.seq none (.seq none (.region [] (.ops 2 .done)) (.cond none (.seq none (.region [] (.ops 4 .done)) .leaf) .leaf)) (.seq none (.seq (some (137437904896, [(36, (.one .bool))])) (.region [] (.ops 4 (.split 23 (.skips 5 (.ops 2 (.skips 5 (.ops 1 .done)))) (.ops 7 (.split 30 (.skips 5 (.ops 1 .done)) (.ops 6 .done)))))) (.cond none (.seq none (.region [] (.ops 3 .done)) .leaf) .leaf)) (.seq none (.region [] (.ops 1 .done)) (.seq (some (144114913197949056, [(7, (.one (.int .i64)))])) (.block (.loop 144114913197949056 [(7, (.one (.int .i64)))] (.seq none (.seq (some (36028522141057024, [(54, (.one .bool))])) (.region [] (.ops 4 (.split 41 (.ops 6 (.split 47 (.ops 7 .done) (.skips 6 (.ops 1 .done)))) (.skips 4 (.ops 2 (.skips 6 (.ops 1 .done))))))) (.cond none .leaf .leaf)) (.block (.region [] (.ops 3 .done)))))) (.seq none (.region [] (.ops 4 .done)) .leaf)))))))
theorem F199_tie (a0 : Sl) (K : (Int × Int × Unit) → World → Prop) : vcgF tab Tryz.prog Tryz.f199 h199 [(.slice a0.a a0.len a0.cap)] (.tup [(.one (.int .i64)), (.one (.int .i64))]) K = F199 a0 K := by kernel_rfl
theorem F199_calls {a0 : Sl} {K : (Int × Int × Unit) → World → Prop} {w : World} (h : F199 a0 K w) : callT Tryz.prog 199 #[(.slice a0.a a0.len a0.cap)] (.tup [(.one (.int .i64)), (.one (.int .i64))]) K w :=
  vcgF_sound tabOk Tryz.func199 h199 [(.slice a0.a a0.len a0.cap)] (.tup [(.one (.int .i64)), (.one (.int .i64))]) K w (Eq.mpr (congrFun (F199_tie a0 K) w) h)
noncomputable def F200 (a0 : Int) (K : (Int × Int × Int × Unit) → World → Prop) : World → Prop :=
 sif (decide (a0 < (128 : Int))) (
 K ((1 : Int), (0 : Int), (0 : Int), ())) (
 sif (decide (a0 < (194 : Int))) (
 K ((0 : Int), (0 : Int), (0 : Int), ())) (
 sif (decide (a0 < (224 : Int))) (
 K ((2 : Int), (128 : Int), (191 : Int), ())) (
 sif (a0 == (224 : Int)) (
 K ((3 : Int), (160 : Int), (191 : Int), ())) (
 sif (a0 == (237 : Int)) (
 K ((3 : Int), (128 : Int), (159 : Int), ())) (
 sif (decide (a0 < (240 : Int))) (
 K ((3 : Int), (128 : Int), (191 : Int), ())) (
 sif (a0 == (240 : Int)) (
 K ((4 : Int), (144 : Int), (191 : Int), ())) (
 sif (decide (a0 < (244 : Int))) (
 K ((4 : Int), (128 : Int), (191 : Int), ())) (
 sif (a0 == (244 : Int)) (
 K ((4 : Int), (128 : Int), (143 : Int), ())) (
 K ((0 : Int), (0 : Int), (0 : Int), ()))))))))))
noncomputable def h200 : Hint := (.seq none (.region [] (.ops 3 .done)) (.seq none (.block (.seq none (.region [] (.ops 3 .done)) (.cond none (.seq none (.region [] (.ops 3 .done)) .leaf) (.seq none (.region [] (.ops 3 .done)) (.cond none (.seq none (.region [] (.ops 3 .done)) .leaf) (.seq none (.region [] (.ops 3 .done)) (.cond none (.seq none (.region [] (.ops 3 .done)) .leaf) (.seq none (.region [] (.ops 3 .done)) (.cond none (.seq none (.region [] (.ops 3 .done)) .leaf) (.seq none (.region [] (.ops 3 .done)) (.cond none (.seq none (.region [] (.ops 3 .done)) .leaf) (.seq none (.region [] (.ops 3 .done)) (.cond none (.seq none (.region [] (.ops 3 .done)) .leaf) (.seq none (.region [] (.ops 3 .done)) (.cond none (.seq none (.region [] (.ops 3 .done)) .leaf) (.seq none (.region [] (.ops 3 .done)) (.cond none (.seq none (.region [] (.ops 3 .done)) .leaf) (.seq none (.region [] (.ops 3 .done)) (.cond none (.seq none (.region [] (.ops 3 .done)) .leaf) .leaf))))))))))))))))))) (.seq none (.region [] (.ops 3 .done)) .leaf)))
theorem F200_tie (a0 : Int) (K : (Int × Int × Int × Unit) → World → Prop) : vcgF tab Tryz.prog Tryz.f200 h200 [(.int .u8 a0)] (.tup [(.one (.int .i64)), (.one (.int .u8)), (.one (.int .u8))]) K = F200 a0 K := by kernel_rfl
theorem F200_calls {a0 : Int} {K : (Int × Int × Int × Unit) → World → Prop} {w : World} (h : F200 a0 K w) : callT Tryz.prog 200 #[(.int .u8 a0)] (.tup [(.one (.int .i64)), (.one (.int .u8)), (.one (.int .u8))]) K w :=
  vcgF_sound tabOk Tryz.func200 h200 [(.int .u8 a0)] (.tup [(.one (.int .i64)), (.one (.int .u8)), (.one (.int .u8))]) K w (Eq.mpr (congrFun (F200_tie a0 K) w) h)
noncomputable def F201 (a0 : (Int × Unit)) (a1 : Sl) (K : (Int × Int × Unit) → World → Prop) : World → Prop :=
 newO (.cells #[(.int .i64 a0.1)] 165) fun b1 =>
 sif (((a1.len : Nat) : Int) == (1 : Int)) (
 ix a1.a a1.len (0 : Int) fun p2 =>
 ld (.int .u8) (p2.add (scaled (Int.toNat (0 : Int)) 1)) fun (x3 : Int) =>
 K ((IntKind.wrap .i64 ((-1 : Int) - (IntKind.wrap .i64 x3))), (1 : Int), ())) (
 lds c165 (at0 b1) fun (x4 : (Int × Unit)) =>
 callT Tryz.prog 206 #[(.agg (Cells.vals c165 x4).toArray), (.slice a1.a a1.len a1.cap)] (.one (.one (.int .i64))) fun (x5 : Int) =>
 join (S := Unit) (fun J6 =>
 join (S := Bool × Unit) (fun J8 =>
 callT Tryz.prog 207 #[(.int .i64 x5)] (.one (.one .bool)) fun (x10 : Bool) =>
 sif x10 (
 J8 ((decide (((a1.len : Nat) : Int) ≥ (4 : Int))), ())) (
 J8 (false, ()))) fun (s9 : Bool × Unit) =>
 sif s9.1 (
 drew <|
 lds c165 (at0 b1) fun (x11 : (Int × Unit)) =>
 slc a1.a (2 : Int) ((a1.len : Nat) : Int) ((a1.cap : Nat) : Int) a1.cap 1 fun x12 =>
 callT Tryz.prog 206 #[(.agg (Cells.vals c165 x11).toArray), (.slice x12.a x12.len x12.cap)] (.one (.one (.int .i64))) fun (x13 : Int) =>
 callT Tryz.prog 208 #[(.int .i64 x13)] (.one (.one .bool)) fun (x14 : Bool) =>
 sif x14 (
 chk (0 ≤ (10 : Int)) <|
 K ((IntKind.wrap .i64 ((IntKind.wrap .i64 ((65536 : Int) + (IntKind.wrap .i64 ((IntKind.wrap .i64 ((BitVec.toNat (BitVec.ofInt (IntKind.bits .i64) x5 &&& BitVec.ofInt (IntKind.bits .i64) (1023 : Int)) : Nat) : Int)) * 2 ^ (min (Int.toNat (10 : Int)) (IntKind.bits .i64)))))) + (IntKind.wrap .i64 ((BitVec.toNat (BitVec.ofInt (IntKind.bits .i64) x13 &&& BitVec.ofInt (IntKind.bits .i64) (1023 : Int)) : Nat) : Int)))), (4 : Int), ())) (
 J6 ())) (
 J6 ())) fun (s7 : Unit) =>
 K (x5, (2 : Int), ()))
noncomputable def h201 : Hint := (.seq none (.region [] (.ops 3 .done)) (.seq none (.seq none (.region [] (.ops 3 .done)) (.cond none (.seq none (.region [] (.ops 7 .done)) .leaf) .leaf)) (.seq none (.region [] (.ops 4 .done)) (.seq (some (549755289776, [])) (.seq (some (66584576, [(25, (.one .bool))])) (.region [] (.ops 3 (.split 21 (.ops 4 .done) (.skips 3 (.ops 1 .done))))) (.cond none (.seq none (.region [0, 1, 2, 3, 4] (.ops 5 .done)) (.seq none (.region [] (.ops 2 .done)) (.cond none (.seq none (.region [] (.ops 9 .done)) .leaf) .leaf))) .leaf)) (.seq none (.region [] (.ops 3 .done)) .leaf)))))
theorem F201_tie (a0 : (Int × Unit)) (a1 : Sl) (K : (Int × Int × Unit) → World → Prop) : vcgF tab Tryz.prog Tryz.f201 h201 [(.agg (Cells.vals c165 a0).toArray), (.slice a1.a a1.len a1.cap)] (.tup [(.one (.int .i64)), (.one (.int .i64))]) K = F201 a0 a1 K := by kernel_rfl
theorem F201_calls {a0 : (Int × Unit)} {a1 : Sl} {K : (Int × Int × Unit) → World → Prop} {w : World} (h : F201 a0 a1 K w) : callT Tryz.prog 201 #[(.agg (Cells.vals c165 a0).toArray), (.slice a1.a a1.len a1.cap)] (.tup [(.one (.int .i64)), (.one (.int .i64))]) K w :=
  vcgF_sound tabOk Tryz.func201 h201 [(.agg (Cells.vals c165 a0).toArray), (.slice a1.a a1.len a1.cap)] (.tup [(.one (.int .i64)), (.one (.int .i64))]) K w (Eq.mpr (congrFun (F201_tie a0 a1 K) w) h)
noncomputable def F204 (a0 : (Int × Unit)) (a1 : Sl) (a2 : Int) (K : Sl → World → Prop) : World → Prop :=
 newO (.cells #[(.int .i64 a0.1)] 165) fun b1 =>
 sif (decide (a2 < (0 : Int))) (
 newO (.cells #[(.int .u8 (IntKind.wrap .u8 (IntKind.wrap .i64 ((-1 : Int) - a2))))] 5) fun b2 =>
 rawT Tryz.prog (.one (.one .sl)) (Builtin.append_ #[22, 22] 22 #[(.slice a1.a a1.len a1.cap), (.slice (some (at0 b2)) 1 1)]) fun (x3 : Sl) =>
 K x3) (
 sif (decide (a2 < (65536 : Int))) (
 lds c165 (at0 b1) fun (x4 : (Int × Unit)) =>
 callT Tryz.prog 209 #[(.agg (Cells.vals c165 x4).toArray), (.slice a1.a a1.len a1.cap), (.int .i64 a2)] (.one (.one .sl)) fun (x5 : Sl) =>
 K x5) (
 drew <|
 lds c165 (at0 b1) fun (x6 : (Int × Unit)) =>
 lds c165 (at0 b1) fun (x7 : (Int × Unit)) =>
 chk (0 ≤ (10 : Int)) <|
 callT Tryz.prog 209 #[(.agg (Cells.vals c165 x7).toArray), (.slice a1.a a1.len a1.cap), (.int .i64 (IntKind.wrap .i64 ((BitVec.toNat (BitVec.ofInt (IntKind.bits .i64) (55296 : Int) ||| BitVec.ofInt (IntKind.bits .i64) (Int.fdiv (IntKind.wrap .i64 (a2 - (65536 : Int))) (2 ^ (min (Int.toNat (10 : Int)) (IntKind.bits .i64))))) : Nat) : Int)))] (.one (.one .sl)) fun (x8 : Sl) =>
 keep (fun w => cellsAt w (at0 b1) 0 (Cells.vals c165 x6)) <|
 callT Tryz.prog 209 #[(.agg (Cells.vals c165 x6).toArray), (.slice x8.a x8.len x8.cap), (.int .i64 (IntKind.wrap .i64 ((BitVec.toNat (BitVec.ofInt (IntKind.bits .i64) (56320 : Int) ||| BitVec.ofInt (IntKind.bits .i64) (IntKind.wrap .i64 ((BitVec.toNat (BitVec.ofInt (IntKind.bits .i64) a2 &&& BitVec.ofInt (IntKind.bits .i64) (1023 : Int)) : Nat) : Int))) : Nat) : Int)))] (.one (.one .sl)) fun (x9 : Sl) =>
 K x9))
noncomputable def h204 : Hint := (.seq none (.region [] (.ops 2 .done)) (.seq none (.block (.seq none (.region [] (.ops 3 .done)) (.cond none (.seq none (.region [] (.ops 7 .done)) .leaf) (.seq none (.region [] (.ops 3 .done)) (.cond none (.seq none (.region [] (.ops 5 .done)) .leaf) .leaf))))) (.seq none (.region [0, 1, 2, 3, 4, 5, 6, 8, 9, 10, 7, 11, 12] (.ops 13 .done)) .leaf)))
theorem F204_tie (a0 : (Int × Unit)) (a1 : Sl) (a2 : Int) (K : Sl → World → Prop) : vcgF tab Tryz.prog Tryz.f204 h204 [(.agg (Cells.vals c165 a0).toArray), (.slice a1.a a1.len a1.cap), (.int .i64 a2)] (.one (.one .sl)) K = F204 a0 a1 a2 K := by kernel_rfl
theorem F204_calls {a0 : (Int × Unit)} {a1 : Sl} {a2 : Int} {K : Sl → World → Prop} {w : World} (h : F204 a0 a1 a2 K w) : callT Tryz.prog 204 #[(.agg (Cells.vals c165 a0).toArray), (.slice a1.a a1.len a1.cap), (.int .i64 a2)] (.one (.one .sl)) K w :=
  vcgF_sound tabOk Tryz.func204 h204 [(.agg (Cells.vals c165 a0).toArray), (.slice a1.a a1.len a1.cap), (.int .i64 a2)] (.one (.one .sl)) K w (Eq.mpr (congrFun (F204_tie a0 a1 a2 K) w) h)
noncomputable def F205 (a0 : (Int × Unit)) (a1 : Int) (K : Int → World → Prop) : World → Prop :=
 newO (.cells #[(.int .i64 a0.1)] 165) fun b1 =>
 join (S := Bool × Unit) (fun J2 =>
 sif (decide (a1 < (-256 : Int))) (
 J2 (true, ())) (
 J2 ((decide (a1 > (1114111 : Int))), ()))) fun (s3 : Bool × Unit) =>
 sif s3.1 (
 K (0 : Int)) (
 sif (decide (a1 < (0 : Int))) (
 K (1 : Int)) (
 sif (decide (a1 < (65536 : Int))) (
 K (2 : Int)) (
 K (4 : Int))))
noncomputable def h205 : Hint := (.seq none (.region [] (.ops 2 .done)) (.seq none (.block (.seq (some (4064, [(5, (.one .bool))])) (.region [] (.ops 3 (.split 8 (.skips 2 (.ops 2 .done)) (.ops 4 .done)))) (.cond none (.seq none (.region [] (.ops 1 .done)) .leaf) (.seq none (.region [] (.ops 3 .done)) (.cond none (.seq none (.region [] (.ops 1 .done)) .leaf) (.seq none (.region [] (.ops 3 .done)) (.cond none (.seq none (.region [] (.ops 1 .done)) .leaf) .leaf))))))) (.seq none (.region [] (.ops 1 .done)) .leaf)))
theorem F205_tie (a0 : (Int × Unit)) (a1 : Int) (K : Int → World → Prop) : vcgF tab Tryz.prog Tryz.f205 h205 [(.agg (Cells.vals c165 a0).toArray), (.int .i64 a1)] (.one (.one (.int .i64))) K = F205 a0 a1 K := by kernel_rfl
theorem F205_calls {a0 : (Int × Unit)} {a1 : Int} {K : Int → World → Prop} {w : World} (h : F205 a0 a1 K w) : callT Tryz.prog 205 #[(.agg (Cells.vals c165 a0).toArray), (.int .i64 a1)] (.one (.one (.int .i64))) K w :=
  vcgF_sound tabOk Tryz.func205 h205 [(.agg (Cells.vals c165 a0).toArray), (.int .i64 a1)] (.one (.one (.int .i64))) K w (Eq.mpr (congrFun (F205_tie a0 a1 K) w) h)
noncomputable def F206 (a0 : (Int × Unit)) (a1 : Sl) (K : Int → World → Prop) : World → Prop :=
 newO (.cells #[(.int .i64 a0.1)] 165) fun b1 =>
 drew <|
 ld (.int .i64) (at0 b1) fun (x2 : Int) =>
 ix a1.a a1.len x2 fun p3 =>
 ld (.int .u8) (p3.add (scaled (Int.toNat x2) 1)) fun (x4 : Int) =>
 ld (.int .i64) (at0 b1) fun (x5 : Int) =>
 ix a1.a a1.len (IntKind.wrap .i64 ((1 : Int) - x5)) fun p6 =>
 ld (.int .u8) (p6.add (scaled (Int.toNat (IntKind.wrap .i64 ((1 : Int) - x5))) 1)) fun (x7 : Int) =>
 chk (0 ≤ (8 : Int)) <|
 K (IntKind.wrap .i64 ((BitVec.toNat (BitVec.ofInt (IntKind.bits .i64) (IntKind.wrap .i64 x4) ||| BitVec.ofInt (IntKind.bits .i64) (IntKind.wrap .i64 ((IntKind.wrap .i64 x7) * 2 ^ (min (Int.toNat (8 : Int)) (IntKind.bits .i64))))) : Nat) : Int))
noncomputable def h206 : Hint := (.seq none (.region [] (.ops 2 .done)) (.seq none (.region [0, 1, 2, 3, 4, 5, 6, 7, 8, 9, 10, 11, 12, 13, 14, 15] (.ops 16 .done)) .leaf))
theorem F206_tie (a0 : (Int × Unit)) (a1 : Sl) (K : Int → World → Prop) : vcgF tab Tryz.prog Tryz.f206 h206 [(.agg (Cells.vals c165 a0).toArray), (.slice a1.a a1.len a1.cap)] (.one (.one (.int .i64))) K = F206 a0 a1 K := by kernel_rfl
theorem F206_calls {a0 : (Int × Unit)} {a1 : Sl} {K : Int → World → Prop} {w : World} (h : F206 a0 a1 K w) : callT Tryz.prog 206 #[(.agg (Cells.vals c165 a0).toArray), (.slice a1.a a1.len a1.cap)] (.one (.one (.int .i64))) K w :=
  vcgF_sound tabOk Tryz.func206 h206 [(.agg (Cells.vals c165 a0).toArray), (.slice a1.a a1.len a1.cap)] (.one (.one (.int .i64))) K w (Eq.mpr (congrFun (F206_tie a0 a1 K) w) h)
noncomputable def F207 (a0 : Int) (K : Bool → World → Prop) : World → Prop :=
 K ((IntKind.wrap .i64 ((BitVec.toNat (BitVec.ofInt (IntKind.bits .i64) a0 &&& ~~~(BitVec.ofInt (IntKind.bits .i64) (1023 : Int))) : Nat) : Int)) == (55296 : Int))
noncomputable def h207 : Hint := (.seq none (.region [] (.ops 1 .done)) (.seq none (.region [] (.ops 4 .done)) .leaf))
theorem F207_tie (a0 : Int) (K : Bool → World → Prop) : vcgF tab Tryz.prog Tryz.f207 h207 [(.int .i64 a0)] (.one (.one .bool)) K = F207 a0 K := by kernel_rfl
theorem F207_calls {a0 : Int} {K : Bool → World → Prop} {w : World} (h : F207 a0 K w) : callT Tryz.prog 207 #[(.int .i64 a0)] (.one (.one .bool)) K w :=
  vcgF_sound tabOk Tryz.func207 h207 [(.int .i64 a0)] (.one (.one .bool)) K w (Eq.mpr (congrFun (F207_tie a0 K) w) h)
noncomputable def F208 (a0 : Int) (K : Bool → World → Prop) : World → Prop :=
 K ((IntKind.wrap .i64 ((BitVec.toNat (BitVec.ofInt (IntKind.bits .i64) a0 &&& ~~~(BitVec.ofInt (IntKind.bits .i64) (1023 : Int))) : Nat) : Int)) == (56320 : Int))
noncomputable def h208 : Hint := (.seq none (.region [] (.ops 1 .done)) (.seq none (.region [] (.ops 4 .done)) .leaf))
theorem F208_tie (a0 : Int) (K : Bool → World → Prop) : vcgF tab Tryz.prog Tryz.f208 h208 [(.int .i64 a0)] (.one (.one .bool)) K = F208 a0 K := by kernel_rfl
theorem F208_calls {a0 : Int} {K : Bool → World → Prop} {w : World} (h : F208 a0 K w) : callT Tryz.prog 208 #[(.int .i64 a0)] (.one (.one .bool)) K w :=
  vcgF_sound tabOk Tryz.func208 h208 [(.int .i64 a0)] (.one (.one .bool)) K w (Eq.mpr (congrFun (F208_tie a0 K) w) h)
noncomputable def F209 (a0 : (Int × Unit)) (a1 : Sl) (a2 : Int) (K : Sl → World → Prop) : World → Prop :=
 newO (.cells #[(.int .i64 a0.1)] 165) fun b1 =>
 newO (.cells #[(.int .u8 (0 : Int)), (.int .u8 (0 : Int))] 227) fun b2 =>
 drew <|
 ld (.int .i64) (at0 b1) fun (x3 : Int) =>
 ld (.int .i64) (at0 b1) fun (x4 : Int) =>
 chk (0 ≤ (8 : Int)) <|
 chk (0 ≤ x3 ∧ x3 < ((2 : Nat) : Int)) <|
 stC ((at0 b2).add (scaled (Int.toNat x3) 1)) (.int .u8 (IntKind.wrap .u8 a2)) <|
 keep (fun w => w.cell? (at0 b1) = some (Cell.val (.int .i64) x4)) <|
 chk (0 ≤ (IntKind.wrap .i64 ((1 : Int) - x4)) ∧ (IntKind.wrap .i64 ((1 : Int) - x4)) < ((2 : Nat) : Int)) <|
 stC ((at0 b2).add (scaled (Int.toNat (IntKind.wrap .i64 ((1 : Int) - x4))) 1)) (.int .u8 (IntKind.wrap .u8 (Int.fdiv a2 (2 ^ (min (Int.toNat (8 : Int)) (IntKind.bits .i64)))))) <|
 slc (some (at0 b2)) 0 ((2 : Nat) : Int) ((2 : Nat) : Int) 2 1 fun x5 =>
 rawT Tryz.prog (.one (.one .sl)) (Builtin.append_ #[22, 22] 22 #[(.slice a1.a a1.len a1.cap), (.slice x5.a x5.len x5.cap)]) fun (x6 : Sl) =>
 K x6
noncomputable def h209 : Hint := (.seq none (.region [] (.ops 2 .done)) (.seq none (.region [] (.ops 1 .done)) (.seq none (.region [0, 1, 2, 3, 4, 5, 6, 7, 8, 9, 10, 11, 12, 13] (.ops 14 .done)) (.seq none (.region [] (.ops 4 .done)) .leaf))))
theorem F209_tie (a0 : (Int × Unit)) (a1 : Sl) (a2 : Int) (K : Sl → World → Prop) : vcgF tab Tryz.prog Tryz.f209 h209 [(.agg (Cells.vals c165 a0).toArray), (.slice a1.a a1.len a1.cap), (.int .i64 a2)] (.one (.one .sl)) K = F209 a0 a1 a2 K := by kernel_rfl
theorem F209_calls {a0 : (Int × Unit)} {a1 : Sl} {a2 : Int} {K : Sl → World → Prop} {w : World} (h : F209 a0 a1 a2 K w) : callT Tryz.prog 209 #[(.agg (Cells.vals c165 a0).toArray), (.slice a1.a a1.len a1.cap), (.int .i64 a2)] (.one (.one .sl)) K w :=
  vcgF_sound tabOk Tryz.func209 h209 [(.agg (Cells.vals c165 a0).toArray), (.slice a1.a a1.len a1.cap), (.int .i64 a2)] (.one (.one .sl)) K w (Eq.mpr (congrFun (F209_tie a0 a1 a2 K) w) h)
noncomputable def F210 (a0 : (Unit)) (a1 : Sl) (K : (Int × Int × Unit) → World → Prop) : World → Prop :=
 newO (.cells #[] 166) fun b1 =>
 ix a1.a a1.len (0 : Int) fun p2 =>
 ld (.int .u8) (p2.add (scaled (Int.toNat (0 : Int)) 1)) fun (x3 : Int) =>
 K ((IntKind.wrap .i64 x3), (1 : Int), ())
noncomputable def h210 : Hint := (.seq none (.region [] (.ops 3 .done)) (.seq none (.region [] (.ops 6 .done)) .leaf))
theorem F210_tie (a0 : (Unit)) (a1 : Sl) (K : (Int × Int × Unit) → World → Prop) : vcgF tab Tryz.prog Tryz.f210 h210 [(.agg (Cells.vals c166 a0).toArray), (.slice a1.a a1.len a1.cap)] (.tup [(.one (.int .i64)), (.one (.int .i64))]) K = F210 a0 a1 K := by kernel_rfl
theorem F210_calls {a0 : (Unit)} {a1 : Sl} {K : (Int × Int × Unit) → World → Prop} {w : World} (h : F210 a0 a1 K w) : callT Tryz.prog 210 #[(.agg (Cells.vals c166 a0).toArray), (.slice a1.a a1.len a1.cap)] (.tup [(.one (.int .i64)), (.one (.int .i64))]) K w :=
  vcgF_sound tabOk Tryz.func210 h210 [(.agg (Cells.vals c166 a0).toArray), (.slice a1.a a1.len a1.cap)] (.tup [(.one (.int .i64)), (.one (.int .i64))]) K w (Eq.mpr (congrFun (F210_tie a0 a1 K) w) h)
noncomputable def F213 (a0 : (Unit)) (a1 : Sl) (a2 : Int) (K : Sl → World → Prop) : World → Prop :=
 newO (.cells #[] 166) fun b1 =>
 newO (.cells #[(.int .u8 (IntKind.wrap .u8 a2))] 5) fun b2 =>
 rawT Tryz.prog (.one (.one .sl)) (Builtin.append_ #[22, 22] 22 #[(.slice a1.a a1.len a1.cap), (.slice (some (at0 b2)) 1 1)]) fun (x3 : Sl) =>
 K x3
noncomputable def h213 : Hint := (.seq none (.region [] (.ops 2 .done)) (.seq none (.region [] (.ops 6 .done)) .leaf))
theorem F213_tie (a0 : (Unit)) (a1 : Sl) (a2 : Int) (K : Sl → World → Prop) : vcgF tab Tryz.prog Tryz.f213 h213 [(.agg (Cells.vals c166 a0).toArray), (.slice a1.a a1.len a1.cap), (.int .i64 a2)] (.one (.one .sl)) K = F213 a0 a1 a2 K := by kernel_rfl
theorem F213_calls {a0 : (Unit)} {a1 : Sl} {a2 : Int} {K : Sl → World → Prop} {w : World} (h : F213 a0 a1 a2 K w) : callT Tryz.prog 213 #[(.agg (Cells.vals c166 a0).toArray), (.slice a1.a a1.len a1.cap), (.int .i64 a2)] (.one (.one .sl)) K w :=
  vcgF_sound tabOk Tryz.func213 h213 [(.agg (Cells.vals c166 a0).toArray), (.slice a1.a a1.len a1.cap), (.int .i64 a2)] (.one (.one .sl)) K w (Eq.mpr (congrFun (F213_tie a0 a1 a2 K) w) h)
noncomputable def F214 (a0 : (Unit)) (a1 : Int) (K : Int → World → Prop) : World → Prop :=
 newO (.cells #[] 166) fun b1 =>
 join (S := Bool × Unit) (fun J2 =>
 sif (decide (a1 < (0 : Int))) (
 J2 (true, ())) (
 J2 ((decide (a1 > (255 : Int))), ()))) fun (s3 : Bool × Unit) =>
 sif s3.1 (
 K (0 : Int)) (
 K (1 : Int))
noncomputable def h214 : Hint := (.seq none (.region [] (.ops 2 .done)) (.seq none (.seq (some (2016, [(10, (.one .bool))])) (.region [] (.ops 3 (.split 7 (.skips 2 (.ops 1 .done)) (.ops 3 .done)))) (.cond none (.seq none (.region [] (.ops 1 .done)) .leaf) .leaf)) (.seq none (.region [] (.ops 1 .done)) .leaf)))
theorem F214_tie (a0 : (Unit)) (a1 : Int) (K : Int → World → Prop) : vcgF tab Tryz.prog Tryz.f214 h214 [(.agg (Cells.vals c166 a0).toArray), (.int .i64 a1)] (.one (.one (.int .i64))) K = F214 a0 a1 K := by kernel_rfl
theorem F214_calls {a0 : (Unit)} {a1 : Int} {K : Int → World → Prop} {w : World} (h : F214 a0 a1 K w) : callT Tryz.prog 214 #[(.agg (Cells.vals c166 a0).toArray), (.int .i64 a1)] (.one (.one (.int .i64))) K w :=
  vcgF_sound tabOk Tryz.func214 h214 [(.agg (Cells.vals c166 a0).toArray), (.int .i64 a1)] (.one (.one (.int .i64))) K w (Eq.mpr (congrFun (F214_tie a0 a1 K) w) h)
end Go.Proofs.YtabcpghhfeplaaaGreat
set_option linter.unusedSimpArgs false
set_option linter.unusedVariables false
set_option maxRecDepth 100000
namespace Go.Proofs.YtabcpghhfeplaaaGreat
open Go Go.Vx Cdc
section
variable {w w' : World}
theorem func_x {g : FuncId} {caps args : Array Value} {t : RTy} {K : t.T → World → Prop} (hf : ((Tryz.prog.funcs[g]?).map fun fn => (fn.body.isNone, fn.name == "runtime.NumGoroutine")) = some (false, false)) (h : callT Tryz.prog g (args ++ caps) t K w) :
    callX Tryz.prog (do let d ← Deferred.ofValue (.func (.func g) #[] caps) args; invoke d.target d.args : Sem Next) t K w := by
  refine .inl ⟨g, args ++ caps, ?_, h⟩
  have := run_callFunc (P := Tryz.prog) (f := g) (args := args ++ caps) hf w
  simp only [Deferred.ofValue, pure_bind, invoke]
  have e : (#[] ++ args ++ caps : Array Value) = args ++ caps := by simp
  first
    | exact this
    | (rw [e]; exact this)
theorem meth_x {ty : TypeId} {v v' : Value} {name : String} {f : FuncId} {a : Value} {t : RTy} {K : t.T → World → Prop} (hm : ∀ w, (Go.method (Tryz.prog.types.size + Made.depth) ty v name).run Tryz.prog w = .ok (f, v') w)
    (hf : ((Tryz.prog.funcs[f]?).map fun fn => (fn.body.isNone, fn.name == "runtime.NumGoroutine")) = some (false, false)) (h : callT Tryz.prog f #[v', a] t K w) :
    callX Tryz.prog (invoke (.fn (.method name) #[]) (#[.iface ty v] ++ #[a])) t K w := by
  refine .inl ⟨f, #[v', a], ?_, h⟩
  have h := run_callFunc (P := Tryz.prog) (f := f) (args := #[v', a]) hf w
  have e : invoke (.fn (.method name) #[]) (#[.iface ty v] ++ #[a]) = callMethod (.iface ty v) name #[a] := rfl
  rw [e]
  simp only [callMethod, Sem.run_bind, program, Sem.run, Result.andThen_ok, hm]
  exact h
theorem meth_x2 {ty : TypeId} {v v' : Value} {name : String} {f : FuncId} {a b : Value} {t : RTy} {K : t.T → World → Prop} (hm : ∀ w, (Go.method (Tryz.prog.types.size + Made.depth) ty v name).run Tryz.prog w = .ok (f, v') w)
    (hf : ((Tryz.prog.funcs[f]?).map fun fn => (fn.body.isNone, fn.name == "runtime.NumGoroutine")) = some (false, false)) (h : callT Tryz.prog f #[v', a, b] t K w) :
    callX Tryz.prog (invoke (.fn (.method name) #[]) (#[.iface ty v] ++ #[a, b])) t K w := by
  refine .inl ⟨f, #[v', a, b], ?_, h⟩
  have h := run_callFunc (P := Tryz.prog) (f := f) (args := #[v', a, b]) hf w
  have e : invoke (.fn (.method name) #[]) (#[.iface ty v] ++ #[a, b]) = callMethod (.iface ty v) name #[a, b] := rfl
  rw [e]
  simp only [callMethod, Sem.run_bind, program, Sem.run, Result.andThen_ok, hm]
  exact h
abbrev By (w : World) (s : Sl) (l : Bs) : Prop := SlIn w s 5 1 (bv l)
theorem By.len {s : Sl} {l : Bs} (h : By w s l) : l.length = s.len := by have := h.len1; rwa [List.length_map] at this
theorem bv_map (l : Bs) : bv l = (l.map fun b => (b.toNat : Int)).map (Cell.int .u8).val := by
  rw [List.map_map]; rfl
theorem ix_by {s : Sl} {l : Bs} {n : Int} {K : Addr → Int → World → Prop} (h : By w s l) (h0 : 0 ≤ n) {b : UInt8} (hb : l[n.toNat]? = some b) (hK : ∀ p, K p (b.toNat : Int) w) :
    ix s.a s.len n (fun p => ld (.int .u8) (p.add (scaled (Int.toNat n) 1)) (K p)) w := by
  have h' : SlIn w s 5 1 ((l.map fun b => (b.toNat : Int)).map (Cell.int .u8).val) := by rw [← bv_map]; exact h
  exact ix_ld h' h0 (x := (b.toNat : Int)) (by rw [List.getElem?_map, hb]; rfl) hK
theorem bv_drop (l : Bs) (n : Nat) : (bv l).drop n = bv (l.drop n) := by simp [bv]
theorem bv_take (l : Bs) (n : Nat) : (bv l).take n = bv (l.take n) := by simp [bv]
theorem slc_by {s : Sl} {l : Bs} {a b m : Int} {K : Sl → World → Prop} (hs : By w s l) (h0 : 0 ≤ a) (h1 : a ≤ b) (h2 : b ≤ s.len) (h3 : b ≤ m) (h4 : m ≤ s.cap)
    (hK : ∀ s', By w s' ((l.drop a.toNat).take (b.toNat - a.toNat)) → s'.len = b.toNat - a.toNat → (∀ k, s'.blk k → s.blk k) → K s' w) : slc s.a a b m s.cap 1 K w :=
  slc_r hs h0 h1 h2 h3 h4 fun s' hs' hl _ hb => hK s' (by
    rw [Nat.mul_one, Nat.mul_one, bv_drop, bv_take] at hs'; exact hs') hl hb
theorem bounds_call {c : UInt8} {K : Int × Int × Int × Unit → World → Prop} (hK : K (((bnds c.toNat).1 : Nat), ((bnds c.toNat).2.1 : Nat), ((bnds c.toNat).2.2 : Nat), ()) w) :
    callT Tryz.prog 200 #[.int .u8 (c.toNat : Int)] (.tup [(.one (.int .i64)), (.one (.int .u8)), (.one (.int .u8))]) K w := by
  refine F200_calls ?_
  unfold F200
  have hlt := c.toNat_lt
  unfold bnds at hK
  repeat' refine sif_r (fun h => ?_) (fun h => ?_)
  all_goals simp only [decide_eq_true_eq, decide_eq_false_iff_not, beq_iff_eq, beq_eq_false_iff_ne] at *
  all_goals
    repeat rw [if_pos (by omega)] at hK
    repeat rw [if_neg (by omega)] at hK
    repeat rw [if_pos (by omega)] at hK
    exact hK
theorem more_step {c : UInt8} : ∀ {m : Nat} {r : Bs} {j : Nat}, j ≤ more m r → (j < m ∧ r[j]? = some c ∧ cont c = true → j < more m r)
  | 0, r, j, _ => fun h => absurd h.1 (by omega)
  | m + 1, [], j, _ => fun h => by simp at h
  | m + 1, b :: r, 0, _ => fun h => by
    simp at h
    simp [more, h]
  | m + 1, b :: r, j + 1, hj => fun h => by
    simp only [more] at hj ⊢
    split at hj
    · rename_i hb
      rw [if_pos hb]
      have := more_step (c := c) (m := m) (r := r) (j := j) (by omega) ⟨by omega, by simpa using h.2.1, h.2.2⟩
      omega
    · omega
theorem more_cont : ∀ {m : Nat} {r : Bs} {j : Nat}, j < more m r → ∃ c, r[j]? = some c ∧ cont c = true
  | 0, r, j, h => by cases r <;> simp [more] at h
  | m + 1, [], j, h => by simp [more] at h
  | m + 1, b :: r, 0, h => by
    simp only [more] at h
    split at h
    · rename_i hb; exact ⟨b, rfl, hb⟩
    · omega
  | m + 1, b :: r, j + 1, h => by
    simp only [more] at h
    split at h
    · obtain ⟨c, hc⟩ := more_cont (m := m) (r := r) (j := j) (by omega)
      exact ⟨c, by simpa using hc⟩
    · omega
theorem cont_bits : ∀ c : UInt8, ((IntKind.wrap .u8 ((BitVec.toNat (BitVec.ofInt (IntKind.bits .u8) (c.toNat : Int) &&& BitVec.ofInt (IntKind.bits .u8) (192 : Int)) : Nat) : Int)) == (128 : Int)) = cont c := by
  intro c
  have h : ∀ n : Fin 256, ((IntKind.wrap .u8 ((BitVec.toNat (BitVec.ofInt (IntKind.bits .u8) (n.val : Int) &&& BitVec.ofInt (IntKind.bits .u8) (192 : Int)) : Nat) : Int)) == (128 : Int)) = (n.val / 64 == 2) := by decide +kernel
  exact h ⟨c.toNat, c.toNat_lt⟩
theorem row_call {s : Sl} {b : UInt8} {r : Bs} (hB : By w s (b :: r)) {K : Int × Int × Unit → World → Prop} (hK : K (((rowOf (b :: r)).1 : Nat), ((rowOf (b :: r)).2 : Nat), ()) w) :
    callT Tryz.prog 199 #[.slice s.a s.len s.cap] (.tup [(.one (.int .i64)), (.one (.int .i64))]) K w := by
  refine F199_calls ?_
  unfold F199
  have hlen : r.length + 1 = s.len := hB.len
  refine ix_by hB (by decide) (b := b) rfl fun p => bounds_call ?_
  have h4 := bnds_le b.toNat
  have hbr := rowOf_bnds b r
  refine sif_r (fun h => ?_) (fun h => ?_)
  · simp only [decide_eq_true_eq] at h
    have h2 : (bnds b.toNat).1 < 2 := by omega
    simp only [rowOf, if_pos h2] at hK
    exact hK
  simp only [decide_eq_false_iff_not] at h
  have h2 : ¬ (bnds b.toNat).1 < 2 := by omega
  cases r with
  | nil =>
    simp only [rowOf, if_neg h2] at hK
    have : s.len = 1 := by simpa using hlen.symm
    refine join_r (fun x w' => x = (true, ()) ∧ w = w') (sif_r (fun _ => ⟨rfl, rfl⟩) (fun h => ?_)) ?_
    · simp only [decide_eq_false_iff_not] at h; omega
    · rintro _ w' ⟨rfl, rfl⟩
      exact sif_true hK
  | cons c r =>
    have hl2 : r.length + 2 = s.len := by simpa using hlen
    refine join_r (fun x w' => x = (decide (c.toNat < (bnds b.toNat).2.1 ∨ (bnds b.toNat).2.2 < c.toNat), ()) ∧ w = w') (sif_r (fun h => ?_) (fun _ => ?_)) ?_
    · simp only [decide_eq_true_eq] at h; omega
    · refine ix_by hB (by decide) (b := c) rfl fun p => sif_r (fun h => ?_) (fun h => ix_by hB (by decide) (b := c) rfl fun p => ?_)
      · simp only [decide_eq_true_eq] at h
        exact ⟨by rw [decide_eq_true (by omega)], rfl⟩
      · simp only [decide_eq_false_iff_not] at h
        refine ⟨tupb ?_, rfl⟩
        simp only [decide_eq_true_eq]
        omega
    · rintro _ w' ⟨rfl, rfl⟩
      refine sif_r (fun h => ?_) (fun h => ?_)
      · simp only [decide_eq_true_eq] at h
        simp only [rowOf, if_neg h2, if_pos h] at hK
        exact hK
      · simp only [decide_eq_false_iff_not] at h
        simp only [rowOf, if_neg h2, if_neg h] at hK
        generalize hm : (bnds b.toNat).1 - 2 = m at hK
        have hn : (bnds b.toNat).1 = m + 2 := by omega
        rw [hn] at hK ⊢
        refine join_r (fun x w' => x = (((2 + more m r : Nat) : Int), ()) ∧ w = w') ?_ ?_
        · refine sloop_r (fun x w' => (∃ j : Nat, x = (((2 + j : Nat) : Int), ()) ∧ j ≤ more m r) ∧ w = w') (fun x _ => (m + 2 - x.1.toNat)) ⟨⟨0, rfl, Nat.zero_le _⟩, rfl⟩ ?_
          rintro _ w' ⟨⟨j, rfl, hj⟩, rfl⟩
          have hmo := more_le m r
          refine join_r (fun x w' => x = (decide (j < more m r), ()) ∧ w = w') ?_ ?_
          · refine sif_r (fun h => ?_) (fun h => ?_)
            · simp only [decide_eq_true_eq] at h
              refine sif_r (fun h' => ?_) (fun h' => ?_)
              · simp only [decide_eq_true_eq] at h'
                have hjl : j < r.length := by omega
                have hx : (b :: c :: r)[((2 + j : Nat) : Int).toNat]? = some r[j] := by
                  have : ((2 + j : Nat) : Int).toNat = j + 2 := by omega
                  rw [this]; simp [hjl]
                refine ix_by hB (by omega) hx fun p => ⟨?_, rfl⟩
                rw [cont_bits]
                refine tupb ?_
                simp only [decide_eq_true_eq]
                refine ⟨fun hc => more_step (c := r[j]) hj ⟨by omega, by simp [hjl], hc⟩, fun hc => ?_⟩
                obtain ⟨c', h1, h2⟩ := more_cont hc
                rw [List.getElem?_eq_getElem hjl] at h1
                cases h1; exact h2
              · simp only [decide_eq_false_iff_not] at h'
                exact ⟨by rw [decide_eq_false (by omega)], rfl⟩
            · simp only [decide_eq_false_iff_not] at h
              exact ⟨by rw [decide_eq_false (by omega)], rfl⟩
          · rintro _ w' ⟨rfl, rfl⟩
            refine sif_r (fun h => ?_) (fun h => ?_)
            · simp only [decide_eq_true_eq] at h
              have e : IntKind.wrap .i64 (((2 + j : Nat) : Int) + 1) = ((2 + (j + 1) : Nat) : Int) := by rw [wrap64 (by omega) (by omega)]; omega
              rw [e]
              exact ⟨⟨⟨j + 1, rfl, h⟩, rfl⟩, by simp only; omega⟩
            · simp only [decide_eq_false_iff_not] at h
              have : j = more m r := by omega
              exact ⟨by rw [this], rfl⟩
        · rintro _ w' ⟨rfl, rfl⟩
          exact hK
theorem rest_snoc (a : Nat) (l : Bs) (c : UInt8) : rest a (l ++ [c]) = rest a l * 64 + c.toNat % 64 := by simp [rest]
theorem rest_lt : ∀ (l : Bs) (a : Nat), rest a l < (a + 1) * 64 ^ l.length
  | [], a => by simp [rest]
  | c :: l, a => by
    have := rest_lt l (a * 64 + c.toNat % 64)
    have e : rest a (c :: l) = rest (a * 64 + c.toNat % 64) l := rfl
    rw [e, List.length_cons, Nat.pow_succ]
    refine Nat.lt_of_lt_of_le this ?_
    have h : a * 64 + c.toNat % 64 + 1 ≤ (a + 1) * 64 := by omega
    calc (a * 64 + c.toNat % 64 + 1) * 64 ^ l.length ≤ (a + 1) * 64 * 64 ^ l.length := Nat.mul_le_mul_right _ h
      _ = (a + 1) * (64 ^ l.length * 64) := by rw [Nat.mul_assoc, Nat.mul_comm 64]
theorem lead_bits (c : UInt8) (k : Nat) (hk : k ≤ 8) : IntKind.wrap .i64 ((BitVec.toNat (BitVec.ofInt (IntKind.bits .i64) (IntKind.wrap .i64 (c.toNat : Int)) &&& BitVec.ofInt (IntKind.bits .i64) (2 ^ k - 1)) : Nat) : Int) = ((c.toNat % 2 ^ k : Nat) : Int) := by
  have hc := c.toNat_lt
  rw [wrap64 (a := (c.toNat : Int)) (by omega) (by omega)]
  have h := and_lo (b := IntKind.bits .i64) (k := k) (a := (c.toNat : Int)) (m := 2 ^ k - 1) (by omega) (by show (c.toNat : Int) < 2 ^ 64; omega) rfl (by show k ≤ 64; omega)
  rw [h, Int.natCast_emod]
  have e : ((2 ^ k : Nat) : Int) = (2 : Int) ^ k := by simp
  rw [e]
  have h0 : (0 : Int) < 2 ^ k := Int.pow_pos (by decide)
  have h1 : (c.toNat : Int) % 2 ^ k ≤ (c.toNat : Int) := by
    rw [← e, ← Int.natCast_emod]
    exact_mod_cast Nat.mod_le _ _
  have h2 := Int.emod_nonneg (c.toNat : Int) (Int.ne_of_gt h0)
  exact wrap64 (by omega) (by omega)
theorem lead5 (c : UInt8) : IntKind.wrap .i64 ((BitVec.toNat (BitVec.ofInt (IntKind.bits .i64) (IntKind.wrap .i64 (c.toNat : Int)) &&& BitVec.ofInt (IntKind.bits .i64) (31 : Int)) : Nat) : Int) = ((c.toNat % 32 : Nat) : Int) := lead_bits c 5 (by decide)
theorem lead4 (c : UInt8) : IntKind.wrap .i64 ((BitVec.toNat (BitVec.ofInt (IntKind.bits .i64) (IntKind.wrap .i64 (c.toNat : Int)) &&& BitVec.ofInt (IntKind.bits .i64) (15 : Int)) : Nat) : Int) = ((c.toNat % 16 : Nat) : Int) := lead_bits c 4 (by decide)
theorem lead3 (c : UInt8) : IntKind.wrap .i64 ((BitVec.toNat (BitVec.ofInt (IntKind.bits .i64) (IntKind.wrap .i64 (c.toNat : Int)) &&& BitVec.ofInt (IntKind.bits .i64) (7 : Int)) : Nat) : Int) = ((c.toNat % 8 : Nat) : Int) := lead_bits c 3 (by decide)
theorem go_bits (a : Nat) (c : UInt8) (ha : a < 2 ^ 40) : IntKind.wrap .i64 ((BitVec.toNat (BitVec.ofInt (IntKind.bits .i64) (IntKind.wrap .i64 ((a : Int) * 2 ^ (min (Int.toNat (6 : Int)) (IntKind.bits .i64)))) ||| BitVec.ofInt (IntKind.bits .i64) (IntKind.wrap .i64 (IntKind.wrap .u8 ((BitVec.toNat (BitVec.ofInt (IntKind.bits .u8) (c.toNat : Int) &&& BitVec.ofInt (IntKind.bits .u8) (63 : Int)) : Nat) : Int)))) : Nat) : Int) = ((a * 64 + c.toNat % 64 : Nat) : Int) := by
  have hc := c.toNat_lt
  have h1 := and_lo (b := IntKind.bits .u8) (k := 6) (a := (c.toNat : Int)) (m := 63) (by omega) (by show (c.toNat : Int) < 2 ^ 8; omega) rfl (by decide)
  rw [h1, wrap8 (by omega) (by omega), wrap64 (a := (c.toNat : Int) % 2 ^ 6) (by omega) (by omega)]
  have e : ((2 : Int) ^ (min (Int.toNat (6 : Int)) (IntKind.bits .i64))) = 2 ^ 6 := rfl
  rw [e, wrap64 (a := (a : Int) * 2 ^ 6) (by omega) (by omega)]
  have h2 := or_shift (b := IntKind.bits .i64) (k := 6) (a := (a : Int)) (c := (c.toNat : Int) % 2 ^ 6) (by omega) (by omega) (by omega) (by show _ < (2 : Int) ^ 64; omega)
  rw [h2, wrap64 (by omega) (by omega)]
  omega
theorem first8_call {s : Sl} {b : UInt8} {r : Bs} (hB : By w s (b :: r)) {K : Int × Int × Unit → World → Prop} (hK : ∀ w', Ext w w' → K ((nx8 (b :: r)).1, ((nx8 (b :: r)).2 : Nat), ()) w') :
    callT Tryz.prog 194 #[.agg #[], .slice s.a s.len s.cap] (.tup [(.one (.int .i64)), (.one (.int .i64))]) K w := by
  refine F194_calls (a0 := ()) ?_
  unfold F194
  have hlen : r.length + 1 = s.len := hB.len
  have hb := b.toNat_lt
  refine newO_r fun _ w1 e1 _ _ _ => ?_
  have hB1 : By w1 s (b :: r) := hB.ext e1
  refine row_call hB1 ?_
  have hro := rowOf_le b r
  have hrb := rowOf_bnds b r
  have h4 := bnds_le b.toNat
  have hcap := hB.le
  replace hK := hK w1 e1
  simp only [nx8] at hK
  generalize hn : (rowOf (b :: r)).2 = n at *
  generalize hh : (rowOf (b :: r)).1 = h at *
  refine join_r (fun x w' => x = (decide (n = 0 ∨ h < n), ()) ∧ w1 = w') (sif_r (fun hc => ?_) (fun hc => ?_)) ?_
  · simp only [beq_iff_eq] at hc
    exact ⟨by rw [decide_eq_true (by omega)], rfl⟩
  · simp only [beq_eq_false_iff_ne] at hc
    refine ⟨tupb ?_, rfl⟩
    simp only [decide_eq_true_eq]; omega
  rintro _ w' ⟨rfl, rfl⟩
  refine sif_r (fun hc => ?_) (fun hc => ?_)
  · simp only [decide_eq_true_eq] at hc
    rw [if_pos hc] at hK
    refine ix_by hB1 (by decide) (b := b) rfl fun p => ?_
    rw [wrap64 (a := (b.toNat : Int)) (by omega) (by omega), wrap64 (by omega) (by omega)]
    exact hK
  simp only [decide_eq_false_iff_not] at hc
  rw [if_neg hc] at hK
  refine ix_by hB1 (by decide) (b := b) rfl fun p => ?_
  have hlt : lead n b.toNat < 256 := by unfold lead; repeat' split
                                        all_goals omega
  refine join_r (fun x w' => x = (((lead n b.toNat : Nat) : Int), ()) ∧ w1 = w') ?_ ?_
  · unfold lead
    refine sif_r (fun hc => ?_) (fun hc => sif_r (fun hc => ?_) (fun hc => sif_r (fun hc => ?_) (fun hc => ?_)))
    all_goals simp only [beq_iff_eq, beq_eq_false_iff_ne] at *
    · rw [lead5, if_pos (by omega)]; exact ⟨rfl, trivial⟩
    · rw [lead4, if_neg (by omega), if_pos (by omega)]; exact ⟨rfl, trivial⟩
    · rw [lead3, if_neg (by omega), if_neg (by omega), if_pos (by omega)]; exact ⟨rfl, trivial⟩
    · rw [if_neg (by omega), if_neg (by omega), if_neg (by omega), wrap64 (by omega) (by omega)]; exact ⟨rfl, trivial⟩
  rintro _ w' ⟨rfl, rfl⟩
  simp only
  generalize hld : lead n b.toNat = ld at *
  refine join_r (fun x w' => x = (((rest ld (r.take (n - 1)) : Nat) : Int), ()) ∧ w1 = w') ?_ ?_
  · simp only [List.length_cons] at hro
    refine slc_by hB1 (by decide) (by omega) (by omega) (by omega) (by omega) fun s' hs' hl' _ => ?_
    have hR : ((b :: r).drop (Int.toNat 1)).take (((n : Nat) : Int).toNat - Int.toNat 1) = r.take (n - 1) := by
      have : ((n : Nat) : Int).toNat - Int.toNat 1 = n - 1 := by omega
      rw [this]; rfl
    rw [hR] at hs'
    generalize hRR : r.take (n - 1) = R at *
    have hRl : R.length = s'.len := hs'.len
    have hR3 : R.length ≤ 3 := by rw [← hRR, List.length_take]; omega
    refine sloop_r (fun x w' => (∃ i : Nat, x = (((rest ld (R.take i) : Nat) : Int), (i : Int), ()) ∧ i ≤ R.length) ∧ w1 = w') (fun x _ => R.length - x.2.1.toNat) ⟨⟨0, by simp [rest], Nat.zero_le _⟩, rfl⟩ ?_
    rintro _ w' ⟨⟨i, rfl, hi⟩, rfl⟩
    refine sif_r (fun hc => ?_) (fun hc => ?_)
    · simp only [decide_eq_true_eq] at hc
      have hiR : i < R.length := by omega
      refine ix_by hs' (by simp only; omega) (b := R[i]) (by simp [hiR]) fun p => chk_r (by decide) ?_
      have hlt2 := rest_lt (R.take i) ld
      have hb2 : rest ld (R.take i) < 2 ^ 40 := by
        refine Nat.lt_of_lt_of_le hlt2 ?_
        have h1 : 64 ^ (R.take i).length ≤ 64 ^ 3 := Nat.pow_le_pow_right (by decide) (by rw [List.length_take]; omega)
        calc (ld + 1) * 64 ^ (R.take i).length ≤ 256 * 64 ^ 3 := Nat.mul_le_mul (by omega) h1
          _ ≤ 2 ^ 40 := by decide
      dsimp only
      rw [go_bits _ _ hb2]
      have e : rest ld (R.take i) * 64 + R[i].toNat % 64 = rest ld (R.take (i + 1)) := by
        rw [← rest_snoc, List.take_append_getElem]
      rw [e, wrap64 (by omega) (by omega)]
      exact ⟨⟨⟨i + 1, rfl, hiR⟩, rfl⟩, by omega⟩
    · simp only [decide_eq_false_iff_not] at hc
      have : i = R.length := by omega
      subst this
      rw [List.take_length]
      exact ⟨rfl, rfl⟩
  rintro _ w' ⟨rfl, rfl⟩
  exact hK
end
end Go.Proofs.YtabcpghhfeplaaaGreat
set_option linter.unusedSimpArgs false
set_option linter.unusedVariables false
set_option maxRecDepth 100000
namespace Go.Proofs.YtabcpghhfeplaaaGreat
open Go Go.Vx Cdc Gly
section
variable {w w' : World}
theorem wrap32 {a : Int} (h0 : -(2 ^ 31) ≤ a) (h : a < 2 ^ 31) : IntKind.wrap .i32 a = a := by
  simp only [IntKind.wrap, IntKind.signed, IntKind.bits]
  simp [Int.bmod_def]; omega
theorem gscalar_call {a : Int} {K : Bool → World → Prop} (hK : K (decide (Scalar a)) w) : callT Tryz.prog 95 #[.int .i64 a] (.one (.one .bool)) K w := by
  refine F95_calls ?_
  unfold F95
  have h1 : Scalar a → K true w := fun h => by rwa [decide_eq_true h] at hK
  have h2 : ¬ Scalar a → K false w := fun h => by rwa [decide_eq_false h] at hK
  unfold Scalar at h1 h2
  refine sif_r (fun h => sif_r (fun h' => ?_) (fun h' => sif_r (fun h'' => ?_) (fun h'' => ?_))) (fun h => sif_r (fun h'' => ?_) (fun h'' => ?_))
  all_goals simp only [decide_eq_true_eq, decide_eq_false_iff_not, gt_iff_lt, ge_iff_le] at *
  · exact h1 (by omega)
  · by_cases hc : a ≤ 1114111
    · rw [decide_eq_true hc]; exact h1 (by omega)
    · rw [decide_eq_false hc]; exact h2 (by omega)
  · exact h2 (by omega)
  · by_cases hc : a ≤ 1114111
    · rw [decide_eq_true hc]; exact h1 (by omega)
    · rw [decide_eq_false hc]; exact h2 (by omega)
  · exact h2 (by omega)
theorem iter_ext (w : World) (s : ByteArray) (pos : Nat) : Ext w (w.iter s pos) := Ext.alloc w _
theorem num_snoc (l : Bs) (c : UInt8) : num (l ++ [c]) = num l * 16 + digit c := by simp [num]
theorem number_call {d : ByteArray} (h : d.data.toList.all okC = true) (hs : d.size ≤ 5) {K : Int → World → Prop} (hK : ∀ w', Ext w w' → K ((num d.data.toList : Nat) : Int) w') :
    callT Tryz.prog 123 #[.string d] (.one (.one (.int .i64))) K w := by
  refine F123_calls ?_
  unfold F123
  have hl : d.data.toList.length = d.size := Array.length_toList
  refine join_r (fun x w' => x = (((num d.data.toList : Nat) : Int), ()) ∧ Ext w w') ?_ (fun x w' h => by obtain ⟨rfl, h⟩ := h; exact hK w' h)
  refine ⟨some (at0 w.heap.size), w.iter d 0, run_range_string w 9 d i9_ok.und, ?_⟩
  refine sloop_r (fun x W => ∃ j, j ≤ d.size ∧ x = (((num (d.data.toList.take j) : Nat) : Int), ()) ∧ W = w.iter d j) (fun _ W => match W.heap[w.heap.size]? with | some (.stringIter _ pos) => d.size - pos | _ => 0) ⟨0, Nat.zero_le _, rfl, rfl⟩ ?_
  rintro _ W ⟨j, hj, rfl, rfl⟩
  by_cases hlt : j < d.size
  · have hc : d.data.toList[j]? = some (d[j]'hlt) := by rw [List.getElem?_eq_getElem (by omega), Array.getElem_toList]; rfl
    have hok : okC (d[j]'hlt) = true := List.all_eq_true.1 h _ (List.mem_of_getElem? hc)
    have hok' := (okC_iff _).1 hok
    refine .inl ⟨_, _, _, run_next_ascii w d j 0 hlt (by omega), ?_⟩
    have hb := num_lt (d.data.toList.take j) (by rw [List.all_eq_true] at h ⊢; exact fun x hx => h x (List.mem_of_mem_take hx))
    have hb2 : num (d.data.toList.take j) < 16 ^ 4 := Nat.lt_of_lt_of_le hb (Nat.pow_le_pow_right (by decide) (by rw [List.length_take]; omega))
    have hn : num (d.data.toList.take (j + 1)) = num (d.data.toList.take j) * 16 + digit (d[j]'hlt) := by rw [List.take_add_one, hc]; exact num_snoc _ _
    refine sif_true (join_r (fun x W => x = (((digit (d[j]'hlt) : Nat) : Int), ()) ∧ W = w.iter d (j + 1)) ?_ ?_)
    · refine sif_r (fun hg => ?_) (fun hg => ?_)
      · simp only [decide_eq_true_eq, gt_iff_lt] at hg
        refine ⟨?_, rfl⟩
        rw [wrap32 (by omega) (by omega), wrap64 (a := ((d[j]'hlt).toNat : Int) - 65) (by omega) (by omega), wrap64 (by omega) (by omega)]
        unfold digit
        rw [if_pos (by omega)]
        congr 1; omega
      · simp only [decide_eq_false_iff_not, gt_iff_lt] at hg
        refine ⟨?_, rfl⟩
        rw [wrap32 (by omega) (by omega), wrap64 (by omega) (by omega)]
        unfold digit
        rw [if_neg (by omega)]
        congr 1; omega
    · rintro _ _ ⟨rfl, rfl⟩
      have hd : digit (d[j]'hlt) < 16 := by unfold digit; split <;> omega
      have ew : IntKind.wrap .i64 (IntKind.wrap .i64 (((num (d.data.toList.take j) : Nat) : Int) * 16) + ((digit (d[j]'hlt) : Nat) : Int)) = ((num (d.data.toList.take (j + 1)) : Nat) : Int) := by
        rw [hn, wrap64 (a := ((num (d.data.toList.take j) : Nat) : Int) * 16) (by omega) (by omega), wrap64 (by omega) (by omega)]; omega
      refine ⟨⟨j + 1, hlt, by dsimp only; rw [ew], rfl⟩, ?_⟩
      rw [World.iter_heap, World.iter_heap]
      show d.size - (j + 1) < d.size - j
      omega
  · refine .inr ⟨_, run_next_end w d j 0 hlt, sif_false ⟨?_, iter_ext w d j⟩⟩
    rw [List.take_of_length_le (by omega)]
theorem ex_list (b : ByteArray) (s e : Nat) : (b.extract s e).data.toList = (b.data.toList.drop s).take (e - s) := by
  rw [ByteArray.data_extract, Array.toList_extract]
theorem ex_size (b : ByteArray) (s e : Nat) (h : e ≤ b.size) : (b.extract s e).size = e - s := by
  have : (b.extract s e).data.toList.length = (b.extract s e).size := Array.length_toList
  have hb : b.data.toList.length = b.size := Array.length_toList
  rw [← this, ex_list, List.length_take, List.length_drop]; omega
theorem all_ex {b : ByteArray} (h : b.data.toList.all okC = true) (s e : Nat) : (b.extract s e).data.toList.all okC = true := by
  rw [ex_list]
  rw [List.all_eq_true] at h ⊢
  exact fun x hx => h x (List.mem_of_mem_drop (List.mem_of_mem_take hx))
theorem sought_call {rows : ByteArray} {n a : Nat} (hn : rows.size = 11 * n) (hs : n ≤ 1000) (hok : rows.data.toList.all okC = true) (hT : srt 0 (rowsN n rows.data.toList) = true) {K : Int → World → Prop}
    (hK : ∀ w', Ext w w' → K ((lkup (rowsN n rows.data.toList) a : Nat) : Int) w') : callT Tryz.prog 96 #[.string rows, .int .i64 (a : Int)] (.one (.one (.int .i64))) K w := by
  refine F96_calls ?_
  unfold F96
  refine chk_r (by decide) ?_
  have e0 : IntKind.wrap .i64 (Int.tdiv ((ByteArray.size rows : Nat) : Int) 11) = (n : Int) := by
    rw [hn, Int.tdiv_eq_ediv_of_nonneg (by omega), wrap64 (by omega) (by omega)]; omega
  rw [e0]
  refine join_r (fun _ w' => Ext w w' ∧ lkup (rowsN n rows.data.toList) a = 0) ?_ (fun _ w' h => by have := hK w' h.1; rwa [h.2] at this)
  refine sloop_r (fun x W => ∃ lo hi : Nat, x = ((lo : Int), (hi : Int), ()) ∧ lo ≤ hi ∧ hi ≤ n ∧ Ext w W ∧ (∀ (i : Nat) (r : Row), i < lo → (rowsN n rows.data.toList)[i]? = some r → r.hi < a) ∧ (∀ (i : Nat) (r : Row), hi ≤ i → (rowsN n rows.data.toList)[i]? = some r → a < r.lo)) (fun x _ => (x.2.1 - x.1).toNat)
    ⟨0, n, rfl, Nat.zero_le _, Nat.le_refl _, Ext.refl w, fun i r h => absurd h (Nat.not_lt_zero _), fun i r h hr => by
      have := (List.getElem?_eq_some_iff.1 hr).1
      rw [rowsN_len] at this; omega⟩ ?_
  rintro _ W ⟨lo, hi, rfl, hlh, hhn, e1, h1, h2⟩
  dsimp only
  refine sif_r (fun hc => ?_) (fun hc => ?_)
  · simp only [decide_eq_true_eq] at hc
    obtain ⟨m, hm⟩ : ∃ m, m = (lo + hi) / 2 := ⟨_, rfl⟩
    have hmn : m < n := by omega
    have em : IntKind.wrap .i64 (Int.tdiv (IntKind.wrap .i64 ((lo : Int) + (hi : Int))) 2) = (m : Int) := by
      rw [wrap64 (a := (lo : Int) + (hi : Int)) (by omega) (by omega), Int.tdiv_eq_ediv_of_nonneg (by omega), wrap64 (by omega) (by omega)]; omega
    have em1 : IntKind.wrap .i64 ((m : Int) + 1) = ((m + 1 : Nat) : Int) := by rw [wrap64 (by omega) (by omega)]; omega
    have e11 : IntKind.wrap .i64 ((m : Int) * 11) = ((11 * m : Nat) : Int) := by rw [wrap64 (by omega) (by omega)]; omega
    have e12 : IntKind.wrap .i64 (((m + 1 : Nat) : Int) * 11) = ((11 * m + 11 : Nat) : Int) := by rw [wrap64 (by omega) (by omega)]; omega
    rw [em, em1, e11, e12]
    simp only [Int.toNat_natCast]
    have sz : (rows.extract (11 * m) (11 * m + 11)).size = 11 := by rw [ex_size _ _ _ (by omega)]; omega
    rw [sz]
    have ll : (rows.extract (11 * m) (11 * m + 11)).data.toList = (rows.data.toList.drop (11 * m)).take 11 := by rw [ex_list]; congr 1; omega
    have hrow := rowsN_get n rows.data.toList m hmn
    have p1 : ((rows.extract (11 * m) (11 * m + 11)).extract (Int.toNat 0) (Int.toNat (5 : Int))).data.toList = (rows.data.toList.drop (11 * m)).take 5 := by
      rw [ex_list, ll]; show List.take 5 (List.drop 0 _) = _
      rw [List.drop_zero, List.take_take]; rfl
    have p2 : ((rows.extract (11 * m) (11 * m + 11)).extract (Int.toNat (5 : Int)) (Int.toNat (10 : Int))).data.toList = (rows.data.toList.drop (11 * m + 5)).take 5 := by
      rw [ex_list, ll]; show List.take 5 (List.drop 5 _) = _
      rw [List.drop_take, List.take_take, List.drop_drop]; rfl
    have p3 : ((rows.extract (11 * m) (11 * m + 11)).extract (Int.toNat (10 : Int)) 11).data.toList = (rows.data.toList.drop (11 * m + 10)).take 1 := by
      rw [ex_list, ll]; show List.take 1 (List.drop 10 _) = _
      rw [List.drop_take, List.take_take, List.drop_drop]; rfl
    have z1 : ((rows.extract (11 * m) (11 * m + 11)).extract (Int.toNat 0) (Int.toNat (5 : Int))).size ≤ 5 := by rw [ex_size _ _ _ (by rw [sz]; decide)]; decide
    have z2 : ((rows.extract (11 * m) (11 * m + 11)).extract (Int.toNat (5 : Int)) (Int.toNat (10 : Int))).size ≤ 5 := by rw [ex_size _ _ _ (by rw [sz]; decide)]; decide
    have z3 : ((rows.extract (11 * m) (11 * m + 11)).extract (Int.toNat (10 : Int)) 11).size ≤ 5 := by rw [ex_size _ _ _ (by rw [sz]; decide)]; decide
    refine chk_r (by decide) (chk_r (by omega) (chk_r (by omega) (number_call (all_ex (all_ex hok _ _) _ _) z1 fun w2 x2 => ?_)))
    rw [p1]
    refine sif_r (fun hlt => ?_) (fun hlt => ?_)
    · simp only [decide_eq_true_eq] at hlt
      refine ⟨⟨lo, m, rfl, by omega, by omega, e1.trans x2, h1, fun i r hi hr => ?_⟩, by omega⟩
      rcases Nat.lt_or_ge m i with hmi | hmi
      · have := srt_lt hT hmi hrow hr
        have := (srt_get hT hrow).2
        simp only at *; omega
      · have : i = m := by omega
        subst this
        rw [hrow] at hr; cases hr
        simp only; omega
    · simp only [decide_eq_false_iff_not] at hlt
      refine chk_r (by omega) (number_call (all_ex (all_ex hok _ _) _ _) z2 fun w3 x3 => ?_)
      rw [p2]
      refine sif_r (fun hgt => ?_) (fun hgt => ?_)
      · simp only [decide_eq_true_eq, gt_iff_lt] at hgt
        refine ⟨⟨m + 1, hi, rfl, by omega, hhn, (e1.trans x2).trans x3, fun i r hi hr => ?_, h2⟩, by omega⟩
        rcases Nat.lt_or_ge i m with hmi | hmi
        · have := srt_lt hT hmi hr hrow
          have := (srt_get hT hrow).2
          simp only at *; omega
        · have : i = m := by omega
          subst this
          rw [hrow] at hr; cases hr
          simp only; omega
      · simp only [decide_eq_false_iff_not, gt_iff_lt] at hgt
        refine chk_r (by omega) (number_call (all_ex (all_ex hok _ _) _ _) z3 fun w4 x4 => ?_)
        rw [p3]
        have := hK w4 (((e1.trans x2).trans x3).trans x4)
        rw [lkup_at hT hrow (by simp only; omega) (by simp only; omega)] at this
        exact this
  · simp only [decide_eq_false_iff_not] at hc
    refine ⟨e1, lkup_none fun i r hr => ?_⟩
    rcases Nat.lt_or_ge i lo with h | h
    · exact .inr (h1 i r h hr)
    · exact .inl (h2 i r (by omega) hr)
theorem cls_ok : bs_88441808.size = 11 * 324 ∧ bs_88441808.data.toList.all okC = true ∧ srt 0 clsT = true := ⟨by kernel_rfl, by kernel_rfl, by kernel_rfl⟩
theorem cnj_ok : bs_29aed6ba.size = 11 * 26 ∧ bs_29aed6ba.data.toList.all okC = true ∧ srt 0 cnjT = true := ⟨by kernel_rfl, by kernel_rfl, by kernel_rfl⟩
theorem wrd_ok : bs_94cae01e.size = 11 * 81 ∧ bs_94cae01e.data.toList.all okC = true ∧ srt 0 wrdT = true := ⟨by kernel_rfl, by kernel_rfl, by kernel_rfl⟩
theorem Scalar_nat {a : Int} (h : Scalar a) : ∃ n : Nat, a = (n : Int) ∧ n ≤ 1114111 := ⟨a.toNat, by rcases h with h | h <;> omega, by rcases h with h | h <;> omega⟩
theorem class_call {a : Int} {K : Int → World → Prop} (hK : ∀ w', Ext w w' → K ((cls a : Nat) : Int) w') : callT Tryz.prog 124 #[.int .i64 a] (.one (.one (.int .i64))) K w := by
  refine F124_calls ?_
  unfold F124
  refine gscalar_call (sif_r (fun h => ?_) (fun h => ?_))
  · simp only [Bool.not_eq_true', decide_eq_false_iff_not] at h
    have := hK w (Ext.refl w)
    unfold cls at this
    rw [if_neg h] at this
    exact this
  simp only [Bool.not_eq_false', decide_eq_true_eq] at h
  obtain ⟨n, rfl, hn⟩ := Scalar_nat h
  unfold cls at hK
  rw [if_pos h] at hK
  have ew : IntKind.wrap .i64 ((n : Int) - 44032) = (n : Int) - 44032 := wrap64 (by omega) (by omega)
  rw [ew]
  refine join_r (fun x w' => x = (decide (44032 ≤ n ∧ n < 55204), ()) ∧ w = w') ?_ ?_
  · refine sif_r (fun hg => ⟨tupb ?_, rfl⟩) (fun hg => ⟨tupb ?_, rfl⟩)
    · simp only [decide_eq_true_eq, ge_iff_le] at hg ⊢; omega
    · simp only [decide_eq_false_iff_not, decide_eq_true_eq, ge_iff_le] at hg ⊢
      exact ⟨(fun h => by cases h), fun h => by omega⟩
  rintro _ _ ⟨rfl, rfl⟩
  refine sif_r (fun hg => ?_) (fun hg => ?_)
  · simp only [decide_eq_true_eq] at hg
    refine chk_r (by decide) ?_
    have e1 : Int.tmod ((n : Int) - 44032) 28 = (((n - 44032) % 28 : Nat) : Int) := by rw [Int.tmod_eq_emod_of_nonneg (by omega)]; omega
    rw [e1]
    have := hK w (Ext.refl w)
    rw [if_pos (by omega), Int.toNat_natCast] at this
    refine sif_r (fun h0 => ?_) (fun h0 => ?_)
    · simp only [beq_iff_eq] at h0
      rw [if_pos (by omega)] at this; exact this
    · simp only [beq_eq_false_iff_ne] at h0
      rw [if_neg (by omega)] at this; exact this
  · simp only [decide_eq_false_iff_not] at hg
    rw [if_neg (by omega), Int.toNat_natCast] at hK
    exact sought_call cls_ok.1 (by decide) cls_ok.2.1 cls_ok.2.2 fun w1 x1 => hK w1 x1
theorem conjunct_call {a : Int} {K : Int → World → Prop} (hK : ∀ w', Ext w w' → K ((cnj a : Nat) : Int) w') : callT Tryz.prog 147 #[.int .i64 a] (.one (.one (.int .i64))) K w := by
  refine F147_calls ?_
  unfold F147
  unfold cnj at hK
  refine join_r (fun x w' => x = (decide (a = 2381 ∨ a = 2509 ∨ a = 2765 ∨ a = 2893 ∨ a = 3149 ∨ a = 3405), ()) ∧ w = w') ?_ ?_
  · refine sif_r (fun h => ⟨tupb ?_, rfl⟩) (fun h1 => sif_r (fun h => ⟨tupb ?_, rfl⟩) (fun h2 => sif_r (fun h => ⟨tupb ?_, rfl⟩) (fun h3 => sif_r (fun h => ⟨tupb ?_, rfl⟩) (fun h4 => sif_r (fun h => ⟨tupb ?_, rfl⟩) (fun h5 => ⟨tupb ?_, rfl⟩)))))
    all_goals simp only [beq_iff_eq, beq_eq_false_iff_ne, ne_eq, decide_eq_true_eq] at *
    all_goals omega
  rintro _ _ ⟨rfl, rfl⟩
  refine sif_r (fun h => ?_) (fun h => ?_)
  · simp only [decide_eq_true_eq] at h
    rw [if_pos h] at hK
    exact hK _ (Ext.refl _)
  simp only [decide_eq_false_iff_not] at h
  rw [if_neg h] at hK
  refine sif_r (fun h2 => ?_) (fun h2 => ?_)
  · simp only [beq_iff_eq] at h2
    rw [if_pos h2] at hK
    exact hK _ (Ext.refl _)
  simp only [beq_eq_false_iff_ne, ne_eq] at h2
  rw [if_neg h2] at hK
  refine join_r (fun _ w1 => Ext w w1 ∧ ¬ (cls a = 4 ∨ cls a = 5) ∧ ¬ (cls a = 0 ∧ Scalar a)) ?_ (fun _ w1 h3 => by
    have := hK w1 h3.1
    rw [if_neg h3.2.1, if_neg h3.2.2] at this
    exact this)
  refine class_call fun w1 e1 => join_r (fun x w2 => x = (decide (cls a = 4 ∨ cls a = 5), ()) ∧ w1 = w2) ?_ ?_
  · refine sif_r (fun h => ⟨tupb ?_, rfl⟩) (fun h => ⟨tupb ?_, rfl⟩)
    all_goals simp only [beq_iff_eq, beq_eq_false_iff_ne, ne_eq, decide_eq_true_eq] at *
    all_goals omega
  rintro _ _ ⟨rfl, rfl⟩
  refine sif_r (fun h => ?_) (fun h3 => ?_)
  · simp only [decide_eq_true_eq] at h
    rw [if_pos h] at hK
    exact hK _ e1
  simp only [decide_eq_false_iff_not] at h3
  rw [if_neg h3] at hK
  refine sif_r (fun h4 => ?_) (fun h4 => ?_)
  · simp only [beq_iff_eq] at h4
    refine gscalar_call (sif_r (fun h5 => ?_) (fun h5 => ?_))
    · simp only [decide_eq_true_eq] at h5
      rw [if_pos ⟨by omega, h5⟩] at hK
      obtain ⟨n, rfl, hn⟩ := Scalar_nat h5
      rw [Int.toNat_natCast] at hK
      exact sought_call cnj_ok.1 (by decide) cnj_ok.2.1 cnj_ok.2.2 fun w2 x2 => hK w2 (e1.trans x2)
    · simp only [decide_eq_false_iff_not] at h5
      exact ⟨e1, h3, fun h => h5 h.2⟩
  · simp only [beq_eq_false_iff_ne, ne_eq] at h4
    exact ⟨e1, h3, fun h => h4 (by rw [h.1]; rfl)⟩
theorem word_call {a : Int} {K : Int → World → Prop} (hK : ∀ w', Ext w w' → K ((wrd a : Nat) : Int) w') : callT Tryz.prog 69 #[.int .i64 a] (.one (.one (.int .i64))) K w := by
  refine F69_calls ?_
  unfold F69
  unfold wrd at hK
  refine gscalar_call (sif_r (fun h => ?_) (fun h => ?_))
  · simp only [Bool.not_eq_true', decide_eq_false_iff_not] at h
    have := hK w (Ext.refl w)
    rw [if_neg h] at this
    exact this
  simp only [Bool.not_eq_false', decide_eq_true_eq] at h
  rw [if_pos h] at hK
  obtain ⟨n, rfl, hn⟩ := Scalar_nat h
  rw [Int.toNat_natCast] at hK
  refine sought_call wrd_ok.1 (by decide) wrd_ok.2.1 wrd_ok.2.2 fun w1 x1 => ?_
  have := hK w1 x1
  show sif (((lkup wrdT n : Nat) : Int) == 2) _ _ w1
  refine sif_r (fun h2 => ?_) (fun h2 => ?_)
  · simp only [beq_iff_eq] at h2
    rw [if_pos (by omega)] at this
    exact this
  · simp only [beq_eq_false_iff_ne, ne_eq] at h2
    rw [if_neg (by omega)] at this
    show sif (((lkup wrdT n : Nat) : Int) == 1) _ _ w1
    refine sif_r (fun h3 => ?_) (fun h3 => ?_)
    · simp only [beq_iff_eq] at h3
      rw [if_pos (by omega)] at this
      exact this
    · simp only [beq_eq_false_iff_ne, ne_eq] at h3
      rw [if_neg (by omega)] at this
      exact this
end
end Go.Proofs.YtabcpghhfeplaaaGreat
set_option linter.unusedSimpArgs false
set_option linter.unusedVariables false
set_option maxRecDepth 100000
namespace Go.Proofs.YtabcpghhfeplaaaGreat
open Go Go.Vx Trx
section
variable {w w' : World}
def smT (s : Sums) : Cells.T c110 := ((s.atoms : Int), (s.bytes : Int), (s.breaks : Int), s.lf, s.cr, ())
def pcT (x : Pc) : Cells.T c112 := (x.bytes, x.tag, (x.sm.atoms : Int), (x.sm.bytes : Int), (x.sm.breaks : Int), x.sm.lf, x.sm.cr, ())
abbrev smV (s : Sums) : Value := .agg (Cells.vals c110 (smT s)).toArray
abbrev pcV (x : Pc) : Value := .agg (Cells.vals c112 (pcT x)).toArray
theorem meth_x0 {ty : TypeId} {v v' : Value} {name : String} {f : FuncId} {t : RTy} {K : t.T → World → Prop} (hm : ∀ w, (Go.method (Tryz.prog.types.size + Made.depth) ty v name).run Tryz.prog w = .ok (f, v') w)
    (hf : ((Tryz.prog.funcs[f]?).map fun fn => (fn.body.isNone, fn.name == "runtime.NumGoroutine")) = some (false, false)) (h : callT Tryz.prog f #[v'] t K w) :
    callX Tryz.prog (invoke (.fn (.method name) #[]) (#[.iface ty v] ++ #[])) t K w := by
  refine .inl ⟨f, #[v'], ?_, h⟩
  have h := run_callFunc (P := Tryz.prog) (f := f) (args := #[v']) hf w
  have e : invoke (.fn (.method name) #[]) (#[.iface ty v] ++ #[]) = callMethod (.iface ty v) name #[] := rfl
  rw [e]
  simp only [callMethod, Sem.run_bind, program, Sem.run, Result.andThen_ok, hm]
  exact h
theorem add_call {s o : Sums} (hs : s.Ok) (ho : o.Ok) (hb : s.bytes + o.bytes < 2 ^ 60) {K : Cells.T c110 → World → Prop} (hK : ∀ w', Ext w w' → K (smT (s.add o)) w') :
    callT Tryz.prog 86 #[smV s, smV o] (.one (.agg c110)) K w := by
  have h1 := hs.byt; have h2 := hs.brk; have h3 := ho.byt; have h4 := ho.brk
  refine F86_calls (a0 := smT s) (a1 := smT o) ?_
  unfold F86
  refine (St.start w).newO fun b1 w1 S1 e1 => S1.newO fun b2 w2 S2 e2 => S2.newO fun b3 w3 S3 e3 => ?_
  refine S3.ld 2 rfl (x := ((s.atoms : Nat) : Int)) rfl ?_
  refine sif_r (fun h => ?_) (fun h => ?_)
  · have h0 : s.atoms = 0 := by simp only [beq_iff_eq] at h; omega
    refine S3.lds 1 (smT o) rfl (S3.aggSt 0 rfl rfl rfl rfl fun w4 S4 u4 => S4.lds 0 (smT o) rfl ?_)
    have := hK w4 S4.upd
    rwa [show s.add o = o by unfold Sums.add; rw [if_pos h0]] at this
  have h0 : ¬ s.atoms = 0 := by simp only [beq_eq_false_iff_ne] at h; omega
  refine S3.ld 1 rfl (x := ((o.atoms : Nat) : Int)) rfl (sif_r (fun h => ?_) (fun h => ?_))
  · have h0' : o.atoms = 0 := by simp only [beq_iff_eq] at h; omega
    refine S3.lds 2 (smT s) rfl (S3.aggSt 0 rfl rfl rfl rfl fun w4 S4 u4 => S4.lds 0 (smT s) rfl ?_)
    have := hK w4 S4.upd
    rwa [show s.add o = s by unfold Sums.add; rw [if_neg h0, if_pos h0']] at this
  have h0' : ¬ o.atoms = 0 := by simp only [beq_eq_false_iff_ne] at h; omega
  refine S3.ld 2 rfl (x := ((s.atoms : Nat) : Int)) rfl (S3.ld 1 rfl (x := ((o.atoms : Nat) : Int)) rfl (S3.ld 2 rfl (x := ((s.bytes : Nat) : Int)) rfl (S3.ld 1 rfl (x := ((o.bytes : Nat) : Int)) rfl
    (S3.ld 2 rfl (x := ((s.breaks : Nat) : Int)) rfl (S3.ld 1 rfl (x := ((o.breaks : Nat) : Int)) rfl (S3.ld 2 rfl (x := s.lf) rfl (S3.ld 1 rfl (x := o.cr) rfl ?_)))))))
  rw [wrap64 (a := ((s.atoms : Nat) : Int) + ((o.atoms : Nat) : Int)) (by omega) (by omega), wrap64 (a := ((s.bytes : Nat) : Int) + ((o.bytes : Nat) : Int)) (by omega) (by omega), wrap64 (a := ((s.breaks : Nat) : Int) + ((o.breaks : Nat) : Int)) (by omega) (by omega)]
  refine S3.newAgg rfl rfl rfl fun b4 w4 S4 e4 => ?_
  refine join_r (fun _ w' => St (fun _ => False) w w' [(b4, .cells (Cells.vals c110 (smT (s.add o))).toArray 110 (0, 0)), (b3, .cells #[(.int .i64 0), (.int .i64 0), (.int .i64 0), (.bool false), (.bool false)] 110 (0, 0))]) ?_ ?_
  · refine join_r (fun x w' => x = (s.cr && o.lf, ()) ∧ w4 = w') (S4.ld 3 rfl (x := s.cr) rfl (sif_r (fun h => S4.ld 2 rfl (x := o.lf) rfl ⟨by rw [h]; rfl, rfl⟩) (fun h => ⟨by rw [h]; rfl, rfl⟩))) ?_
    rintro _ w' ⟨rfl, rfl⟩
    have lf := hs.cr; have lf' := ho.lf
    refine sif_r (fun h => ?_) (fun h => ?_)
    · have h' : (s.cr && o.lf) = true := h
      simp only [Bool.and_eq_true] at h'
      have := lf h'.1; have := lf' h'.2
      refine S4.ld 0 rfl (x := ((s.breaks : Nat) : Int) + ((o.breaks : Nat) : Int)) rfl ?_
      rw [wrap64 (by omega) (by omega)]
      refine S4.stC 0 rfl (by simp) fun w5 S5 u5 => ?_
      have e : s.add o = ⟨s.atoms + o.atoms, s.bytes + o.bytes, s.breaks + o.breaks - 1, s.lf, o.cr⟩ := by unfold Sums.add; rw [if_neg h0, if_neg h0', if_pos h]
      rw [e]
      have e2 : ((s.breaks : Nat) : Int) + ((o.breaks : Nat) : Int) - 1 = ((s.breaks + o.breaks - 1 : Nat) : Int) := by omega
      rw [e2] at S5
      exact ⟨S5.upd, S5.old, fun x hx => S5.loc x (by
        rcases List.mem_cons.1 hx with rfl | hx
        · exact List.mem_cons_self
        · rw [List.mem_singleton.1 hx]; exact List.mem_cons_of_mem _ List.mem_cons_self), by
        have := S5.nd
        simp at this ⊢
        exact this.1.1⟩
    · have e : s.add o = ⟨s.atoms + o.atoms, s.bytes + o.bytes, s.breaks + o.breaks, s.lf, o.cr⟩ := by
        have h' : ¬ (s.cr && o.lf) = true := fun hh => by
          have hf : (s.cr && o.lf) = false := h
          rw [hh] at hf; cases hf
        unfold Sums.add; rw [if_neg h0, if_neg h0', if_neg h']; rfl
      rw [e]
      exact ⟨S4.upd, S4.old, fun x hx => S4.loc x (by
        rcases List.mem_cons.1 hx with rfl | hx
        · exact List.mem_cons_self
        · rw [List.mem_singleton.1 hx]; exact List.mem_cons_of_mem _ List.mem_cons_self), by
        have := S4.nd
        simp at this ⊢
        exact this.1.1⟩
  · intro _ w5 S5
    exact S5.lds 0 (smT (s.add o)) rfl (S5.aggSt 1 rfl rfl rfl rfl fun w6 S6 u6 => S6.lds 1 (smT (s.add o)) rfl (hK w6 S6.upd))
theorem add_x {s o : Sums} (hs : s.Ok) (ho : o.Ok) (hb : s.bytes + o.bytes < 2 ^ 60) {K : Cells.T c110 → World → Prop} (hK : ∀ w', Ext w w' → K (smT (s.add o)) w') :
    callX Tryz.prog (invoke (.fn (.method "Add") #[]) (#[.iface 110 (smV s)] ++ #[smV o])) (.one (.agg c110)) K w :=
  meth_x (f := 86) (v' := smV s) (fun w => by kernel_rfl) (by kernel_rfl) (add_call hs ho hb hK)
theorem measure_x {x : Pc} {K : Cells.T c110 → World → Prop} (hK : ∀ w', Ext w w' → K (smT x.sm) w') :
    callX Tryz.prog (invoke (.fn (.method "Measure") #[]) (#[.iface 112 (pcV x)] ++ #[])) (.one (.agg c110)) K w := by
  refine meth_x0 (f := 193) (v' := pcV x) (fun w => by kernel_rfl) (by kernel_rfl) ?_
  refine F193_calls (a0 := pcT x) ?_
  unfold F193
  refine (St.start w).newO fun b1 w1 S1 e1 => S1.newO fun b2 w2 S2 e2 => ?_
  refine lds_r (S2.at_ 1 rfl) (x := smT x.sm) (fun i v hv => ?_) (S2.aggSt 0 rfl rfl rfl rfl fun w3 S3 u3 => S3.lds 0 (smT x.sm) rfl (hK w3 S3.upd))
  match i, hv with
  | 0, hv => exact hv
  | 1, hv => exact hv
  | 2, hv => exact hv
  | 3, hv => exact hv
  | 4, hv => exact hv
  | i + 5, hv => cases hv
theorem key_x {s : Sums} {k : Nat} (hk : k < 2) {K : Int → World → Prop} (hK : ∀ w', Ext w w' → K (if k = 0 then (s.atoms : Int) else (s.breaks : Int)) w') :
    callX Tryz.prog (invoke (.fn (.method "Key") #[]) (#[.iface 110 (smV s)] ++ #[.int .i64 (k : Int)])) (.one (.one (.int .i64))) K w := by
  refine meth_x (f := 192) (v' := smV s) (fun w => by kernel_rfl) (by kernel_rfl) ?_
  refine F192_calls (a0 := smT s) ?_
  unfold F192
  refine (St.start w).newO fun b1 w1 S1 e1 => ?_
  have := hK w1 e1
  match k, hk with
  | 0, _ => exact sif_r (fun _ => S1.ld 0 rfl (x := ((s.atoms : Nat) : Int)) rfl this) (fun h => by cases h)
  | 1, _ => exact sif_r (fun h => by cases h) (fun _ => sif_r (fun _ => S1.ld 0 rfl (x := ((s.breaks : Nat) : Int)) rfl this) (fun h => by cases h))
end
end Go.Proofs.YtabcpghhfeplaaaGreat
