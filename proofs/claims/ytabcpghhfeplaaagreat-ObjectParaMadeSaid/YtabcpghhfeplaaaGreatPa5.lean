/- YtabcpghhfeplaaaGreatPa5: parts of the proof, put together by program. -/
import Derived.Test.YtabcpghhfeplaaaGreatPa4
set_option linter.unusedVariables false
set_option linter.unusedSimpArgs false
set_option linter.unusedSectionVars false
set_option linter.unusedSimpArgs false
set_option linter.unusedVariables false
set_option maxRecDepth 100000
set_option linter.unusedVariables false
namespace Go.Proofs.YtabcpghhfeplaaaGreat
open Go Go.Vx
noncomputable def F19 (a0 : Option Addr) (a1 : Int) (a2 : (Int × Int × Int × Unit)) (K : ((Int × Int × Int × Unit) × Int × Unit) → World → Prop) : World → Prop :=
 newO (.cells #[(.int .i64 a2.1), (.int .i64 a2.2.1), (.int .i64 a2.2.2.1)] 39) fun b1 =>
 newO (.cells #[(.int .i64 (0 : Int)), (.int .i64 (0 : Int)), (.int .i64 (0 : Int))] 34) fun b2 =>
 lds c39 (at0 b1) fun (x3 : (Int × Int × Int × Unit)) =>
 callT Tryz.prog 37 #[(.pointer a0), (.int .i64 a1), (.agg (Cells.vals c39 x3).toArray), (.int .i64 (67 : Int)), (.int .i64 (68 : Int))] (.one (.one (.int .i64))) fun (x4 : Int) =>
 ld (.int .i64) (⟨b1, 2, none⟩ : Addr) fun (x5 : Int) =>
 callT Tryz.prog 38 #[(.int .i64 x5)] (.tup [(.one (.int .i64)), (.one .bool)]) fun (x6 : (Int × Bool × Unit)) =>
 join (S := Bool × Unit) (fun J7 =>
 sif (x4 == (1 : Int)) (
 J7 (true, ())) (
 J7 ((!x6.2.1), ()))) fun (s8 : Bool × Unit) =>
 sif s8.1 (
 aggSt (at0 b2) (.agg #[(.int .i64 (0 : Int)), (.int .i64 (0 : Int)), (.int .i64 (0 : Int))]) 3 <|
 lds c34 (at0 b2) fun (x9 : (Int × Int × Int × Unit)) =>
 K (x9, (1 : Int), ())) (
 sif (x4 != (0 : Int)) (
 aggSt (at0 b2) (.agg #[(.int .i64 (0 : Int)), (.int .i64 (0 : Int)), (.int .i64 (0 : Int))]) 3 <|
 lds c34 (at0 b2) fun (x10 : (Int × Int × Int × Unit)) =>
 K (x10, x4, ())) (
 callT Tryz.prog 40 #[(.pointer a0)] (.one (.one (.int .i64))) fun (x11 : Int) =>
 callT Tryz.prog 23 #[(.pointer a0), (.int .i64 (0 : Int)), (.int .i64 x11)] (.one (.one .sl)) fun (x12 : Sl) =>
 callT Tryz.prog 39 #[(.slice x12.a x12.len x12.cap), (.int .i64 (0 : Int))] (.one (.one .sl)) fun (x13 : Sl) =>
 join (S := Int × Unit) (fun J14 =>
 sloop (S := Int × Unit) (fun (s16 : Int × Unit) again17 =>
 join (S := Bool × Unit) (fun J18 =>
 sif (decide (s16.1 < ((x13.len : Nat) : Int))) (
 ix x13.a x13.len s16.1 fun p20 =>
 ld (.int .i64) ((p20.add (scaled (Int.toNat s16.1) 5)).add 1) fun (x21 : Int) =>
 J18 ((decide (a1 ≥ x21)), ())) (
 J18 (false, ()))) fun (s19 : Bool × Unit) =>
 sif s19.1 (
 again17 ((IntKind.wrap .i64 (s16.1 + (1 : Int))), ())) (
 J14 (s16.1, ()))) ((0 : Int), ())) fun (s15 : Int × Unit) =>
 join (S := Bool × Unit) (fun J22 =>
 sif (s15.1 == ((x13.len : Nat) : Int)) (
 J22 (true, ())) (
 lds c39 (at0 b1) fun (x24 : (Int × Int × Int × Unit)) =>
 callT Tryz.prog 41 #[(.agg (Cells.vals c39 x24).toArray)] (.one (.one (.int .i64))) fun (x25 : Int) =>
 J22 ((decide (x25 > ((x13.len : Nat) : Int))), ()))) fun (s23 : Bool × Unit) =>
 sif s23.1 (
 aggSt (at0 b2) (.agg #[(.int .i64 (0 : Int)), (.int .i64 (0 : Int)), (.int .i64 (0 : Int))]) 3 <|
 lds c34 (at0 b2) fun (x26 : (Int × Int × Int × Unit)) =>
 K (x26, (90 : Int), ())) (
 join (S := Int × Int × Unit) (fun J27 =>
 drew <|
 ix x13.a x13.len s15.1 fun p29 =>
 lds c72 (p29.add (scaled (Int.toNat s15.1) 5)) fun (x30 : (Int × Int × Int × Bool × Int × Unit)) =>
 ld (.int .i64) (⟨b1, 2, none⟩ : Addr) fun (x31 : Int) =>
 callT Tryz.prog 42 #[(.agg (Cells.vals c72 x30).toArray), (.int .i64 x31)] (.one (.one .bool)) fun (x32 : Bool) =>
 sif x32 (
 J27 (s15.1, (IntKind.wrap .i64 (s15.1 + (1 : Int))), ())) (
 J27 ((IntKind.wrap .i64 (s15.1 - (1 : Int))), s15.1, ()))) fun (s28 : Int × Int × Unit) =>
 drew <|
 ld (.int .i64) (⟨b1, 2, none⟩ : Addr) fun (x33 : Int) =>
 lds c39 (at0 b1) fun (x34 : (Int × Int × Int × Unit)) =>
 callT Tryz.prog 41 #[(.agg (Cells.vals c39 x34).toArray)] (.one (.one (.int .i64))) fun (x35 : Int) =>
 keep (fun w => w.cell? (⟨b1, 2, none⟩ : Addr) = some (Cell.val (.int .i64) x33)) <|
 callT Tryz.prog 43 #[(.slice x13.a x13.len x13.cap), (.int .i64 s28.1), (.int .i64 (-1 : Int)), (.int .i64 x33), (.int .i64 x6.1), (.int .i64 x35)] (.one (.one (.int .i64))) fun (x36 : Int) =>
 drew <|
 ld (.int .i64) (⟨b1, 2, none⟩ : Addr) fun (x37 : Int) =>
 lds c39 (at0 b1) fun (x38 : (Int × Int × Int × Unit)) =>
 callT Tryz.prog 41 #[(.agg (Cells.vals c39 x38).toArray)] (.one (.one (.int .i64))) fun (x39 : Int) =>
 keep (fun w => w.cell? (⟨b1, 2, none⟩ : Addr) = some (Cell.val (.int .i64) x37)) <|
 callT Tryz.prog 43 #[(.slice x13.a x13.len x13.cap), (.int .i64 s28.2.1), (.int .i64 (1 : Int)), (.int .i64 x6.1), (.int .i64 x37), (.int .i64 x39)] (.one (.one (.int .i64))) fun (x40 : Int) =>
 join (S := Bool × Unit) (fun J41 =>
 sif (decide (x36 < (0 : Int))) (
 J41 (true, ())) (
 J41 ((decide (x40 < (0 : Int))), ()))) fun (s42 : Bool × Unit) =>
 sif s42.1 (
 aggSt (at0 b2) (.agg #[(.int .i64 (0 : Int)), (.int .i64 (0 : Int)), (.int .i64 (0 : Int))]) 3 <|
 lds c34 (at0 b2) fun (x43 : (Int × Int × Int × Unit)) =>
 K (x43, (90 : Int), ())) (
 ld (.int .i64) (at0 b1) fun (x44 : Int) =>
 sif (x44 == (67 : Int)) (
 drew <|
 ix x13.a x13.len x36 fun p45 =>
 lds c72 (p45.add (scaled (Int.toNat x36) 5)) fun (x46 : (Int × Int × Int × Bool × Int × Unit)) =>
 ix x13.a x13.len x40 fun p47 =>
 lds c72 (p47.add (scaled (Int.toNat x40) 5)) fun (x48 : (Int × Int × Int × Bool × Int × Unit)) =>
 callT Tryz.prog 44 #[(.pointer a0), (.agg (Cells.vals c72 x46).toArray), (.agg (Cells.vals c72 x48).toArray)] (.one (.agg c34)) fun (x49 : (Int × Int × Int × Unit)) =>
 aggSt (at0 b2) (.agg (Cells.vals c34 x49).toArray) 3 <|
 lds c34 (at0 b2) fun (x50 : (Int × Int × Int × Unit)) =>
 K (x50, (0 : Int), ())) (
 drew <|
 ix x13.a x13.len x36 fun p51 =>
 ld (.int .i64) (p51.add (scaled (Int.toNat x36) 5)) fun (x52 : Int) =>
 ix x13.a x13.len x40 fun p53 =>
 ld (.int .i64) ((p53.add (scaled (Int.toNat x40) 5)).add 1) fun (x54 : Int) =>
 aggSt (at0 b2) (.agg #[(.int .i64 x52), (.int .i64 x54), (.int .i64 (0 : Int))]) 3 <|
 lds c34 (at0 b2) fun (x55 : (Int × Int × Int × Unit)) =>
 K (x55, (0 : Int), ()))))))
noncomputable def h19 : Hint := (.seq none (.region [] (.ops 3 .done)) (.seq none (.region [] (.ops 5 .done)) (.seq none (.region [] (.ops 8 .done)) (.seq none (.seq (some (8455716864, [(32, (.one .bool))])) (.region [] (.ops 3 (.split 29 (.skips 2 (.ops 1 .done)) (.ops 3 .done)))) (.cond none (.seq none (.region [] (.ops 3 .done)) .leaf) .leaf)) (.seq none (.seq none (.region [] (.ops 2 .done)) (.cond none (.seq none (.region [] (.ops 4 .done)) .leaf) .leaf)) (.seq none (.region [] (.ops 6 .done)) (.seq none (.region [] (.ops 1 .done)) (.seq (some (288221580058693632, [(12, (.one (.int .i64)))])) (.block (.loop 288221580058693632 [(12, (.one (.int .i64)))] (.seq none (.seq (some (72048797944905728, [(55, (.one .bool))])) (.region [] (.ops 5 (.split 47 (.ops 8 .done) (.skips 7 (.ops 1 .done))))) (.cond none .leaf .leaf)) (.block (.region [] (.ops 3 .done)))))) (.seq none (.seq (some (590007579982553939968, [(68, (.one .bool))])) (.region [] (.ops 5 (.split 62 (.skips 5 (.ops 1 .done)) (.ops 6 .done)))) (.cond none (.seq none (.region [] (.ops 3 .done)) .leaf) .leaf)) (.seq none (.region [] (.ops 6 .done)) (.seq (some (9652517090985554816819200, [(13, (.one (.int .i64))), (14, (.one (.int .i64)))])) (.seq none (.region [0, 1, 2, 3, 4, 5, 6] (.ops 7 .done)) (.cond none (.region [] (.ops 2 .done)) (.region [] (.ops 2 .done)))) (.seq none (.region [0, 1, 2, 3, 4, 5, 6, 7, 8] (.ops 9 .done)) (.seq none (.region [0, 1, 2, 3, 4, 5, 6, 7, 8] (.ops 9 .done)) (.seq none (.block (.seq (some (80495813114492566995040653541376, [(99, (.one .bool))])) (.region [] (.ops 3 (.split 102 (.skips 2 (.ops 2 .done)) (.ops 4 .done)))) (.cond none (.seq none (.region [] (.ops 3 .done)) .leaf) (.seq none (.region [] (.ops 4 .done)) (.cond none (.seq none (.region [0, 1, 2, 3, 4, 5, 6, 7, 8, 9, 10, 11] (.ops 12 .done)) .leaf) .leaf))))) (.seq none (.region [0, 1, 2, 3, 4, 5, 6, 7, 8, 9, 10, 11, 12] (.ops 13 .done)) .leaf)))))))))))))))
theorem F19_tie (a0 : Option Addr) (a1 : Int) (a2 : (Int × Int × Int × Unit)) (K : ((Int × Int × Int × Unit) × Int × Unit) → World → Prop) : vcgF tab Tryz.prog Tryz.f19 h19 [(.pointer a0), (.int .i64 a1), (.agg (Cells.vals c39 a2).toArray)] (.tup [(.agg c34), (.one (.int .i64))]) K = F19 a0 a1 a2 K := by kernel_rfl
theorem F19_calls {a0 : Option Addr} {a1 : Int} {a2 : (Int × Int × Int × Unit)} {K : ((Int × Int × Int × Unit) × Int × Unit) → World → Prop} {w : World} (h : F19 a0 a1 a2 K w) : callT Tryz.prog 19 #[(.pointer a0), (.int .i64 a1), (.agg (Cells.vals c39 a2).toArray)] (.tup [(.agg c34), (.one (.int .i64))]) K w :=
  vcgF_sound tabOk Tryz.func19 h19 [(.pointer a0), (.int .i64 a1), (.agg (Cells.vals c39 a2).toArray)] (.tup [(.agg c34), (.one (.int .i64))]) K w (Eq.mpr (congrFun (F19_tie a0 a1 a2 K) w) h)
noncomputable def F20 (a0 : Option Addr) (a1 : Int) (a2 : (Int × Int × Int × Unit)) (K : ((Int × Int × Int × Unit) × Int × Unit) → World → Prop) : World → Prop :=
 newO (.cells #[(.int .i64 a2.1), (.int .i64 a2.2.1), (.int .i64 a2.2.2.1)] 39) fun b1 =>
 newO (.cells #[(.int .i64 (0 : Int)), (.int .i64 (0 : Int)), (.int .i64 (0 : Int))] 34) fun b2 =>
 ld (.int .i64) (at0 b1) fun (x3 : Int) =>
 sif (decide (x3 ≤ (64 : Int))) (
 lds c39 (at0 b1) fun (x4 : (Int × Int × Int × Unit)) =>
 callT Tryz.prog 29 #[(.pointer a0), (.int .i64 a1), (.agg (Cells.vals c39 x4).toArray)] (.tup [(.agg c34), (.one (.int .i64))]) fun (x5 : ((Int × Int × Int × Unit) × Int × Unit)) =>
 aggSt (at0 b2) (.agg (Cells.vals c34 x5.1).toArray) 3 <|
 lds c34 (at0 b2) fun (x6 : (Int × Int × Int × Unit)) =>
 K (x6, x5.2.1, ())) (
 ld (.int .i64) (at0 b1) fun (x7 : Int) =>
 sif (decide (x7 ≤ (66 : Int))) (
 lds c39 (at0 b1) fun (x8 : (Int × Int × Int × Unit)) =>
 callT Tryz.prog 31 #[(.pointer a0), (.int .i64 a1), (.agg (Cells.vals c39 x8).toArray)] (.tup [(.agg c34), (.one (.int .i64))]) fun (x9 : ((Int × Int × Int × Unit) × Int × Unit)) =>
 aggSt (at0 b2) (.agg (Cells.vals c34 x9.1).toArray) 3 <|
 lds c34 (at0 b2) fun (x10 : (Int × Int × Int × Unit)) =>
 K (x10, x9.2.1, ())) (
 ld (.int .i64) (at0 b1) fun (x11 : Int) =>
 sif (decide (x11 ≤ (68 : Int))) (
 lds c39 (at0 b1) fun (x12 : (Int × Int × Int × Unit)) =>
 callT Tryz.prog 19 #[(.pointer a0), (.int .i64 a1), (.agg (Cells.vals c39 x12).toArray)] (.tup [(.agg c34), (.one (.int .i64))]) fun (x13 : ((Int × Int × Int × Unit) × Int × Unit)) =>
 aggSt (at0 b2) (.agg (Cells.vals c34 x13.1).toArray) 3 <|
 lds c34 (at0 b2) fun (x14 : (Int × Int × Int × Unit)) =>
 K (x14, x13.2.1, ())) (
 lds c39 (at0 b1) fun (x15 : (Int × Int × Int × Unit)) =>
 callT Tryz.prog 33 #[(.pointer a0), (.int .i64 a1), (.agg (Cells.vals c39 x15).toArray)] (.tup [(.agg c34), (.one (.int .i64))]) fun (x16 : ((Int × Int × Int × Unit) × Int × Unit)) =>
 aggSt (at0 b2) (.agg (Cells.vals c34 x16.1).toArray) 3 <|
 lds c34 (at0 b2) fun (x17 : (Int × Int × Int × Unit)) =>
 K (x17, x16.2.1, ()))))
noncomputable def h20 : Hint := (.seq none (.region [] (.ops 3 .done)) (.seq none (.block (.seq none (.region [] (.ops 4 .done)) (.cond none (.seq none (.region [] (.ops 8 .done)) .leaf) (.seq none (.region [] (.ops 4 .done)) (.cond none (.seq none (.region [] (.ops 8 .done)) .leaf) (.seq none (.region [] (.ops 4 .done)) (.cond none (.seq none (.region [] (.ops 8 .done)) .leaf) .leaf))))))) (.seq none (.region [] (.ops 8 .done)) .leaf)))
theorem F20_tie (a0 : Option Addr) (a1 : Int) (a2 : (Int × Int × Int × Unit)) (K : ((Int × Int × Int × Unit) × Int × Unit) → World → Prop) : vcgF tab Tryz.prog Tryz.f20 h20 [(.pointer a0), (.int .i64 a1), (.agg (Cells.vals c39 a2).toArray)] (.tup [(.agg c34), (.one (.int .i64))]) K = F20 a0 a1 a2 K := by kernel_rfl
theorem F20_calls {a0 : Option Addr} {a1 : Int} {a2 : (Int × Int × Int × Unit)} {K : ((Int × Int × Int × Unit) × Int × Unit) → World → Prop} {w : World} (h : F20 a0 a1 a2 K w) : callT Tryz.prog 20 #[(.pointer a0), (.int .i64 a1), (.agg (Cells.vals c39 a2).toArray)] (.tup [(.agg c34), (.one (.int .i64))]) K w :=
  vcgF_sound tabOk Tryz.func20 h20 [(.pointer a0), (.int .i64 a1), (.agg (Cells.vals c39 a2).toArray)] (.tup [(.agg c34), (.one (.int .i64))]) K w (Eq.mpr (congrFun (F20_tie a0 a1 a2 K) w) h)
noncomputable def F29 (a0 : Option Addr) (a1 : Int) (a2 : (Int × Int × Int × Unit)) (K : ((Int × Int × Int × Unit) × Int × Unit) → World → Prop) : World → Prop :=
 newO (.cells #[(.int .i64 a2.1), (.int .i64 a2.2.1), (.int .i64 a2.2.2.1)] 39) fun b1 =>
 newO (.cells #[(.int .i64 (0 : Int)), (.int .i64 (0 : Int)), (.int .i64 (0 : Int))] 34) fun b2 =>
 lds c39 (at0 b1) fun (x3 : (Int × Int × Int × Unit)) =>
 callT Tryz.prog 37 #[(.pointer a0), (.int .i64 a1), (.agg (Cells.vals c39 x3).toArray), (.int .i64 (61 : Int)), (.int .i64 (64 : Int))] (.one (.one (.int .i64))) fun (x4 : Int) =>
 sif (x4 != (0 : Int)) (
 aggSt (at0 b2) (.agg #[(.int .i64 (0 : Int)), (.int .i64 (0 : Int)), (.int .i64 (0 : Int))]) 3 <|
 lds c34 (at0 b2) fun (x5 : (Int × Int × Int × Unit)) =>
 K (x5, x4, ())) (
 callT Tryz.prog 51 #[(.pointer a0), (.int .i64 a1)] (.tup [(.one .sl), (.one (.int .i64))]) fun (x6 : (Sl × Int × Unit)) =>
 newO (.cells #[(.slice none 0 0)] 68) fun b7 =>
 stC (at0 b7) (.slice x6.1.a x6.1.len x6.1.cap) <|
 sif (decide (x6.2.1 < (0 : Int))) (
 aggSt (at0 b2) (.agg #[(.int .i64 (0 : Int)), (.int .i64 (0 : Int)), (.int .i64 (0 : Int))]) 3 <|
 lds c34 (at0 b2) fun (x8 : (Int × Int × Int × Unit)) =>
 K (x8, (90 : Int), ())) (
 join (S := Addr × Unit) (fun J9 =>
 ld (.int .i64) (at0 b1) fun (x11 : Int) =>
 sif (x11 == (63 : Int)) (
 newO (.cells #[(.bool false)] 4) fun b12 =>
 stC (at0 b12) (.bool true) <|
 J9 ((at0 b12), ())) (
 ld (.int .i64) (at0 b1) fun (x13 : Int) =>
 newO (.cells #[(.bool false)] 4) fun b14 =>
 stC (at0 b14) (.bool (x13 == (64 : Int))) <|
 J9 ((at0 b14), ()))) fun (s10 : Addr × Unit) =>
 ld (.sl) (at0 b7) fun (x15 : Sl) =>
 newO (.cells #[(.int .i64 (0 : Int)), .nilFunc] 89) fun b16 =>
 aggSt (at0 b16) (.agg #[(.int .i64 ((x15.len : Nat) : Int)), (.func (Fn.func 52) #[] #[(.pointer (some s10.1)), (.pointer (some (at0 b7)))])]) 2 <|
 lds c89 (at0 b16) fun (x17 : (Int × Value × Unit)) =>
 join (S := Value × Unit) (fun J18 =>
 join (S := Bool × Unit) (fun J20 =>
 ld (.int .i64) (at0 b1) fun (x22 : Int) =>
 sif (x22 == (62 : Int)) (
 J20 (true, ())) (
 ld (.int .i64) (at0 b1) fun (x23 : Int) =>
 J20 ((x23 == (64 : Int)), ()))) fun (s21 : Bool × Unit) =>
 sif s21.1 (
 lds c89 (at0 b16) fun (x24 : (Int × Value × Unit)) =>
 J18 ((.func (Fn.func 54) #[(.agg (Cells.vals c89 x24).toArray)] #[]), ())) (
 J18 ((.func (Fn.func 53) #[(.agg (Cells.vals c89 x17).toArray)] #[]), ()))) fun (s19 : Value × Unit) =>
 lds c39 (at0 b1) fun (x25 : (Int × Int × Int × Unit)) =>
 callT Tryz.prog 41 #[(.agg (Cells.vals c39 x25).toArray)] (.one (.one (.int .i64))) fun (x26 : Int) =>
 callX Tryz.prog (do let d ← Deferred.ofValue s19.1 #[(.int .i64 x6.2.1), (.int .i64 x26)]; invoke d.target d.args : Sem Next) (.tup [(.one (.int .i64)), (.one (.int .i64)), (.one .bool)]) fun (x27 : (Int × Int × Bool × Unit)) =>
 sif (!x27.2.2.1) (
 aggSt (at0 b2) (.agg #[(.int .i64 (0 : Int)), (.int .i64 (0 : Int)), (.int .i64 (0 : Int))]) 3 <|
 lds c34 (at0 b2) fun (x28 : (Int × Int × Int × Unit)) =>
 K (x28, (90 : Int), ())) (
 drew <|
 ld (.sl) (at0 b7) fun (x29 : Sl) =>
 ix x29.a x29.len x27.1 fun p30 =>
 ld (.int .i64) (p30.add (scaled (Int.toNat x27.1) 5)) fun (x31 : Int) =>
 ld (.sl) (at0 b7) fun (x32 : Sl) =>
 ix x32.a x32.len (IntKind.wrap .i64 (x27.2.1 - (1 : Int))) fun p33 =>
 ld (.int .i64) ((p33.add (scaled (Int.toNat (IntKind.wrap .i64 (x27.2.1 - (1 : Int)))) 5)).add 1) fun (x34 : Int) =>
 aggSt (at0 b2) (.agg #[(.int .i64 x31), (.int .i64 x34), (.int .i64 (0 : Int))]) 3 <|
 lds c34 (at0 b2) fun (x35 : (Int × Int × Int × Unit)) =>
 K (x35, (0 : Int), ()))))
noncomputable def h29 : Hint := (.seq none (.region [] (.ops 3 .done)) (.seq none (.seq none (.region [] (.ops 5 .done)) (.seq none (.region [] (.ops 2 .done)) (.cond none (.seq none (.region [] (.ops 4 .done)) .leaf) .leaf))) (.seq none (.region [] (.ops 9 .done)) (.seq none (.seq none (.region [] (.ops 2 .done)) (.cond none (.seq none (.region [] (.ops 3 .done)) .leaf) .leaf)) (.seq (some (4380866643968, [(11, (.one .addr))])) (.region [] (.ops 4 (.split 37 (.skips 3 (.ops 3 .done)) (.ops 6 .done)))) (.seq none (.region [] (.ops 6 .done)) (.seq none (.region [] (.ops 3 .done)) (.seq (some (287948901175009280, [(13, (.one .any))])) (.seq (some (71776119061217280, [(55, (.one .bool))])) (.region [] (.ops 4 (.split 51 (.skips 3 (.ops 1 .done)) (.ops 4 .done)))) (.cond none (.region [] (.ops 3 .done)) .leaf)) (.seq none (.region [] (.ops 12 .done)) (.seq none (.seq none (.region [] (.ops 2 .done)) (.cond none (.seq none (.region [] (.ops 3 .done)) .leaf) .leaf)) (.seq none (.region [0, 1, 2, 3, 4, 5, 6, 7, 8, 9, 10, 11, 12, 13] (.ops 14 .done)) .leaf)))))))))))
theorem F29_tie (a0 : Option Addr) (a1 : Int) (a2 : (Int × Int × Int × Unit)) (K : ((Int × Int × Int × Unit) × Int × Unit) → World → Prop) : vcgF tab Tryz.prog Tryz.f29 h29 [(.pointer a0), (.int .i64 a1), (.agg (Cells.vals c39 a2).toArray)] (.tup [(.agg c34), (.one (.int .i64))]) K = F29 a0 a1 a2 K := by kernel_rfl
theorem F29_calls {a0 : Option Addr} {a1 : Int} {a2 : (Int × Int × Int × Unit)} {K : ((Int × Int × Int × Unit) × Int × Unit) → World → Prop} {w : World} (h : F29 a0 a1 a2 K w) : callT Tryz.prog 29 #[(.pointer a0), (.int .i64 a1), (.agg (Cells.vals c39 a2).toArray)] (.tup [(.agg c34), (.one (.int .i64))]) K w :=
  vcgF_sound tabOk Tryz.func29 h29 [(.pointer a0), (.int .i64 a1), (.agg (Cells.vals c39 a2).toArray)] (.tup [(.agg c34), (.one (.int .i64))]) K w (Eq.mpr (congrFun (F29_tie a0 a1 a2 K) w) h)
noncomputable def F31 (a0 : Option Addr) (a1 : Int) (a2 : (Int × Int × Int × Unit)) (K : ((Int × Int × Int × Unit) × Int × Unit) → World → Prop) : World → Prop :=
 newO (.cells #[(.int .i64 a2.1), (.int .i64 a2.2.1), (.int .i64 a2.2.2.1)] 39) fun b1 =>
 newO (.cells #[(.int .i64 (0 : Int)), (.int .i64 (0 : Int)), (.int .i64 (0 : Int))] 34) fun b2 =>
 lds c39 (at0 b1) fun (x3 : (Int × Int × Int × Unit)) =>
 callT Tryz.prog 37 #[(.pointer a0), (.int .i64 a1), (.agg (Cells.vals c39 x3).toArray), (.int .i64 (65 : Int)), (.int .i64 (66 : Int))] (.one (.one (.int .i64))) fun (x4 : Int) =>
 join (S := Bool × Unit) (fun J5 =>
 sif (x4 == (1 : Int)) (
 J5 (true, ())) (
 ld (.int .i64) (⟨b1, 2, none⟩ : Addr) fun (x7 : Int) =>
 sif (x7 != (34 : Int)) (
 ld (.int .i64) (⟨b1, 2, none⟩ : Addr) fun (x8 : Int) =>
 sif (x8 != (39 : Int)) (
 ld (.int .i64) (⟨b1, 2, none⟩ : Addr) fun (x9 : Int) =>
 J5 ((x9 != (96 : Int)), ())) (
 J5 (false, ()))) (
 J5 (false, ())))) fun (s6 : Bool × Unit) =>
 sif s6.1 (
 aggSt (at0 b2) (.agg #[(.int .i64 (0 : Int)), (.int .i64 (0 : Int)), (.int .i64 (0 : Int))]) 3 <|
 lds c34 (at0 b2) fun (x10 : (Int × Int × Int × Unit)) =>
 K (x10, (1 : Int), ())) (
 sif (x4 != (0 : Int)) (
 aggSt (at0 b2) (.agg #[(.int .i64 (0 : Int)), (.int .i64 (0 : Int)), (.int .i64 (0 : Int))]) 3 <|
 lds c34 (at0 b2) fun (x11 : (Int × Int × Int × Unit)) =>
 K (x11, x4, ())) (
 callT Tryz.prog 51 #[(.pointer a0), (.int .i64 a1)] (.tup [(.one .sl), (.one (.int .i64))]) fun (x12 : (Sl × Int × Unit)) =>
 newO (.cells #[(.slice none 0 0)] 68) fun b13 =>
 stC (at0 b13) (.slice x12.1.a x12.1.len x12.1.cap) <|
 ld (.sl) (at0 b13) fun (x14 : Sl) =>
 ld (.int .i64) (⟨b1, 2, none⟩ : Addr) fun (x15 : Int) =>
 callT Tryz.prog 55 #[(.slice x14.a x14.len x14.cap), (.int .i64 x12.2.1), (.int .i64 x15)] (.tup [(.one (.int .i64)), (.one (.int .i64)), (.one .bool)]) fun (x16 : (Int × Int × Bool × Unit)) =>
 sif (!x16.2.2.1) (
 aggSt (at0 b2) (.agg #[(.int .i64 (0 : Int)), (.int .i64 (0 : Int)), (.int .i64 (0 : Int))]) 3 <|
 lds c34 (at0 b2) fun (x17 : (Int × Int × Int × Unit)) =>
 K (x17, (90 : Int), ())) (
 join (S := Bool × Unit) (fun J18 =>
 ld (.int .i64) (at0 b1) fun (x20 : Int) =>
 sif (x20 == (65 : Int)) (
 ld (.int .i64) (⟨b1, 1, none⟩ : Addr) fun (x21 : Int) =>
 J18 ((decide (x21 < (2 : Int))), ())) (
 J18 (false, ()))) fun (s19 : Bool × Unit) =>
 sif s19.1 (
 drew <|
 ld (.sl) (at0 b13) fun (x22 : Sl) =>
 ix x22.a x22.len x16.1 fun p23 =>
 ld (.int .i64) ((p23.add (scaled (Int.toNat x16.1) 5)).add 1) fun (x24 : Int) =>
 ld (.sl) (at0 b13) fun (x25 : Sl) =>
 ix x25.a x25.len x16.2.1 fun p26 =>
 ld (.int .i64) (p26.add (scaled (Int.toNat x16.2.1) 5)) fun (x27 : Int) =>
 aggSt (at0 b2) (.agg #[(.int .i64 x24), (.int .i64 x27), (.int .i64 (0 : Int))]) 3 <|
 lds c34 (at0 b2) fun (x28 : (Int × Int × Int × Unit)) =>
 K (x28, (0 : Int), ())) (
 join (S := Int × Int × Unit) (fun J29 =>
 ld (.int .i64) (at0 b1) fun (x31 : Int) =>
 sif (x31 == (66 : Int)) (
 join (S := Int × Unit) (fun J32 =>
 sloop (S := Int × Unit) (fun (s34 : Int × Unit) again35 =>
 callX Tryz.prog (do let d ← Deferred.ofValue (.func (Fn.func 56) #[] #[(.pointer (some (at0 b13)))]) #[(.int .i64 s34.1)]; invoke d.target d.args : Sem Next) (.one (.one .bool)) fun (x36 : Bool) =>
 sif x36 (
 again35 ((IntKind.wrap .i64 (s34.1 + (1 : Int))), ())) (
 J32 (s34.1, ()))) ((IntKind.wrap .i64 (x16.2.1 + (1 : Int))), ())) fun (s33 : Int × Unit) =>
 sloop (S := Int × Unit) (fun (s37 : Int × Unit) again38 =>
 join (S := Bool × Unit) (fun J39 =>
 sif (s33.1 == (IntKind.wrap .i64 (x16.2.1 + (1 : Int)))) (
 callX Tryz.prog (do let d ← Deferred.ofValue (.func (Fn.func 56) #[] #[(.pointer (some (at0 b13)))]) #[(.int .i64 (IntKind.wrap .i64 (s37.1 - (1 : Int))))]; invoke d.target d.args : Sem Next) (.one (.one .bool)) fun (x41 : Bool) =>
 J39 (x41, ())) (
 J39 (false, ()))) fun (s40 : Bool × Unit) =>
 sif s40.1 (
 again38 ((IntKind.wrap .i64 (s37.1 - (1 : Int))), ())) (
 J29 (s37.1, s33.1, ()))) (x16.1, ())) (
 J29 (x16.1, (IntKind.wrap .i64 (x16.2.1 + (1 : Int))), ()))) fun (s30 : Int × Int × Unit) =>
 drew <|
 ld (.sl) (at0 b13) fun (x42 : Sl) =>
 ix x42.a x42.len s30.1 fun p43 =>
 ld (.int .i64) (p43.add (scaled (Int.toNat s30.1) 5)) fun (x44 : Int) =>
 ld (.sl) (at0 b13) fun (x45 : Sl) =>
 ix x45.a x45.len (IntKind.wrap .i64 (s30.2.1 - (1 : Int))) fun p46 =>
 ld (.int .i64) ((p46.add (scaled (Int.toNat (IntKind.wrap .i64 (s30.2.1 - (1 : Int)))) 5)).add 1) fun (x47 : Int) =>
 aggSt (at0 b2) (.agg #[(.int .i64 x44), (.int .i64 x47), (.int .i64 (0 : Int))]) 3 <|
 lds c34 (at0 b2) fun (x48 : (Int × Int × Int × Unit)) =>
 K (x48, (0 : Int), ())))))
noncomputable def h31 : Hint := (.seq none (.region [] (.ops 3 .done)) (.seq none (.region [] (.ops 5 .done)) (.seq none (.seq (some (274875809792, [(37, (.one .bool))])) (.region [] (.ops 3 (.split 23 (.skips 13 (.ops 1 .done)) (.ops 4 (.split 27 (.ops 5 (.split 32 (.ops 5 .done) (.skips 3 (.ops 2 .done)))) (.skips 3 (.ops 2 (.skips 3 (.ops 2 .done))))))))) (.cond none (.seq none (.region [] (.ops 3 .done)) .leaf) .leaf)) (.seq none (.seq none (.region [] (.ops 2 .done)) (.cond none (.seq none (.region [] (.ops 4 .done)) .leaf) .leaf)) (.seq none (.region [] (.ops 9 .done)) (.seq none (.region [] (.ops 12 .done)) (.seq none (.seq none (.region [] (.ops 2 .done)) (.cond none (.seq none (.region [] (.ops 3 .done)) .leaf) .leaf)) (.seq none (.seq (some (587989967349491957760, [(68, (.one .bool))])) (.region [] (.ops 4 (.split 64 (.ops 4 .done) (.skips 3 (.ops 1 .done))))) (.cond none (.seq none (.region [0, 1, 2, 3, 4, 5, 6, 7, 8, 9, 10, 11, 12] (.ops 13 .done)) .leaf) .leaf)) (.seq none (.region [] (.ops 5 .done)) (.seq (some (20282399932245113506913853751296, [(14, (.one (.int .i64))), (15, (.one (.int .i64)))])) (.seq none (.region [] (.ops 3 .done)) (.cond none (.seq none (.region [] (.ops 2 .done)) (.seq (some (4797017652230848565234139136, [(15, (.one (.int .i64)))])) (.block (.loop 4797017652230848565234139136 [(15, (.one (.int .i64)))] (.seq none (.seq none (.region [] (.ops 3 .done)) (.cond none .leaf .leaf)) (.block (.region [] (.ops 3 .done)))))) (.block (.loop 20277457843494528902847654805504 [(14, (.one (.int .i64)))] (.seq none (.seq (some (5065650640755776084887216324608, [(101, (.one .bool))])) (.region [] (.ops 5 (.split 96 (.ops 5 .done) (.skips 4 (.ops 1 .done))))) (.cond none .leaf .leaf)) (.block (.region [] (.ops 3 .done)))))))) .leaf)) (.seq none (.region [0, 1, 2, 3, 4, 5, 6, 7, 8, 9, 10, 11, 12, 13] (.ops 14 .done)) .leaf)))))))))))
theorem F31_tie (a0 : Option Addr) (a1 : Int) (a2 : (Int × Int × Int × Unit)) (K : ((Int × Int × Int × Unit) × Int × Unit) → World → Prop) : vcgF tab Tryz.prog Tryz.f31 h31 [(.pointer a0), (.int .i64 a1), (.agg (Cells.vals c39 a2).toArray)] (.tup [(.agg c34), (.one (.int .i64))]) K = F31 a0 a1 a2 K := by kernel_rfl
theorem F31_calls {a0 : Option Addr} {a1 : Int} {a2 : (Int × Int × Int × Unit)} {K : ((Int × Int × Int × Unit) × Int × Unit) → World → Prop} {w : World} (h : F31 a0 a1 a2 K w) : callT Tryz.prog 31 #[(.pointer a0), (.int .i64 a1), (.agg (Cells.vals c39 a2).toArray)] (.tup [(.agg c34), (.one (.int .i64))]) K w :=
  vcgF_sound tabOk Tryz.func31 h31 [(.pointer a0), (.int .i64 a1), (.agg (Cells.vals c39 a2).toArray)] (.tup [(.agg c34), (.one (.int .i64))]) K w (Eq.mpr (congrFun (F31_tie a0 a1 a2 K) w) h)
noncomputable def F33 (a0 : Option Addr) (a1 : Int) (a2 : (Int × Int × Int × Unit)) (K : ((Int × Int × Int × Unit) × Int × Unit) → World → Prop) : World → Prop :=
 newO (.cells #[(.pointer a0)] 25) fun b1 =>
 newO (.cells #[(.int .i64 a2.1), (.int .i64 a2.2.1), (.int .i64 a2.2.2.1)] 39) fun b2 =>
 newO (.cells #[(.int .i64 (0 : Int)), (.int .i64 (0 : Int)), (.int .i64 (0 : Int))] 34) fun b3 =>
 ld (.ptr) (at0 b1) fun (x4 : Option Addr) =>
 lds c39 (at0 b2) fun (x5 : (Int × Int × Int × Unit)) =>
 callT Tryz.prog 37 #[(.pointer x4), (.int .i64 a1), (.agg (Cells.vals c39 x5).toArray), (.int .i64 (69 : Int)), (.int .i64 (70 : Int))] (.one (.one (.int .i64))) fun (x6 : Int) =>
 sif (x6 != (0 : Int)) (
 aggSt (at0 b3) (.agg #[(.int .i64 (0 : Int)), (.int .i64 (0 : Int)), (.int .i64 (0 : Int))]) 3 <|
 lds c34 (at0 b3) fun (x7 : (Int × Int × Int × Unit)) =>
 K (x7, x6, ())) (
 ld (.ptr) (at0 b1) fun (x8 : Option Addr) =>
 callT Tryz.prog 57 #[(.pointer x8), (.int .i64 a1)] (.one (.one (.int .i64))) fun (x9 : Int) =>
 ld (.ptr) (at0 b1) fun (x10 : Option Addr) =>
 callT Tryz.prog 58 #[(.pointer x10)] (.one (.one (.int .i64))) fun (x11 : Int) =>
 sif (decide (x9 ≥ x11)) (
 aggSt (at0 b3) (.agg #[(.int .i64 (0 : Int)), (.int .i64 (0 : Int)), (.int .i64 (0 : Int))]) 3 <|
 lds c34 (at0 b3) fun (x12 : (Int × Int × Int × Unit)) =>
 K (x12, (90 : Int), ())) (
 newO (.cells #[(.slice none 0 0)] 95) fun b13 =>
 newO (.cells #[(.slice none 0 0)] 26) fun b14 =>
 ld (.ptr) (at0 b1) fun (x15 : Option Addr) =>
 callT Tryz.prog 59 #[(.pointer x15)] (.one (.one .any)) fun (x16 : Value) =>
 rangeE (S := Int × (Int × Int × Int × Int × Unit) × Unit) Tryz.prog (Slots.vals [(40, (.one (.int .i64))), (41, (.agg c100))]) x16 (fun l17 rc18 R19 (s20 : Int × (Int × Int × Int × Int × Unit) × Unit) =>
 newO (.cells #[(.int .i64 (0 : Int)), (.int .i64 (0 : Int)), (.int .i64 (0 : Int)), (.int .i64 (0 : Int))] 100) fun b22 =>
 aggSt (at0 b22) (.agg (Cells.vals c100 s20.2.1).toArray) 4 <|
 begR l17 rc18 <|
 join (S := Int × Unit) (fun J23 =>
 ld (.ptr) (at0 b1) fun (x25 : Option Addr) =>
 ld (.int .i64) (at0 b22) fun (x26 : Int) =>
 ld (.int .i64) (⟨b22, 1, none⟩ : Addr) fun (x27 : Int) =>
 callT Tryz.prog 23 #[(.pointer x25), (.int .i64 x26), (.int .i64 x27)] (.one (.one .sl)) fun (x28 : Sl) =>
 callT Tryz.prog 39 #[(.slice x28.a x28.len x28.cap), (.int .i64 (0 : Int))] (.one (.one .sl)) fun (x29 : Sl) =>
 sloop (S := Int × Int × Unit) (fun (s30 : Int × Int × Unit) again31 =>
 sif (decide (s30.2.1 < ((x29.len : Nat) : Int))) (
 ix x29.a x29.len s30.2.1 fun p32 =>
 lds c72 (p32.add (scaled (Int.toNat s30.2.1) 5)) fun (x33 : (Int × Int × Int × Bool × Int × Unit)) =>
 newO (.cells #[(.int .i64 (0 : Int)), (.int .i64 (0 : Int)), (.int .i64 (0 : Int)), (.bool false), (.int .i64 (0 : Int))] 72) fun b34 =>
 aggSt (at0 b34) (.agg (Cells.vals c72 x33).toArray) 5 <|
 ld (.int .i64) (⟨b34, 2, none⟩ : Addr) fun (x35 : Int) =>
 sif (x35 != (0 : Int)) (
 J23 ((1 : Int), ())) (
 again31 (s30.1, (IntKind.wrap .i64 (s30.2.1 + (1 : Int))), ()))) (
 J23 (s30.1, ()))) ((0 : Int), (0 : Int), ())) fun (s24 : Int × Unit) =>
 drew <|
 ld (.sl) (at0 b13) fun (x36 : Sl) =>
 lds c100 (at0 b22) fun (x37 : (Int × Int × Int × Int × Unit)) =>
 ld (.sl) (at0 b14) fun (x38 : Sl) =>
 both (
 newO (.cells #[(.int .i64 s24.1)] 3) fun b39 =>
 keep (fun w => w.cell? (at0 b14) = some (Cell.val (.sl) x38)) <|
 keep (fun w => cellsAt w (at0 b22) 0 (Cells.vals c100 x37)) <|
 keep (fun w => w.cell? (at0 b13) = some (Cell.val (.sl) x36)) <|
 newO (.cells #[(.int .i64 x37.1), (.int .i64 x37.2.1), (.int .i64 x37.2.2.1), (.int .i64 x37.2.2.2.1)] 100) fun b40 =>
 keep (fun w => w.cell? (at0 b14) = some (Cell.val (.sl) x38)) <|
 keep (fun w => w.cell? (at0 b13) = some (Cell.val (.sl) x36)) <|
 rawT Tryz.prog (.one (.one .sl)) (Builtin.append_ #[95, 95] 95 #[(.slice x36.a x36.len x36.cap), (.slice (some (at0 b40)) 1 1)]) fun (x41 : Sl) =>
 keep (fun w => w.cell? (at0 b14) = some (Cell.val (.sl) x38)) <|
 rawT Tryz.prog (.one (.one .sl)) (Builtin.append_ #[26, 26] 26 #[(.slice x38.a x38.len x38.cap), (.slice (some (at0 b39)) 1 1)]) fun (x42 : Sl) =>
 stC (at0 b13) (.slice x41.a x41.len x41.cap) <|
 stC (at0 b14) (.slice x42.a x42.len x42.cap) <|
 endR l17 rc18 none R19) <|
 newO (.cells #[(.int .i64 x37.1), (.int .i64 x37.2.1), (.int .i64 x37.2.2.1), (.int .i64 x37.2.2.2.1)] 100) fun b43 =>
 keep (fun w => w.cell? (at0 b14) = some (Cell.val (.sl) x38)) <|
 keep (fun w => w.cell? (at0 b13) = some (Cell.val (.sl) x36)) <|
 both (
 newO (.cells #[(.int .i64 s24.1)] 3) fun b44 =>
 keep (fun w => w.cell? (at0 b14) = some (Cell.val (.sl) x38)) <|
 keep (fun w => cellsAt w (at0 b22) 0 (Cells.vals c100 x37)) <|
 keep (fun w => w.cell? (at0 b13) = some (Cell.val (.sl) x36)) <|
 rawT Tryz.prog (.one (.one .sl)) (Builtin.append_ #[95, 95] 95 #[(.slice x36.a x36.len x36.cap), (.slice (some (at0 b43)) 1 1)]) fun (x45 : Sl) =>
 keep (fun w => w.cell? (at0 b14) = some (Cell.val (.sl) x38)) <|
 rawT Tryz.prog (.one (.one .sl)) (Builtin.append_ #[26, 26] 26 #[(.slice x38.a x38.len x38.cap), (.slice (some (at0 b44)) 1 1)]) fun (x46 : Sl) =>
 stC (at0 b13) (.slice x45.a x45.len x45.cap) <|
 stC (at0 b14) (.slice x46.a x46.len x46.cap) <|
 endR l17 rc18 none R19) <|
 rawT Tryz.prog (.one (.one .sl)) (Builtin.append_ #[95, 95] 95 #[(.slice x36.a x36.len x36.cap), (.slice (some (at0 b43)) 1 1)]) fun (x47 : Sl) =>
 keep (fun w => w.cell? (at0 b14) = some (Cell.val (.sl) x38)) <|
 both (
 newO (.cells #[(.int .i64 s24.1)] 3) fun b48 =>
 keep (fun w => w.cell? (at0 b14) = some (Cell.val (.sl) x38)) <|
 keep (fun w => cellsAt w (at0 b22) 0 (Cells.vals c100 x37)) <|
 keep (fun w => w.cell? (at0 b13) = some (Cell.val (.sl) x36)) <|
 rawT Tryz.prog (.one (.one .sl)) (Builtin.append_ #[26, 26] 26 #[(.slice x38.a x38.len x38.cap), (.slice (some (at0 b48)) 1 1)]) fun (x49 : Sl) =>
 stC (at0 b13) (.slice x47.a x47.len x47.cap) <|
 stC (at0 b14) (.slice x49.a x49.len x49.cap) <|
 endR l17 rc18 none R19) <|
 nothing) fun D21 => aft (
 ld (.sl) (at0 b13) fun (x69 : Sl) =>
 newO (.cells #[(.int .i64 (0 : Int)), .nilFunc] 89) fun b70 =>
 aggSt (at0 b70) (.agg #[(.int .i64 ((x69.len : Nat) : Int)), (.func (Fn.func 60) #[] #[(.pointer (some (at0 b14)))])]) 2 <|
 lds c89 (at0 b70) fun (x71 : (Int × Value × Unit)) =>
 join (S := Value × Unit) (fun J72 =>
 ld (.int .i64) (at0 b2) fun (x74 : Int) =>
 sif (x74 == (70 : Int)) (
 lds c89 (at0 b70) fun (x75 : (Int × Value × Unit)) =>
 J72 ((.func (Fn.func 54) #[(.agg (Cells.vals c89 x75).toArray)] #[]), ())) (
 J72 ((.func (Fn.func 53) #[(.agg (Cells.vals c89 x71).toArray)] #[]), ()))) fun (s73 : Value × Unit) =>
 lds c39 (at0 b2) fun (x76 : (Int × Int × Int × Unit)) =>
 callT Tryz.prog 41 #[(.agg (Cells.vals c39 x76).toArray)] (.one (.one (.int .i64))) fun (x77 : Int) =>
 callX Tryz.prog (do let d ← Deferred.ofValue s73.1 #[(.int .i64 x9), (.int .i64 x77)]; invoke d.target d.args : Sem Next) (.tup [(.one (.int .i64)), (.one (.int .i64)), (.one .bool)]) fun (x78 : (Int × Int × Bool × Unit)) =>
 sif (!x78.2.2.1) (
 aggSt (at0 b3) (.agg #[(.int .i64 (0 : Int)), (.int .i64 (0 : Int)), (.int .i64 (0 : Int))]) 3 <|
 endM D21 <|
 lds c34 (at0 b3) fun (x79 : (Int × Int × Int × Unit)) =>
 K (x79, (90 : Int), ())) (
 drew <|
 ld (.sl) (at0 b13) fun (x80 : Sl) =>
 ix x80.a x80.len x78.1 fun p81 =>
 ld (.int .i64) (p81.add (scaled (Int.toNat x78.1) 4)) fun (x82 : Int) =>
 ld (.sl) (at0 b13) fun (x83 : Sl) =>
 ix x83.a x83.len (IntKind.wrap .i64 (x78.2.1 - (1 : Int))) fun p84 =>
 ld (.int .i64) ((p84.add (scaled (Int.toNat (IntKind.wrap .i64 (x78.2.1 - (1 : Int)))) 4)).add 2) fun (x85 : Int) =>
 aggSt (at0 b3) (.agg #[(.int .i64 x82), (.int .i64 x85), (.int .i64 (1 : Int))]) 3 <|
 endM D21 <|
 lds c34 (at0 b3) fun (x86 : (Int × Int × Int × Unit)) =>
 K (x86, (0 : Int), ()))) (fun i50 =>
 onE i50 0 (
 ld (.sl) (at0 b13) fun (x51 : Sl) =>
 newO (.cells #[(.int .i64 (0 : Int)), .nilFunc] 89) fun b52 =>
 aggSt (at0 b52) (.agg #[(.int .i64 ((x51.len : Nat) : Int)), (.func (Fn.func 60) #[] #[(.pointer (some (at0 b14)))])]) 2 <|
 lds c89 (at0 b52) fun (x53 : (Int × Value × Unit)) =>
 join (S := Value × Unit) (fun J54 =>
 ld (.int .i64) (at0 b2) fun (x56 : Int) =>
 sif (x56 == (70 : Int)) (
 lds c89 (at0 b52) fun (x57 : (Int × Value × Unit)) =>
 J54 ((.func (Fn.func 54) #[(.agg (Cells.vals c89 x57).toArray)] #[]), ())) (
 J54 ((.func (Fn.func 53) #[(.agg (Cells.vals c89 x53).toArray)] #[]), ()))) fun (s55 : Value × Unit) =>
 lds c39 (at0 b2) fun (x58 : (Int × Int × Int × Unit)) =>
 callT Tryz.prog 41 #[(.agg (Cells.vals c39 x58).toArray)] (.one (.one (.int .i64))) fun (x59 : Int) =>
 callX Tryz.prog (do let d ← Deferred.ofValue s55.1 #[(.int .i64 x9), (.int .i64 x59)]; invoke d.target d.args : Sem Next) (.tup [(.one (.int .i64)), (.one (.int .i64)), (.one .bool)]) fun (x60 : (Int × Int × Bool × Unit)) =>
 sif (!x60.2.2.1) (
 aggSt (at0 b3) (.agg #[(.int .i64 (0 : Int)), (.int .i64 (0 : Int)), (.int .i64 (0 : Int))]) 3 <|
 endM D21 <|
 lds c34 (at0 b3) fun (x61 : (Int × Int × Int × Unit)) =>
 K (x61, (90 : Int), ())) (
 drew <|
 ld (.sl) (at0 b13) fun (x62 : Sl) =>
 ix x62.a x62.len x60.1 fun p63 =>
 ld (.int .i64) (p63.add (scaled (Int.toNat x60.1) 4)) fun (x64 : Int) =>
 ld (.sl) (at0 b13) fun (x65 : Sl) =>
 ix x65.a x65.len (IntKind.wrap .i64 (x60.2.1 - (1 : Int))) fun p66 =>
 ld (.int .i64) ((p66.add (scaled (Int.toNat (IntKind.wrap .i64 (x60.2.1 - (1 : Int)))) 4)).add 2) fun (x67 : Int) =>
 aggSt (at0 b3) (.agg #[(.int .i64 x64), (.int .i64 x67), (.int .i64 (1 : Int))]) 3 <|
 endM D21 <|
 lds c34 (at0 b3) fun (x68 : (Int × Int × Int × Unit)) =>
 K (x68, (0 : Int), ()))) (
 fun _ => False)) (
 endM D21 <|
 lds c34 (at0 b3) fun (x87 : (Int × Int × Int × Unit)) =>
 K (x87, (0 : Int), ()))))
noncomputable def h33 : Hint := (.seq none (.region [] (.ops 4 .done)) (.seq none (.seq none (.region [] (.ops 5 .done)) (.seq none (.region [] (.ops 2 .done)) (.cond none (.seq none (.region [] (.ops 4 .done)) .leaf) .leaf))) (.seq none (.region [] (.ops 4 .done)) (.seq none (.seq none (.region [] (.ops 4 .done)) (.cond none (.seq none (.region [] (.ops 3 .done)) .leaf) .leaf)) (.seq none (.region [] (.ops 1 .done)) (.seq none (.region [] (.ops 1 .done)) (.seq none (.seq none (.region [] (.ops 2 .done)) (.block (.range [(40, (.one (.int .i64))), (41, (.agg c100))] (.region [] (.ops 2 .done)) (.block (.seq none (.region [] (.ops 1 .done)) (.seq (some (288225978105282560, [(14, (.one (.int .i64)))])) (.seq none (.region [] (.ops 9 .done)) (.block (.loop 287104476244951040 [(14, (.one (.int .i64))), (50, (.one (.int .i64)))] (.seq none (.region [] (.ops 1 .done)) (.seq none (.cond none .leaf .leaf) (.seq none (.block (.seq none (.region [] (.ops 4 .done)) (.seq none (.region [] (.ops 3 .done)) (.cond none (.seq none (.region [] (.ops 1 .done)) .leaf) .leaf)))) (.region [] (.ops 2 .done)))))))) (.region [0, 1, 4, 5, 2, 3, 7, 8, 9] (.float [6] (.ops 4 (.alt none (.plain (.ops 5 .done)) (.ops 1 (.alt none (.plain (.ops 4 .done)) (.ops 1 (.alt none (.plain (.ops 3 .done)) .stop)))))))))))))) (.seq none (.region [] (.ops 6 .done)) (.seq none (.region [] (.ops 3 .done)) (.seq (some (146393360968959001886720, [(18, (.one .any))])) (.seq none (.region [] (.ops 3 .done)) (.cond none (.region [] (.ops 3 .done)) .leaf)) (.seq none (.region [] (.ops 12 .done)) (.seq none (.seq none (.region [] (.ops 2 .done)) (.cond none (.seq none (.region [] (.ops 3 .done)) .leaf) .leaf)) (.seq none (.region [0, 1, 2, 3, 4, 5, 6, 7, 8, 9, 10, 11, 12, 13] (.ops 14 .done)) .leaf)))))))))))))
theorem F33_tie (a0 : Option Addr) (a1 : Int) (a2 : (Int × Int × Int × Unit)) (K : ((Int × Int × Int × Unit) × Int × Unit) → World → Prop) : vcgF tab Tryz.prog Tryz.f33 h33 [(.pointer a0), (.int .i64 a1), (.agg (Cells.vals c39 a2).toArray)] (.tup [(.agg c34), (.one (.int .i64))]) K = F33 a0 a1 a2 K := by kernel_rfl
theorem F33_calls {a0 : Option Addr} {a1 : Int} {a2 : (Int × Int × Int × Unit)} {K : ((Int × Int × Int × Unit) × Int × Unit) → World → Prop} {w : World} (h : F33 a0 a1 a2 K w) : callT Tryz.prog 33 #[(.pointer a0), (.int .i64 a1), (.agg (Cells.vals c39 a2).toArray)] (.tup [(.agg c34), (.one (.int .i64))]) K w :=
  vcgF_sound tabOk Tryz.func33 h33 [(.pointer a0), (.int .i64 a1), (.agg (Cells.vals c39 a2).toArray)] (.tup [(.agg c34), (.one (.int .i64))]) K w (Eq.mpr (congrFun (F33_tie a0 a1 a2 K) w) h)
noncomputable def F37 (a0 : Option Addr) (a1 : Int) (a2 : (Int × Int × Int × Unit)) (a3 : Int) (a4 : Int) (K : Int → World → Prop) : World → Prop :=
 newO (.cells #[(.int .i64 a2.1), (.int .i64 a2.2.1), (.int .i64 a2.2.2.1)] 39) fun b1 =>
 join (S := Bool × Unit) (fun J2 =>
 ld (.int .i64) (at0 b1) fun (x4 : Int) =>
 sif (decide (x4 < a3)) (
 J2 (true, ())) (
 ld (.int .i64) (at0 b1) fun (x5 : Int) =>
 sif (decide (x5 > a4)) (
 J2 (true, ())) (
 ld (.int .i64) (⟨b1, 1, none⟩ : Addr) fun (x6 : Int) =>
 J2 ((decide (x6 < (0 : Int))), ())))) fun (s3 : Bool × Unit) =>
 sif s3.1 (
 K (1 : Int)) (
 join (S := Bool × Unit) (fun J7 =>
 sif (decide (a1 < (0 : Int))) (
 J7 (true, ())) (
 callT Tryz.prog 40 #[(.pointer a0)] (.one (.one (.int .i64))) fun (x9 : Int) =>
 J7 ((decide (a1 > x9)), ()))) fun (s8 : Bool × Unit) =>
 sif s8.1 (
 K (2 : Int)) (
 K (0 : Int)))
noncomputable def h37 : Hint := (.seq none (.region [] (.ops 2 .done)) (.seq none (.block (.seq (some (134215680, [(11, (.one .bool))])) (.region [] (.ops 5 (.split 16 (.skips 4 (.ops 2 (.skips 3 (.ops 2 .done)))) (.ops 6 (.split 22 (.skips 3 (.ops 2 .done)) (.ops 5 .done)))))) (.cond none (.seq none (.region [] (.ops 1 .done)) .leaf) (.seq (some (68585259008, [(27, (.one .bool))])) (.region [] (.ops 3 (.split 30 (.skips 4 (.ops 2 .done)) (.ops 6 .done)))) (.cond none (.seq none (.region [] (.ops 1 .done)) .leaf) .leaf))))) (.seq none (.region [] (.ops 1 .done)) .leaf)))
theorem F37_tie (a0 : Option Addr) (a1 : Int) (a2 : (Int × Int × Int × Unit)) (a3 : Int) (a4 : Int) (K : Int → World → Prop) : vcgF tab Tryz.prog Tryz.f37 h37 [(.pointer a0), (.int .i64 a1), (.agg (Cells.vals c39 a2).toArray), (.int .i64 a3), (.int .i64 a4)] (.one (.one (.int .i64))) K = F37 a0 a1 a2 a3 a4 K := by kernel_rfl
theorem F37_calls {a0 : Option Addr} {a1 : Int} {a2 : (Int × Int × Int × Unit)} {a3 : Int} {a4 : Int} {K : Int → World → Prop} {w : World} (h : F37 a0 a1 a2 a3 a4 K w) : callT Tryz.prog 37 #[(.pointer a0), (.int .i64 a1), (.agg (Cells.vals c39 a2).toArray), (.int .i64 a3), (.int .i64 a4)] (.one (.one (.int .i64))) K w :=
  vcgF_sound tabOk Tryz.func37 h37 [(.pointer a0), (.int .i64 a1), (.agg (Cells.vals c39 a2).toArray), (.int .i64 a3), (.int .i64 a4)] (.one (.one (.int .i64))) K w (Eq.mpr (congrFun (F37_tie a0 a1 a2 a3 a4 K) w) h)
noncomputable def F38 (a0 : Int) (K : (Int × Bool × Unit) → World → Prop) : World → Prop :=
 newO (.map #[] 0) fun b1 =>
 rawU Tryz.prog (Instr.mapUpdate 115 (.map (some b1)) (.int .i64 (40 : Int)) (.int .i64 (41 : Int))) <|
 rawU Tryz.prog (Instr.mapUpdate 115 (.map (some b1)) (.int .i64 (91 : Int)) (.int .i64 (93 : Int))) <|
 rawU Tryz.prog (Instr.mapUpdate 115 (.map (some b1)) (.int .i64 (123 : Int)) (.int .i64 (125 : Int))) <|
 rawU Tryz.prog (Instr.mapUpdate 115 (.map (some b1)) (.int .i64 (60 : Int)) (.int .i64 (62 : Int))) <|
 rdT Tryz.prog (.tup [(.one (.int .i64)), (.one .bool)]) (Instr.lookup 115 (.map (some b1)) (.int .i64 a0) true) fun (x2 : (Int × Bool × Unit)) =>
 K (x2.1, x2.2.1, ())
noncomputable def h38 : Hint := (.seq none (.region [] (.ops 2 .done)) (.seq none (.region [] (.ops 13 .done)) (.seq none (.region [] (.ops 4 .done)) .leaf)))
theorem F38_tie (a0 : Int) (K : (Int × Bool × Unit) → World → Prop) : vcgF tab Tryz.prog Tryz.f38 h38 [(.int .i64 a0)] (.tup [(.one (.int .i64)), (.one .bool)]) K = F38 a0 K := by kernel_rfl
theorem F38_calls {a0 : Int} {K : (Int × Bool × Unit) → World → Prop} {w : World} (h : F38 a0 K w) : callT Tryz.prog 38 #[(.int .i64 a0)] (.tup [(.one (.int .i64)), (.one .bool)]) K w :=
  vcgF_sound tabOk Tryz.func38 h38 [(.int .i64 a0)] (.tup [(.one (.int .i64)), (.one .bool)]) K w (Eq.mpr (congrFun (F38_tie a0 K) w) h)
noncomputable def F39 (a0 : Sl) (a1 : Int) (K : Sl → World → Prop) : World → Prop :=
 callT Tryz.prog 68 #[(.slice a0.a a0.len a0.cap)] (.one (.one .sl)) fun (x1 : Sl) =>
 join (S := Sl × Unit) (fun J2 =>
 sloop (S := Sl × Int × Unit) (fun (s4 : Sl × Int × Unit) again5 =>
 sif (decide (s4.2.1 < (IntKind.wrap .i64 (((x1.len : Nat) : Int) - (1 : Int))))) (
 ix x1.a x1.len s4.2.1 fun p6 =>
 ld (.int .i64) (p6.add (scaled (Int.toNat s4.2.1) 1)) fun (x7 : Int) =>
 ix a0.a a0.len x7 fun p8 =>
 ld (.int .i64) (p8.add (scaled (Int.toNat x7) 1)) fun (x9 : Int) =>
 drew <|
 ix x1.a x1.len s4.2.1 fun p10 =>
 ld (.int .i64) (p10.add (scaled (Int.toNat s4.2.1) 1)) fun (x11 : Int) =>
 ix x1.a x1.len (IntKind.wrap .i64 (s4.2.1 + (1 : Int))) fun p12 =>
 ld (.int .i64) (p12.add (scaled (Int.toNat (IntKind.wrap .i64 (s4.2.1 + (1 : Int)))) 1)) fun (x13 : Int) =>
 ix x1.a x1.len (IntKind.wrap .i64 (s4.2.1 + (1 : Int))) fun p14 =>
 ld (.int .i64) (p14.add (scaled (Int.toNat (IntKind.wrap .i64 (s4.2.1 + (1 : Int)))) 1)) fun (x15 : Int) =>
 ix x1.a x1.len s4.2.1 fun p16 =>
 ld (.int .i64) (p16.add (scaled (Int.toNat s4.2.1) 1)) fun (x17 : Int) =>
 callT Tryz.prog 69 #[(.int .i64 x9)] (.one (.one (.int .i64))) fun (x18 : Int) =>
 keep (fun w => w.cell? (p16.add (scaled (Int.toNat s4.2.1) 1)) = some (Cell.val (.int .i64) x17)) <|
 keep (fun w => w.cell? (p14.add (scaled (Int.toNat (IntKind.wrap .i64 (s4.2.1 + (1 : Int)))) 1)) = some (Cell.val (.int .i64) x15)) <|
 keep (fun w => w.cell? (p12.add (scaled (Int.toNat (IntKind.wrap .i64 (s4.2.1 + (1 : Int)))) 1)) = some (Cell.val (.int .i64) x13)) <|
 keep (fun w => w.cell? (p10.add (scaled (Int.toNat s4.2.1) 1)) = some (Cell.val (.int .i64) x11)) <|
 newO (.cells #[(.int .i64 (IntKind.wrap .i64 (a1 + x11))), (.int .i64 (IntKind.wrap .i64 (a1 + x13))), (.int .i64 x18), (.bool (x15 == (IntKind.wrap .i64 (x17 + (1 : Int))))), (.int .i64 x9)] 72) fun b19 =>
 rawT Tryz.prog (.one (.one .sl)) (Builtin.append_ #[68, 68] 68 #[(.slice s4.1.a s4.1.len s4.1.cap), (.slice (some (at0 b19)) 1 1)]) fun (x20 : Sl) =>
 again5 (x20, (IntKind.wrap .i64 (s4.2.1 + (1 : Int))), ())) (
 J2 (s4.1, ()))) (⟨none, 0, 0⟩, (0 : Int), ())) fun (s3 : Sl × Unit) =>
 K s3.1
noncomputable def h39 : Hint := (.seq none (.region [] (.ops 1 .done)) (.seq none (.region [] (.ops 1 .done)) (.seq none (.region [] (.ops 3 .done)) (.seq (some (72057594037926304, [(5, (.one .sl))])) (.seq none (.region [] (.ops 4 .done)) (.block (.loop 72057594037911968 [(5, (.one .sl)), (14, (.one (.int .i64)))] (.seq none (.region [] (.ops 1 .done)) (.seq none (.cond none .leaf .leaf) (.seq none (.block (.seq none (.region [] (.ops 2 .done)) (.seq none (.region [] (.ops 8 .done)) (.region [0, 1, 2, 3, 4, 5, 6, 7, 8, 9, 10, 11, 12, 13, 14, 16, 17, 18, 19, 20, 21, 22, 23, 24, 25, 26, 27, 15, 28, 29, 30, 31] (.ops 32 .done))))) (.region [] (.ops 2 .done)))))))) (.seq none (.region [] (.ops 2 .done)) .leaf)))))
theorem F39_tie (a0 : Sl) (a1 : Int) (K : Sl → World → Prop) : vcgF tab Tryz.prog Tryz.f39 h39 [(.slice a0.a a0.len a0.cap), (.int .i64 a1)] (.one (.one .sl)) K = F39 a0 a1 K := by kernel_rfl
theorem F39_calls {a0 : Sl} {a1 : Int} {K : Sl → World → Prop} {w : World} (h : F39 a0 a1 K w) : callT Tryz.prog 39 #[(.slice a0.a a0.len a0.cap), (.int .i64 a1)] (.one (.one .sl)) K w :=
  vcgF_sound tabOk Tryz.func39 h39 [(.slice a0.a a0.len a0.cap), (.int .i64 a1)] (.one (.one .sl)) K w (Eq.mpr (congrFun (F39_tie a0 a1 K) w) h)
noncomputable def F41 (a0 : (Int × Int × Int × Unit)) (K : Int → World → Prop) : World → Prop :=
 newO (.cells #[(.int .i64 a0.1), (.int .i64 a0.2.1), (.int .i64 a0.2.2.1)] 39) fun b1 =>
 ld (.int .i64) (⟨b1, 1, none⟩ : Addr) fun (x2 : Int) =>
 K (if (1 : Int) > x2 then (1 : Int) else x2)
noncomputable def h41 : Hint := (.seq none (.region [] (.ops 2 .done)) (.seq none (.region [] (.ops 4 .done)) .leaf))
theorem F41_tie (a0 : (Int × Int × Int × Unit)) (K : Int → World → Prop) : vcgF tab Tryz.prog Tryz.f41 h41 [(.agg (Cells.vals c39 a0).toArray)] (.one (.one (.int .i64))) K = F41 a0 K := by kernel_rfl
theorem F41_calls {a0 : (Int × Int × Int × Unit)} {K : Int → World → Prop} {w : World} (h : F41 a0 K w) : callT Tryz.prog 41 #[(.agg (Cells.vals c39 a0).toArray)] (.one (.one (.int .i64))) K w :=
  vcgF_sound tabOk Tryz.func41 h41 [(.agg (Cells.vals c39 a0).toArray)] (.one (.one (.int .i64))) K w (Eq.mpr (congrFun (F41_tie a0 K) w) h)
noncomputable def F42 (a0 : (Int × Int × Int × Bool × Int × Unit)) (a1 : Int) (K : Bool → World → Prop) : World → Prop :=
 newO (.cells #[(.int .i64 a0.1), (.int .i64 a0.2.1), (.int .i64 a0.2.2.1), (.bool a0.2.2.2.1), (.int .i64 a0.2.2.2.2.1)] 72) fun b1 =>
 ld (.bool) (⟨b1, 3, none⟩ : Addr) fun (x2 : Bool) =>
 sif x2 (
 ld (.int .i64) (⟨b1, 4, none⟩ : Addr) fun (x3 : Int) =>
 K (x3 == a1)) (
 K false)
noncomputable def h42 : Hint := (.seq none (.region [] (.ops 2 .done)) (.seq none (.region [] (.ops 3 (.split 7 (.ops 6 .done) (.skips 4 (.ops 2 .done))))) .leaf))
theorem F42_tie (a0 : (Int × Int × Int × Bool × Int × Unit)) (a1 : Int) (K : Bool → World → Prop) : vcgF tab Tryz.prog Tryz.f42 h42 [(.agg (Cells.vals c72 a0).toArray), (.int .i64 a1)] (.one (.one .bool)) K = F42 a0 a1 K := by kernel_rfl
theorem F42_calls {a0 : (Int × Int × Int × Bool × Int × Unit)} {a1 : Int} {K : Bool → World → Prop} {w : World} (h : F42 a0 a1 K w) : callT Tryz.prog 42 #[(.agg (Cells.vals c72 a0).toArray), (.int .i64 a1)] (.one (.one .bool)) K w :=
  vcgF_sound tabOk Tryz.func42 h42 [(.agg (Cells.vals c72 a0).toArray), (.int .i64 a1)] (.one (.one .bool)) K w (Eq.mpr (congrFun (F42_tie a0 a1 K) w) h)
noncomputable def F43 (a0 : Sl) (a1 : Int) (a2 : Int) (a3 : Int) (a4 : Int) (a5 : Int) (K : Int → World → Prop) : World → Prop :=
 join (S := Unit) (fun J1 =>
 sloop (S := Int × Int × Int × Unit) (fun (s3 : Int × Int × Int × Unit) again4 =>
 join (S := Bool × Unit) (fun J5 =>
 sif (decide (s3.1 ≥ (0 : Int))) (
 J5 ((decide (s3.1 < ((a0.len : Nat) : Int))), ())) (
 J5 (false, ()))) fun (s6 : Bool × Unit) =>
 sif s6.1 (
 join (S := Int × Int × Unit) (fun J7 =>
 ix a0.a a0.len s3.1 fun p9 =>
 lds c72 (p9.add (scaled (Int.toNat s3.1) 5)) fun (x10 : (Int × Int × Int × Bool × Int × Unit)) =>
 callT Tryz.prog 42 #[(.agg (Cells.vals c72 x10).toArray), (.int .i64 a4)] (.one (.one .bool)) fun (x11 : Bool) =>
 sif x11 (
 J7 (s3.2.1, (IntKind.wrap .i64 (s3.2.2.1 + (1 : Int))), ())) (
 ix a0.a a0.len s3.1 fun p12 =>
 lds c72 (p12.add (scaled (Int.toNat s3.1) 5)) fun (x13 : (Int × Int × Int × Bool × Int × Unit)) =>
 callT Tryz.prog 42 #[(.agg (Cells.vals c72 x13).toArray), (.int .i64 a3)] (.one (.one .bool)) fun (x14 : Bool) =>
 sif (!x14) (
 J7 (s3.2.1, s3.2.2.1, ())) (
 sif (decide (s3.2.2.1 > (0 : Int))) (
 J7 (s3.2.1, (IntKind.wrap .i64 (s3.2.2.1 - (1 : Int))), ())) (
 sif ((IntKind.wrap .i64 (s3.2.1 - (1 : Int))) == (0 : Int)) (
 K s3.1) (
 J7 ((IntKind.wrap .i64 (s3.2.1 - (1 : Int))), s3.2.2.1, ())))))) fun (s8 : Int × Int × Unit) =>
 again4 ((IntKind.wrap .i64 (s3.1 + a2)), s8.1, s8.2.1, ())) (
 J1 ())) (a1, a5, (0 : Int), ())) fun (s2 : Unit) =>
 K (-1 : Int)
noncomputable def h43 : Hint := (.seq none (.region [] (.ops 1 .done)) (.seq none (.region [] (.ops 1 .done)) (.seq (some (4503599627366434, [])) (.block (.loop 4503599627366434 [(1, (.one (.int .i64))), (5, (.one (.int .i64))), (13, (.one (.int .i64)))] (.seq none (.seq (some (4177920, [(21, (.one .bool))])) (.region [] (.ops 3 (.split 16 (.ops 5 .done) (.skips 4 (.ops 1 .done))))) (.cond none .leaf .leaf)) (.seq (some (4503599593828384, [(5, (.one (.int .i64))), (13, (.one (.int .i64)))])) (.block (.block (.seq none (.region [] (.ops 7 .done)) (.cond none (.region [] (.ops 3 .done)) (.seq none (.region [] (.ops 8 .done)) (.cond none .leaf (.seq none (.region [] (.ops 3 .done)) (.cond none (.region [] (.ops 3 .done)) (.seq none (.region [] (.ops 3 .done)) (.seq none (.region [] (.ops 2 .done)) (.cond none (.seq none (.region [] (.ops 2 .done)) .leaf) .leaf))))))))))) (.region [] (.ops 4 .done)))))) (.seq none (.region [] (.ops 1 .done)) .leaf))))
theorem F43_tie (a0 : Sl) (a1 : Int) (a2 : Int) (a3 : Int) (a4 : Int) (a5 : Int) (K : Int → World → Prop) : vcgF tab Tryz.prog Tryz.f43 h43 [(.slice a0.a a0.len a0.cap), (.int .i64 a1), (.int .i64 a2), (.int .i64 a3), (.int .i64 a4), (.int .i64 a5)] (.one (.one (.int .i64))) K = F43 a0 a1 a2 a3 a4 a5 K := by kernel_rfl
theorem F43_calls {a0 : Sl} {a1 : Int} {a2 : Int} {a3 : Int} {a4 : Int} {a5 : Int} {K : Int → World → Prop} {w : World} (h : F43 a0 a1 a2 a3 a4 a5 K w) : callT Tryz.prog 43 #[(.slice a0.a a0.len a0.cap), (.int .i64 a1), (.int .i64 a2), (.int .i64 a3), (.int .i64 a4), (.int .i64 a5)] (.one (.one (.int .i64))) K w :=
  vcgF_sound tabOk Tryz.func43 h43 [(.slice a0.a a0.len a0.cap), (.int .i64 a1), (.int .i64 a2), (.int .i64 a3), (.int .i64 a4), (.int .i64 a5)] (.one (.one (.int .i64))) K w (Eq.mpr (congrFun (F43_tie a0 a1 a2 a3 a4 a5 K) w) h)
noncomputable def F44 (a0 : Option Addr) (a1 : (Int × Int × Int × Bool × Int × Unit)) (a2 : (Int × Int × Int × Bool × Int × Unit)) (K : (Int × Int × Int × Unit) → World → Prop) : World → Prop :=
 newO (.cells #[(.int .i64 a1.1), (.int .i64 a1.2.1), (.int .i64 a1.2.2.1), (.bool a1.2.2.2.1), (.int .i64 a1.2.2.2.2.1)] 72) fun b1 =>
 newO (.cells #[(.int .i64 a2.1), (.int .i64 a2.2.1), (.int .i64 a2.2.2.1), (.bool a2.2.2.2.1), (.int .i64 a2.2.2.2.2.1)] 72) fun b2 =>
 newO (.cells #[(.int .i64 (0 : Int)), (.int .i64 (0 : Int)), (.int .i64 (0 : Int))] 34) fun b3 =>
 ld (.int .i64) (⟨b1, 1, none⟩ : Addr) fun (x4 : Int) =>
 ld (.int .i64) (at0 b2) fun (x5 : Int) =>
 newO (.cells #[(.int .i64 (0 : Int)), (.int .i64 (0 : Int)), (.int .i64 (0 : Int))] 34) fun b6 =>
 aggSt (at0 b6) (.agg #[(.int .i64 x4), (.int .i64 x5), (.int .i64 (0 : Int))]) 3 <|
 ld (.int .i64) (at0 b1) fun (x7 : Int) =>
 callT Tryz.prog 57 #[(.pointer a0), (.int .i64 x7)] (.one (.one (.int .i64))) fun (x8 : Int) =>
 callT Tryz.prog 71 #[(.pointer a0), (.int .i64 x8)] (.tup [(.agg c100), (.one (.int .i64))]) fun (x9 : ((Int × Int × Int × Int × Unit) × Int × Unit)) =>
 newO (.cells #[(.int .i64 (0 : Int)), (.int .i64 (0 : Int)), (.int .i64 (0 : Int)), (.int .i64 (0 : Int))] 100) fun b10 =>
 aggSt (at0 b10) (.agg (Cells.vals c100 x9.1).toArray) 4 <|
 ld (.int .i64) (at0 b2) fun (x11 : Int) =>
 callT Tryz.prog 57 #[(.pointer a0), (.int .i64 x11)] (.one (.one (.int .i64))) fun (x12 : Int) =>
 callT Tryz.prog 71 #[(.pointer a0), (.int .i64 x12)] (.tup [(.agg c100), (.one (.int .i64))]) fun (x13 : ((Int × Int × Int × Int × Unit) × Int × Unit)) =>
 newO (.cells #[(.int .i64 (0 : Int)), (.int .i64 (0 : Int)), (.int .i64 (0 : Int)), (.int .i64 (0 : Int))] 100) fun b14 =>
 aggSt (at0 b14) (.agg (Cells.vals c100 x13.1).toArray) 4 <|
 join (S := Bool × Unit) (fun J15 =>
 ld (.int .i64) (⟨b10, 1, none⟩ : Addr) fun (x17 : Int) =>
 ld (.int .i64) (⟨b1, 1, none⟩ : Addr) fun (x18 : Int) =>
 sif (x17 != x18) (
 J15 (true, ())) (
 lds c100 (at0 b10) fun (x19 : (Int × Int × Int × Int × Unit)) =>
 lds c100 (at0 b14) fun (x20 : (Int × Int × Int × Int × Unit)) =>
 rdB Tryz.prog (do eqGuard .eql 100 (Operand.tmp 43) (Operand.tmp 44) (.agg (Cells.vals c100 x19).toArray) (.agg (Cells.vals c100 x20).toArray); binOp .eql 100 (.agg (Cells.vals c100 x19).toArray) (.agg (Cells.vals c100 x20).toArray) : Sem Value) fun r21 =>
 J15 (r21, ()))) fun (s16 : Bool × Unit) =>
 sif s16.1 (
 lds c34 (at0 b6) fun (x22 : (Int × Int × Int × Unit)) =>
 aggSt (at0 b3) (.agg (Cells.vals c34 x22).toArray) 3 <|
 lds c34 (at0 b3) fun (x23 : (Int × Int × Int × Unit)) =>
 K x23) (
 join (S := Unit) (fun J24 =>
 drew <|
 ld (.int .i64) (at0 b14) fun (x26 : Int) =>
 ld (.int .i64) (at0 b2) fun (x27 : Int) =>
 ld (.int .i64) (at0 b14) fun (x28 : Int) =>
 callT Tryz.prog 23 #[(.pointer a0), (.int .i64 x26), (.int .i64 x27)] (.one (.one .sl)) fun (x29 : Sl) =>
 keep (fun w => w.cell? (at0 b14) = some (Cell.val (.int .i64) x28)) <|
 callT Tryz.prog 39 #[(.slice x29.a x29.len x29.cap), (.int .i64 x28)] (.one (.one .sl)) fun (x30 : Sl) =>
 sloop (S := Int × Unit) (fun (s31 : Int × Unit) again32 =>
 sif (decide (s31.1 < ((x30.len : Nat) : Int))) (
 ix x30.a x30.len s31.1 fun p33 =>
 lds c72 (p33.add (scaled (Int.toNat s31.1) 5)) fun (x34 : (Int × Int × Int × Bool × Int × Unit)) =>
 newO (.cells #[(.int .i64 (0 : Int)), (.int .i64 (0 : Int)), (.int .i64 (0 : Int)), (.bool false), (.int .i64 (0 : Int))] 72) fun b35 =>
 aggSt (at0 b35) (.agg (Cells.vals c72 x34).toArray) 5 <|
 ld (.int .i64) (⟨b35, 2, none⟩ : Addr) fun (x36 : Int) =>
 sif (x36 != (0 : Int)) (
 lds c34 (at0 b6) fun (x37 : (Int × Int × Int × Unit)) =>
 aggSt (at0 b3) (.agg (Cells.vals c34 x37).toArray) 3 <|
 lds c34 (at0 b3) fun (x38 : (Int × Int × Int × Unit)) =>
 K x38) (
 again32 ((IntKind.wrap .i64 (s31.1 + (1 : Int))), ()))) (
 J24 ())) ((0 : Int), ())) fun (s25 : Unit) =>
 ld (.int .i64) (⟨b10, 2, none⟩ : Addr) fun (x39 : Int) =>
 ld (.int .i64) (at0 b14) fun (x40 : Int) =>
 sif (x39 == x40) (
 ld (.int .i64) (⟨b1, 1, none⟩ : Addr) fun (x41 : Int) =>
 ld (.int .i64) (⟨b1, 1, none⟩ : Addr) fun (x42 : Int) =>
 aggSt (at0 b3) (.agg #[(.int .i64 x41), (.int .i64 x42), (.int .i64 (0 : Int))]) 3 <|
 lds c34 (at0 b3) fun (x43 : (Int × Int × Int × Unit)) =>
 K x43) (
 ld (.int .i64) (⟨b10, 2, none⟩ : Addr) fun (x44 : Int) =>
 ld (.int .i64) (at0 b14) fun (x45 : Int) =>
 aggSt (at0 b3) (.agg #[(.int .i64 x44), (.int .i64 x45), (.int .i64 (1 : Int))]) 3 <|
 lds c34 (at0 b3) fun (x46 : (Int × Int × Int × Unit)) =>
 K x46))
noncomputable def h44 : Hint := (.seq none (.region [] (.ops 3 .done)) (.seq none (.region [] (.ops 7 .done)) (.seq none (.region [] (.ops 12 .done)) (.seq none (.region [] (.ops 12 .done)) (.seq none (.seq (some (140600049401856, [(46, (.one .bool))])) (.region [] (.ops 6 (.split 42 (.skips 3 (.ops 1 .done)) (.ops 4 .done)))) (.cond none (.seq none (.region [] (.ops 2 .done)) .leaf) .leaf)) (.seq (some (147573671114699710464, [])) (.seq none (.region [0, 1, 2, 3, 4, 6, 7, 10, 5, 8, 9] (.ops 11 .done)) (.block (.loop 147285722213524709376 [(58, (.one (.int .i64)))] (.seq none (.region [] (.ops 1 .done)) (.seq none (.cond none .leaf .leaf) (.seq none (.block (.seq none (.region [] (.ops 4 .done)) (.seq none (.region [] (.ops 3 .done)) (.cond none (.seq none (.region [] (.ops 2 .done)) .leaf) .leaf)))) (.region [] (.ops 2 .done)))))))) (.seq none (.seq none (.region [] (.ops 5 .done)) (.cond none (.seq none (.region [] (.ops 6 .done)) .leaf) .leaf)) (.seq none (.region [] (.ops 6 .done)) .leaf))))))))
theorem F44_tie (a0 : Option Addr) (a1 : (Int × Int × Int × Bool × Int × Unit)) (a2 : (Int × Int × Int × Bool × Int × Unit)) (K : (Int × Int × Int × Unit) → World → Prop) : vcgF tab Tryz.prog Tryz.f44 h44 [(.pointer a0), (.agg (Cells.vals c72 a1).toArray), (.agg (Cells.vals c72 a2).toArray)] (.one (.agg c34)) K = F44 a0 a1 a2 K := by kernel_rfl
theorem F44_calls {a0 : Option Addr} {a1 : (Int × Int × Int × Bool × Int × Unit)} {a2 : (Int × Int × Int × Bool × Int × Unit)} {K : (Int × Int × Int × Unit) → World → Prop} {w : World} (h : F44 a0 a1 a2 K w) : callT Tryz.prog 44 #[(.pointer a0), (.agg (Cells.vals c72 a1).toArray), (.agg (Cells.vals c72 a2).toArray)] (.one (.agg c34)) K w :=
  vcgF_sound tabOk Tryz.func44 h44 [(.pointer a0), (.agg (Cells.vals c72 a1).toArray), (.agg (Cells.vals c72 a2).toArray)] (.one (.agg c34)) K w (Eq.mpr (congrFun (F44_tie a0 a1 a2 K) w) h)
noncomputable def F51 (a0 : Option Addr) (a1 : Int) (K : (Sl × Int × Unit) → World → Prop) : World → Prop :=
 callT Tryz.prog 57 #[(.pointer a0), (.int .i64 a1)] (.one (.one (.int .i64))) fun (x1 : Int) =>
 callT Tryz.prog 71 #[(.pointer a0), (.int .i64 x1)] (.tup [(.agg c100), (.one (.int .i64))]) fun (x2 : ((Int × Int × Int × Int × Unit) × Int × Unit)) =>
 newO (.cells #[(.int .i64 (0 : Int)), (.int .i64 (0 : Int)), (.int .i64 (0 : Int)), (.int .i64 (0 : Int))] 100) fun b3 =>
 aggSt (at0 b3) (.agg (Cells.vals c100 x2.1).toArray) 4 <|
 drew <|
 ld (.int .i64) (at0 b3) fun (x4 : Int) =>
 ld (.int .i64) (⟨b3, 1, none⟩ : Addr) fun (x5 : Int) =>
 ld (.int .i64) (at0 b3) fun (x6 : Int) =>
 callT Tryz.prog 23 #[(.pointer a0), (.int .i64 x4), (.int .i64 x5)] (.one (.one .sl)) fun (x7 : Sl) =>
 keep (fun w => w.cell? (at0 b3) = some (Cell.val (.int .i64) x6)) <|
 callT Tryz.prog 39 #[(.slice x7.a x7.len x7.cap), (.int .i64 x6)] (.one (.one .sl)) fun (x8 : Sl) =>
 join (S := Unit) (fun J9 =>
 sloop (S := Int × Unit) (fun (s11 : Int × Unit) again12 =>
 sif (decide (s11.1 < ((x8.len : Nat) : Int))) (
 ix x8.a x8.len s11.1 fun p13 =>
 lds c72 (p13.add (scaled (Int.toNat s11.1) 5)) fun (x14 : (Int × Int × Int × Bool × Int × Unit)) =>
 newO (.cells #[(.int .i64 (0 : Int)), (.int .i64 (0 : Int)), (.int .i64 (0 : Int)), (.bool false), (.int .i64 (0 : Int))] 72) fun b15 =>
 aggSt (at0 b15) (.agg (Cells.vals c72 x14).toArray) 5 <|
 ld (.int .i64) (⟨b15, 1, none⟩ : Addr) fun (x16 : Int) =>
 sif (decide (a1 < x16)) (
 K (x8, s11.1, ())) (
 again12 ((IntKind.wrap .i64 (s11.1 + (1 : Int))), ()))) (
 J9 ())) ((0 : Int), ())) fun (s10 : Unit) =>
 K (x8, (IntKind.wrap .i64 (((x8.len : Nat) : Int) - (1 : Int))), ())
noncomputable def h51 : Hint := (.seq none (.region [] (.ops 2 .done)) (.seq none (.region [] (.ops 11 .done)) (.seq none (.region [0, 1, 2, 3, 4, 6, 7, 5, 8, 9] (.ops 10 .done)) (.seq (some (4397778077232, [])) (.seq none (.region [] (.ops 3 .done)) (.block (.loop 4396972770864 [(30, (.one (.int .i64)))] (.seq none (.region [] (.ops 1 .done)) (.seq none (.cond none .leaf .leaf) (.seq none (.block (.seq none (.region [] (.ops 6 .done)) (.seq none (.region [] (.ops 4 .done)) (.cond none (.seq none (.region [] (.ops 4 .done)) .leaf) .leaf)))) (.region [] (.ops 2 .done)))))))) (.seq none (.region [] (.ops 6 .done)) .leaf)))))
theorem F51_tie (a0 : Option Addr) (a1 : Int) (K : (Sl × Int × Unit) → World → Prop) : vcgF tab Tryz.prog Tryz.f51 h51 [(.pointer a0), (.int .i64 a1)] (.tup [(.one .sl), (.one (.int .i64))]) K = F51 a0 a1 K := by kernel_rfl
theorem F51_calls {a0 : Option Addr} {a1 : Int} {K : (Sl × Int × Unit) → World → Prop} {w : World} (h : F51 a0 a1 K w) : callT Tryz.prog 51 #[(.pointer a0), (.int .i64 a1)] (.tup [(.one .sl), (.one (.int .i64))]) K w :=
  vcgF_sound tabOk Tryz.func51 h51 [(.pointer a0), (.int .i64 a1)] (.tup [(.one .sl), (.one (.int .i64))]) K w (Eq.mpr (congrFun (F51_tie a0 a1 K) w) h)
noncomputable def F52 (a0 : Int) (v0 : Addr) (v1 : Addr) (K : Int → World → Prop) : World → Prop :=
 join (S := Bool × Unit) (fun J1 =>
 ld (.bool) v0 fun (x3 : Bool) =>
 sif x3 (
 ld (.sl) v1 fun (x4 : Sl) =>
 ix x4.a x4.len a0 fun p5 =>
 ld (.int .i64) ((p5.add (scaled (Int.toNat a0) 5)).add 2) fun (x6 : Int) =>
 J1 ((x6 != (0 : Int)), ())) (
 J1 (false, ()))) fun (s2 : Bool × Unit) =>
 sif s2.1 (
 K (2 : Int)) (
 ld (.sl) v1 fun (x7 : Sl) =>
 ix x7.a x7.len a0 fun p8 =>
 ld (.int .i64) ((p8.add (scaled (Int.toNat a0) 5)).add 2) fun (x9 : Int) =>
 K x9)
noncomputable def h52 : Hint := (.seq none (.region [] (.ops 1 .done)) (.seq none (.seq (some (16352, [(13, (.one .bool))])) (.region [] (.ops 2 (.split 6 (.ops 7 .done) (.skips 6 (.ops 1 .done))))) (.cond none (.seq none (.region [] (.ops 1 .done)) .leaf) .leaf)) (.seq none (.region [] (.ops 6 .done)) .leaf)))
theorem F52_tie (a0 : Int) (v0 : Addr) (v1 : Addr) (K : Int → World → Prop) : vcgF tab Tryz.prog Tryz.f52 h52 [(.int .i64 a0), (.pointer (some v0)), (.pointer (some v1))] (.one (.one (.int .i64))) K = F52 a0 v0 v1 K := by kernel_rfl
theorem F52_calls {a0 : Int} {v0 : Addr} {v1 : Addr} {K : Int → World → Prop} {w : World} (h : F52 a0 v0 v1 K w) : callT Tryz.prog 52 #[(.int .i64 a0), (.pointer (some v0)), (.pointer (some v1))] (.one (.one (.int .i64))) K w :=
  vcgF_sound tabOk Tryz.func52 h52 [(.int .i64 a0), (.pointer (some v0)), (.pointer (some v1))] (.one (.one (.int .i64))) K w (Eq.mpr (congrFun (F52_tie a0 v0 v1 K) w) h)
noncomputable def F53 (a0 : (Int × Value × Unit)) (a1 : Int) (a2 : Int) (K : (Int × Int × Bool × Unit) → World → Prop) : World → Prop :=
 newO (.cells #[(.int .i64 a0.1), a0.2.1] 89) fun b1 =>
 join (S := Int × Unit) (fun J2 =>
 sloop (S := Int × Int × Unit) (fun (s4 : Int × Int × Unit) again5 =>
 sif (decide (s4.2.1 < a2)) (
 ld (.int .i64) (at0 b1) fun (x6 : Int) =>
 sif (decide (s4.1 ≥ x6)) (
 K ((0 : Int), (0 : Int), false, ())) (
 lds c89 (at0 b1) fun (x7 : (Int × Value × Unit)) =>
 callT Tryz.prog 79 #[(.agg (Cells.vals c89 x7).toArray), (.int .i64 s4.1)] (.one (.one (.int .i64))) fun (x8 : Int) =>
 again5 (x8, (IntKind.wrap .i64 (s4.2.1 + (1 : Int))), ()))) (
 J2 (s4.1, ()))) (a1, (0 : Int), ())) fun (s3 : Int × Unit) =>
 lds c89 (at0 b1) fun (x9 : (Int × Value × Unit)) =>
 callT Tryz.prog 80 #[(.agg (Cells.vals c89 x9).toArray), (.int .i64 a1)] (.one (.one (.int .i64))) fun (x10 : Int) =>
 K (x10, s3.1, true, ())
noncomputable def h53 : Hint := (.seq none (.region [] (.ops 4 .done)) (.seq none (.region [] (.ops 2 .done)) (.seq (some (4193216, [(9, (.one (.int .i64)))])) (.seq none (.region [] (.ops 2 .done)) (.block (.loop 4191168 [(9, (.one (.int .i64))), (12, (.one (.int .i64)))] (.seq none (.region [] (.ops 1 .done)) (.seq none (.cond none .leaf .leaf) (.seq none (.block (.seq none (.seq none (.region [] (.ops 4 .done)) (.cond none (.seq none (.region [] (.ops 3 .done)) .leaf) .leaf)) (.region [] (.ops 4 .done)))) (.region [] (.ops 2 .done)))))))) (.seq none (.region [] (.ops 7 .done)) .leaf))))
theorem F53_tie (a0 : (Int × Value × Unit)) (a1 : Int) (a2 : Int) (K : (Int × Int × Bool × Unit) → World → Prop) : vcgF tab Tryz.prog Tryz.f53 h53 [(.agg (Cells.vals c89 a0).toArray), (.int .i64 a1), (.int .i64 a2)] (.tup [(.one (.int .i64)), (.one (.int .i64)), (.one .bool)]) K = F53 a0 a1 a2 K := by kernel_rfl
theorem F53_calls {a0 : (Int × Value × Unit)} {a1 : Int} {a2 : Int} {K : (Int × Int × Bool × Unit) → World → Prop} {w : World} (h : F53 a0 a1 a2 K w) : callT Tryz.prog 53 #[(.agg (Cells.vals c89 a0).toArray), (.int .i64 a1), (.int .i64 a2)] (.tup [(.one (.int .i64)), (.one (.int .i64)), (.one .bool)]) K w :=
  vcgF_sound tabOk Tryz.func53 h53 [(.agg (Cells.vals c89 a0).toArray), (.int .i64 a1), (.int .i64 a2)] (.tup [(.one (.int .i64)), (.one (.int .i64)), (.one .bool)]) K w (Eq.mpr (congrFun (F53_tie a0 a1 a2 K) w) h)
noncomputable def F54 (a0 : (Int × Value × Unit)) (a1 : Int) (a2 : Int) (K : (Int × Int × Bool × Unit) → World → Prop) : World → Prop :=
 newO (.cells #[(.int .i64 a0.1), a0.2.1] 89) fun b1 =>
 ld (.any) (⟨b1, 1, none⟩ : Addr) fun (x2 : Value) =>
 callX Tryz.prog (do let d ← Deferred.ofValue x2 #[(.int .i64 a1)]; invoke d.target d.args : Sem Next) (.one (.one (.int .i64))) fun (x3 : Int) =>
 lds c89 (at0 b1) fun (x4 : (Int × Value × Unit)) =>
 callT Tryz.prog 80 #[(.agg (Cells.vals c89 x4).toArray), (.int .i64 a1)] (.one (.one (.int .i64))) fun (x5 : Int) =>
 join (S := Int × Unit) (fun J6 =>
 sloop (S := Int × Int × Unit) (fun (s8 : Int × Int × Unit) again9 =>
 sif (decide (s8.2.1 < a2)) (
 join (S := Int × Unit) (fun J10 =>
 join (S := Bool × Unit) (fun J12 =>
 ld (.int .i64) (at0 b1) fun (x14 : Int) =>
 sif (decide (s8.1 < x14)) (
 ld (.any) (⟨b1, 1, none⟩ : Addr) fun (x15 : Value) =>
 callX Tryz.prog (do let d ← Deferred.ofValue x15 #[(.int .i64 s8.1)]; invoke d.target d.args : Sem Next) (.one (.one (.int .i64))) fun (x16 : Int) =>
 J12 ((x16 == (0 : Int)), ())) (
 J12 (false, ()))) fun (s13 : Bool × Unit) =>
 sif s13.1 (
 lds c89 (at0 b1) fun (x17 : (Int × Value × Unit)) =>
 callT Tryz.prog 79 #[(.agg (Cells.vals c89 x17).toArray), (.int .i64 s8.1)] (.one (.one (.int .i64))) fun (x18 : Int) =>
 J10 (x18, ())) (
 J10 (s8.1, ()))) fun (s11 : Int × Unit) =>
 ld (.int .i64) (at0 b1) fun (x19 : Int) =>
 sif (decide (s11.1 ≥ x19)) (
 K ((0 : Int), (0 : Int), false, ())) (
 lds c89 (at0 b1) fun (x20 : (Int × Value × Unit)) =>
 callT Tryz.prog 79 #[(.agg (Cells.vals c89 x20).toArray), (.int .i64 s11.1)] (.one (.one (.int .i64))) fun (x21 : Int) =>
 again9 (x21, (IntKind.wrap .i64 (s8.2.1 + (1 : Int))), ()))) (
 J6 (s8.1, ()))) (a1, (0 : Int), ())) fun (s7 : Int × Unit) =>
 join (S := Int × Int × Unit) (fun J22 =>
 sif (x3 == (0 : Int)) (
 J22 (x5, s7.1, ())) (
 join (S := Bool × Unit) (fun J24 =>
 ld (.int .i64) (at0 b1) fun (x26 : Int) =>
 sif (decide (s7.1 < x26)) (
 ld (.any) (⟨b1, 1, none⟩ : Addr) fun (x27 : Value) =>
 callX Tryz.prog (do let d ← Deferred.ofValue x27 #[(.int .i64 s7.1)]; invoke d.target d.args : Sem Next) (.one (.one (.int .i64))) fun (x28 : Int) =>
 J24 ((x28 == (0 : Int)), ())) (
 J24 (false, ()))) fun (s25 : Bool × Unit) =>
 sif s25.1 (
 lds c89 (at0 b1) fun (x29 : (Int × Value × Unit)) =>
 callT Tryz.prog 79 #[(.agg (Cells.vals c89 x29).toArray), (.int .i64 s7.1)] (.one (.one (.int .i64))) fun (x30 : Int) =>
 J22 (x5, x30, ())) (
 join (S := Bool × Unit) (fun J31 =>
 sif (decide (x5 > (0 : Int))) (
 ld (.any) (⟨b1, 1, none⟩ : Addr) fun (x33 : Value) =>
 callX Tryz.prog (do let d ← Deferred.ofValue x33 #[(.int .i64 (IntKind.wrap .i64 (x5 - (1 : Int))))]; invoke d.target d.args : Sem Next) (.one (.one (.int .i64))) fun (x34 : Int) =>
 J31 ((x34 == (0 : Int)), ())) (
 J31 (false, ()))) fun (s32 : Bool × Unit) =>
 sif s32.1 (
 lds c89 (at0 b1) fun (x35 : (Int × Value × Unit)) =>
 callT Tryz.prog 80 #[(.agg (Cells.vals c89 x35).toArray), (.int .i64 (IntKind.wrap .i64 (x5 - (1 : Int))))] (.one (.one (.int .i64))) fun (x36 : Int) =>
 J22 (x36, s7.1, ())) (
 J22 (x5, s7.1, ()))))) fun (s23 : Int × Int × Unit) =>
 K (s23.1, s23.2.1, true, ())
noncomputable def h54 : Hint := (.seq none (.region [] (.ops 4 .done)) (.seq none (.region [] (.ops 6 .done)) (.seq none (.region [] (.ops 6 .done)) (.seq (some (70368742083008, [(11, (.one (.int .i64)))])) (.seq none (.region [] (.ops 2 .done)) (.block (.loop 70368739985856 [(11, (.one (.int .i64))), (22, (.one (.int .i64)))] (.seq none (.region [] (.ops 1 .done)) (.seq none (.cond none .leaf .leaf) (.seq none (.block (.seq (some (274861131776, [(11, (.one (.int .i64)))])) (.seq (some (34342961152, [(34, (.one .bool))])) (.region [] (.ops 5 (.split 28 (.ops 6 .done) (.skips 5 (.ops 1 .done))))) (.cond none (.region [] (.ops 4 .done)) .leaf)) (.seq none (.seq none (.region [] (.ops 4 .done)) (.cond none (.seq none (.region [] (.ops 3 .done)) .leaf) .leaf)) (.region [] (.ops 4 .done))))) (.region [] (.ops 2 .done)))))))) (.seq (some (302231454833288549501952, [(10, (.one (.int .i64))), (11, (.one (.int .i64)))])) (.block (.seq none (.region [] (.ops 2 .done)) (.cond none .leaf (.seq (some (1152640029630136320, [(48, (.one .bool))])) (.region [] (.ops 5 (.split 53 (.ops 7 .done) (.skips 5 (.ops 2 .done))))) (.cond none (.region [] (.ops 4 .done)) (.seq (some (18880242559441726078976, [(63, (.one .bool))])) (.region [] (.ops 3 (.split 66 (.ops 8 .done) (.skips 6 (.ops 2 .done))))) (.cond none (.region [] (.ops 5 .done)) .leaf))))))) (.seq none (.region [] (.ops 5 .done)) .leaf))))))
theorem F54_tie (a0 : (Int × Value × Unit)) (a1 : Int) (a2 : Int) (K : (Int × Int × Bool × Unit) → World → Prop) : vcgF tab Tryz.prog Tryz.f54 h54 [(.agg (Cells.vals c89 a0).toArray), (.int .i64 a1), (.int .i64 a2)] (.tup [(.one (.int .i64)), (.one (.int .i64)), (.one .bool)]) K = F54 a0 a1 a2 K := by kernel_rfl
theorem F54_calls {a0 : (Int × Value × Unit)} {a1 : Int} {a2 : Int} {K : (Int × Int × Bool × Unit) → World → Prop} {w : World} (h : F54 a0 a1 a2 K w) : callT Tryz.prog 54 #[(.agg (Cells.vals c89 a0).toArray), (.int .i64 a1), (.int .i64 a2)] (.tup [(.one (.int .i64)), (.one (.int .i64)), (.one .bool)]) K w :=
  vcgF_sound tabOk Tryz.func54 h54 [(.agg (Cells.vals c89 a0).toArray), (.int .i64 a1), (.int .i64 a2)] (.tup [(.one (.int .i64)), (.one (.int .i64)), (.one .bool)]) K w (Eq.mpr (congrFun (F54_tie a0 a1 a2 K) w) h)
noncomputable def F55 (a0 : Sl) (a1 : Int) (a2 : Int) (K : (Int × Int × Bool × Unit) → World → Prop) : World → Prop :=
 join (S := Unit) (fun J1 =>
 sloop (S := Int × Int × Int × Unit) (fun (s3 : Int × Int × Int × Unit) again4 =>
 sif (decide (s3.2.2.1 < ((a0.len : Nat) : Int))) (
 join (S := Int × Int × Unit) (fun J5 =>
 ix a0.a a0.len s3.2.2.1 fun p7 =>
 lds c72 (p7.add (scaled (Int.toNat s3.2.2.1) 5)) fun (x8 : (Int × Int × Int × Bool × Int × Unit)) =>
 newO (.cells #[(.int .i64 (0 : Int)), (.int .i64 (0 : Int)), (.int .i64 (0 : Int)), (.bool false), (.int .i64 (0 : Int))] 72) fun b9 =>
 aggSt (at0 b9) (.agg (Cells.vals c72 x8).toArray) 5 <|
 join (S := Bool × Unit) (fun J10 =>
 lds c72 (at0 b9) fun (x12 : (Int × Int × Int × Bool × Int × Unit)) =>
 callT Tryz.prog 42 #[(.agg (Cells.vals c72 x12).toArray), (.int .i64 a2)] (.one (.one .bool)) fun (x13 : Bool) =>
 sif x13 (
 chk ((2 : Int) ≠ 0) <|
 J10 (((Int.tmod s3.2.1 (2 : Int)) == (0 : Int)), ())) (
 J10 (false, ()))) fun (s11 : Bool × Unit) =>
 join (S := Int × Unit) (fun J14 =>
 lds c72 (at0 b9) fun (x16 : (Int × Int × Int × Bool × Int × Unit)) =>
 callT Tryz.prog 42 #[(.agg (Cells.vals c72 x16).toArray), (.int .i64 (92 : Int))] (.one (.one .bool)) fun (x17 : Bool) =>
 sif (!x17) (
 J14 ((0 : Int), ())) (
 J14 ((IntKind.wrap .i64 (s3.2.1 + (1 : Int))), ()))) fun (s15 : Int × Unit) =>
 sif (!s11.1) (
 J5 (s3.1, s15.1, ())) (
 sif (decide (s3.1 < (0 : Int))) (
 J5 (s3.2.2.1, s15.1, ())) (
 sif (decide (s3.2.2.1 ≥ a1)) (
 K (s3.1, s3.2.2.1, true, ())) (
 J5 ((-1 : Int), s15.1, ()))))) fun (s6 : Int × Int × Unit) =>
 again4 (s6.1, s6.2.1, (IntKind.wrap .i64 (s3.2.2.1 + (1 : Int))), ())) (
 J1 ())) ((-1 : Int), (0 : Int), (0 : Int), ())) fun (s2 : Unit) =>
 K ((0 : Int), (0 : Int), false, ())
noncomputable def h55 : Hint := (.seq none (.region [] (.ops 3 .done)) (.seq none (.region [] (.ops 2 .done)) (.seq (some (281474976710592, [])) (.seq none (.region [] (.ops 3 .done)) (.block (.loop 281474976661440 [(9, (.one (.int .i64))), (10, (.one (.int .i64))), (16, (.one (.int .i64)))] (.seq none (.region [] (.ops 1 .done)) (.seq none (.cond none .leaf .leaf) (.seq (some (140737488109504, [(9, (.one (.int .i64))), (10, (.one (.int .i64)))])) (.block (.seq none (.region [] (.ops 6 .done)) (.seq (some (534781952, [(13, (.one .bool))])) (.region [] (.ops 4 (.split 24 (.ops 5 .done) (.skips 3 (.ops 2 .done))))) (.seq none (.region [] (.ops 3 .done)) (.seq (some (15032386560, [(10, (.one (.int .i64)))])) (.seq none (.region [] (.ops 3 .done)) (.cond none (.region [] (.ops 1 .done)) .leaf)) (.block (.seq none (.region [] (.ops 3 .done)) (.cond none .leaf (.seq none (.region [] (.ops 3 .done)) (.cond none (.region [] (.ops 2 .done)) (.seq none (.region [] (.ops 4 .done)) (.cond none (.seq none (.region [] (.ops 5 .done)) .leaf) (.region [] (.ops 1 .done)))))))))))))) (.region [] (.ops 2 .done)))))))) (.seq none (.region [] (.ops 3 .done)) .leaf))))
theorem F55_tie (a0 : Sl) (a1 : Int) (a2 : Int) (K : (Int × Int × Bool × Unit) → World → Prop) : vcgF tab Tryz.prog Tryz.f55 h55 [(.slice a0.a a0.len a0.cap), (.int .i64 a1), (.int .i64 a2)] (.tup [(.one (.int .i64)), (.one (.int .i64)), (.one .bool)]) K = F55 a0 a1 a2 K := by kernel_rfl
theorem F55_calls {a0 : Sl} {a1 : Int} {a2 : Int} {K : (Int × Int × Bool × Unit) → World → Prop} {w : World} (h : F55 a0 a1 a2 K w) : callT Tryz.prog 55 #[(.slice a0.a a0.len a0.cap), (.int .i64 a1), (.int .i64 a2)] (.tup [(.one (.int .i64)), (.one (.int .i64)), (.one .bool)]) K w :=
  vcgF_sound tabOk Tryz.func55 h55 [(.slice a0.a a0.len a0.cap), (.int .i64 a1), (.int .i64 a2)] (.tup [(.one (.int .i64)), (.one (.int .i64)), (.one .bool)]) K w (Eq.mpr (congrFun (F55_tie a0 a1 a2 K) w) h)
noncomputable def F56 (a0 : Int) (v0 : Addr) (K : Bool → World → Prop) : World → Prop :=
 sif (decide (a0 ≥ (0 : Int))) (
 ld (.sl) v0 fun (x1 : Sl) =>
 sif (decide (a0 < ((x1.len : Nat) : Int))) (
 ld (.sl) v0 fun (x2 : Sl) =>
 ix x2.a x2.len a0 fun p3 =>
 ld (.int .i64) ((p3.add (scaled (Int.toNat a0) 5)).add 2) fun (x4 : Int) =>
 K (x4 == (0 : Int))) (
 K false)) (
 K false)
noncomputable def h56 : Hint := (.seq none (.region [] (.ops 1 .done)) (.seq none (.region [] (.ops 3 (.split 6 (.ops 6 (.split 12 (.ops 8 .done) (.skips 6 (.ops 2 .done)))) (.skips 4 (.ops 2 (.skips 6 (.ops 2 .done))))))) .leaf))
theorem F56_tie (a0 : Int) (v0 : Addr) (K : Bool → World → Prop) : vcgF tab Tryz.prog Tryz.f56 h56 [(.int .i64 a0), (.pointer (some v0))] (.one (.one .bool)) K = F56 a0 v0 K := by kernel_rfl
theorem F56_calls {a0 : Int} {v0 : Addr} {K : Bool → World → Prop} {w : World} (h : F56 a0 v0 K w) : callT Tryz.prog 56 #[(.int .i64 a0), (.pointer (some v0))] (.one (.one .bool)) K w :=
  vcgF_sound tabOk Tryz.func56 h56 [(.int .i64 a0), (.pointer (some v0))] (.one (.one .bool)) K w (Eq.mpr (congrFun (F56_tie a0 v0 K) w) h)
noncomputable def F57 (a0 : Option Addr) (a1 : Int) (K : Int → World → Prop) : World → Prop :=
 callT Tryz.prog 40 #[(.pointer a0)] (.one (.one (.int .i64))) fun (x1 : Int) =>
 callT Tryz.prog 66 #[(.pointer a0), (.int .i64 (if x1 < (if (0 : Int) > a1 then (0 : Int) else a1) then x1 else (if (0 : Int) > a1 then (0 : Int) else a1)))] (.one (.one (.int .i64))) fun (x2 : Int) =>
 K x2
noncomputable def h57 : Hint := (.seq none (.region [] (.ops 1 .done)) (.seq none (.region [] (.ops 8 .done)) .leaf))
theorem F57_tie (a0 : Option Addr) (a1 : Int) (K : Int → World → Prop) : vcgF tab Tryz.prog Tryz.f57 h57 [(.pointer a0), (.int .i64 a1)] (.one (.one (.int .i64))) K = F57 a0 a1 K := by kernel_rfl
theorem F57_calls {a0 : Option Addr} {a1 : Int} {K : Int → World → Prop} {w : World} (h : F57 a0 a1 K w) : callT Tryz.prog 57 #[(.pointer a0), (.int .i64 a1)] (.one (.one (.int .i64))) K w :=
  vcgF_sound tabOk Tryz.func57 h57 [(.pointer a0), (.int .i64 a1)] (.one (.one (.int .i64))) K w (Eq.mpr (congrFun (F57_tie a0 a1 K) w) h)
noncomputable def F58 (a0 : Option Addr) (K : Int → World → Prop) : World → Prop :=
 callT Tryz.prog 40 #[(.pointer a0)] (.one (.one (.int .i64))) fun (x1 : Int) =>
 callT Tryz.prog 66 #[(.pointer a0), (.int .i64 x1)] (.one (.one (.int .i64))) fun (x2 : Int) =>
 join (S := Int × Unit) (fun J3 =>
 callT Tryz.prog 81 #[(.pointer a0)] (.one (.one .bool)) fun (x5 : Bool) =>
 sif (!x5) (
 J3 ((IntKind.wrap .i64 (x2 + (1 : Int))), ())) (
 J3 (x2, ()))) fun (s4 : Int × Unit) =>
 K s4.1
noncomputable def h58 : Hint := (.seq none (.region [] (.ops 1 .done)) (.seq none (.region [] (.ops 5 .done)) (.seq (some (7944, [(3, (.one (.int .i64)))])) (.seq none (.region [] (.ops 3 .done)) (.cond none (.region [] (.ops 3 .done)) .leaf)) (.seq none (.region [] (.ops 2 .done)) .leaf))))
theorem F58_tie (a0 : Option Addr) (K : Int → World → Prop) : vcgF tab Tryz.prog Tryz.f58 h58 [(.pointer a0)] (.one (.one (.int .i64))) K = F58 a0 K := by kernel_rfl
theorem F58_calls {a0 : Option Addr} {K : Int → World → Prop} {w : World} (h : F58 a0 K w) : callT Tryz.prog 58 #[(.pointer a0)] (.one (.one (.int .i64))) K w :=
  vcgF_sound tabOk Tryz.func58 h58 [(.pointer a0)] (.one (.one (.int .i64))) K w (Eq.mpr (congrFun (F58_tie a0 K) w) h)
noncomputable def F59 (a0 : Option Addr) (K : Value → World → Prop) : World → Prop :=
 newO (.cells #[(.pointer a0)] 25) fun b1 =>
 K (.func (Fn.func 82) #[] #[(.pointer (some (at0 b1)))])
noncomputable def h59 : Hint := (.seq none (.region [] (.ops 2 .done)) (.seq none (.region [] (.ops 2 .done)) .leaf))
theorem F59_tie (a0 : Option Addr) (K : Value → World → Prop) : vcgF tab Tryz.prog Tryz.f59 h59 [(.pointer a0)] (.one (.one .any)) K = F59 a0 K := by kernel_rfl
theorem F59_calls {a0 : Option Addr} {K : Value → World → Prop} {w : World} (h : F59 a0 K w) : callT Tryz.prog 59 #[(.pointer a0)] (.one (.one .any)) K w :=
  vcgF_sound tabOk Tryz.func59 h59 [(.pointer a0)] (.one (.one .any)) K w (Eq.mpr (congrFun (F59_tie a0 K) w) h)
noncomputable def F60 (a0 : Int) (v0 : Addr) (K : Int → World → Prop) : World → Prop :=
 ld (.sl) v0 fun (x1 : Sl) =>
 ix x1.a x1.len a0 fun p2 =>
 ld (.int .i64) (p2.add (scaled (Int.toNat a0) 1)) fun (x3 : Int) =>
 K x3
noncomputable def h60 : Hint := (.seq none (.region [] (.ops 1 .done)) (.seq none (.region [] (.ops 5 .done)) .leaf))
theorem F60_tie (a0 : Int) (v0 : Addr) (K : Int → World → Prop) : vcgF tab Tryz.prog Tryz.f60 h60 [(.int .i64 a0), (.pointer (some v0))] (.one (.one (.int .i64))) K = F60 a0 v0 K := by kernel_rfl
theorem F60_calls {a0 : Int} {v0 : Addr} {K : Int → World → Prop} {w : World} (h : F60 a0 v0 K w) : callT Tryz.prog 60 #[(.int .i64 a0), (.pointer (some v0))] (.one (.one (.int .i64))) K w :=
  vcgF_sound tabOk Tryz.func60 h60 [(.int .i64 a0), (.pointer (some v0))] (.one (.one (.int .i64))) K w (Eq.mpr (congrFun (F60_tie a0 v0 K) w) h)
noncomputable def F71 (a0 : Option Addr) (a1 : Int) (K : ((Int × Int × Int × Int × Unit) × Int × Unit) → World → Prop) : World → Prop :=
 newO (.cells #[(.int .i64 (0 : Int)), (.int .i64 (0 : Int)), (.int .i64 (0 : Int)), (.int .i64 (0 : Int))] 100) fun b1 =>
 sif (decide (a1 < (0 : Int))) (
 aggSt (at0 b1) (.agg #[(.int .i64 (0 : Int)), (.int .i64 (0 : Int)), (.int .i64 (0 : Int)), (.int .i64 (0 : Int))]) 4 <|
 lds c100 (at0 b1) fun (x2 : (Int × Int × Int × Int × Unit)) =>
 K (x2, (2 : Int), ())) (
 callT Tryz.prog 67 #[(.pointer a0), (.int .i64 a1)] (.one (.one (.int .i64))) fun (x3 : Int) =>
 sif (decide (x3 < (0 : Int))) (
 aggSt (at0 b1) (.agg #[(.int .i64 (0 : Int)), (.int .i64 (0 : Int)), (.int .i64 (0 : Int)), (.int .i64 (0 : Int))]) 4 <|
 lds c100 (at0 b1) fun (x4 : (Int × Int × Int × Int × Unit)) =>
 K (x4, (2 : Int), ())) (
 callT Tryz.prog 40 #[(.pointer a0)] (.one (.one (.int .i64))) fun (x5 : Int) =>
 callT Tryz.prog 66 #[(.pointer a0), (.int .i64 x5)] (.one (.one (.int .i64))) fun (x6 : Int) =>
 sif (decide (a1 < x6)) (
 callT Tryz.prog 67 #[(.pointer a0), (.int .i64 (IntKind.wrap .i64 (a1 + (1 : Int))))] (.one (.one (.int .i64))) fun (x7 : Int) =>
 callT Tryz.prog 97 #[(.pointer a0), (.int .i64 x3), (.int .i64 x7)] (.one (.agg c100)) fun (x8 : (Int × Int × Int × Int × Unit)) =>
 aggSt (at0 b1) (.agg (Cells.vals c100 x8).toArray) 4 <|
 lds c100 (at0 b1) fun (x9 : (Int × Int × Int × Int × Unit)) =>
 K (x9, (0 : Int), ())) (
 callT Tryz.prog 40 #[(.pointer a0)] (.one (.one (.int .i64))) fun (x10 : Int) =>
 callT Tryz.prog 40 #[(.pointer a0)] (.one (.one (.int .i64))) fun (x11 : Int) =>
 aggSt (at0 b1) (.agg #[(.int .i64 x3), (.int .i64 x10), (.int .i64 x11), (.int .i64 (0 : Int))]) 4 <|
 lds c100 (at0 b1) fun (x12 : (Int × Int × Int × Int × Unit)) =>
 K (x12, (0 : Int), ()))))
noncomputable def h71 : Hint := (.seq none (.region [] (.ops 2 .done)) (.seq none (.seq none (.region [] (.ops 2 .done)) (.cond none (.seq none (.region [] (.ops 3 .done)) .leaf) .leaf)) (.seq none (.region [] (.ops 4 .done)) (.seq none (.seq none (.region [] (.ops 2 .done)) (.cond none (.seq none (.region [] (.ops 3 .done)) .leaf) .leaf)) (.seq none (.seq none (.region [] (.ops 6 .done)) (.cond none (.seq none (.region [] (.ops 9 .done)) .leaf) .leaf)) (.seq none (.region [] (.ops 8 .done)) .leaf))))))
theorem F71_tie (a0 : Option Addr) (a1 : Int) (K : ((Int × Int × Int × Int × Unit) × Int × Unit) → World → Prop) : vcgF tab Tryz.prog Tryz.f71 h71 [(.pointer a0), (.int .i64 a1)] (.tup [(.agg c100), (.one (.int .i64))]) K = F71 a0 a1 K := by kernel_rfl
theorem F71_calls {a0 : Option Addr} {a1 : Int} {K : ((Int × Int × Int × Int × Unit) × Int × Unit) → World → Prop} {w : World} (h : F71 a0 a1 K w) : callT Tryz.prog 71 #[(.pointer a0), (.int .i64 a1)] (.tup [(.agg c100), (.one (.int .i64))]) K w :=
  vcgF_sound tabOk Tryz.func71 h71 [(.pointer a0), (.int .i64 a1)] (.tup [(.agg c100), (.one (.int .i64))]) K w (Eq.mpr (congrFun (F71_tie a0 a1 K) w) h)
noncomputable def F79 (a0 : (Int × Value × Unit)) (a1 : Int) (K : Int → World → Prop) : World → Prop :=
 newO (.cells #[(.int .i64 a0.1), a0.2.1] 89) fun b1 =>
 join (S := Int × Unit) (fun J2 =>
 sloop (S := Int × Unit) (fun (s4 : Int × Unit) again5 =>
 join (S := Bool × Unit) (fun J6 =>
 drew <|
 ld (.int .i64) (at0 b1) fun (x8 : Int) =>
 sif (decide (s4.1 < x8)) (
 ld (.any) (⟨b1, 1, none⟩ : Addr) fun (x9 : Value) =>
 ld (.any) (⟨b1, 1, none⟩ : Addr) fun (x10 : Value) =>
 callX Tryz.prog (do let d ← Deferred.ofValue x9 #[(.int .i64 s4.1)]; invoke d.target d.args : Sem Next) (.one (.one (.int .i64))) fun (x11 : Int) =>
 keep (fun w => w.cell? (⟨b1, 1, none⟩ : Addr) = some (Cell.val (.any) x10)) <|
 callX Tryz.prog (do let d ← Deferred.ofValue x10 #[(.int .i64 a1)]; invoke d.target d.args : Sem Next) (.one (.one (.int .i64))) fun (x12 : Int) =>
 J6 ((x11 == x12), ())) (
 J6 (false, ()))) fun (s7 : Bool × Unit) =>
 sif s7.1 (
 again5 ((IntKind.wrap .i64 (s4.1 + (1 : Int))), ())) (
 J2 (s4.1, ()))) ((IntKind.wrap .i64 (a1 + (1 : Int))), ())) fun (s3 : Int × Unit) =>
 K s3.1
noncomputable def h79 : Hint := (.seq none (.region [] (.ops 2 .done)) (.seq none (.region [] (.ops 3 .done)) (.seq (some (33554208, [(5, (.one (.int .i64)))])) (.block (.loop 33554208 [(5, (.one (.int .i64)))] (.seq none (.seq (some (8388352, [(22, (.one .bool))])) (.region [0, 1, 2, 3, 4, 5, 6, 7, 9, 10, 11, 8, 12, 13, 14] (.ops 5 (.split 12 (.ops 10 .done) (.skips 9 (.ops 1 .done))))) (.cond none .leaf .leaf)) (.block (.region [] (.ops 3 .done)))))) (.seq none (.region [] (.ops 2 .done)) .leaf))))
theorem F79_tie (a0 : (Int × Value × Unit)) (a1 : Int) (K : Int → World → Prop) : vcgF tab Tryz.prog Tryz.f79 h79 [(.agg (Cells.vals c89 a0).toArray), (.int .i64 a1)] (.one (.one (.int .i64))) K = F79 a0 a1 K := by kernel_rfl
theorem F79_calls {a0 : (Int × Value × Unit)} {a1 : Int} {K : Int → World → Prop} {w : World} (h : F79 a0 a1 K w) : callT Tryz.prog 79 #[(.agg (Cells.vals c89 a0).toArray), (.int .i64 a1)] (.one (.one (.int .i64))) K w :=
  vcgF_sound tabOk Tryz.func79 h79 [(.agg (Cells.vals c89 a0).toArray), (.int .i64 a1)] (.one (.one (.int .i64))) K w (Eq.mpr (congrFun (F79_tie a0 a1 K) w) h)
noncomputable def F80 (a0 : (Int × Value × Unit)) (a1 : Int) (K : Int → World → Prop) : World → Prop :=
 newO (.cells #[(.int .i64 a0.1), a0.2.1] 89) fun b1 =>
 join (S := Int × Unit) (fun J2 =>
 sloop (S := Int × Unit) (fun (s4 : Int × Unit) again5 =>
 join (S := Bool × Unit) (fun J6 =>
 drew <|
 sif (decide (s4.1 > (0 : Int))) (
 ld (.any) (⟨b1, 1, none⟩ : Addr) fun (x8 : Value) =>
 ld (.any) (⟨b1, 1, none⟩ : Addr) fun (x9 : Value) =>
 callX Tryz.prog (do let d ← Deferred.ofValue x8 #[(.int .i64 (IntKind.wrap .i64 (s4.1 - (1 : Int))))]; invoke d.target d.args : Sem Next) (.one (.one (.int .i64))) fun (x10 : Int) =>
 keep (fun w => w.cell? (⟨b1, 1, none⟩ : Addr) = some (Cell.val (.any) x9)) <|
 callX Tryz.prog (do let d ← Deferred.ofValue x9 #[(.int .i64 s4.1)]; invoke d.target d.args : Sem Next) (.one (.one (.int .i64))) fun (x11 : Int) =>
 J6 ((x10 == x11), ())) (
 J6 (false, ()))) fun (s7 : Bool × Unit) =>
 sif s7.1 (
 again5 ((IntKind.wrap .i64 (s4.1 - (1 : Int))), ())) (
 J2 (s4.1, ()))) (a1, ())) fun (s3 : Int × Unit) =>
 K s3.1
noncomputable def h80 : Hint := (.seq none (.region [] (.ops 2 .done)) (.seq (some (2097122, [(1, (.one (.int .i64)))])) (.block (.loop 2097122 [(1, (.one (.int .i64)))] (.seq none (.seq (some (524256, [(18, (.one .bool))])) (.region [0, 1, 2, 3, 4, 5, 6, 8, 9, 10, 7, 11, 12, 13] (.ops 3 (.split 7 (.ops 11 .done) (.skips 10 (.ops 1 .done))))) (.cond none .leaf .leaf)) (.block (.region [] (.ops 3 .done)))))) (.seq none (.region [] (.ops 2 .done)) .leaf)))
theorem F80_tie (a0 : (Int × Value × Unit)) (a1 : Int) (K : Int → World → Prop) : vcgF tab Tryz.prog Tryz.f80 h80 [(.agg (Cells.vals c89 a0).toArray), (.int .i64 a1)] (.one (.one (.int .i64))) K = F80 a0 a1 K := by kernel_rfl
theorem F80_calls {a0 : (Int × Value × Unit)} {a1 : Int} {K : Int → World → Prop} {w : World} (h : F80 a0 a1 K w) : callT Tryz.prog 80 #[(.agg (Cells.vals c89 a0).toArray), (.int .i64 a1)] (.one (.one (.int .i64))) K w :=
  vcgF_sound tabOk Tryz.func80 h80 [(.agg (Cells.vals c89 a0).toArray), (.int .i64 a1)] (.one (.one (.int .i64))) K w (Eq.mpr (congrFun (F80_tie a0 a1 K) w) h)
noncomputable def F81 (a0 : Option Addr) (K : Bool → World → Prop) : World → Prop :=
 callT Tryz.prog 40 #[(.pointer a0)] (.one (.one (.int .i64))) fun (x1 : Int) =>
 sif (decide (x1 > (0 : Int))) (
 callT Tryz.prog 66 #[(.pointer a0), (.int .i64 x1)] (.one (.one (.int .i64))) fun (x2 : Int) =>
 callT Tryz.prog 67 #[(.pointer a0), (.int .i64 x2)] (.one (.one (.int .i64))) fun (x3 : Int) =>
 K (x3 == x1)) (
 K false)
noncomputable def h81 : Hint := (.seq none (.region [] (.ops 1 .done)) (.seq none (.region [] (.ops 3 .done)) (.seq none (.region [] (.ops 3 (.split 8 (.ops 9 .done) (.skips 7 (.ops 2 .done))))) .leaf)))
theorem F81_tie (a0 : Option Addr) (K : Bool → World → Prop) : vcgF tab Tryz.prog Tryz.f81 h81 [(.pointer a0)] (.one (.one .bool)) K = F81 a0 K := by kernel_rfl
theorem F81_calls {a0 : Option Addr} {K : Bool → World → Prop} {w : World} (h : F81 a0 K w) : callT Tryz.prog 81 #[(.pointer a0)] (.one (.one .bool)) K w :=
  vcgF_sound tabOk Tryz.func81 h81 [(.pointer a0)] (.one (.one .bool)) K w (Eq.mpr (congrFun (F81_tie a0 K) w) h)
noncomputable def F82 (a0 : Value) (v0 : Addr) (K : Unit → World → Prop) : World → Prop :=
 sloop (S := Int × Unit) (fun (s1 : Int × Unit) again2 =>
 ld (.ptr) v0 fun (x3 : Option Addr) =>
 callT Tryz.prog 71 #[(.pointer x3), (.int .i64 s1.1)] (.tup [(.agg c100), (.one (.int .i64))]) fun (x4 : ((Int × Int × Int × Int × Unit) × Int × Unit)) =>
 newO (.cells #[(.int .i64 (0 : Int)), (.int .i64 (0 : Int)), (.int .i64 (0 : Int)), (.int .i64 (0 : Int))] 100) fun b5 =>
 aggSt (at0 b5) (.agg (Cells.vals c100 x4.1).toArray) 4 <|
 ld (.int .i64) (at0 b5) fun (x6 : Int) =>
 ld (.int .i64) (at0 b5) fun (x7 : Int) =>
 ld (.int .i64) (at0 b5) fun (x8 : Int) =>
 newO (.cells #[(.int .i64 (0 : Int)), (.int .i64 (0 : Int)), (.int .i64 (0 : Int)), (.int .i64 (0 : Int))] 100) fun b9 =>
 aggSt (at0 b9) (.agg #[(.int .i64 x6), (.int .i64 x7), (.int .i64 x8), (.int .i64 (0 : Int))]) 4 <|
 join (S := Bool × Unit) (fun J10 =>
 sif (x4.2.1 != (0 : Int)) (
 J10 (true, ())) (
 sif (decide (s1.1 > (0 : Int))) (
 lds c100 (at0 b5) fun (x12 : (Int × Int × Int × Int × Unit)) =>
 lds c100 (at0 b9) fun (x13 : (Int × Int × Int × Int × Unit)) =>
 rdB Tryz.prog (do eqGuard .eql 100 (Operand.tmp 28) (Operand.tmp 29) (.agg (Cells.vals c100 x12).toArray) (.agg (Cells.vals c100 x13).toArray); binOp .eql 100 (.agg (Cells.vals c100 x12).toArray) (.agg (Cells.vals c100 x13).toArray) : Sem Value) fun r14 =>
 sif r14 (
 J10 (true, ())) (
 lds c100 (at0 b5) fun (x15 : (Int × Int × Int × Int × Unit)) =>
 callX Tryz.prog (do let d ← Deferred.ofValue a0 #[(.int .i64 s1.1), (.agg (Cells.vals c100 x15).toArray)]; invoke d.target d.args : Sem Next) (.one (.one .bool)) fun (x16 : Bool) =>
 J10 ((!x16), ()))) (
 lds c100 (at0 b5) fun (x17 : (Int × Int × Int × Int × Unit)) =>
 callX Tryz.prog (do let d ← Deferred.ofValue a0 #[(.int .i64 s1.1), (.agg (Cells.vals c100 x17).toArray)]; invoke d.target d.args : Sem Next) (.one (.one .bool)) fun (x18 : Bool) =>
 J10 ((!x18), ())))) fun (s11 : Bool × Unit) =>
 sif s11.1 (
 K ()) (
 again2 ((IntKind.wrap .i64 (s1.1 + (1 : Int))), ()))) ((0 : Int), ())
noncomputable def h82 : Hint := (.seq none (.region [] (.ops 1 .done)) (.block (.loop 1099511627768 [(3, (.one (.int .i64)))] (.seq none (.block (.seq none (.region [] (.ops 9 .done)) (.seq none (.region [] (.ops 9 .done)) (.seq (some (1099507433472, [(39, (.one .bool))])) (.region [] (.ops 3 (.split 24 (.skips 7 (.ops 2 (.skips 5 (.ops 1 .done)))) (.ops 3 (.split 27 (.ops 6 (.split 33 (.skips 5 (.ops 1 .done)) (.ops 6 .done))) (.skips 3 (.ops 9 .done))))))) (.cond none .leaf .leaf))))) (.region [] (.ops 3 .done))))))
theorem F82_tie (a0 : Value) (v0 : Addr) (K : Unit → World → Prop) : vcgF tab Tryz.prog Tryz.f82 h82 [a0, (.pointer (some v0))] (.tup []) K = F82 a0 v0 K := by kernel_rfl
theorem F82_calls {a0 : Value} {v0 : Addr} {K : Unit → World → Prop} {w : World} (h : F82 a0 v0 K w) : callT Tryz.prog 82 #[a0, (.pointer (some v0))] (.tup []) K w :=
  vcgF_sound tabOk Tryz.func82 h82 [a0, (.pointer (some v0))] (.tup []) K w (Eq.mpr (congrFun (F82_tie a0 v0 K) w) h)
noncomputable def F97 (a0 : Option Addr) (a1 : Int) (a2 : Int) (K : (Int × Int × Int × Int × Unit) → World → Prop) : World → Prop :=
 newO (.cells #[(.int .i64 (0 : Int)), (.int .i64 (0 : Int)), (.int .i64 (0 : Int)), (.int .i64 (0 : Int))] 100) fun b1 =>
 callT Tryz.prog 23 #[(.pointer a0), (.int .i64 (if (IntKind.wrap .i64 (a2 - (2 : Int))) > a1 then (IntKind.wrap .i64 (a2 - (2 : Int))) else a1)), (.int .i64 a2)] (.one (.one .sl)) fun (x2 : Sl) =>
 ix x2.a x2.len (IntKind.wrap .i64 (((x2.len : Nat) : Int) - (1 : Int))) fun p3 =>
 ld (.int .i64) (p3.add (scaled (Int.toNat (IntKind.wrap .i64 (((x2.len : Nat) : Int) - (1 : Int)))) 1)) fun (x4 : Int) =>
 sif (x4 == (13 : Int)) (
 aggSt (at0 b1) (.agg #[(.int .i64 a1), (.int .i64 (IntKind.wrap .i64 (a2 - (1 : Int)))), (.int .i64 a2), (.int .i64 (3 : Int))]) 4 <|
 lds c100 (at0 b1) fun (x5 : (Int × Int × Int × Int × Unit)) =>
 K x5) (
 join (S := Bool × Unit) (fun J6 =>
 sif (decide ((IntKind.wrap .i64 (((x2.len : Nat) : Int) - (1 : Int))) > (0 : Int))) (
 ix x2.a x2.len (IntKind.wrap .i64 ((IntKind.wrap .i64 (((x2.len : Nat) : Int) - (1 : Int))) - (1 : Int))) fun p8 =>
 ld (.int .i64) (p8.add (scaled (Int.toNat (IntKind.wrap .i64 ((IntKind.wrap .i64 (((x2.len : Nat) : Int) - (1 : Int))) - (1 : Int)))) 1)) fun (x9 : Int) =>
 J6 ((x9 == (13 : Int)), ())) (
 J6 (false, ()))) fun (s7 : Bool × Unit) =>
 sif s7.1 (
 aggSt (at0 b1) (.agg #[(.int .i64 a1), (.int .i64 (IntKind.wrap .i64 (a2 - (2 : Int)))), (.int .i64 a2), (.int .i64 (2 : Int))]) 4 <|
 lds c100 (at0 b1) fun (x10 : (Int × Int × Int × Int × Unit)) =>
 K x10) (
 aggSt (at0 b1) (.agg #[(.int .i64 a1), (.int .i64 (IntKind.wrap .i64 (a2 - (1 : Int)))), (.int .i64 a2), (.int .i64 (1 : Int))]) 4 <|
 lds c100 (at0 b1) fun (x11 : (Int × Int × Int × Int × Unit)) =>
 K x11))
noncomputable def h97 : Hint := (.seq none (.region [] (.ops 1 .done)) (.seq none (.region [] (.ops 8 .done)) (.seq none (.region [] (.ops 4 .done)) (.seq none (.block (.seq none (.region [] (.ops 6 .done)) (.cond none (.seq none (.region [] (.ops 6 .done)) .leaf) (.seq (some (2197949513728, [(30, (.one .bool))])) (.region [] (.ops 3 (.split 33 (.ops 8 .done) (.skips 6 (.ops 2 .done))))) (.cond none (.seq none (.region [] (.ops 6 .done)) .leaf) .leaf))))) (.seq none (.region [] (.ops 6 .done)) .leaf)))))
theorem F97_tie (a0 : Option Addr) (a1 : Int) (a2 : Int) (K : (Int × Int × Int × Int × Unit) → World → Prop) : vcgF tab Tryz.prog Tryz.f97 h97 [(.pointer a0), (.int .i64 a1), (.int .i64 a2)] (.one (.agg c100)) K = F97 a0 a1 a2 K := by kernel_rfl
theorem F97_calls {a0 : Option Addr} {a1 : Int} {a2 : Int} {K : (Int × Int × Int × Int × Unit) → World → Prop} {w : World} (h : F97 a0 a1 a2 K w) : callT Tryz.prog 97 #[(.pointer a0), (.int .i64 a1), (.int .i64 a2)] (.one (.agg c100)) K w :=
  vcgF_sound tabOk Tryz.func97 h97 [(.pointer a0), (.int .i64 a1), (.int .i64 a2)] (.one (.agg c100)) K w (Eq.mpr (congrFun (F97_tie a0 a1 a2 K) w) h)
end Go.Proofs.YtabcpghhfeplaaaGreat
set_option linter.unusedSimpArgs false
set_option linter.unusedVariables false
set_option maxRecDepth 100000
namespace Go.Proofs.YtabcpghhfeplaaaGreat
open Go Go.Vx Cdc Trx Lns
section
variable {w w' : World} {S : Nat → Prop} {p : Nat} {e : Enc} {lim na : Nat} {O : Nat → Prop} {M : Parts}
abbrev lnT (l : Ln) : Cells.T c100 := ((l.from_ : Int), (l.to_ : Int), (l.next : Int), (l.kind : Int), ())
theorem hal (e : Enc) (M : Parts) : (atoms (aOf e M)).length = (aOf e M).length := List.length_map _
theorem skI_nat (A : List Int) (k : Nat) : skI A (k : Int) = match sk A k with | some m => (m : Int) | none => -1 := by
  unfold skI
  rw [if_neg (by omega), Int.toNat_natCast]
  all_goals (cases sk A k <;> rfl)
theorem closed_call (h : Txt w p e lim na O M) {f x : Nat} (hfx : f < x) (hx : x ≤ (atoms (aOf e M)).length) {K : Cells.T c100 → World → Prop} (hK : ∀ w', Ext w w' → K (lnT (lnC (atoms (aOf e M)) f x)) w') :
    callT Tryz.prog 97 #[.pointer (some (at0 p)), .int .i64 (f : Int), .int .i64 (x : Int)] (.one (.agg c100)) K w := by
  refine F97_calls ?_
  unfold F97
  have few := h.few; have lims := h.lims
  generalize hA : atoms (aOf e M) = A at *
  have hAl : A.length = (aOf e M).length := by rw [← hA]; exact hal e M
  refine (St.start w).newO fun b1 w1 S1 e1 => ?_
  have ew : IntKind.wrap .i64 ((x : Int) - 2) = (x : Int) - 2 := wrap64 (by omega) (by omega)
  rw [ew]
  obtain ⟨g, hg⟩ : ∃ g : Nat, g = max f (x - 2) := ⟨_, rfl⟩
  have eg : (if (x : Int) - 2 > (f : Int) then (x : Int) - 2 else (f : Int)) = (g : Int) := by split <;> omega
  rw [eg]
  refine atoms_call (h.ext e1) fun s w2 o2 e2 => ?_
  rw [hA] at o2
  have hsub : sub A (g : Int) (x : Int) = (A.drop g).take (x - g) := by unfold sub; simp
  rw [hsub] at o2
  have hl := o2.len1
  rw [List.length_map, List.length_take, List.length_drop] at hl
  have hsl : s.len = x - g := by omega
  have get : ∀ i, i < x - g → ((A.drop g).take (x - g))[i]? = A[g + i]? := fun i hi => by rw [List.getElem?_take, if_pos hi, List.getElem?_drop]
  have ew1 : IntKind.wrap .i64 (((s.len : Nat) : Int) - 1) = ((x - g - 1 : Nat) : Int) := by rw [wrap64 (by omega) (by omega)]; omega
  rw [ew1]
  have S2 := S1.ext e2
  obtain ⟨a, ha⟩ : ∃ a, A[x - 1]? = some a := ⟨_, List.getElem?_eq_getElem (by omega)⟩
  have ex1 : IntKind.wrap .i64 ((x : Int) - 1) = ((x - 1 : Nat) : Int) := by rw [wrap64 (by omega) (by omega)]; omega
  have fin : ∀ {l : Ln} {W : World}, St (fun _ => False) w W [(b1, .cells #[.int .i64 0, .int .i64 0, .int .i64 0, .int .i64 0] 100 (0, 0))] → lnC A f x = l →
      aggSt (at0 b1) (.agg (Cells.vals c100 (lnT l)).toArray) 4 (lds c100 (at0 b1) fun x => K x) W := by
    intro l W SW el
    exact SW.aggSt 0 rfl rfl rfl rfl fun w3 S3 _ => S3.lds 0 (lnT l) rfl (by subst el; exact hK w3 S3.upd)
  refine ix_ld (c := .int .i64) (xs := (A.drop g).take (x - g)) o2.in (by omega) (x := a) (by rw [Int.toNat_natCast, get _ (by omega), ← ha]; congr 1; omega) fun q => sif_r (fun hc => ?_) (fun hc => ?_)
  · simp only [beq_iff_eq] at hc
    rw [ex1]
    exact fin (l := ⟨f, x - 1, x, 3⟩) S2 (by unfold lnC; rw [if_pos (by rw [ha, hc])])
  · simp only [beq_eq_false_iff_ne] at hc
    have h13 : ¬ A[x - 1]? = some 13 := by rw [ha]; exact fun h => hc (Option.some.inj h)
    refine join_r (fun y W => y = (decide (f + 1 < x ∧ A[x - 2]? = some 13), ()) ∧ w2 = W) ?_ ?_
    · refine sif_r (fun hd => ?_) (fun hd => ?_)
      · simp only [decide_eq_true_eq, gt_iff_lt] at hd
        have ew2 : IntKind.wrap .i64 (((x - g - 1 : Nat) : Int) - 1) = ((x - g - 2 : Nat) : Int) := by rw [wrap64 (by omega) (by omega)]; omega
        rw [ew2]
        obtain ⟨b, hb⟩ : ∃ b, A[x - 2]? = some b := ⟨_, List.getElem?_eq_getElem (by omega)⟩
        refine ix_ld (c := .int .i64) (xs := (A.drop g).take (x - g)) o2.in (by omega) (x := b) (by rw [Int.toNat_natCast, get _ (by omega), ← hb]; congr 1; omega) fun q2 => ⟨tupb ?_, rfl⟩
        simp only [beq_iff_eq, decide_eq_true_eq, hb, Option.some.injEq]
        omega
      · simp only [decide_eq_false_iff_not, gt_iff_lt] at hd
        refine ⟨tupb ?_, rfl⟩
        simp only [Bool.false_eq_true, decide_eq_true_eq, false_iff]
        omega
    rintro _ _ ⟨rfl, rfl⟩
    refine sif_r (fun hd => ?_) (fun hd => ?_)
    · simp only [decide_eq_true_eq] at hd
      have ew3 : (x : Int) - 2 = ((x - 2 : Nat) : Int) := by omega
      rw [ew3]
      exact fin (l := ⟨f, x - 2, x, 2⟩) S2 (by unfold lnC; rw [if_neg h13, if_pos hd])
    · simp only [decide_eq_false_iff_not] at hd
      rw [ex1]
      exact fin (l := ⟨f, x - 1, x, 1⟩) S2 (by unfold lnC; rw [if_neg h13, if_neg hd])
def atRes (r : Option Ln) : Cells.T c100 × Int × Unit := match r with
  | some l => (lnT l, 0, ())
  | none => (lnT ⟨0, 0, 0, 0⟩, 2, ())
theorem lat_call {i : Int} (h : Txt w p e lim na O M) (hi : i < 2 ^ 62) {K : Cells.T c100 × Int × Unit → World → Prop} (hK : ∀ w', Ext w w' → K (atRes (lnI (atoms (aOf e M)) i)) w') :
    callT Tryz.prog 71 #[.pointer (some (at0 p)), .int .i64 i] (.tup [(.agg c100), (.one (.int .i64))]) K w := by
  refine F71_calls ?_
  unfold F71
  have few := h.few; have lims := h.lims
  have hal := hal e M
  refine (St.start w).newO fun b1 w1 S1 e1 => ?_
  refine sif_r (fun hc => ?_) (fun hc => ?_)
  · simp only [decide_eq_true_eq] at hc
    refine S1.aggSt 0 rfl rfl rfl rfl fun w2 S2 _ => S2.lds 0 (lnT ⟨0, 0, 0, 0⟩) rfl ?_
    have := hK w2 S2.upd
    unfold lnI at this
    rw [if_pos hc] at this
    exact this
  simp only [decide_eq_false_iff_not] at hc
  obtain ⟨n, rfl⟩ : ∃ n : Nat, i = (n : Int) := ⟨i.toNat, by omega⟩
  unfold lnI at hK
  rw [if_neg hc, Int.toNat_natCast] at hK
  refine seek_call (h.ext e1) fun w2 e2 => ?_
  have S2 := S1.ext e2
  rw [skI_nat]
  cases hf : sk (atoms (aOf e M)) n with
  | none =>
    refine sif_r (fun _ => ?_) (fun h => by simp at h)
    refine S2.aggSt 0 rfl rfl rfl rfl fun w3 S3 _ => S3.lds 0 (lnT ⟨0, 0, 0, 0⟩) rfl ?_
    have := hK w3 S3.upd
    unfold lnAt at this
    rw [hf] at this
    exact this
  | some f =>
    refine sif_r (fun h => by simp at h; omega) (fun _ => ?_)
    obtain ⟨hnb, hfl, hnf, _⟩ := sk_get hf
    refine len_call (h.ext S2.upd) fun w3 e3 => breaks_call (h.ext (S2.ext e3).upd) fun w4 e4 => ?_
    have S4 := (S2.ext e3).ext e4
    rw [Int.toNat_natCast, ← hal, ← brs_nb]
    refine sif_r (fun hlt => ?_) (fun hlt => ?_)
    · simp only [decide_eq_true_eq] at hlt
      have ew : IntKind.wrap .i64 ((n : Int) + 1) = ((n + 1 : Nat) : Int) := by rw [wrap64 (by omega) (by omega)]; omega
      rw [ew]
      refine seek_call (h.ext S4.upd) fun w5 e5 => ?_
      have S5 := S4.ext e5
      rw [skI_nat]
      obtain ⟨x, hx⟩ := sk_ok (A := atoms (aOf e M)) (k := n + 1) (by omega)
      obtain ⟨_, hxl, _, _⟩ := sk_get hx
      rw [hx]
      refine closed_call (h.ext S5.upd) (sk_lt hf hx (by omega)) hxl fun w6 e6 => (S5.ext e6).aggSt 0 rfl rfl rfl rfl fun w7 S7 _ => S7.lds 0 (lnT _) rfl ?_
      have := hK w7 S7.upd
      unfold lnAt at this
      rw [hf] at this
      simp only [hx] at this
      exact this
    · simp only [decide_eq_false_iff_not] at hlt
      refine len_call (h.ext S4.upd) fun w5 e5 => len_call (h.ext (S4.ext e5).upd) fun w6 e6 => ((S4.ext e5).ext e6).aggSt 0 rfl rfl rfl rfl fun w7 S7 _ => S7.lds 0 (lnT ⟨f, (aOf e M).length, (aOf e M).length, 0⟩) rfl ?_
      have := hK w7 S7.upd
      unfold lnAt at this
      rw [hf] at this
      simp only [sk_none (atoms (aOf e M)) (n + 1) (by omega)] at this
      rw [hal] at this
      exact this
theorem lof_call {at_ : Int} (h : Txt w p e lim na O M) {K : Int → World → Prop} (hK : ∀ w', Ext w w' → K ((nb (atoms (aOf e M)) at_.toNat : Nat) : Int) w') :
    callT Tryz.prog 57 #[.pointer (some (at0 p)), .int .i64 at_] (.one (.one (.int .i64))) K w := by
  refine F57_calls ?_
  unfold F57
  have hal := hal e M
  refine len_call h fun w1 e1 => breaks_call (h.ext e1) fun w2 e2 => ?_
  have := hK w2 (e1.trans e2)
  have e : nb (atoms (aOf e M)) (if (((aOf e M).length : Nat) : Int) < (if (0 : Int) > at_ then (0 : Int) else at_) then (((aOf e M).length : Nat) : Int) else (if (0 : Int) > at_ then (0 : Int) else at_)).toNat = nb (atoms (aOf e M)) at_.toNat := by
    by_cases h0 : (0 : Int) > at_
    · rw [if_pos h0, if_neg (by omega)]
      have : at_.toNat = (0 : Int).toNat := by omega
      rw [this]
    · rw [if_neg h0]
      split
      · rw [Int.toNat_natCast, nb_ge _ _ (by omega), nb_ge _ _ (by omega)]
      · rfl
  rw [e]; exact this
theorem lended_call (h : Txt w p e lim na O M) {K : Bool → World → Prop} (hK : ∀ w', Ext w w' → K (ended (atoms (aOf e M))) w') :
    callT Tryz.prog 81 #[.pointer (some (at0 p))] (.one (.one .bool)) K w := by
  refine F81_calls ?_
  unfold F81
  have hal := hal e M
  unfold ended at hK
  refine len_call h fun w1 e1 => sif_r (fun hc => ?_) (fun hc => ?_)
  · simp only [decide_eq_true_eq, gt_iff_lt] at hc
    refine breaks_call (h.ext e1) fun w2 e2 => seek_call (h.ext (e1.trans e2)) fun w3 e3 => ?_
    have := hK w3 ((e1.trans e2).trans e3)
    rw [Int.toNat_natCast, ← hal, ← brs_nb, skI_nat]
    rw [decide_eq_true (by omega), Bool.true_and] at this
    cases hs : sk (atoms (aOf e M)) (brs (atoms (aOf e M))) with
    | none =>
      rw [hs] at this
      have e1 : ((-1 : Int) == (((atoms (aOf e M)).length : Nat) : Int)) = false := by rw [beq_eq_false_iff_ne]; omega
      show K ((-1 : Int) == _) w3
      rw [e1]; exact this
    | some m =>
      rw [hs] at this
      have e1 : ((m : Int) == (((atoms (aOf e M)).length : Nat) : Int)) = (some m == some (atoms (aOf e M)).length) := by rw [Bool.eq_iff_iff, beq_iff_eq, beq_iff_eq, Option.some.injEq]; omega
      show K ((m : Int) == _) w3
      rw [e1]; exact this
  · simp only [decide_eq_false_iff_not, gt_iff_lt] at hc
    have := hK w1 e1
    rw [decide_eq_false (by omega), Bool.false_and] at this
    exact this
theorem lcount_call (h : Txt w p e lim na O M) {K : Int → World → Prop} (hK : ∀ w', Ext w w' → K ((lnN (atoms (aOf e M)) : Nat) : Int) w') :
    callT Tryz.prog 58 #[.pointer (some (at0 p))] (.one (.one (.int .i64))) K w := by
  refine F58_calls ?_
  unfold F58
  have few := h.few; have lims := h.lims
  have hal := hal e M
  have hb : brs (atoms (aOf e M)) ≤ (atoms (aOf e M)).length := by rw [brs_nb]; exact nb_le _ _
  refine len_call h fun w1 e1 => breaks_call (h.ext e1) fun w2 e2 => ?_
  rw [Int.toNat_natCast, ← hal, ← brs_nb]
  refine join_r (fun x W => x = (((lnN (atoms (aOf e M)) : Nat) : Int), ()) ∧ Ext w W) ?_ (fun x W hx => by obtain ⟨rfl, hx⟩ := hx; exact hK W hx)
  refine lended_call (h.ext (e1.trans e2)) fun w3 e3 => ?_
  have e03 := (e1.trans e2).trans e3
  refine sif_r (fun hc => ⟨?_, e03⟩) (fun hc => ⟨?_, e03⟩)
  · simp only [Bool.not_eq_true'] at hc
    unfold lnN
    rw [hc, wrap64 (by omega) (by omega)]
    simp
  · simp only [Bool.not_eq_false'] at hc
    unfold lnN
    rw [hc]
    simp
end
end Go.Proofs.YtabcpghhfeplaaaGreat
set_option linter.unusedSimpArgs false
set_option linter.unusedVariables false
set_option maxRecDepth 100000
namespace Go.Proofs.YtabcpghhfeplaaaGreat
open Go Go.Vx Cdc Trx Gly Clu Lns Obx
section
variable {w w' : World} {S : Nat → Prop} {p : Nat} {e : Enc} {lim na : Nat} {O : Nat → Prop} {M : Parts}
abbrev celT (c : Cel) : Cells.T c72 := ((c.from_ : Int), (c.to_ : Int), (c.kind : Int), c.alone, c.atom, ())
abbrev CelIn (w : World) (s : Sl) (C : List Cel) : Prop := SlIn w s 72 5 (flat c72 (C.map celT))
theorem CelIn.lenC {s : Sl} {C : List Cel} (h : CelIn w s C) : C.length = s.len := by
  have := SlIn.lenR (cs := c72) h (by decide)
  rwa [List.length_map] at this
theorem ix_cel {s : Sl} {C : List Cel} {i : Nat} {c : Cel} {K : Addr → Cells.T c72 → World → Prop} (h : CelIn w s C) (hc : C[i]? = some c) (hK : ∀ p, K p (celT c) w) :
    ix s.a s.len (i : Int) (fun p => lds c72 (p.add (scaled (Int.toNat (i : Int)) 5)) (K p)) w :=
  ix_lds (cs := c72) h (by decide) (by omega) (by rw [Int.toNat_natCast, List.getElem?_map, hc]; rfl) hK
theorem ix_celF {s : Sl} {C : List Cel} {i : Nat} {c : Cel} {k : Cell} {j : Nat} {y : k.T} {K : Addr → k.T → World → Prop} (h : CelIn w s C) (hc : C[i]? = some c) (hy : (Cells.vals c72 (celT c))[j]? = some (k.val y)) (hK : ∀ p, K p y w) :
    ix s.a s.len (i : Int) (fun p => ld k ((p.add (scaled (Int.toNat (i : Int)) 5)).add j) (K p)) w :=
  ix_ldf (cs := c72) h (by omega) (by rw [Int.toNat_natCast, List.getElem?_map, hc]; rfl) hy hK
theorem ix_celF0 {s : Sl} {C : List Cel} {i : Nat} {c : Cel} {k : Cell} {y : k.T} {K : Addr → k.T → World → Prop} (h : CelIn w s C) (hc : C[i]? = some c) (hy : (Cells.vals c72 (celT c))[0]? = some (k.val y)) (hK : ∀ p, K p y w) :
    ix s.a s.len (i : Int) (fun p => ld k (p.add (scaled (Int.toNat (i : Int)) 5)) (K p)) w :=
  ix_ldf0 (cs := c72) h (by omega) (by rw [Int.toNat_natCast, List.getElem?_map, hc]; rfl) hy hK
theorem eCells : ElemOk Tryz.prog 68 72 5 40 := ElemOk.of (z := .agg #[.int .i64 0, .int .i64 0, .int .i64 0, .bool false, .int .i64 0]) i68_ok i72_ok rfl rfl rfl (by decide)
theorem cel_one (c : Cel) : ∀ v ∈ flat c72 [celT c], isOne v = true := by
  intro v hv
  rw [flat_one] at hv
  have h : v ∈ [_, _, _, _, _] := hv
  simp only [List.mem_cons, List.not_mem_nil, or_false] at h
  rcases h with rfl | rfl | rfl | rfl | rfl <;> rfl
theorem is_call {c : Cel} {a : Int} {K : Bool → World → Prop} (hK : ∀ w', Ext w w' → K (c.is a) w') : callT Tryz.prog 42 #[.agg (Cells.vals c72 (celT c)).toArray, .int .i64 a] (.one (.one .bool)) K w := by
  refine F42_calls (a0 := celT c) ?_
  unfold F42
  refine (St.start w).newO fun b w1 S1 e1 => S1.ld 0 rfl (x := c.alone) rfl (sif_r (fun h => S1.ld 0 rfl (x := c.atom) rfl ?_) (fun h => ?_))
  · have := hK w1 e1
    unfold Cel.is at this
    rw [h, Bool.true_and] at this
    exact this
  · have := hK w1 e1
    unfold Cel.is at this
    rw [h, Bool.false_and] at this
    exact this
theorem cells_call {A : List Int} {s : Sl} {t : TypeId} {off : Nat} (hs : SlIn w s t 1 (iv A)) (hl : A.length < 2 ^ 40) (ho : off < 2 ^ 60) {K : Sl → World → Prop} (hK : ∀ s' w', CelIn w' s' (cels A off) → Ext w w' → (∀ k, s'.blk k → w.heap.size ≤ k) → K s' w') :
    callT Tryz.prog 39 #[.slice s.a s.len s.cap, .int .i64 (off : Int)] (.one (.one .sl)) K w := by
  refine F39_calls ?_
  unfold F39
  refine cbreaks_call hs hl fun b w1 o1 e1 => ?_
  have hbl := o1.len1
  rw [List.length_map] at hbl
  have hcp := cuts_pos A
  have hcl := cutsTo_len A A.length
  have hcl' : (cuts A).length ≤ A.length + 1 := hcl
  have ew : IntKind.wrap .i64 (((b.len : Nat) : Int) - 1) = (((cuts A).length - 1 : Nat) : Int) := by rw [wrap64 (by omega) (by omega)]; omega
  rw [ew]
  have nvi : nv (cuts A) = ((cuts A).map fun (n : Nat) => (n : Int)).map (Cell.int .i64).val := by rw [List.map_map]; rfl
  rw [nvi] at o1
  have hcels := cels_len A off
  refine join_r (fun x W => SlOwn W w1.heap.size x.1 72 5 (flat c72 ((cels A off).map celT)) ∧ Ext w W) ?_ (fun x W h => hK _ _ h.1.in h.2 (fun k hk => by have := h.1.blk_ge hk; have := e1.size; omega))
  refine sloop_r (fun x W => ∃ i, i ≤ (cels A off).length ∧ x.2 = ((i : Int), ()) ∧ SlOwn W w1.heap.size x.1 72 5 (flat c72 (((cels A off).take i).map celT)) ∧ Ext w1 W) (fun x _ => ((((cels A off).length : Nat) : Int) - x.2.1).toNat) ⟨0, Nat.zero_le _, rfl, SlOwn.nil _ _ _ _, Ext.refl _⟩ ?_
  rintro ⟨r, _⟩ W ⟨i, hi, rfl, hr, e2⟩
  dsimp only at hr ⊢
  have hrl : i = r.len := by
    have := SlOwn.lenR (cs := c72) hr (by decide)
    rw [List.length_map, List.length_take] at this; omega
  refine sif_r (fun hc => ?_) (fun hc => ?_)
  · simp only [decide_eq_true_eq] at hc
    obtain ⟨c, hc'⟩ : ∃ c, (cels A off)[i]? = some c := ⟨_, List.getElem?_eq_getElem (by omega)⟩
    obtain ⟨x, y, g1, g2, g3, g4, g5, g6, _, _, g7, g8, g9⟩ := (cels_ok hc').ex
    have o2 := o1.ext e2
    have m1 : ((cuts A).map fun (n : Nat) => (n : Int))[(i : Int).toNat]? = some (x : Int) := by rw [Int.toNat_natCast, List.getElem?_map, g1]; rfl
    have ew1 : IntKind.wrap .i64 ((i : Int) + 1) = ((i + 1 : Nat) : Int) := by rw [wrap64 (by omega) (by omega)]; omega
    have m2 : ((cuts A).map fun (n : Nat) => (n : Int))[((i + 1 : Nat) : Int).toNat]? = some (y : Int) := by rw [Int.toNat_natCast, List.getElem?_map, g2]; rfl
    rw [ew1]
    refine ix_ld (c := .int .i64) o2.in (by omega) m1 fun p1 => ix_ld (c := .int .i64) (xs := A) (hs.ext (e1.trans e2)) (by omega) (x := c.atom) (by rw [Int.toNat_natCast]; exact g7) fun p2 => drew_r fun w3 e3 _ => ?_
    have o3 := o2.ext e3
    refine ix_ldE (c := .int .i64) o3.in (by omega) m1 fun p3 k3 => ix_ldE (c := .int .i64) o3.in (by omega) m2 fun p4 k4 => ix_ldE (c := .int .i64) o3.in (by omega) m2 fun p5 k5 => ix_ldE (c := .int .i64) o3.in (by omega) m1 fun p6 k6 => ?_
    refine word_call fun w4 e4 => keep_r (k6 w4 e4) (keep_r (k5 w4 e4) (keep_r (k4 w4 e4) (keep_r (k3 w4 e4) ?_)))
    refine newO_r fun b5 w5 e5 n5 hb5 _ => ?_
    have e15 := ((e2.trans e3).trans e4).trans e5
    have ec : ∀ z : Nat, z ≤ A.length → IntKind.wrap .i64 ((off : Int) + (z : Int)) = ((off + z : Nat) : Int) := fun z hz => by rw [wrap64 (by omega) (by omega)]; omega
    have eb : ((y : Int) == IntKind.wrap .i64 ((x : Int) + 1)) = c.alone := by
      rw [wrap64 (by omega) (by omega), Bool.eq_iff_iff, beq_iff_eq, g9]; omega
    rw [ec x (by omega), ec y (by omega), eb, ← g5, ← g6, ← g8] at n5
    have hbox : SlX w5 ⟨some (at0 b5), 1, 1⟩ 5 (flat c72 [celT c]) := (SlIn.of_box n5 (n := 1) (sz := 5) rfl).x
    refine append_rx eCells eCells.ts_ (x := ⟨some (at0 b5), 1, 1⟩) (hr.ext ((e3.trans e4).trans e5)) hbox (cel_one c) (by
      show (r.len + 1 + (r.len + 1) / 4 + 512) * 40 ≤ 2 ^ 48
      have := cels_le A off
      omega) (by have := e15.size; omega) fun r' w6 o6 l6 u6 k6 => ?_
    have e6 : flat c72 (((cels A off).take i).map celT) ++ flat c72 [celT c] = flat c72 (((cels A off).take (i + 1)).map celT) := by
      rw [List.take_add_one, hc', List.map_append, flat_append]; rfl
    rw [e6] at o6
    exact ⟨⟨i + 1, by omega, rfl, o6, e15.step u6 fun k hk => hr.blk_ge hk⟩, by omega⟩
  · simp only [decide_eq_false_iff_not] at hc
    have : i = (cels A off).length := by omega
    subst this
    rw [List.take_length] at hr
    exact ⟨hr, e1.trans e2⟩
abbrev mvT (kind count arg : Int) : Cells.T c39 := (kind, count, arg, ())
theorem checked_call {at_ kind count arg lo hi : Int} (h : Txt w p e lim na O M) {K : Int → World → Prop} (hK : ∀ w', Ext w w' → K (checked (aOf e M).length at_ kind count lo hi) w') :
    callT Tryz.prog 37 #[.pointer (some (at0 p)), .int .i64 at_, .agg (Cells.vals c39 (mvT kind count arg)).toArray, .int .i64 lo, .int .i64 hi] (.one (.one (.int .i64))) K w := by
  refine F37_calls (a2 := mvT kind count arg) ?_
  unfold F37
  unfold checked at hK
  refine (St.start w).newO fun b w1 S1 e1 => ?_
  refine join_r (fun x W => x = (decide (kind < lo ∨ hi < kind ∨ count < 0), ()) ∧ w1 = W) ?_ ?_
  · refine S1.ld 0 rfl (x := kind) rfl (sif_r (fun h1 => ⟨tupb ?_, rfl⟩) (fun h1 => S1.ld 0 rfl (x := kind) rfl (sif_r (fun h2 => ⟨tupb ?_, rfl⟩) (fun h2 => S1.ld 0 rfl (x := count) rfl ⟨tupb ?_, rfl⟩))))
    all_goals simp only [decide_eq_true_eq, decide_eq_false_iff_not, true_iff, gt_iff_lt] at *
    all_goals omega
  rintro _ _ ⟨rfl, rfl⟩
  refine sif_r (fun h1 => ?_) (fun h1 => ?_)
  · simp only [decide_eq_true_eq] at h1
    have := hK w1 e1
    rwa [if_pos h1] at this
  simp only [decide_eq_false_iff_not] at h1
  rw [if_neg h1] at hK
  refine join_r (fun x W => x = (decide (at_ < 0 ∨ (((aOf e M).length : Nat) : Int) < at_), ()) ∧ Ext w W) ?_ ?_
  · refine sif_r (fun h2 => ⟨tupb ?_, e1⟩) (fun h2 => len_call (h.ext e1) fun w2 e2 => ⟨tupb ?_, e1.trans e2⟩)
    all_goals simp only [decide_eq_true_eq, decide_eq_false_iff_not, true_iff, gt_iff_lt] at *
    all_goals omega
  rintro _ w2 ⟨rfl, e2⟩
  refine sif_r (fun h2 => ?_) (fun h2 => ?_)
  · simp only [decide_eq_true_eq] at h2
    have := hK w2 e2
    rwa [if_pos h2] at this
  · simp only [decide_eq_false_iff_not] at h2
    have := hK w2 e2
    rwa [if_neg h2] at this
theorem times_call {kind count arg : Int} (hc : count < 2 ^ 63) {K : Int → World → Prop} (hK : ∀ w', Ext w w' → K ((times count : Nat) : Int) w') : callT Tryz.prog 41 #[.agg (Cells.vals c39 (mvT kind count arg)).toArray] (.one (.one (.int .i64))) K w := by
  refine F41_calls (a0 := mvT kind count arg) ?_
  unfold F41
  refine (St.start w).newO fun b w1 S1 e1 => S1.ld 0 rfl (x := count) rfl ?_
  have := hK w1 e1
  unfold times at this
  have e : (if (1 : Int) > count then (1 : Int) else count) = (((max count 1).toNat : Nat) : Int) := by split <;> omega
  rw [e]; exact this
theorem mapII : MapTy Tryz.prog 115 (.int .i64 0) := ⟨3, 3, by kernel_rfl, i3_ok.und, fun w => i3_ok.run_zero w rfl⟩
theorem upd_r {m : Nat} {es : List IEnt} (hm : MapI w m es) (k : Int) (v : Value) {K : World → Prop} (hK : ∀ es' w', MapI w' m es' → (∀ k', mget es' k' = if k' = k then some v else mget es k') → Upd (fun b => b = m) w w' → K w') :
    rawU Tryz.prog (Instr.mapUpdate 115 (.map (some m)) (.int .i64 k) v) K w := by
  obtain ⟨es', w', hr, hm', hg, u, _, _⟩ := update_run mapII hm k v
  exact ⟨w', hr, hK es' w' hm' hg u⟩
theorem fellow_call {a : Int} {K : Int × Bool × Unit → World → Prop} (hK : ∀ w', Ext w w' → K ((fellow a).getD 0, (fellow a).isSome, ()) w') : callT Tryz.prog 38 #[.int .i64 a] (.tup [(.one (.int .i64)), (.one .bool)]) K w := by
  refine F38_calls ?_
  unfold F38
  refine newO_r fun b w1 e1 n1 hb _ => ?_
  refine upd_r (MapI.made b n1) 40 _ fun es2 w2 m2 g2 u2 => upd_r m2 91 _ fun es3 w3 m3 g3 u3 => upd_r m3 123 _ fun es4 w4 m4 g4 u4 => upd_r m4 60 _ fun es5 w5 m5 g5 u5 => ?_
  have e5 : Ext w w5 := (((e1.step u2 fun k hk => by omega).step u3 fun k hk => by omega).step u4 fun k hk => by omega).step u5 fun k hk => by omega
  have hg : mget es5 a = (fellow a).map (Value.int .i64) := by
    rw [g5, g4, g3, g2]
    unfold fellow
    have h0 : mget [] a = none := rfl
    rw [h0]
    repeat' split
    all_goals first | rfl | omega
  have hl := lookup_run mapII m5 a
  rw [hg] at hl
  refine ⟨((fellow a).getD 0, (fellow a).isSome, ()), ?_, hK w5 e5⟩
  exact hl.trans (by cases fellow a <;> rfl)
def oI : Option Nat → Int
  | some j => (j : Int)
  | none => -1
theorem nth_call {C : List Cel} {s : Sl} {i : Int} {want other : Int} {k : Nat} (up : Bool) (hs : CelIn w s C) (hl : C.length < 2 ^ 40) (h1 : -1 ≤ i) (h2 : i ≤ C.length) (hu : up = true → 0 ≤ i) (hd : up = false → i < C.length) (hk : 1 ≤ k) (hk2 : k < 2 ^ 62) {K : Int → World → Prop}
    (hK : ∀ w', Ext w w' → K (oI (nthL C want other (walkI up C.length i) k 0)) w') :
    callT Tryz.prog 43 #[.slice s.a s.len s.cap, .int .i64 i, .int .i64 (if up then 1 else -1), .int .i64 want, .int .i64 other, .int .i64 (k : Int)] (.one (.one (.int .i64))) K w := by
  refine F43_calls ?_
  unfold F43
  have hlen := hs.lenC
  have step : ∀ {j : Nat}, j < C.length → walkI up C.length (j : Int) = j :: walkI up C.length ((j : Int) + (if up then 1 else -1)) := by
    intro j hj
    cases up with
    | true => exact walkI_up hj
    | false => exact walkI_down
  refine join_r (fun _ W => Ext w W ∧ nthL C want other (walkI up C.length i) k 0 = none) ?_ (fun _ W h => by have := hK W h.1; rwa [h.2] at this)
  refine sloop_r (fun x W => ∃ (j : Int) (q d : Nat), x = (j, (q : Int), (d : Int), ()) ∧ -1 ≤ j ∧ j ≤ C.length ∧ (up = true → 0 ≤ j) ∧ (up = false → j < C.length) ∧ 1 ≤ q ∧ q ≤ k ∧ d ≤ C.length ∧ ((up = true → d ≤ j) ∧ (up = false → d + j < C.length)) ∧ Ext w W ∧ nthL C want other (walkI up C.length i) k 0 = nthL C want other (walkI up C.length j) q d)
    (fun x _ => if up then ((C.length : Int) - x.1).toNat else (x.1 + 1).toNat) ⟨i, k, 0, rfl, h1, h2, hu, hd, hk, Nat.le_refl _, Nat.zero_le _, ⟨fun h => by have := hu h; omega, fun h => by have := hd h; omega⟩, Ext.refl w, rfl⟩ ?_
  rintro _ W ⟨j, q, d, rfl, g1, g2, gu, gd, hq, hqk, hdl, hdb, e1, heq⟩
  dsimp only
  refine join_r (fun x W' => x = (decide (0 ≤ j ∧ j < C.length), ()) ∧ W = W') ?_ ?_
  · refine sif_r (fun h => ⟨tupb ?_, rfl⟩) (fun h => ⟨tupb ?_, rfl⟩)
    all_goals simp only [decide_eq_true_eq, decide_eq_false_iff_not, ge_iff_le, Bool.false_eq_true, false_iff] at *
    all_goals omega
  rintro _ _ ⟨rfl, rfl⟩
  refine sif_r (fun h => ?_) (fun h => ?_)
  · simp only [decide_eq_true_eq] at h
    obtain ⟨m, rfl⟩ : ∃ m : Nat, j = (m : Int) := ⟨j.toNat, by omega⟩
    obtain ⟨c, hc⟩ : ∃ c, C[m]? = some c := ⟨_, List.getElem?_eq_getElem (by omega)⟩
    rw [step (by omega), nthL, hc] at heq
    simp only at heq
    have ews : IntKind.wrap .i64 ((m : Int) + (if up then 1 else -1)) = (m : Int) + (if up then 1 else -1) := by split <;> exact wrap64 (by omega) (by omega)
    have fin : ∀ {q' d' : Nat} {W' : World}, Ext w W' → 1 ≤ q' → q' ≤ k → d' ≤ d + 1 → nthL C want other (walkI up C.length i) k 0 = nthL C want other (walkI up C.length ((m : Int) + (if up then 1 else -1))) q' d' →
        (fun s' (w'' : World) => (∃ (j : Int) (q d : Nat), s' = (j, (q : Int), (d : Int), ()) ∧ -1 ≤ j ∧ j ≤ C.length ∧ (up = true → 0 ≤ j) ∧ (up = false → j < C.length) ∧ 1 ≤ q ∧ q ≤ k ∧ d ≤ C.length ∧ ((up = true → d ≤ j) ∧ (up = false → d + j < C.length)) ∧ Ext w w'' ∧ nthL C want other (walkI up C.length i) k 0 = nthL C want other (walkI up C.length j) q d) ∧
          (if up then ((C.length : Int) - s'.1).toNat else (s'.1 + 1).toNat) < (if up then ((C.length : Int) - ((m : Int), (q : Int), (d : Int), ()).1).toNat else (((m : Int), (q : Int), (d : Int), ()).1 + 1).toNat)) (IntKind.wrap .i64 ((m : Int) + (if up then 1 else -1)), (q' : Int), (d' : Int), ()) W' := by
      intro q' d' W' eW hq1 hq2 hd1 he
      rw [ews]
      refine ⟨⟨_, q', d', rfl, ?_, ?_, ?_, ?_, hq1, hq2, ?_, ?_, eW, he⟩, ?_⟩
      all_goals clear hK heq he step ews
      all_goals cases up
      all_goals simp at *
      all_goals omega
    refine join_r (fun x W' => ∃ q' d' : Nat, x = ((q' : Int), (d' : Int), ()) ∧ Ext w W' ∧ 1 ≤ q' ∧ q' ≤ k ∧ d' ≤ d + 1 ∧ nthL C want other (walkI up C.length i) k 0 = nthL C want other (walkI up C.length ((m : Int) + (if up then 1 else -1))) q' d') ?_ ?_
    · refine ix_cel (hs.ext e1) hc fun p1 => is_call fun w2 e2 => ?_
      have e12 := e1.trans e2
      refine sif_r (fun ho => ?_) (fun ho => ?_)
      · have ho : c.is other = true := ho
        rw [if_pos ho] at heq
        refine ⟨q, d + 1, ?_, e12, hq, hqk, Nat.le_refl _, heq⟩
        rw [wrap64 (by omega) (by omega)]; rfl
      have ho : c.is other = false := ho
      rw [if_neg (by rw [ho]; decide)] at heq
      refine ix_cel (hs.ext e12) hc fun p2 => is_call fun w3 e3 => ?_
      have e13 := e12.trans e3
      refine sif_r (fun hw => ?_) (fun hw => ?_)
      · simp only [Bool.not_eq_true'] at hw
        rw [if_pos hw] at heq
        exact ⟨q, d, rfl, e13, hq, hqk, by omega, heq⟩
      simp only [Bool.not_eq_false'] at hw
      rw [if_neg (by rw [hw]; decide)] at heq
      refine sif_r (fun h0 => ?_) (fun h0 => ?_)
      · simp only [decide_eq_true_eq, gt_iff_lt] at h0
        rw [if_pos (by omega)] at heq
        refine ⟨q, d - 1, ?_, e13, hq, hqk, by omega, heq⟩
        rw [wrap64 (by omega) (by omega)]
        congr 2; omega
      simp only [decide_eq_false_iff_not, gt_iff_lt] at h0
      rw [if_neg (by omega)] at heq
      have ewq : IntKind.wrap .i64 ((q : Int) - 1) = ((q - 1 : Nat) : Int) := by rw [wrap64 (by omega) (by omega)]; omega
      rw [ewq]
      refine sif_r (fun hz => ?_) (fun hz => ?_)
      · simp only [beq_iff_eq] at hz
        rw [if_pos (by omega)] at heq
        have := hK w3 e13
        rw [heq] at this
        exact this
      · simp only [beq_eq_false_iff_ne, ne_eq] at hz
        rw [if_neg (by omega)] at heq
        exact ⟨q - 1, d, rfl, e13, by omega, by omega, by omega, heq⟩
    · rintro _ w4 ⟨q', d', rfl, e4, f1, f2, f3, f4⟩
      exact fin e4 f1 f2 f3 f4
  · simp only [decide_eq_false_iff_not] at h
    rw [walkI_end up h g1 gu gd] at heq
    exact ⟨e1, heq⟩
end
end Go.Proofs.YtabcpghhfeplaaaGreat
set_option linter.unusedSimpArgs false
set_option linter.unusedVariables false
set_option maxRecDepth 100000
namespace Go.Proofs.YtabcpghhfeplaaaGreat
open Go Go.Vx Cdc Trx Gly Clu Lns Obx
section
variable {w w' : World} {S : Nat → Prop} {p : Nat} {e : Enc} {lim na : Nat} {O : Nat → Prop} {M : Parts}
theorem run_eqInt {n : Nat} {x y : Int} (w : World) : (Op.equalIn (n + 1) 3 (.int .i64 x) (.int .i64 y)).run Tryz.prog w = .ok (x == y) w := run_equalIn_int w n 3 .i64 .i64 x y i3_ok.und
theorem lnEql_r {a b : Ln} {o1 o2 : Operand} {K : Bool → World → Prop} (hK : K (decide (a = b)) w) :
    rdB Tryz.prog (do eqGuard .eql 100 o1 o2 (.agg (Cells.vals c100 (lnT a)).toArray) (.agg (Cells.vals c100 (lnT b)).toArray); binOp .eql 100 (.agg (Cells.vals c100 (lnT a)).toArray) (.agg (Cells.vals c100 (lnT b)).toArray) : Sem Value) K w := by
  refine ⟨decide (a = b), ?_, hK⟩
  have hg := run_eqGuard_agg (P := Tryz.prog) w .eql 100 o1 o2 (Cells.vals c100 (lnT a)).toArray (Cells.vals c100 (lnT b)).toArray (by kernel_rfl)
  have hq := run_eql_struct (P := Tryz.prog) w 100 (Cells.vals c100 (lnT a)).toArray (Cells.vals c100 (lnT b)).toArray
  have hs := run_equalIn_struct (P := Tryz.prog) w 9999 100 (Cells.vals c100 (lnT a)).toArray (Cells.vals c100 (lnT b)).toArray (by kernel_rfl) (by kernel_rfl)
  have hf : (Tryz.prog.fieldsOf 100).toList.map (fun f => (f.name, f.type, f.offset)) = [("From", 3, 0), ("To", 3, 1), ("Next", 3, 2), ("Break", 3, 3)] := by kernel_rfl
  have key : ∀ fs : List Field, fs.map (fun f => (f.name, f.type, f.offset)) = [("From", 3, 0), ("To", 3, 1), ("Next", 3, 2), ("Break", 3, 3)] → (Op.eqFields 9999 (Cells.vals c100 (lnT a)).toArray (Cells.vals c100 (lnT b)).toArray fs).run Tryz.prog w = .ok (decide (a = b)) w := by
    intro fs hfs
    have hl : fs.length = 4 := by simpa using congrArg List.length hfs
    obtain ⟨f1, f2, f3, f4, rfl⟩ : ∃ f1 f2 f3 f4, fs = [f1, f2, f3, f4] := by
      match fs, hl with
      | [f1, f2, f3, f4], _ => exact ⟨f1, f2, f3, f4, rfl⟩
    simp only [List.map_cons, List.map_nil, List.cons.injEq, Prod.mk.injEq, and_true] at hfs
    obtain ⟨⟨n1, t1, o1⟩, ⟨n2, t2, o2⟩, ⟨n3, t3, o3⟩, ⟨n4, t4, o4⟩⟩ := hfs
    have pt : ∀ (l : Ln) (i : Nat) (v : Int), (Cells.vals c100 (lnT l)).toArray[i]? = some (.int .i64 v) → (Go.part 3 (Cells.vals c100 (lnT l)).toArray i).run Tryz.prog w = .ok (.int .i64 v) w := by
      intro l i v hv
      have ha : (isAgg 3).run Tryz.prog w = .ok false w := i3_ok.run_isAgg w
      simp only [Go.part, Sem.run_bind, ha, Result.andThen_ok]
      simp [hv]
    have step : ∀ (f : Field) (fs : List Field) (x y : Nat), f.name ≠ "_" → f.type = 3 → (Cells.vals c100 (lnT a)).toArray[f.offset]? = some (.int .i64 (x : Int)) → (Cells.vals c100 (lnT b)).toArray[f.offset]? = some (.int .i64 (y : Int)) →
        (Op.eqFields 9999 (Cells.vals c100 (lnT a)).toArray (Cells.vals c100 (lnT b)).toArray (f :: fs)).run Tryz.prog w = if x = y then (Op.eqFields 9999 (Cells.vals c100 (lnT a)).toArray (Cells.vals c100 (lnT b)).toArray fs).run Tryz.prog w else .ok false w := by
      intro f fs x y hn ht hx hy
      rw [Op.eqFields, if_pos hn, ht]
      simp only [Sem.run_bind, pt a _ _ hx, pt b _ _ hy, Result.andThen_ok, run_eqInt (n := 9998)]
      by_cases hxy : x = y
      · rw [if_pos hxy, hxy]; simp
      · have : ((x : Int) == (y : Int)) = false := by rw [beq_eq_false_iff_ne]; omega
        rw [if_neg hxy, this]; rfl
    rw [step f1 _ a.from_ b.from_ (by rw [n1]; decide) t1 (by rw [o1]; rfl) (by rw [o1]; rfl), step f2 _ a.to_ b.to_ (by rw [n2]; decide) t2 (by rw [o2]; rfl) (by rw [o2]; rfl), step f3 _ a.next b.next (by rw [n3]; decide) t3 (by rw [o3]; rfl) (by rw [o3]; rfl), step f4 _ a.kind b.kind (by rw [n4]; decide) t4 (by rw [o4]; rfl) (by rw [o4]; rfl)]
    obtain ⟨x1, x2, x3, x4⟩ := a
    obtain ⟨y1, y2, y3, y4⟩ := b
    by_cases h1 : x1 = y1 <;> by_cases h2 : x2 = y2 <;> by_cases h3 : x3 = y3 <;> by_cases h4 : x4 = y4 <;> simp [h1, h2, h3, h4, Op.eqFields]
  rw [key _ hf] at hs
  simp only [Sem.run_bind, hg, Result.andThen_ok, hq, hs]
abbrev spT (s : Int × Int × Int) : Cells.T c34 := (s.1, s.2.1, s.2.2, ())
theorem lnI_nat (A : List Int) (n : Nat) : lnI A (n : Int) = lnAt A n := by unfold lnI; rw [if_neg (by omega), Int.toNat_natCast]
theorem line_call {at_ : Nat} (h : Txt w p e lim na O M) (hat : at_ ≤ (atoms (aOf e M)).length) {K : Cells.T c100 × Int × Unit → World → Prop} (hK : ∀ w', Ext w w' → K (lnT ((lnAt (atoms (aOf e M)) (nb (atoms (aOf e M)) at_)).getD ⟨0, 0, 0, 0⟩), 0, ()) w') :
    callT Tryz.prog 57 #[.pointer (some (at0 p)), .int .i64 (at_ : Int)] (.one (.one (.int .i64))) (fun i => callT Tryz.prog 71 #[.pointer (some (at0 p)), .int .i64 i] (.tup [(.agg c100), (.one (.int .i64))]) K) w := by
  have few := h.few; have lims := h.lims
  have hal := hal e M
  have hnl := nb_le (atoms (aOf e M)) at_
  refine lof_call h fun w1 e1 => lat_call (h.ext e1) (by rw [Int.toNat_natCast]; omega) fun w2 e2 => ?_
  rw [Int.toNat_natCast, lnI_nat]
  have := hK w2 (e1.trans e2)
  obtain ⟨l, hl, _⟩ := ln_of (atoms (aOf e M)) hat
  rw [hl] at this ⊢
  exact this
theorem hollow_call {one two : Cel} (h : Txt w p e lim na O M) (h1 : one.from_ ≤ (atoms (aOf e M)).length) (h2 : two.from_ ≤ (atoms (aOf e M)).length) {K : Cells.T c34 → World → Prop} (hK : ∀ w', Ext w w' → K (spT (Obx.hollow (atoms (aOf e M)) one two)) w') :
    callT Tryz.prog 44 #[.pointer (some (at0 p)), .agg (Cells.vals c72 (celT one)).toArray, .agg (Cells.vals c72 (celT two)).toArray] (.one (.agg c34)) K w := by
  refine F44_calls (a1 := celT one) (a2 := celT two) ?_
  unfold F44
  have few := h.few; have lims := h.lims
  have hal := hal e M
  generalize hA : atoms (aOf e M) = A at *
  unfold Obx.hollow at hK
  obtain ⟨a, ha⟩ : ∃ a, a = (lnAt A (nb A one.from_)).getD ⟨0, 0, 0, 0⟩ := ⟨_, rfl⟩
  obtain ⟨b, hb⟩ : ∃ b, b = (lnAt A (nb A two.from_)).getD ⟨0, 0, 0, 0⟩ := ⟨_, rfl⟩
  rw [← ha, ← hb] at hK
  dsimp only at hK
  have hbf : b.from_ ≤ two.from_ := by
    obtain ⟨l, hl, hf, _⟩ := ln_of A h2
    rw [hb, hl]; exact hf
  let z3 : Obj := .cells #[.int .i64 0, .int .i64 0, .int .i64 0] 34 (0, 0)
  let z4 : Obj := .cells #[.int .i64 0, .int .i64 0, .int .i64 0, .int .i64 0] 100 (0, 0)
  refine (St.start w).newO fun b1 w1 S1 e1 => S1.newO fun b2 w2 S2 e2 => S2.newO fun b3 w3 S3 e3 => ?_
  refine S3.ld 2 rfl (x := (one.to_ : Int)) rfl (S3.ld 1 rfl (x := (two.from_ : Int)) rfl (S3.newO fun b6 w6 S6 e6 => S6.aggSt 0 rfl rfl rfl rfl fun w7 S7 u7 => ?_))
  refine S7.ld 3 rfl (x := (one.from_ : Int)) rfl (line_call (h.ext S7.upd) (by rw [hA]; exact h1) fun w8 e8 => ?_)
  rw [hA, ← ha]
  refine (S7.ext e8).newO fun b10 w10 S10 e10 => S10.aggSt 0 rfl rfl rfl rfl fun w11 S11 u11 => ?_
  refine S11.ld 3 rfl (x := (two.from_ : Int)) rfl (line_call (h.ext S11.upd) (by rw [hA]; exact h2) fun w12 e12 => ?_)
  rw [hA, ← hb]
  refine (S11.ext e12).newO fun b14 w14 S14 e14 => S14.aggSt 0 rfl rfl rfl rfl fun w15 S15 u15 => ?_
  let Ls : List (Nat × Obj) := [(b14, .cells (Cells.vals c100 (lnT b)).toArray 100 (0, 0)), (b10, .cells (Cells.vals c100 (lnT a)).toArray 100 (0, 0)), (b6, .cells #[.int .i64 (one.to_ : Int), .int .i64 (two.from_ : Int), .int .i64 0] 34 (0, 0)), (b3, z3), (b2, .cells (Cells.vals c72 (celT two)).toArray 72 (0, 0)), (b1, .cells (Cells.vals c72 (celT one)).toArray 72 (0, 0))]
  have S15 : St (fun _ => False) w w15 Ls := S15
  have fin : ∀ {W : World} {s : Int × Int × Int}, St (fun _ => False) w W Ls → (∀ w', Ext w w' → K (spT s) w') → aggSt (at0 b3) (.agg #[.int .i64 s.1, .int .i64 s.2.1, .int .i64 s.2.2]) 3 (lds c34 (at0 b3) fun x => K x) W := fun {W s} SW hk =>
    SW.aggSt 3 rfl rfl rfl rfl fun w1 S1 _ => S1.lds 3 (spT s) rfl (hk w1 S1.upd)
  refine join_r (fun x W => x = (decide (a.to_ ≠ one.to_ ∨ a = b), ()) ∧ w15 = W) ?_ ?_
  · refine S15.ld 1 rfl (x := (a.to_ : Int)) rfl (S15.ld 5 rfl (x := (one.to_ : Int)) rfl (sif_r (fun h => ⟨tupb ?_, rfl⟩) (fun h => S15.lds 1 (lnT a) rfl (S15.lds 0 (lnT b) rfl (lnEql_r ⟨tupb ?_, rfl⟩)))))
    all_goals simp only [bne_iff_ne, bne_eq_false_iff_eq, decide_eq_true_eq, true_iff, ne_eq] at *
    · omega
    · have : a.to_ = one.to_ := by omega
      simp [this]
  rintro _ _ ⟨rfl, rfl⟩
  refine sif_r (fun h3 => ?_) (fun h3 => ?_)
  · simp only [decide_eq_true_eq] at h3
    rw [if_pos h3] at hK
    exact S15.lds 2 (spT (one.to_, two.from_, 0)) rfl (fin (s := (one.to_, two.from_, 0)) S15 hK)
  simp only [decide_eq_false_iff_not] at h3
  rw [if_neg h3] at hK
  refine join_r (fun _ W => St (fun _ => False) w W Ls ∧ (cels ((A.drop b.from_).take (two.from_ - b.from_)) b.from_).any (fun c => c.kind != 0) = false) ?_ ?_
  · refine S15.drew fun w16 S16 e16 _ => S16.ld 0 rfl (x := (b.from_ : Int)) rfl (S16.ld 4 rfl (x := (two.from_ : Int)) rfl (S16.ld 0 rfl (x := (b.from_ : Int)) rfl ?_))
    refine atoms_call (h.ext S16.upd) fun s w17 o17 e17 => ?_
    have hsub : sub A (b.from_ : Int) (two.from_ : Int) = (A.drop b.from_).take (two.from_ - b.from_) := by unfold sub; simp
    rw [hA, hsub] at o17
    have S17 := S16.ext e17
    refine S17.keep 0 rfl (v := .int .i64 (b.from_ : Int)) rfl ?_
    refine cells_call o17.in (by rw [List.length_take, List.length_drop]; omega) (by omega) fun s2 w18 o18 e18 _ => ?_
    have S18 := S17.ext e18
    generalize hC : cels ((A.drop b.from_).take (two.from_ - b.from_)) b.from_ = C at *
    have hCl := o18.lenC
    have hCb : C.length < 2 ^ 40 := by
      have := cels_le ((A.drop b.from_).take (two.from_ - b.from_)) b.from_
      rw [hC, List.length_take, List.length_drop] at this; omega
    refine sloop_r (fun x W => ∃ i : Nat, i ≤ C.length ∧ x = ((i : Int), ()) ∧ St (fun _ => False) w W Ls ∧ Ext w18 W ∧ (C.take i).any (fun c => c.kind != 0) = false) (fun x _ => ((C.length : Int) - x.1).toNat) ⟨0, Nat.zero_le _, rfl, S18, Ext.refl _, rfl⟩ ?_
    rintro _ W ⟨i, hi, rfl, SW, eW, hno⟩
    refine sif_r (fun hc => ?_) (fun hc => ?_)
    · simp only [decide_eq_true_eq] at hc
      obtain ⟨c, hc'⟩ : ∃ c, C[i]? = some c := ⟨_, List.getElem?_eq_getElem (by omega)⟩
      refine ix_cel (o18.ext eW) hc' fun q => SW.newO' fun b35 w20 S20 e20 hb35 => S20.aggSt 0 rfl rfl rfl rfl fun w21 S21 u21 => ?_
      refine S21.ld 0 rfl (x := (c.kind : Int)) rfl (sif_r (fun hk => ?_) (fun hk => ?_))
      · simp only [bne_iff_ne, ne_eq] at hk
        have hany : C.any (fun c => c.kind != 0) = true := by
          rw [List.any_eq_true]
          exact ⟨c, List.mem_of_getElem? hc', by rw [bne_iff_ne]; omega⟩
        rw [if_pos hany] at hK
        exact S21.lds 3 (spT (one.to_, two.from_, 0)) rfl (fin (s := (one.to_, two.from_, 0)) S21.tail hK)
      · simp only [bne_eq_false_iff_eq] at hk
        have ew : IntKind.wrap .i64 ((i : Int) + 1) = ((i + 1 : Nat) : Int) := by rw [wrap64 (by omega) (by omega)]; omega
        rw [ew]
        refine ⟨⟨i + 1, by omega, rfl, S21.tail, (eW.trans e20).step u21 (fun k hk => ?_), ?_⟩, by omega⟩
        · have := eW.size; omega
        · rw [List.take_add_one, hc', List.any_append, hno]
          have : c.kind = 0 := by omega
          simp [this]
    · simp only [decide_eq_false_iff_not] at hc
      have : i = C.length := by omega
      subst this
      rw [List.take_length] at hno
      exact ⟨SW, hno⟩
  rintro _ W ⟨SW, hno⟩
  rw [if_neg (by rw [hno]; decide)] at hK
  refine SW.ld 1 rfl (x := (a.next : Int)) rfl (SW.ld 0 rfl (x := (b.from_ : Int)) rfl (sif_r (fun h4 => ?_) (fun h4 => ?_)))
  · simp only [beq_iff_eq] at h4
    rw [if_pos (by omega)] at hK
    exact SW.ld 5 rfl (x := (one.to_ : Int)) rfl (SW.ld 5 rfl (x := (one.to_ : Int)) rfl (fin (s := (one.to_, one.to_, 0)) SW hK))
  · simp only [beq_eq_false_iff_ne, ne_eq] at h4
    rw [if_neg (by omega)] at hK
    exact SW.ld 1 rfl (x := (a.next : Int)) rfl (SW.ld 0 rfl (x := (b.from_ : Int)) rfl (fin (s := (a.next, b.from_, 1)) SW hK))
end
end Go.Proofs.YtabcpghhfeplaaaGreat
set_option linter.unusedSimpArgs false
set_option linter.unusedVariables false
set_option maxRecDepth 100000
namespace Go.Proofs.YtabcpghhfeplaaaGreat
open Go Go.Vx Cdc Trx Gly Clu Lns Obx
section
variable {w w' : World} {S : Nat → Prop} {p : Nat} {e : Enc} {lim na : Nat} {O : Nat → Prop} {M : Parts}
theorem sub_all (A : List Int) : sub A 0 (A.length : Int) = A := by unfold sub; simp
theorem blocks_call {at_ kind count arg : Int} (h : Txt w p e lim na O M) (hcn : count < 2 ^ 63) {K : Cells.T c34 × Int × Unit → World → Prop} (hK : ∀ w', Ext w w' → K (spT (blocksP (atoms (aOf e M)) at_ kind count arg).1, (blocksP (atoms (aOf e M)) at_ kind count arg).2, ()) w') :
    callT Tryz.prog 19 #[.pointer (some (at0 p)), .int .i64 at_, .agg (Cells.vals c39 (mvT kind count arg)).toArray] (.tup [(.agg c34), (.one (.int .i64))]) K w := by
  refine F19_calls (a2 := mvT kind count arg) ?_
  unfold F19
  have few := h.few; have lims := h.lims
  have hal := hal e M
  generalize hA : atoms (aOf e M) = A at *
  unfold blocksP at hK
  rw [hal] at hK
  let Mv : Obj := .cells (Cells.vals c39 (mvT kind count arg)).toArray 39 (0, 0)
  let Z : Obj := .cells #[.int .i64 0, .int .i64 0, .int .i64 0] 34 (0, 0)
  refine (St.start w).newO fun b1 w1 S1 e1 => S1.newO fun b2 w2 S2 e2 => ?_
  have S2 : St (fun _ => False) w w2 [(b2, Z), (b1, Mv)] := S2
  have fin : ∀ {W : World} {s : Int × Int × Int} {n : Int}, St (fun _ => False) w W [(b2, Z), (b1, Mv)] → (∀ w', Ext w w' → K (spT s, n, ()) w') → aggSt (at0 b2) (.agg #[.int .i64 s.1, .int .i64 s.2.1, .int .i64 s.2.2]) 3 (lds c34 (at0 b2) fun x => K (x, n, ())) W := fun {W s n} SW hk =>
    SW.aggSt 0 rfl rfl rfl rfl fun w1 S1 _ => S1.lds 0 (spT s) rfl (hk w1 S1.upd)
  refine S2.lds 1 (mvT kind count arg) rfl (checked_call (h.ext S2.upd) fun w3 e3 => ?_)
  have S3 := S2.ext e3
  refine S3.ld 1 rfl (x := arg) rfl (fellow_call fun w4 e4 => ?_)
  have S4 := S3.ext e4
  generalize hck : checked (aOf e M).length at_ kind count 67 68 = ck at *
  refine join_r (fun x W => x = (decide (ck = 1 ∨ fellow arg = none), ()) ∧ w4 = W) ?_ ?_
  · refine sif_r (fun h => ⟨tupb ?_, rfl⟩) (fun h => ⟨tupb ?_, rfl⟩)
    · simp only [beq_iff_eq, decide_eq_true_eq, true_iff] at *; exact .inl h
    · simp only [beq_eq_false_iff_ne, decide_eq_true_eq, ne_eq] at *
      cases fellow arg <;> simp [h]
  rintro _ _ ⟨rfl, rfl⟩
  refine sif_r (fun hc => ?_) (fun hc => ?_)
  · simp only [decide_eq_true_eq] at hc
    refine fin (s := (0, 0, 0)) (n := 1) S4 fun w' x => ?_
    have := hK w' x
    by_cases h1 : ck = 1
    · rw [if_pos h1] at this; exact this
    · rw [if_neg h1, hc.resolve_left h1] at this; exact this
  simp only [decide_eq_false_iff_not, not_or] at hc
  obtain ⟨shut, hsh⟩ : ∃ shut, fellow arg = some shut := by
    cases hf : fellow arg with
    | none => exact absurd hf hc.2
    | some s => exact ⟨s, rfl⟩
  rw [if_neg hc.1, hsh] at hK
  rw [hsh]
  simp only [Option.getD_some, Option.isSome_some]
  dsimp only at hK
  refine sif_r (fun h0 => ?_) (fun h0 => ?_)
  · simp only [bne_iff_ne, ne_eq] at h0
    rw [if_pos h0] at hK
    exact fin (s := (0, 0, 0)) (n := ck) S4 hK
  simp only [bne_eq_false_iff_eq] at h0
  rw [if_neg (by rw [h0]; decide)] at hK
  refine len_call (h.ext S4.upd) fun w5 e5 => atoms_call (h.ext (S4.ext e5).upd) fun s w6 o6 e6 => ?_
  rw [hA, ← hal, sub_all] at o6
  refine cells_call (off := 0) o6.in (by omega) (by decide) fun sc w7 o7 e7 _ => ?_
  have S7 := ((S4.ext e5).ext e6).ext e7
  have hCle : (cels A 0).length ≤ A.length := cels_le A 0
  have hcel : ∀ {m : Nat} {c : Cel}, (cels A 0)[m]? = some c → c.from_ ≤ A.length := fun hc => by
    obtain ⟨i, j, _, _, h1, h2, h3, _⟩ := (cels_ok hc).ex
    omega
  generalize hC : cels A 0 = C at *
  have hlen := o7.lenC
  unfold bracketsP at hK
  refine join_r (fun x W => x = (((firstI C at_ : Nat) : Int), ()) ∧ w7 = W) ?_ ?_
  · refine sloop_r (fun x W => ∃ i : Nat, i ≤ C.length ∧ x = ((i : Int), ()) ∧ w7 = W ∧ ∀ (j : Nat) (c : Cel), j < i → C[j]? = some c → (c.to_ : Int) ≤ at_) (fun x _ => ((C.length : Int) - x.1).toNat) ⟨0, Nat.zero_le _, rfl, rfl, fun j c hj => absurd hj (Nat.not_lt_zero _)⟩ ?_
    rintro _ _ ⟨i, hi, rfl, rfl, hlo⟩
    by_cases hil : i < C.length
    · obtain ⟨c, hc'⟩ : ∃ c, C[i]? = some c := ⟨_, List.getElem?_eq_getElem hil⟩
      refine join_r (fun x W => x = (decide ((c.to_ : Int) ≤ at_), ()) ∧ w7 = W) ?_ ?_
      · exact sif_r (fun h => ix_celF (k := .int .i64) o7 hc' (y := (c.to_ : Int)) rfl fun q => ⟨tupb (by simp only [decide_eq_true_eq, ge_iff_le]), rfl⟩) (fun h => by simp only [decide_eq_false_iff_not] at h; omega)
      rintro _ _ ⟨rfl, rfl⟩
      refine sif_r (fun hg => ?_) (fun hg => ?_)
      · simp only [decide_eq_true_eq] at hg
        have ew : IntKind.wrap .i64 ((i : Int) + 1) = ((i + 1 : Nat) : Int) := by rw [wrap64 (by omega) (by omega)]; omega
        rw [ew]
        refine ⟨⟨i + 1, by omega, rfl, rfl, fun j d hj hd => ?_⟩, by omega⟩
        by_cases hji : j = i
        · subst hji; rw [hc'] at hd; cases hd; exact hg
        · exact hlo j d (by omega) hd
      · simp only [decide_eq_false_iff_not] at hg
        refine ⟨?_, rfl⟩
        rw [firstI_eq hi hlo fun d hd => by rw [hc'] at hd; cases hd; omega]
    · refine join_r (fun x W => x = (false, ()) ∧ w7 = W) (sif_r (fun h => by simp only [decide_eq_true_eq] at h; omega) (fun _ => ⟨rfl, rfl⟩)) ?_
      rintro _ _ ⟨rfl, rfl⟩
      refine sif_false ⟨?_, rfl⟩
      have : i = C.length := by omega
      rw [firstI_eq hi hlo fun d hd => by rw [this, List.getElem?_eq_none (Nat.le_refl _)] at hd; cases hd]
  rintro _ _ ⟨rfl, rfl⟩
  have hfl := firstI_le C at_
  generalize hi : firstI C at_ = i at *
  refine join_r (fun x W => x = (decide (i = C.length ∨ C.length < times count), ()) ∧ St (fun _ => False) w W [(b2, Z), (b1, Mv)] ∧ Ext w7 W) ?_ ?_
  · refine sif_r (fun h => ⟨tupb ?_, S7, Ext.refl _⟩) (fun h => S7.lds 1 (mvT kind count arg) rfl (times_call hcn fun w8 e8 => ⟨tupb ?_, S7.ext e8, e8⟩))
    all_goals simp only [beq_iff_eq, beq_eq_false_iff_ne, ne_eq, decide_eq_true_eq, true_iff, gt_iff_lt] at *
    all_goals omega
  rintro _ w8 ⟨rfl, S8, e8⟩
  refine sif_r (fun hb => ?_) (fun hb => ?_)
  · simp only [decide_eq_true_eq] at hb
    rw [if_pos hb] at hK
    exact fin (s := (0, 0, 0)) (n := 90) S8 hK
  simp only [decide_eq_false_iff_not] at hb
  rw [if_neg hb] at hK
  have ht1 : 1 ≤ times count := by unfold times; omega
  obtain ⟨c, hc'⟩ : ∃ c, C[i]? = some c := ⟨_, List.getElem?_eq_getElem (by omega)⟩
  rw [hc'] at hK
  have ewp : IntKind.wrap .i64 ((i : Int) + 1) = (i : Int) + 1 := wrap64 (by omega) (by omega)
  have ewm : IntKind.wrap .i64 ((i : Int) - 1) = (i : Int) - 1 := wrap64 (by omega) (by omega)
  simp only [Option.map_some, Option.getD_some] at hK
  refine join_r (fun x W => x = ((if c.is arg then (i : Int) else (i : Int) - 1), (if c.is arg then (i : Int) + 1 else (i : Int)), ()) ∧ St (fun _ => False) w W [(b2, Z), (b1, Mv)] ∧ Ext w7 W) ?_ ?_
  · refine S8.drew fun w9 S9 e9 _ => ix_cel (o7.ext (e8.trans e9)) hc' fun q => S9.ld 1 rfl (x := arg) rfl (is_call fun w10 e10 => ?_)
    rw [ewp, ewm]
    refine sif_r (fun h => ⟨?_, S9.ext e10, (e8.trans e9).trans e10⟩) (fun h => ⟨?_, S9.ext e10, (e8.trans e9).trans e10⟩)
    · rw [h, if_pos rfl, if_pos rfl]
    · rw [h, if_neg (by decide), if_neg (by decide)]
  rintro _ w9 ⟨rfl, S9, e9⟩
  dsimp only
  refine S9.drew fun w10 S10 e10 _ => S10.ld 1 rfl (x := arg) rfl (S10.lds 1 (mvT kind count arg) rfl (times_call hcn fun w11 e11 => ?_))
  have S11 := S10.ext e11
  have x11 := (e9.trans e10).trans e11
  have hl1 : -1 ≤ (if c.is arg then (i : Int) else (i : Int) - 1) ∧ (if c.is arg then (i : Int) else (i : Int) - 1) < C.length := by split <;> omega
  have hr1 : 0 ≤ (if c.is arg then (i : Int) + 1 else (i : Int)) ∧ (if c.is arg then (i : Int) + 1 else (i : Int)) ≤ C.length := by split <;> omega
  refine S11.keep 1 rfl (v := .int .i64 arg) rfl ?_
  refine nth_call (k := times count) false (o7.ext x11) (by omega) hl1.1 (by omega) (fun h => by cases h) (fun _ => hl1.2) ht1 (by omega) fun w12 e12 => ?_
  have S12 := S11.ext e12
  refine S12.drew fun w13 S13 e13 _ => S13.ld 1 rfl (x := arg) rfl (S13.lds 1 (mvT kind count arg) rfl (times_call hcn fun w14 e14 => ?_))
  have S14 := S13.ext e14
  have x14 := ((x11.trans e12).trans e13).trans e14
  refine S14.keep 1 rfl (v := .int .i64 arg) rfl ?_
  refine nth_call (k := times count) true (o7.ext x14) (by omega) (by omega) hr1.2 (fun _ => hr1.1) (fun h => by cases h) ht1 (by omega) fun w15 e15 => ?_
  have S15 := S14.ext e15
  have x15 := x14.trans e15
  generalize hn1 : nthL C arg shut (walkI false C.length (if c.is arg then (i : Int) else (i : Int) - 1)) (times count) 0 = n1 at *
  generalize hn2 : nthL C shut arg (walkI true C.length (if c.is arg then (i : Int) + 1 else (i : Int))) (times count) 0 = n2 at *
  refine join_r (fun x W => x = (decide (n1 = none ∨ n2 = none), ()) ∧ w15 = W) ?_ ?_
  · cases n1 with
    | none => exact sif_r (fun h => ⟨tupb (by simp), rfl⟩) (fun h => by simp [oI] at h)
    | some j1 =>
      refine sif_r (fun h => absurd (of_decide_eq_true h) (Int.not_lt.2 (Int.natCast_nonneg j1))) (fun h => ⟨?_, rfl⟩)
      cases n2 with
      | none => exact tupb (by simp [oI])
      | some j2 =>
        refine tupb ?_
        simp only [decide_eq_true_eq, reduceCtorEq, or_self, iff_false, oI, Int.not_lt]
        exact fun h => absurd (of_decide_eq_true h) (Int.not_lt.2 (Int.natCast_nonneg j2))
  rintro _ _ ⟨rfl, rfl⟩
  refine sif_r (fun hd => ?_) (fun hd => ?_)
  · simp only [decide_eq_true_eq] at hd
    have e0 : pick C n1 n2 = none := by
      rcases hd with rfl | rfl
      · rfl
      · cases n1 <;> rfl
    rw [e0] at hK
    exact fin (s := (0, 0, 0)) (n := 90) S15 hK
  simp only [decide_eq_false_iff_not, not_or] at hd
  obtain ⟨j1, rfl⟩ : ∃ j, n1 = some j := by cases n1 with
    | none => exact absurd rfl hd.1
    | some j => exact ⟨j, rfl⟩
  obtain ⟨j2, rfl⟩ : ∃ j, n2 = some j := by cases n2 with
    | none => exact absurd rfl hd.2
    | some j => exact ⟨j, rfl⟩
  obtain ⟨_, c1, hc1, _⟩ := nthL_mem hn1
  obtain ⟨_, c2, hc2, _⟩ := nthL_mem hn2
  have e0 : pick C (some j1) (some j2) = some (c1, c2) := by unfold pick; dsimp only; rw [hc1, hc2]
  rw [e0] at hK
  dsimp only [oI] at hK ⊢
  refine S15.ld 1 rfl (x := kind) rfl (sif_r (fun hk => ?_) (fun hk => ?_))
  · simp only [beq_iff_eq] at hk
    rw [if_pos hk] at hK
    refine S15.drew fun w16 S16 e16 _ => ix_cel (o7.ext (x15.trans e16)) hc1 fun q1 => ix_cel (o7.ext (x15.trans e16)) hc2 fun q2 => ?_
    refine hollow_call (one := c1) (two := c2) (h.ext S16.upd) (by rw [hA]; exact hcel hc1) (by rw [hA]; exact hcel hc2) fun w17 e17 => ?_
    rw [hA]
    exact fin (s := Obx.hollow A c1 c2) (n := 0) (S16.ext e17) hK
  · simp only [beq_eq_false_iff_ne, ne_eq] at hk
    rw [if_neg hk] at hK
    refine S15.drew fun w16 S16 e16 _ => ix_celF0 (k := .int .i64) (o7.ext (x15.trans e16)) hc1 (y := (c1.from_ : Int)) rfl fun q1 => ix_celF (k := .int .i64) (o7.ext (x15.trans e16)) hc2 (y := (c2.to_ : Int)) rfl fun q2 => ?_
    exact fin (s := (c1.from_, c2.to_, 0)) (n := 0) S16 hK
end
end Go.Proofs.YtabcpghhfeplaaaGreat
set_option linter.unusedSimpArgs false
set_option linter.unusedVariables false
set_option maxRecDepth 100000
namespace Go.Proofs.YtabcpghhfeplaaaGreat
open Go Go.Vx Cdc
section
variable {w w' : World}
theorem known_call {e : Enc} {K : Bool → World → Prop} (hK : K true w) : callT Tryz.prog 61 #[.int .i64 e.num] (.one (.one .bool)) K w := by
  refine F61_calls ?_
  unfold F61
  cases e <;> exact sif_r (fun _ => hK) (fun h => by cases h)
theorem rscalar_call {a : Int} {K : Bool → World → Prop} (h1 : Scalar a → K true w) (h2 : ¬ Scalar a → K false w) : callT Tryz.prog 117 #[.int .i64 a] (.one (.one .bool)) K w := by
  refine F117_calls ?_
  unfold F117
  unfold Scalar at h1 h2
  refine sif_r (fun h => sif_r (fun h' => ?_) (fun h' => sif_r (fun h'' => ?_) (fun h'' => ?_))) (fun h => sif_r (fun h'' => ?_) (fun h'' => ?_))
  all_goals simp only [decide_eq_true_eq, decide_eq_false_iff_not, gt_iff_lt, ge_iff_le] at *
  · exact h1 (by omega)
  · by_cases hc : a ≤ 1114111
    · rw [decide_eq_true hc]; exact h1 (by omega)
    · rw [decide_eq_false hc]; exact h2 (by omega)
  · exact h2 (by omega)
  · by_cases hc : a ≤ 1114111
    · rw [decide_eq_true hc]; exact h1 (by omega)
    · rw [decide_eq_false hc]; exact h2 (by omega)
  · exact h2 (by omega)
def unI (be : Bool) : Bs → Int
  | a :: b :: _ => ((un be a b : Nat) : Int)
  | _ => -1
theorem runit_call {s : Sl} {l : Bs} {n : Nat} {be : Bool} (hB : By w s l) (hn : n < 2 ^ 60) (hl : l.length < 2 ^ 60) {K : Int → World → Prop} (hK : ∀ w', Ext w w' → K (unI be (l.drop n)) w') :
    callT Tryz.prog 84 #[.int .i64 (if be then 3 else 2), .slice s.a s.len s.cap, .int .i64 (n : Int)] (.one (.one (.int .i64))) K w := by
  refine F84_calls ?_
  unfold F84
  have hlen := hB.len
  have e2 : IntKind.wrap .i64 ((n : Int) + 2) = (n : Int) + 2 := wrap64 (by omega) (by omega)
  have e1 : IntKind.wrap .i64 ((n : Int) + 1) = ((n + 1 : Nat) : Int) := by rw [wrap64 (by omega) (by omega)]; omega
  rw [e2, e1]
  refine sif_r (fun h => ?_) (fun h => ?_)
  · simp only [decide_eq_true_eq, gt_iff_lt] at h
    have := hK w (Ext.refl w)
    have hd : (l.drop n).length < 2 := by rw [List.length_drop]; omega
    match hdd : l.drop n, hd with
    | [], _ => rw [hdd] at this; exact this
    | [_], _ => rw [hdd] at this; exact this
    | _ :: _ :: _, hd => simp at hd; omega
  · simp only [decide_eq_false_iff_not, gt_iff_lt] at h
    have h0 : n < l.length := by omega
    have h1 : n + 1 < l.length := by omega
    have hd : l.drop n = l[n] :: l[n + 1] :: l.drop (n + 2) := by
      rw [List.drop_eq_getElem_cons h0, List.drop_eq_getElem_cons h1]
    have ha := l[n].toNat_lt
    have hb := l[n + 1].toNat_lt
    rw [hd] at hK
    have g0 : l[(n : Int).toNat]? = some l[n] := by rw [Int.toNat_natCast]; simp [h0]
    have g1 : l[((n + 1 : Nat) : Int).toNat]? = some l[n + 1] := by rw [Int.toNat_natCast]; simp [h1]
    cases be with
    | false =>
      refine sif_r (fun _ => drew_r fun w1 e3 _ => ?_) (fun h => by cases h)
      have hB1 : By w1 s l := hB.ext e3
      refine ix_by hB1 (by omega) g0 fun p => ix_by hB1 (by omega) g1 fun p => ?_
      rw [wrap64 (a := (l[n].toNat : Int)) (by omega) (by omega), wrap64 (a := (l[n + 1].toNat : Int)) (by omega) (by omega), wrap64 (a := 256 * (l[n + 1].toNat : Int)) (by omega) (by omega), wrap64 (by omega) (by omega)]
      have : (l[n].toNat : Int) + 256 * (l[n + 1].toNat : Int) = unI false (l[n] :: l[n + 1] :: l.drop (n + 2)) := by
        show _ = ((l[n].toNat + l[n + 1].toNat * 256 : Nat) : Int); omega
      rw [this]; exact hK w1 e3
    | true =>
      refine sif_r (fun h => by cases h) (fun _ => drew_r fun w1 e3 _ => ?_)
      have hB1 : By w1 s l := hB.ext e3
      refine ix_by hB1 (by omega) g0 fun p => ix_by hB1 (by omega) g1 fun p => ?_
      rw [wrap64 (a := (l[n].toNat : Int)) (by omega) (by omega), wrap64 (a := (l[n + 1].toNat : Int)) (by omega) (by omega), wrap64 (a := 256 * (l[n].toNat : Int)) (by omega) (by omega), wrap64 (by omega) (by omega)]
      have : 256 * (l[n].toNat : Int) + (l[n + 1].toNat : Int) = unI true (l[n] :: l[n + 1] :: l.drop (n + 2)) := by
        show _ = ((l[n + 1].toNat + l[n].toNat * 256 : Nat) : Int); omega
      rw [this]; exact hK w1 e3
end
end Go.Proofs.YtabcpghhfeplaaaGreat
set_option linter.unusedSimpArgs false
set_option linter.unusedVariables false
namespace Go.Proofs.YtabcpghhfeplaaaGreat
namespace Cdc
theorem ofNat_toNat (b : UInt8) : UInt8.ofNat b.toNat = b := by
  apply UInt8.toNat_inj.1
  rw [UInt8.toNat_ofNat']
  have := b.toNat_lt
  omega
theorem byte_of {n : Nat} {b : UInt8} (h : n = b.toNat) : UInt8.ofNat n = b := by rw [h, ofNat_toNat]
theorem sz8_nat {n : Nat} (h : Scalar (n : Int)) : sz8 (n : Int) = if n < 128 then 1 else if n < 2048 then 2 else if n < 65536 then 3 else 4 := by
  unfold sz8
  rw [if_neg (by rcases h with h | h <;> omega)]
  repeat' split
  all_goals first | rfl | omega
theorem pt8_1 {n : Nat} (h : n < 128) : pt8 (n : Int) = [UInt8.ofNat n] := by
  have hs : sz8 (n : Int) = 1 := by rw [sz8_nat (.inl (by omega)), if_pos h]
  unfold pt8
  rw [if_neg (by omega), if_pos hs, Int.toNat_natCast]
theorem pt8_2 {n : Nat} (h0 : 128 ≤ n) (h : n < 2048) : pt8 (n : Int) = [UInt8.ofNat (192 + n / 64), UInt8.ofNat (128 + n % 64)] := by
  have hs : sz8 (n : Int) = 2 := by rw [sz8_nat (.inl (by omega)), if_neg (by omega), if_pos h]
  unfold pt8
  rw [if_neg (by omega), hs, if_neg (by decide), Int.toNat_natCast]
  show [UInt8.ofNat (192 + n / 64), UInt8.ofNat (128 + n / 1 % 64)] = _
  rw [Nat.div_one]
theorem pt8_3 {n : Nat} (hs : Scalar (n : Int)) (h0 : 2048 ≤ n) (h : n < 65536) : pt8 (n : Int) = [UInt8.ofNat (224 + n / 4096), UInt8.ofNat (128 + n / 64 % 64), UInt8.ofNat (128 + n % 64)] := by
  have hs : sz8 (n : Int) = 3 := by rw [sz8_nat hs, if_neg (by omega), if_neg (by omega), if_pos h]
  unfold pt8
  rw [if_neg (by omega), hs, if_neg (by decide), Int.toNat_natCast]
  show [UInt8.ofNat (224 + n / 4096), UInt8.ofNat (128 + n / 64 % 64), UInt8.ofNat (128 + n / 1 % 64)] = _
  rw [Nat.div_one]
theorem pt8_4 {n : Nat} (h0 : 65536 ≤ n) (h : n < 1114112) : pt8 (n : Int) = [UInt8.ofNat (240 + n / 262144), UInt8.ofNat (128 + n / 4096 % 64), UInt8.ofNat (128 + n / 64 % 64), UInt8.ofNat (128 + n % 64)] := by
  have hs : sz8 (n : Int) = 4 := by rw [sz8_nat (.inr (by omega)), if_neg (by omega), if_neg (by omega), if_neg (by omega)]
  unfold pt8
  rw [if_neg (by omega), hs, if_neg (by decide), Int.toNat_natCast]
  show [UInt8.ofNat (240 + n / 262144), UInt8.ofNat (128 + n / 4096 % 64), UInt8.ofNat (128 + n / 64 % 64), UInt8.ofNat (128 + n / 1 % 64)] = _
  rw [Nat.div_one]
theorem cont_iff (c : UInt8) : cont c = true ↔ 128 ≤ c.toNat ∧ c.toNat < 192 := by
  unfold cont; simp; omega
theorem nx8_back {b : UInt8} {r : Bs} (h : 0 ≤ (nx8 (b :: r)).1) : Scalar (nx8 (b :: r)).1 ∧ pt8 (nx8 (b :: r)).1 = (b :: r).take (nx8 (b :: r)).2 ∧ sz8 (nx8 (b :: r)).1 = (nx8 (b :: r)).2 := by
  have hb := b.toNat_lt
  have h2 := rowOf_bnds b r
  simp only [nx8] at h ⊢
  by_cases hc : (rowOf (b :: r)).2 = 0 ∨ (rowOf (b :: r)).1 < (rowOf (b :: r)).2
  · rw [if_pos hc] at h
    have : (0 : Int) ≤ -1 - (b.toNat : Int) := h
    omega
  rw [if_neg hc] at h ⊢
  obtain ⟨hn0, hle⟩ : ¬ (rowOf (b :: r)).2 = 0 ∧ ¬ (rowOf (b :: r)).1 < (rowOf (b :: r)).2 := ⟨fun h => hc (.inl h), fun h => hc (.inr h)⟩
  clear hc
  have two : ∀ {lo hi k : Nat}, bnds b.toNat = (k + 2, lo, hi) → ∃ c r', r = c :: r' ∧ lo ≤ c.toNat ∧ c.toNat ≤ hi ∧ k ≤ more k r' ∧ (rowOf (b :: r)).2 = k + 2 := by
    intro lo hi k hk
    rw [h2, hk] at hle
    cases r with
    | nil =>
      have e : rowOf [b] = (1, k + 2) := by simp only [rowOf, hk]; rw [if_neg (by omega)]
      rw [e] at hle; simp at hle
    | cons c r' =>
      have e : rowOf (b :: c :: r') = if c.toNat < lo ∨ hi < c.toNat then (1, k + 2) else (2 + more k r', k + 2) := by simp only [rowOf, hk]; rw [if_neg (by omega)]; rfl
      rw [e] at hle
      dsimp only at hle
      by_cases hcc : c.toNat < lo ∨ hi < c.toNat
      · rw [if_pos hcc] at hle; simp at hle
      · rw [if_neg hcc] at hle
        simp only at hle
        exact ⟨c, r', rfl, by omega, by omega, by omega, by rw [h2, hk]⟩
  have more1 : ∀ {r : Bs}, 1 ≤ more 1 r → ∃ d r', r = d :: r' ∧ 128 ≤ d.toNat ∧ d.toNat < 192 := by
    intro r hr
    cases r with
    | nil => simp [more] at hr
    | cons d r' =>
      by_cases hd : cont d = true
      · exact ⟨d, r', rfl, (cont_iff d).1 hd⟩
      · simp [more, hd] at hr
  have more2 : ∀ {r : Bs}, 2 ≤ more 2 r → ∃ d e r', r = d :: e :: r' ∧ 128 ≤ d.toNat ∧ d.toNat < 192 ∧ 128 ≤ e.toNat ∧ e.toNat < 192 := by
    intro r hr
    cases r with
    | nil => simp [more] at hr
    | cons d r' =>
      by_cases hd : cont d = true
      · have hr' : 1 ≤ more 1 r' := by
          have e2 : more 2 (d :: r') = more 1 r' + 1 := by show (if cont d then more 1 r' + 1 else 0) = _; rw [if_pos hd]
          omega
        obtain ⟨e, r'', rfl, h1⟩ := more1 hr'
        exact ⟨d, e, r'', rfl, ((cont_iff d).1 hd).1, ((cont_iff d).1 hd).2, h1⟩
      · simp [more, hd] at hr
  have fin2 : ∀ {lo hi : Nat}, bnds b.toNat = (2, lo, hi) → 194 ≤ b.toNat → b.toNat < 224 → 128 ≤ lo → hi ≤ 191 →
      Scalar ((rest (lead (rowOf (b :: r)).2 b.toNat) (r.take ((rowOf (b :: r)).2 - 1)) : Nat) : Int) ∧ pt8 ((rest (lead (rowOf (b :: r)).2 b.toNat) (r.take ((rowOf (b :: r)).2 - 1)) : Nat) : Int) = (b :: r).take (rowOf (b :: r)).2 ∧ sz8 ((rest (lead (rowOf (b :: r)).2 b.toNat) (r.take ((rowOf (b :: r)).2 - 1)) : Nat) : Int) = (rowOf (b :: r)).2 := by
    intro lo hi hk g1 g2 g3 g4
    obtain ⟨c, r', rfl, c1, c2, _, hn⟩ := two (k := 0) hk
    rw [hn]
    show Scalar (((b.toNat % 32 * 64 + c.toNat % 64 : Nat)) : Int) ∧ pt8 (((b.toNat % 32 * 64 + c.toNat % 64 : Nat)) : Int) = [b, c] ∧ sz8 (((b.toNat % 32 * 64 + c.toNat % 64 : Nat)) : Int) = 2
    have hS : Scalar (((b.toNat % 32 * 64 + c.toNat % 64 : Nat)) : Int) := .inl (by omega)
    refine ⟨hS, ?_, ?_⟩
    · rw [pt8_2 (by omega) (by omega), byte_of (b := b) (by omega), byte_of (b := c) (by omega)]
    · rw [sz8_nat hS, if_neg (by omega), if_pos (by omega)]
  have fin3 : ∀ {lo hi : Nat}, bnds b.toNat = (3, lo, hi) → 224 ≤ b.toNat → b.toNat < 240 → 128 ≤ lo → hi ≤ 191 → (b.toNat = 224 → 160 ≤ lo) → (b.toNat = 237 → hi ≤ 159) →
      Scalar ((rest (lead (rowOf (b :: r)).2 b.toNat) (r.take ((rowOf (b :: r)).2 - 1)) : Nat) : Int) ∧ pt8 ((rest (lead (rowOf (b :: r)).2 b.toNat) (r.take ((rowOf (b :: r)).2 - 1)) : Nat) : Int) = (b :: r).take (rowOf (b :: r)).2 ∧ sz8 ((rest (lead (rowOf (b :: r)).2 b.toNat) (r.take ((rowOf (b :: r)).2 - 1)) : Nat) : Int) = (rowOf (b :: r)).2 := by
    intro lo hi hk g1 g2 g3 g4 g5 g6
    obtain ⟨c, r', rfl, c1, c2, hm, hn⟩ := two (k := 1) hk
    obtain ⟨d, r'', rfl, d1, d2⟩ := more1 hm
    rw [hn]
    show Scalar ((((b.toNat % 16 * 64 + c.toNat % 64) * 64 + d.toNat % 64 : Nat)) : Int) ∧ pt8 ((((b.toNat % 16 * 64 + c.toNat % 64) * 64 + d.toNat % 64 : Nat)) : Int) = [b, c, d] ∧ sz8 ((((b.toNat % 16 * 64 + c.toNat % 64) * 64 + d.toNat % 64 : Nat)) : Int) = 3
    have hS : Scalar ((((b.toNat % 16 * 64 + c.toNat % 64) * 64 + d.toNat % 64 : Nat)) : Int) := by
      unfold Scalar
      by_cases h7 : b.toNat = 237
      · have := g6 h7; omega
      · omega
    have hlow : 2048 ≤ (b.toNat % 16 * 64 + c.toNat % 64) * 64 + d.toNat % 64 := by
      by_cases h4 : b.toNat = 224
      · have := g5 h4; omega
      · omega
    refine ⟨hS, ?_, ?_⟩
    · rw [pt8_3 hS hlow (by omega), byte_of (b := b) (by omega), byte_of (b := c) (by omega), byte_of (b := d) (by omega)]
    · rw [sz8_nat hS, if_neg (by omega), if_neg (by omega), if_pos (by omega)]
  have fin4 : ∀ {lo hi : Nat}, bnds b.toNat = (4, lo, hi) → 240 ≤ b.toNat → b.toNat < 245 → 128 ≤ lo → hi ≤ 191 → (b.toNat = 240 → 144 ≤ lo) → (b.toNat = 244 → hi ≤ 143) →
      Scalar ((rest (lead (rowOf (b :: r)).2 b.toNat) (r.take ((rowOf (b :: r)).2 - 1)) : Nat) : Int) ∧ pt8 ((rest (lead (rowOf (b :: r)).2 b.toNat) (r.take ((rowOf (b :: r)).2 - 1)) : Nat) : Int) = (b :: r).take (rowOf (b :: r)).2 ∧ sz8 ((rest (lead (rowOf (b :: r)).2 b.toNat) (r.take ((rowOf (b :: r)).2 - 1)) : Nat) : Int) = (rowOf (b :: r)).2 := by
    intro lo hi hk g1 g2 g3 g4 g5 g6
    obtain ⟨c, r', rfl, c1, c2, hm, hn⟩ := two (k := 2) hk
    obtain ⟨d, e, r'', rfl, d1, d2, e1, e2⟩ := more2 hm
    rw [hn]
    show Scalar (((((b.toNat % 8 * 64 + c.toNat % 64) * 64 + d.toNat % 64) * 64 + e.toNat % 64 : Nat)) : Int) ∧ pt8 (((((b.toNat % 8 * 64 + c.toNat % 64) * 64 + d.toNat % 64) * 64 + e.toNat % 64 : Nat)) : Int) = [b, c, d, e] ∧ sz8 (((((b.toNat % 8 * 64 + c.toNat % 64) * 64 + d.toNat % 64) * 64 + e.toNat % 64 : Nat)) : Int) = 4
    have hlow : 65536 ≤ ((b.toNat % 8 * 64 + c.toNat % 64) * 64 + d.toNat % 64) * 64 + e.toNat % 64 := by
      by_cases h4 : b.toNat = 240
      · have := g5 h4; omega
      · omega
    have hhigh : ((b.toNat % 8 * 64 + c.toNat % 64) * 64 + d.toNat % 64) * 64 + e.toNat % 64 < 1114112 := by
      by_cases h4 : b.toNat = 244
      · have := g6 h4; omega
      · omega
    have hS : Scalar (((((b.toNat % 8 * 64 + c.toNat % 64) * 64 + d.toNat % 64) * 64 + e.toNat % 64 : Nat)) : Int) := .inr (by omega)
    refine ⟨hS, ?_, ?_⟩
    · rw [pt8_4 hlow hhigh, byte_of (b := b) (by omega), byte_of (b := c) (by omega), byte_of (b := d) (by omega), byte_of (b := e) (by omega)]
    · rw [sz8_nat hS, if_neg (by omega), if_neg (by omega), if_neg (by omega)]
  by_cases k1 : b.toNat < 128
  · have hk : bnds b.toNat = (1, 0, 0) := by unfold bnds; rw [if_pos k1]
    have hn : (rowOf (b :: r)).2 = 1 := by rw [h2, hk]
    rw [hn]
    show Scalar ((b.toNat : Nat) : Int) ∧ pt8 ((b.toNat : Nat) : Int) = [b] ∧ sz8 ((b.toNat : Nat) : Int) = 1
    have hS : Scalar ((b.toNat : Nat) : Int) := .inl (by omega)
    exact ⟨hS, by rw [pt8_1 k1, ofNat_toNat], by rw [sz8_nat hS, if_pos k1]⟩
  by_cases k2 : b.toNat < 194
  · exact absurd (by rw [h2]; unfold bnds; rw [if_neg k1, if_pos k2]) hn0
  by_cases k3 : b.toNat < 224
  · exact fin2 (lo := 128) (hi := 191) (by unfold bnds; rw [if_neg k1, if_neg k2, if_pos k3]) (by omega) k3 (by omega) (by omega)
  by_cases k4 : b.toNat = 224
  · exact fin3 (lo := 160) (hi := 191) (by unfold bnds; rw [if_neg k1, if_neg k2, if_neg k3, if_pos k4]) (by omega) (by omega) (by omega) (by omega) (fun _ => by omega) (fun h => by omega)
  by_cases k5 : b.toNat = 237
  · exact fin3 (lo := 128) (hi := 159) (by unfold bnds; rw [if_neg k1, if_neg k2, if_neg k3, if_neg k4, if_pos k5]) (by omega) (by omega) (by omega) (by omega) (fun h => by omega) (fun _ => by omega)
  by_cases k6 : b.toNat < 240
  · exact fin3 (lo := 128) (hi := 191) (by unfold bnds; rw [if_neg k1, if_neg k2, if_neg k3, if_neg k4, if_neg k5, if_pos k6]) (by omega) (by omega) (by omega) (by omega) (fun h => by omega) (fun h => by omega)
  by_cases k7 : b.toNat = 240
  · exact fin4 (lo := 144) (hi := 191) (by unfold bnds; rw [if_neg k1, if_neg k2, if_neg k3, if_neg k4, if_neg k5, if_neg k6, if_pos k7]) (by omega) (by omega) (by omega) (by omega) (fun _ => by omega) (fun h => by omega)
  by_cases k8 : b.toNat < 244
  · exact fin4 (lo := 128) (hi := 191) (by unfold bnds; rw [if_neg k1, if_neg k2, if_neg k3, if_neg k4, if_neg k5, if_neg k6, if_neg k7, if_pos k8]) (by omega) (by omega) (by omega) (by omega) (fun h => by omega) (fun h => by omega)
  by_cases k9 : b.toNat = 244
  · exact fin4 (lo := 128) (hi := 143) (by unfold bnds; rw [if_neg k1, if_neg k2, if_neg k3, if_neg k4, if_neg k5, if_neg k6, if_neg k7, if_neg k8, if_pos k9]) (by omega) (by omega) (by omega) (by omega) (fun h => by omega) (fun _ => by omega)
  · exact absurd (by rw [h2]; unfold bnds; rw [if_neg k1, if_neg k2, if_neg k3, if_neg k4, if_neg k5, if_neg k6, if_neg k7, if_neg k8, if_neg k9]) hn0
def leadN (n : Nat) : Int := if n = 2 then 192 else if n = 3 then 224 else if n = 4 then 240 else 0
def goOn (a : Int) (l : Bs) : Int := l.foldl (fun a c => a * 64 + (c.toNat : Int) - 128) a
def meantP (n : Nat) : Bs → Int
  | [] => 0
  | b :: r => goOn ((b.toNat : Int) - leadN n) (r.take (n - 1))
theorem meant_pt {a : Int} (h : Scalar a) (r : Bs) : meantP (sz8 a) (pt8 a ++ r) = a := by
  obtain ⟨n, rfl⟩ : ∃ n : Nat, a = (n : Int) := Int.eq_ofNat_of_zero_le (by rcases h with h | h <;> omega)
  have hs := sz8_nat h
  by_cases k1 : n < 128
  · rw [if_pos k1] at hs
    rw [hs, pt8_1 k1]
    show goOn (((UInt8.ofNat n).toNat : Int) - 0) [] = _
    rw [byte_nat (by omega)]; show ((n : Int) - 0) = n; omega
  by_cases k2 : n < 2048
  · rw [if_neg k1, if_pos k2] at hs
    rw [hs, pt8_2 (by omega) k2]
    show (((UInt8.ofNat (192 + n / 64)).toNat : Int) - 192) * 64 + ((UInt8.ofNat (128 + n % 64)).toNat : Int) - 128 = _
    rw [byte_nat (by omega), byte_nat (by omega)]; omega
  by_cases k3 : n < 65536
  · rw [if_neg k1, if_neg k2, if_pos k3] at hs
    rw [hs, pt8_3 h (by omega) k3]
    show ((((UInt8.ofNat (224 + n / 4096)).toNat : Int) - 224) * 64 + ((UInt8.ofNat (128 + n / 64 % 64)).toNat : Int) - 128) * 64 + ((UInt8.ofNat (128 + n % 64)).toNat : Int) - 128 = _
    rw [byte_nat (by omega), byte_nat (by omega), byte_nat (by omega)]; omega
  · rw [if_neg k1, if_neg k2, if_neg k3] at hs
    have h' : n < 1114112 := by rcases h with h | h <;> omega
    rw [hs, pt8_4 (by omega) h']
    show (((((UInt8.ofNat (240 + n / 262144)).toNat : Int) - 240) * 64 + ((UInt8.ofNat (128 + n / 4096 % 64)).toNat : Int) - 128) * 64 + ((UInt8.ofNat (128 + n / 64 % 64)).toNat : Int) - 128) * 64 + ((UInt8.ofNat (128 + n % 64)).toNat : Int) - 128 = _
    rw [byte_nat (by omega), byte_nat (by omega), byte_nat (by omega), byte_nat (by omega)]; omega
def Hit (r : Bs) (n : Nat) : Prop := Scalar (meantP n r) ∧ r.take (pt8 (meantP n r)).length = pt8 (meantP n r) ∧ (pt8 (meantP n r)).length = n
theorem hit_nx {r : Bs} {n : Nat} (h : Hit r n) : nx8 r = (meantP n r, n) := by
  obtain ⟨h1, h2, h3⟩ := h
  have e : r = pt8 (meantP n r) ++ r.drop (pt8 (meantP n r)).length := by
    conv => lhs; rw [← List.take_append_drop (pt8 (meantP n r)).length r, h2]
  have := nx8_pt h1 (r.drop (pt8 (meantP n r)).length)
  rw [← e] at this
  have hl : (pt8 (meantP n r)).length = sz8 (meantP n r) := pt_len .u8 _ (fun h0 => by
    have h4 : sz8 (meantP n r) ≠ 0 := by
      unfold sz8
      rw [if_neg (by rcases h1 with h | h <;> omega)]
      repeat' split
      all_goals decide
    exact h4 h0)
  rw [this, ← hl, h3]
theorem nx_hit {b : UInt8} {r : Bs} (h : 0 ≤ (nx8 (b :: r)).1) : Hit (b :: r) (nx8 (b :: r)).2 ∧ meantP (nx8 (b :: r)).2 (b :: r) = (nx8 (b :: r)).1 := by
  obtain ⟨h1, h2, h3⟩ := nx8_back h
  have hsz := nx8_size b r
  have hl : (pt8 (nx8 (b :: r)).1).length = (nx8 (b :: r)).2 := by rw [h2, List.length_take]; omega
  have hm : meantP (nx8 (b :: r)).2 (b :: r) = (nx8 (b :: r)).1 := by
    have := meant_pt h1 ((b :: r).drop (nx8 (b :: r)).2)
    rw [h2, List.take_append_drop, h3] at this
    exact this
  refine ⟨⟨?_, ?_, ?_⟩, hm⟩
  · rw [hm]; exact h1
  · rw [hm, hl]; exact h2.symm
  · rw [hm, hl]
theorem nx_neg {b : UInt8} {r : Bs} (h : ¬ 0 ≤ (nx8 (b :: r)).1) : nx8 (b :: r) = (-1 - (b.toNat : Int), 1) := by
  simp only [nx8] at h ⊢
  split at h
  · rename_i hc; rw [if_pos hc]
  · exact absurd (Int.natCast_nonneg _) h
end Cdc
end Go.Proofs.YtabcpghhfeplaaaGreat
set_option linter.unusedSimpArgs false
set_option linter.unusedVariables false
set_option maxRecDepth 100000
namespace Go.Proofs.YtabcpghhfeplaaaGreat
open Go Go.Vx Cdc Trx
section
variable {w w' : World} {S : Nat → Prop} {p : Nat} {e : Enc} {lim na : Nat} {O : Nat → Prop} {M : Parts}
theorem eParts : ElemOk Tryz.prog 108 112 7 64 := ElemOk.of (z := .agg #[.slice none 0 0, .int .i64 0, .int .i64 0, .int .i64 0, .int .i64 0, .bool false, .bool false]) i108_ok i112_ok rfl rfl rfl (by decide)
def bOf (M : Parts) : Bs := M.flatMap fun x => x.2
theorem bOf_app (M N : Parts) : bOf (M ++ N) = bOf M ++ bOf N := by simp [bOf]
theorem Pc_one (x : Pc) : ∀ v ∈ flat c112 [pcT x], isOne v = true := by
  intro v hv
  rw [flat_one] at hv
  have : v ∈ (Cells.vals c112 (pcT x)) := hv
  revert this
  show v ∈ [_, _, _, _, _, _, _] → _
  intro h
  simp only [List.mem_cons, List.not_mem_nil, or_false] at h
  rcases h with rfl | rfl | rfl | rfl | rfl | rfl | rfl <;> rfl
set_option maxHeartbeats 1000000 in
theorem open_call {s : Sl} {l : Bs} (hB : By w s l) (hl : l.length ≤ lim) (hlim : lim ≤ 65536) {K : Option Addr × Int × Unit → World → Prop}
    (hK : ∀ p O M w', Txt w' p e lim 0 O M → aOf e M = ats e l → bOf M = l → Ext w w' → (∀ k, O k → w.heap.size ≤ k) → K (some (at0 p), 0, ()) w') :
    callT Tryz.prog 35 #[.int .i64 e.num, .slice s.a s.len s.cap, .int .i64 (lim : Int)] (.tup [(.one .ptr), (.one (.int .i64))]) K w := by
  refine F35_calls ?_
  unfold F35
  have hlen := hB.len
  have hen : 1 ≤ e.num ∧ e.num ≤ 4 := by cases e <;> decide
  refine join_r (fun x w' => x = (false, ()) ∧ w = w') (sif_r (fun h => ?_) (fun h => ⟨by rw [decide_eq_false (by omega)], rfl⟩)) ?_
  · simp only [decide_eq_true_eq] at h; omega
  rintro _ _ ⟨rfl, rfl⟩
  refine sif_false (join_r (fun x w' => x = (false, ()) ∧ w = w') (sif_r (fun h => ?_) (fun h => ⟨by rw [decide_eq_false (by omega)], rfl⟩)) ?_)
  · simp only [decide_eq_true_eq] at h; omega
  rintro _ _ ⟨rfl, rfl⟩
  refine sif_false (sif_r (fun h => ?_) (fun _ => ?_))
  · simp only [decide_eq_true_eq, gt_iff_lt] at h; omega
  refine makeSlice_r EBy.ts_ i5_ok (z := .int .u8 0) rfl rfl (by omega) (by show ((s.len : Nat) : Int) * 1 ≤ 2 ^ 48; omega) (by omega) fun b w1 c n1 hc1 _ e1 hb1 => ?_
  rw [Int.toNat_natCast] at hc1 ⊢
  have hc1' : c.size = s.len := by rw [hc1]; show s.len * 1 = _; omega
  refine copy_r (off := 0) EBy.ts_ i5_ok.run_size n1 (by rw [List.length_map]; omega) (hB.ext e1).x (Nat.le_refl _) (bv_one l) fun w2 n2 u2 _ => ?_
  rw [setRow_whole (bv l) c (by rw [List.length_map]; omega)] at n2
  have e2 : Ext w w2 := e1.step u2 fun k hk => by omega
  have hL : By w2 ⟨some (at0 b), s.len, s.len⟩ l := by
    have := SlIn.of_box n2 (n := s.len) (sz := 1) (by simp; omega)
    simpa using this
  refine (St.start w2).newO fun b7 w3 S3 e3 => ?_
  have hb7 := S3.ge 0 rfl
  let Zt : Option Addr → Obj := fun q => .cells #[.int .i64 e.num, .int .i64 (lim : Int), .pointer q, .slice none 0 0] 107 (0, 0)
  let Lp : Nat → Sl → World → Prop := fun j r W => ∃ (its : List Pc) (M : Parts), St (fun _ => False) w2 W [(b7, Zt none)] ∧ SlOwn W w3.heap.size r 112 7 (flat c112 (its.map pcT)) ∧ Its W e its M ∧ aOf e M = (ats e l).take j ∧ bOf M = l.take (szs ((ats e l).take j)) ∧
    (∀ x ∈ its, ∀ k, x.bytes.blk k → k = b) ∧ By W ⟨some (at0 b), s.len, s.len⟩ l ∧ its.length ≤ j ∧ w3.heap.size ≤ W.heap.size
  have hne : ∀ {r : Sl} {its : List Pc} {W : World}, SlOwn W w3.heap.size r 112 7 (flat c112 (its.map pcT)) → its.length = r.len := fun ho => by
    have := SlOwn.lenR (cs := c112) ho (by decide)
    rwa [List.length_map] at this
  refine join_r (fun x W => ∃ j, Lp j x.1 W ∧ (ats e l).take j = ats e l) ?_ ?_
  · refine sloop_r (fun x W => ∃ j, j ≤ (ats e l).length ∧ x.2 = (((szs ((ats e l).take j) : Nat) : Int), ()) ∧ Lp j x.1 W) (fun x _ => ((l.length : Int) - x.2.1).toNat) ⟨0, Nat.zero_le _, rfl, [], [], S3, SlOwn.nil _ _ _ _, trivial, rfl, rfl, (fun _ h => by cases h), hL.ext e3, Nat.le_refl _, Nat.le_refl _⟩ ?_
    rintro ⟨r, _⟩ W4 ⟨j, hj, rfl, its, M, S4, ho, hi, ha, hb, hk, hL4, hil, hW4⟩
    have hsj : szs ((ats e l).take j) ≤ l.length := pos_le j
    dsimp only at ho ⊢
    refine sif_r (fun hc => ?_) (fun hc => ?_)
    · simp only [decide_eq_true_eq] at hc
      have hc' : szs ((ats e l).take j) < l.length := by omega
      refine join_r (fun x W => ∃ q, 1 ≤ q ∧ j + q ≤ (ats e l).length ∧ x = (((szs ((ats e l).take (j + q)) : Nat) : Int), ()) ∧ Ext W4 W) ?_ ?_
      · refine sloop_r (fun x W => ∃ q, j + q ≤ (ats e l).length ∧ q ≤ 128 ∧ x = (((szs ((ats e l).take (j + q)) : Nat) : Int), (q : Int), ()) ∧ Ext W4 W) (fun x _ => ((l.length : Int) - x.1).toNat) ⟨0, by omega, by omega, rfl, Ext.refl W4⟩ ?_
        rintro _ W5 ⟨q, hq, hq2, rfl, x5⟩
        have hsq : szs ((ats e l).take (j + q)) ≤ l.length := pos_le _
        refine join_r (fun x W => x = (decide (szs ((ats e l).take (j + q)) < l.length ∧ q < 128), ()) ∧ W5 = W) ?_ ?_
        · refine sif_r (fun h => ⟨tupb ?_, rfl⟩) (fun h => ⟨tupb ?_, rfl⟩)
          · simp only [decide_eq_true_eq] at h ⊢; omega
          · simp only [decide_eq_false_iff_not, decide_eq_true_eq] at h ⊢
            exact ⟨(fun h => by cases h), fun h => by omega⟩
        rintro _ W6 ⟨rfl, rfl⟩
        refine sif_r (fun h => ?_) (fun h => ?_)
        · simp only [decide_eq_true_eq] at h
          obtain ⟨a, m, hqa, hnx, htk, hss, hm1, hsl⟩ := pos_step (e := e) (l := l) (j := j + q) h.1
          have hql : j + q < (ats e l).length := (List.getElem?_eq_some_iff.1 hqa).1
          refine next_call (hL4.ext x5) h.1 fun W7 x7 => ?_
          rw [hnx]
          have ewa : IntKind.wrap .i64 (((szs ((ats e l).take (j + q)) : Nat) : Int) + (m : Int)) = ((szs ((ats e l).take (j + q + 1)) : Nat) : Int) := by rw [wrap64 (by omega) (by omega)]; omega
          have ewb : IntKind.wrap .i64 ((q : Int) + 1) = ((q + 1 : Nat) : Int) := by rw [wrap64 (by omega) (by omega)]; omega
          refine ⟨⟨q + 1, by omega, by omega, by dsimp only; rw [ewa, ewb]; rfl, x5.trans x7⟩, ?_⟩
          dsimp only
          rw [ewa]; omega
        · refine ⟨q, ?_, hq, rfl, x5⟩
          rcases Nat.eq_zero_or_pos q with h0 | h0
          · subst h0
            have h' : ¬ (szs ((ats e l).take (j + 0)) < l.length ∧ 0 < 128) := fun hh => by rw [decide_eq_true hh] at h; cases h
            exact absurd ⟨hc', by decide⟩ h'
          · exact h0
      · rintro _ W5 ⟨q, hq1, hjq, rfl, x5⟩
        have S5 := S4.ext x5
        have hsq : szs ((ats e l).take (j + q)) ≤ l.length := pos_le _
        have hadd : szs ((ats e l).take (j + q)) = szs ((ats e l).take j) + szs (((ats e l).drop j).take q) := by rw [List.take_add, szs_append]
        have hpq := ((ats_posd e l).drop j).take q
        have hqpos : 1 ≤ szs (((ats e l).drop j).take q) := by
          have := szs_ge hpq
          rw [List.length_take, List.length_drop] at this; omega
        obtain ⟨pb, hpb⟩ : ∃ pb : Bs, pb = (l.drop (szs ((ats e l).take j))).take (szs (((ats e l).drop j).take q)) := ⟨_, rfl⟩
        have hpa : ats e pb = ((ats e l).drop j).take q := by
          have h1 := (ats_cut e j l).2
          have h2 := (ats_cut e q (l.drop (szs ((ats e l).take j)))).1
          rw [h1] at h2
          rw [hpb]; exact h2
        have hpl : pb.length = szs (((ats e l).drop j).take q) := by rw [← hpa, szs_all]
        have hL5 := hL4.ext x5
        have hcut := By.cut hL5 (l := ((szs ((ats e l).take j) : Nat) : Int)) (h := ((szs ((ats e l).take (j + q)) : Nat) : Int)) (m := ((szs ((ats e l).take (j + q)) : Nat) : Int)) (by omega) (by omega) (by show _ ≤ ((s.len : Nat) : Int); omega) (by omega) (by show _ ≤ ((s.len : Nat) : Int); omega)
        have hcb : (l.drop ((szs ((ats e l).take j) : Nat) : Int).toNat).take (((szs ((ats e l).take (j + q)) : Nat) : Int).toNat - ((szs ((ats e l).take j) : Nat) : Int).toNat) = pb := by
          rw [hpb, Int.toNat_natCast, Int.toNat_natCast, hadd, Nat.add_sub_cancel_left]
        rw [hcb] at hcut
        refine chk_r (by omega) (newpart_call hcut (by omega) fun W6 x6 => ?_)
        have S6 := S5.ext x6
        refine S6.newO fun b21 W7 S7 x7 => ?_
        have x47 := (x5.trans x6).trans x7
        have hrl := hne ho
        have hi7 : Its W7 e its M := hi.ext x47
        have hx : PcIn W7 e (mkPc e (Sl.cut (some (at0 b)) ((szs ((ats e l).take j) : Nat) : Int) ((szs ((ats e l).take (j + q)) : Nat) : Int) ((szs ((ats e l).take (j + q)) : Nat) : Int) 1) ((szs ((ats e l).take j) : Nat) : Int) pb) (((szs ((ats e l).take j) : Nat) : Int), pb) :=
          ⟨hcut.ext (x6.trans x7), rfl, rfl, fun h0 => by have h0' : pb = [] := h0; rw [h0'] at hpl; simp at hpl; omega, by show -1 ≤ ((szs ((ats e l).take j) : Nat) : Int); omega, by show ((szs ((ats e l).take j) : Nat) : Int) + (pb.length : Int) ≤ 2 ^ 40; omega⟩
        generalize hpc : mkPc e (Sl.cut (some (at0 b)) ((szs ((ats e l).take j) : Nat) : Int) ((szs ((ats e l).take (j + q)) : Nat) : Int) ((szs ((ats e l).take (j + q)) : Nat) : Int) 1) ((szs ((ats e l).take j) : Nat) : Int) pb = xp at *
        have hxb : ∀ k, xp.bytes.blk k → k = b := by
          rw [← hpc]
          rintro k hk
          obtain ⟨pp, hp1, hp2⟩ := cut_blk (s := ⟨some (at0 b), s.len, s.len⟩) hk
          cases hp1; exact hp2.symm
        have hbox : SlX W7 ⟨some (at0 b21), 1, 1⟩ 7 (flat c112 [pcT xp]) := by
          have := SlIn.of_box (S7.at_ 0 rfl) (n := 1) (sz := 7) rfl
          exact this.x
        refine append_rx eParts eParts.ts_ (x := ⟨some (at0 b21), 1, 1⟩) (ho.ext x47) hbox (Pc_one xp) (by
          show (r.len + 1 + (r.len + 1) / 4 + 512) * 64 ≤ 2 ^ 48
          have := szs_ge (ats_posd e l)
          rw [szs_all] at this
          omega) (by have := x47.size; omega) fun r' W8 o8 l8 u8 k8 => ?_
        have hty : ∀ {t' : TypeId}, 112 ≠ t' → NoTy W7 r.blk t' := fun ht => NoTy.blk (ho.ext x47).in ht
        have st8 : St (fun _ => False) w2 W8 [(b7, Zt none)] := by
          refine S7.tail.fresh u8 (fun k hk => .inr ?_) (fun x hx hk => ?_)
          · have := ho.blk_ge hk; have := e3.size; omega
          · rw [List.mem_singleton.1 hx] at hk
            exact hty (by decide) _ hk _ _ (S7.at_ 1 rfl)
        have e8 : flat c112 (its.map pcT) ++ flat c112 [pcT xp] = flat c112 ((its ++ [xp]).map pcT) := by rw [List.map_append, flat_append]; rfl
        rw [e8] at o8
        have hi8 : Its W8 e (its ++ [xp]) (M ++ [(((szs ((ats e l).take j) : Nat) : Int), pb)]) := by
          have h9 : Its W7 e (its ++ [xp]) (M ++ [(((szs ((ats e l).take j) : Nat) : Int), pb)]) := hi7.app ⟨hx, trivial⟩
          refine h9.upd u8 fun x hx k hk hS => ?_
          obtain ⟨y, hy⟩ : ∃ y, PcIn W7 e x y := by
            obtain ⟨n, hn⟩ := List.getElem?_of_mem hx
            obtain ⟨y, _, hy⟩ := h9.get n hn
            exact ⟨y, hy⟩
          obtain ⟨c2, fr2, hc2⟩ := hy.by_.blk_cells hk
          exact hty (t' := 5) (by decide) k hS _ _ hc2
        refine ⟨⟨j + q, hjq, rfl, its ++ [xp], M ++ [_], st8, o8, hi8, ?_, ?_, ?_, ?_, ?_, ?_⟩, ?_⟩
        · rw [aOf_app, ha, List.take_add]
          show _ ++ aOf e [_] = _
          simp only [aOf, List.flatMap_cons, List.flatMap_nil, List.append_nil]
          rw [hpa]
        · rw [bOf_app, hb, hadd, List.take_add]
          show _ ++ bOf [_] = _
          simp only [bOf, List.flatMap_cons, List.flatMap_nil, List.append_nil]
          rw [hpb]
        · intro x hx k hkk
          rcases List.mem_append.1 hx with hx | hx
          · exact hk x hx k hkk
          · rw [List.mem_singleton.1 hx] at hkk; exact hxb k hkk
        · exact SlIn.ty (hL5.ext (x6.trans x7)) u8 (hty (by decide))
        · rw [List.length_append]; simp; omega
        · have := u8.size; have := x47.size; omega
        · dsimp only
          omega
    · simp only [decide_eq_false_iff_not] at hc
      have := pos_end (e := e) (l := l) (j := j) (by omega)
      exact ⟨j, ⟨its, M, S4, ho, hi, ha, hb, hk, hL4, hil, hW4⟩, this⟩
  · rintro ⟨r, _⟩ W4 ⟨j, ⟨its, M, S4, ho, hi, ha, hb, hk, hL4, hil, hW4⟩, hj⟩
    rw [hj] at ha hb
    have hM : szs (aOf e M) = l.length := by rw [ha, szs_all]
    have hfine := hi.fine (by omega)
    refine treeOf_call (l := its) ho.in hfine fun t W5 ht hti x5 => nn_some ?_
    have S5 := S4.ext x5
    rw [addr_add]
    refine aggSt_r (S5.at_ 0 rfl) rfl rfl (by show 0 + 2 + 1 ≤ 4; decide) fun W6 u56 n6' z6 => ?_
    have n6 : W6.heap[b7]? = some (Zt t.ptr) := n6'
    have hb0 : w.heap.size ≤ b := by omega
    have hb0' : w.heap.size ≤ b7 := by have := e2.size; omega
    have e06 : Ext w W6 := (e2.trans S5.upd).step u56 fun k hk => by omega
    refine hK b7 (fun k => k = b ∨ k = b7) M W6 ⟨⟨t, ⟨none, 0, 0⟩, [], n6, ?_, ?_, SlOwn.nil _ _ _ _, ?_, ?_, ?_, Nat.le_refl _⟩, hlim, by omega, .inr rfl, ?_⟩ ha (by rw [hb, szs_all]; exact List.take_length) e06 (by rintro k (rfl | rfl) <;> assumption)
    · exact ht.ty u56 (NoTy.box (S5.at_ 0 rfl) (by decide))
    · rw [hti]
      refine (hi.ext x5).upd u56 fun x hx k hkk he => ?_
      have := hk x hx k hkk
      have hbl := lt_of_heap n2
      omega
    · rintro x hx k hkk ⟨q, hq, _⟩; cases hq
    · intro x hx k hkk
      rw [hti] at hx
      exact .inl (hk x hx k hkk)
    · rintro k ⟨q, hq, _⟩; cases hq
    · have hbl := lt_of_heap n2
      have h7 := lt_of_heap n6
      have := S5.upd.size
      rintro k (rfl | rfl) <;> omega
end
end Go.Proofs.YtabcpghhfeplaaaGreat
set_option linter.unusedSimpArgs false
set_option linter.unusedVariables false
set_option maxRecDepth 100000
namespace Go.Proofs.YtabcpghhfeplaaaGreat
open Go Go.Vx Cdc Trx
section
variable {w w' : World}
theorem bv_lit {b : Nat} {c : Array Value} {l : Bs} (h : w.heap[b]? = some (.cells c 5 (0, 0))) (hc : c.toList = bv l) : By w ⟨some (at0 b), l.length, l.length⟩ l := by
  have hs : c.size = l.length * 1 := by rw [← Array.length_toList, hc, List.length_map]; omega
  have := SlIn.of_box h (n := l.length) (sz := 1) hs
  rw [hc] at this
  exact this
theorem lit_byte {n : Int} {m : Nat} (hm : m < 256) (h : n = (m : Int)) : Value.int .u8 (IntKind.wrap .u8 n) = Value.int .u8 ((UInt8.ofNat m).toNat : Int) := by
  rw [h, byte_nat hm, wrap8 (by omega) (by omega)]
theorem eight_call {a : Int} (ha : Scalar a) {K : Sl → World → Prop} (hK : ∀ s w', By w' s (pt8 a) → Ext w w' → K s w') : callT Tryz.prog 118 #[.int .i64 a] (.one (.one .sl)) K w := by
  refine F118_calls ?_
  unfold F118
  obtain ⟨n, rfl⟩ : ∃ n : Nat, a = (n : Int) := Int.eq_ofNat_of_zero_le (by rcases ha with h | h <;> omega)
  have td : ∀ m : Nat, Int.tdiv (n : Int) ((m : Nat) : Int) = ((n / m : Nat) : Int) := fun m => by rw [Int.tdiv_eq_ediv_of_nonneg (by omega)]; rfl
  have tm : ∀ k m : Nat, Int.tmod (k : Int) ((m : Nat) : Int) = ((k % m : Nat) : Int) := fun k m => by rw [Int.tmod_eq_emod_of_nonneg (by omega)]; rfl
  have d64 := td 64; have d4096 := td 4096; have d262144 := td 262144
  have hn : n < 1114112 := by rcases ha with h | h <;> omega
  refine sif_r (fun h => ?_) (fun h => sif_r (fun h2 => ?_) (fun h2 => sif_r (fun h3 => ?_) (fun h3 => ?_)))
  · simp only [decide_eq_true_eq] at h
    refine newO_r fun b w1 e1 n1 _ _ => hK _ w1 ?_ e1
    have := bv_lit (l := pt8 (n : Int)) n1 (by rw [pt8_1 (by omega)]; show [_] = [_]; rw [lit_byte (m := n) (by omega) rfl])
    rw [pt8_1 (by omega)] at this ⊢
    exact this
  · simp only [decide_eq_true_eq, decide_eq_false_iff_not] at h h2
    refine chk_r (by decide) (chk_r (by decide) (newO_r fun b w1 e1 n1 _ _ => hK _ w1 ?_ e1))
    have := bv_lit (l := pt8 (n : Int)) n1 (by
      rw [pt8_2 (by omega) (by omega)]
      show [_, _] = [_, _]
      have e1 := td 64; have e2 := tm n 64
      simp only [Int.cast_ofNat_Int] at e1 e2
      rw [e1, e2, wrap64 (a := ((n / 64 : Nat) : Int)) (by omega) (by omega), wrap64 (by omega) (by omega), wrap64 (by omega) (by omega), lit_byte (m := 192 + n / 64) (by omega) (by omega), lit_byte (m := 128 + n % 64) (by omega) (by omega)])
    rw [pt8_2 (by omega) (by omega)] at this ⊢
    exact this
  · simp only [decide_eq_true_eq, decide_eq_false_iff_not] at h h2 h3
    refine chk_r (by decide) (chk_r (by decide) (chk_r (by decide) (chk_r (by decide) (newO_r fun b w1 e1 n1 _ _ => hK _ w1 ?_ e1))))
    have := bv_lit (l := pt8 (n : Int)) n1 (by
      rw [pt8_3 ha (by omega) (by omega)]
      show [_, _, _] = [_, _, _]
      have e1 := td 64; have e2 := tm n 64; have e3 := td 4096; have e4 := tm (n / 64) 64
      simp only [Int.cast_ofNat_Int] at e1 e2 e3 e4
      rw [e1, e2, e3, wrap64 (a := ((n / 64 : Nat) : Int)) (by omega) (by omega), wrap64 (a := ((n / 4096 : Nat) : Int)) (by omega) (by omega), e4, wrap64 (by omega) (by omega), wrap64 (by omega) (by omega), wrap64 (by omega) (by omega), lit_byte (m := 224 + n / 4096) (by omega) (by omega), lit_byte (m := 128 + n / 64 % 64) (by omega) (by omega), lit_byte (m := 128 + n % 64) (by omega) (by omega)])
    rw [pt8_3 ha (by omega) (by omega)] at this ⊢
    exact this
  · simp only [decide_eq_false_iff_not] at h h2 h3
    refine chk_r (by decide) (chk_r (by decide) (chk_r (by decide) (chk_r (by decide) (chk_r (by decide) (chk_r (by decide) (newO_r fun b w1 e1 n1 _ _ => hK _ w1 ?_ e1))))))
    have := bv_lit (l := pt8 (n : Int)) n1 (by
      rw [pt8_4 (by omega) (by omega)]
      show [_, _, _, _] = [_, _, _, _]
      have e1 := td 64; have e2 := tm n 64; have e3 := td 4096; have e4 := tm (n / 64) 64; have e5 := td 262144; have e6 := tm (n / 4096) 64
      simp only [Int.cast_ofNat_Int] at e1 e2 e3 e4 e5 e6
      rw [e1, e2, e3, e5, wrap64 (a := ((n / 64 : Nat) : Int)) (by omega) (by omega), wrap64 (a := ((n / 4096 : Nat) : Int)) (by omega) (by omega), wrap64 (a := ((n / 262144 : Nat) : Int)) (by omega) (by omega), e4, e6, wrap64 (by omega) (by omega), wrap64 (by omega) (by omega), wrap64 (by omega) (by omega), wrap64 (by omega) (by omega),
        lit_byte (m := 240 + n / 262144) (by omega) (by omega), lit_byte (m := 128 + n / 4096 % 64) (by omega) (by omega), lit_byte (m := 128 + n / 64 % 64) (by omega) (by omega), lit_byte (m := 128 + n % 64) (by omega) (by omega)])
    rw [pt8_4 (by omega) (by omega)] at this ⊢
    exact this
theorem begins_call {s t : Sl} {l m : Bs} {n : Nat} (hs : By w s l) (ht : By w t m) (hn : n ≤ l.length) (hl : l.length < 2 ^ 60) (hm : m.length < 2 ^ 60) {K : Bool → World → Prop} (hK : ∀ w', Ext w w' → K (decide ((l.drop n).take m.length = m)) w') :
    callT Tryz.prog 119 #[.slice s.a s.len s.cap, .int .i64 (n : Int), .slice t.a t.len t.cap] (.one (.one .bool)) K w := by
  refine F119_calls ?_
  unfold F119
  have h1 := hs.len; have h2 := ht.len
  rw [wrap64 (by omega) (by omega)]
  refine sif_r (fun h => ?_) (fun h => ?_)
  · simp only [decide_eq_true_eq, gt_iff_lt] at h
    have := hK w (Ext.refl w)
    rw [decide_eq_false] at this
    · exact this
    · intro hc
      have := congrArg List.length hc
      rw [List.length_take, List.length_drop] at this; omega
  simp only [decide_eq_false_iff_not, gt_iff_lt] at h
  refine join_r (fun _ w' => Ext w w' ∧ (l.drop n).take m.length = m) ?_ ?_
  · refine sloop_r (fun x w' => ∃ i : Nat, i ≤ m.length ∧ x = ((i : Int), ()) ∧ Ext w w' ∧ (l.drop n).take i = m.take i) (fun x _ => ((m.length : Int) - x.1).toNat) ⟨0, Nat.zero_le _, rfl, Ext.refl w, by simp⟩ ?_
    rintro _ w1 ⟨i, hi, rfl, e1, heq⟩
    refine sif_r (fun hc => ?_) (fun hc => ?_)
    · simp only [decide_eq_true_eq] at hc
      have him : i < m.length := by omega
      have hil : n + i < l.length := by omega
      have ew : IntKind.wrap .i64 ((n : Int) + (i : Int)) = ((n + i : Nat) : Int) := by rw [wrap64 (by omega) (by omega)]; omega
      rw [ew]
      refine drew_r fun w2 e2 _ => ix_by (hs.ext (e1.trans e2)) (by omega) (b := l[n + i]) (by rw [Int.toNat_natCast]; simp [hil]) fun p => ix_by (ht.ext (e1.trans e2)) (by omega) (b := m[i]) (by rw [Int.toNat_natCast]; simp [him]) fun q => ?_
      have g1 : (l.drop n)[i]? = some l[n + i] := by rw [List.getElem?_drop]; simp [hil]
      refine sif_r (fun hne => ?_) (fun hne => ?_)
      · simp only [bne_iff_ne] at hne
        have := hK w2 (e1.trans e2)
        rw [decide_eq_false] at this
        · exact this
        · intro hc2
          have h5 : ((l.drop n).take m.length)[i]? = m[i]? := by rw [hc2]
          rw [List.getElem?_take, if_pos him, g1, List.getElem?_eq_getElem him] at h5
          exact hne (by rw [Option.some.inj h5])
      · have hne' : ((l[n + i].toNat : Int) != (m[i].toNat : Int)) = false := hne
        simp only [bne_eq_false_iff_eq] at hne'
        have hbe : l[n + i] = m[i] := UInt8.toNat_inj.1 (by omega)
        have ew2 : IntKind.wrap .i64 ((i : Int) + 1) = ((i + 1 : Nat) : Int) := by rw [wrap64 (by omega) (by omega)]; omega
        refine ⟨⟨i + 1, by omega, by rw [ew2], e1.trans e2, ?_⟩, ?_⟩
        · rw [List.take_add_one, List.take_add_one, heq, g1, List.getElem?_eq_getElem him, hbe]
        · dsimp only
          rw [ew2]; omega
    · simp only [decide_eq_false_iff_not] at hc
      have : i = m.length := by omega
      subst this
      exact ⟨e1, by rw [heq, List.take_length]⟩
  · rintro _ w1 ⟨e1, heq⟩
    have := hK w1 e1
    rwa [decide_eq_true heq] at this
theorem goOn_bound : ∀ (l : Bs) (a : Int), l.length ≤ 3 → -1000 ≤ a → a ≤ 1000 → -1000000000 ≤ goOn a l ∧ goOn a l ≤ 1000000000 := by
  intro l a hl h0 h1
  match l, hl with
  | [], _ => exact ⟨by show -1000000000 ≤ a; omega, by show a ≤ 1000000000; omega⟩
  | [x], _ => have := x.toNat_lt; exact ⟨by show _ ≤ a * 64 + (x.toNat : Int) - 128; omega, by show a * 64 + (x.toNat : Int) - 128 ≤ _; omega⟩
  | [x, y], _ => have := x.toNat_lt; have := y.toNat_lt; exact ⟨by show _ ≤ (a * 64 + (x.toNat : Int) - 128) * 64 + (y.toNat : Int) - 128; omega, by show (a * 64 + (x.toNat : Int) - 128) * 64 + (y.toNat : Int) - 128 ≤ _; omega⟩
  | [x, y, z], _ => have := x.toNat_lt; have := y.toNat_lt; have := z.toNat_lt; exact ⟨by show _ ≤ ((a * 64 + (x.toNat : Int) - 128) * 64 + (y.toNat : Int) - 128) * 64 + (z.toNat : Int) - 128; omega, by show ((a * 64 + (x.toNat : Int) - 128) * 64 + (y.toNat : Int) - 128) * 64 + (z.toNat : Int) - 128 ≤ _; omega⟩
theorem goOn_snoc (a : Int) (l : Bs) (x : UInt8) : goOn a (l ++ [x]) = goOn a l * 64 + (x.toNat : Int) - 128 := by simp [goOn]
theorem meant_call {s : Sl} {b : UInt8} {l r : Bs} {n m : Nat} (hs : By w s l) (hl : l.length < 2 ^ 60) (hr : l.drop n = b :: r) (hm0 : 1 ≤ m) (hm4 : m ≤ 4) (hm : n + m ≤ l.length) {K : Int → World → Prop} (hK : ∀ w', Ext w w' → K (meantP m (b :: r)) w') :
    callT Tryz.prog 116 #[.slice s.a s.len s.cap, .int .i64 (n : Int), .int .i64 (m : Int)] (.one (.one (.int .i64))) K w := by
  refine F116_calls ?_
  unfold F116
  have h1 := hs.len
  have hb := b.toNat_lt
  have hnl : n < l.length := by omega
  have hrl : r.length = l.length - n - 1 := by
    have := congrArg List.length hr
    rw [List.length_drop, List.length_cons] at this; omega
  have g0 : l[n]? = some b := by
    have := congrArg (fun x => x[0]?) hr
    simp only [List.getElem?_drop, List.getElem?_cons_zero, Nat.add_zero] at this
    exact this
  have gi : ∀ i, l[n + (i + 1)]? = r[i]? := fun i => by
    have := congrArg (fun x => x[i + 1]?) hr
    simp only [List.getElem?_drop, List.getElem?_cons_succ] at this
    exact this
  refine (St.start w).newAgg rfl rfl rfl fun b1 w1 S1 e1 => S1.drew fun w2 S2 e2 _ => ix_by (hs.ext S2.upd) (by omega) (b := b) (by rw [Int.toNat_natCast]; exact g0) fun p => chk_r (by omega) ?_
  rw [addr_add, scaled_eq, Int.toNat_natCast]
  have hlead : (#[(.int .i64 (0 : Int)), (.int .i64 (0 : Int)), (.int .i64 (192 : Int)), (.int .i64 (224 : Int)), (.int .i64 (240 : Int))] : Array Value)[0 + m * 1]? = some (.int .i64 (leadN m)) := by
    match m, hm0, hm4 with
    | 1, _, _ => rfl
    | 2, _, _ => rfl
    | 3, _, _ => rfl
    | 4, _, _ => rfl
  have hlb : 0 ≤ leadN m ∧ leadN m ≤ 240 := by unfold leadN; repeat' split
                                               all_goals omega
  refine ld_r (S2.at_ 0 rfl) (x := leadN m) hlead ?_
  rw [wrap64 (a := (b.toNat : Int)) (by omega) (by omega), wrap64 (a := (b.toNat : Int) - leadN m) (by omega) (by omega)]
  refine join_r (fun x w' => x = (meantP m (b :: r), ()) ∧ Ext w w') ?_ ?_
  · refine sloop_r (fun x w' => ∃ i : Nat, 1 ≤ i ∧ i ≤ m ∧ x = (goOn ((b.toNat : Int) - leadN m) (r.take (i - 1)), (i : Int), ()) ∧ Ext w w') (fun x _ => ((m : Int) - x.2.1).toNat) ⟨1, by omega, by omega, rfl, S2.upd⟩ ?_
    rintro _ w3 ⟨i, hi1, him, rfl, e3⟩
    refine sif_r (fun hc => ?_) (fun hc => ?_)
    · simp only [decide_eq_true_eq] at hc
      have ew : IntKind.wrap .i64 ((n : Int) + (i : Int)) = ((n + i : Nat) : Int) := by rw [wrap64 (by omega) (by omega)]; omega
      rw [ew]
      have hil : n + i < l.length := by omega
      refine ix_by (hs.ext e3) (by omega) (b := l[n + i]) (by rw [Int.toNat_natCast]; simp [hil]) fun q => ?_
      have hxb := l[n + i].toNat_lt
      have hg : r[i - 1]? = some l[n + i] := by
        rw [← gi (i - 1), show n + (i - 1 + 1) = n + i by omega]; simp [hil]
      have hbd := goOn_bound (r.take (i - 1)) ((b.toNat : Int) - leadN m) (by rw [List.length_take]; omega) (by omega) (by omega)
      have hsn : goOn ((b.toNat : Int) - leadN m) (r.take (i + 1 - 1)) = goOn ((b.toNat : Int) - leadN m) (r.take (i - 1)) * 64 + (l[n + i].toNat : Int) - 128 := by
        rw [show i + 1 - 1 = (i - 1) + 1 by omega, List.take_add_one, hg]
        exact goOn_snoc _ _ _
      have ew2 : IntKind.wrap .i64 ((i : Int) + 1) = ((i + 1 : Nat) : Int) := by rw [wrap64 (by omega) (by omega)]; omega
      rw [wrap64 (a := goOn ((b.toNat : Int) - leadN m) (r.take (i - 1)) * 64) (by omega) (by omega), wrap64 (a := (l[n + i].toNat : Int)) (by omega) (by omega), wrap64 (a := goOn ((b.toNat : Int) - leadN m) (r.take (i - 1)) * 64 + (l[n + i].toNat : Int)) (by omega) (by omega), wrap64 (a := goOn ((b.toNat : Int) - leadN m) (r.take (i - 1)) * 64 + (l[n + i].toNat : Int) - 128) (by omega) (by omega), ew2]
      refine ⟨⟨i + 1, by omega, by omega, ?_, e3⟩, ?_⟩
      · rw [hsn]
      · dsimp only; omega
    · simp only [decide_eq_false_iff_not] at hc
      have : i = m := by omega
      subst this
      exact ⟨rfl, e3⟩
  · rintro _ w3 ⟨rfl, e3⟩
    exact hK w3 e3
theorem eightAt_call {s : Sl} {l : Bs} {n : Nat} (hs : By w s l) (hl : l.length < 2 ^ 60) (hn : n < l.length) {K : Int × Int × Unit → World → Prop} (hK : ∀ w', Ext w w' → K ((nx8 (l.drop n)).1, ((nx8 (l.drop n)).2 : Nat), ()) w') :
    callT Tryz.prog 83 #[.slice s.a s.len s.cap, .int .i64 (n : Int)] (.tup [(.one (.int .i64)), (.one (.int .i64))]) K w := by
  refine F83_calls ?_
  unfold F83
  have h1 := hs.len
  obtain ⟨b, r, hr⟩ : ∃ b r, l.drop n = b :: r := ⟨_, _, List.drop_eq_getElem_cons hn⟩
  have hb := b.toNat_lt
  have hrl : r.length = l.length - n - 1 := by
    have := congrArg List.length hr
    rw [List.length_drop, List.length_cons] at this; omega
  have g0 : l[n]? = some b := by
    have := congrArg (fun x => x[0]?) hr
    simp only [List.getElem?_drop, List.getElem?_cons_zero, Nat.add_zero] at this
    exact this
  rw [hr] at hK
  have hsz := nx8_size b r
  refine join_r (fun _ w' => Ext w w' ∧ ¬ 0 ≤ (nx8 (b :: r)).1) ?_ ?_
  · refine sloop_r (fun x w' => ∃ i : Nat, 1 ≤ i ∧ i ≤ 5 ∧ x = ((i : Int), ()) ∧ Ext w w' ∧ (0 ≤ (nx8 (b :: r)).1 → i ≤ (nx8 (b :: r)).2)) (fun x _ => ((5 : Int) - x.1).toNat) ⟨1, by omega, by omega, rfl, Ext.refl w, fun _ => hsz.1⟩ ?_
    rintro _ w1 ⟨i, hi1, hi5, rfl, e1, hno⟩
    refine join_r (fun x w' => x = (decide (i ≤ 4 ∧ n + i ≤ l.length), ()) ∧ w1 = w') ?_ ?_
    · refine sif_r (fun h => ⟨tupb ?_, rfl⟩) (fun h => ⟨tupb ?_, rfl⟩)
      · simp only [decide_eq_true_eq] at h ⊢
        rw [wrap64 (by omega) (by omega)]; omega
      · simp only [decide_eq_false_iff_not, decide_eq_true_eq] at h ⊢
        exact ⟨(fun h => by cases h), fun h => by omega⟩
    rintro _ w2 ⟨rfl, rfl⟩
    refine sif_r (fun h => ?_) (fun h => ?_)
    · simp only [decide_eq_true_eq] at h
      have ew : IntKind.wrap .i64 ((i : Int) + 1) = ((i + 1 : Nat) : Int) := by rw [wrap64 (by omega) (by omega)]; omega
      refine join_r (fun _ w' => Ext w w' ∧ ¬ Hit (b :: r) i) ?_ ?_
      · refine meant_call (hs.ext e1) hl hr hi1 h.1 h.2 fun w3 e3 => ?_
        refine rscalar_call (fun hS => sif_r (fun h => by cases h) (fun _ => ?_)) (fun hS => sif_r (fun _ => ⟨e1.trans e3, fun hh => hS hh.1⟩) (fun h => by cases h))
        refine eight_call hS fun t w4 ht e4 => ?_
        have hpl : (pt8 (meantP i (b :: r))).length ≤ 4 := by
          have hne : sz8 (meantP i (b :: r)) ≠ 0 ∧ sz8 (meantP i (b :: r)) ≤ 4 := by
            unfold sz8
            rw [if_neg (by rcases hS with h | h <;> omega)]
            repeat' split
            all_goals decide
          have := pt_len .u8 _ hne.1
          show (pt .u8 _).length ≤ 4
          rw [this]; exact hne.2
        refine begins_call (hs.ext ((e1.trans e3).trans e4)) ht (by omega) hl (by omega) fun w5 e5 => ?_
        rw [hr]
        have htl := ht.len
        have e15 := ((e1.trans e3).trans e4).trans e5
        refine join_r (fun x w' => (x.1 = true ↔ Hit (b :: r) i) ∧ w5 = w') ?_ ?_
        · refine sif_r (fun h => ⟨?_, rfl⟩) (fun h => ⟨?_, rfl⟩)
          · simp only [beq_iff_eq] at h
            simp only [decide_eq_true_eq]
            exact ⟨fun hh => ⟨hS, hh, by omega⟩, fun hh => hh.2.1⟩
          · simp only [beq_eq_false_iff_ne] at h
            exact ⟨(fun h => by cases h), fun hh => by have := hh.2.2; omega⟩
        rintro ⟨x, _⟩ w6 ⟨hx, rfl⟩
        refine sif_r (fun hh => ?_) (fun hh => ⟨e15, fun hit => by have h1 := hx.2 hit; have h2 : x = false := hh; rw [h2] at h1; cases h1⟩)
        have hit := hx.1 hh
        have := hK w5 e15
        rw [hit_nx hit] at this
        exact this
      · rintro _ w3 ⟨e3, hno2⟩
        refine ⟨⟨i + 1, by omega, by omega, by rw [ew], e3, fun h0 => ?_⟩, ?_⟩
        · have := hno h0
          rcases Nat.lt_or_ge i (nx8 (b :: r)).2 with h2 | h2
          · omega
          · have : i = (nx8 (b :: r)).2 := by omega
            subst this
            exact absurd (nx_hit h0).1 hno2
        · dsimp only
          rw [ew]; omega
    · simp only [decide_eq_false_iff_not] at h
      refine ⟨e1, fun h0 => h ?_⟩
      have h2 := hno h0
      have h3 := hsz.2.1
      rw [List.length_cons] at h3
      omega
  · rintro _ w1 ⟨e1, hneg⟩
    refine ix_by (hs.ext e1) (by omega) (b := b) (by rw [Int.toNat_natCast]; exact g0) fun p => ?_
    have := hK w1 e1
    rw [nx_neg hneg] at this
    rw [wrap64 (a := (b.toNat : Int)) (by omega) (by omega), wrap64 (by omega) (by omega)]
    exact this
theorem rat_call {e : Enc} {s : Sl} {l : Bs} {n : Nat} (hs : By w s l) (hl : l.length < 2 ^ 59) (hn : n < l.length) {K : Int × Int × Unit → World → Prop} (hK : ∀ w', Ext w w' → K ((nx e (l.drop n)).1, ((nx e (l.drop n)).2 : Nat), ()) w') :
    callT Tryz.prog 62 #[.int .i64 e.num, .slice s.a s.len s.cap, .int .i64 (n : Int)] (.tup [(.one (.int .i64)), (.one (.int .i64))]) K w := by
  refine F62_calls ?_
  unfold F62
  have h1 := hs.len
  obtain ⟨b, r, hr⟩ : ∃ b r, l.drop n = b :: r := ⟨_, _, List.drop_eq_getElem_cons hn⟩
  have hb := b.toNat_lt
  have g0 : l[n]? = some b := by
    have := congrArg (fun x => x[0]?) hr
    simp only [List.getElem?_drop, List.getElem?_cons_zero, Nat.add_zero] at this
    exact this
  have six : ∀ be : Bool, e.num = (if be then 3 else 2) → nx e = nx16 be →
      callT Tryz.prog 84 #[.int .i64 e.num, .slice s.a s.len s.cap, .int .i64 (n : Int)] (.one (.one (.int .i64))) (fun (x4 : Int) => sif (decide (x4 < (0 : Int))) (
        ix s.a s.len (n : Int) fun p5 =>
        ld (.int .u8) (p5.add (scaled (Int.toNat (n : Int)) 1)) fun (x6 : Int) =>
        K ((IntKind.wrap .i64 ((-1 : Int) - (IntKind.wrap .i64 x6))), (1 : Int), ())) (
        callT Tryz.prog 84 #[(.int .i64 e.num), (.slice s.a s.len s.cap), (.int .i64 (IntKind.wrap .i64 ((n : Int) + (2 : Int))))] (.one (.one (.int .i64))) fun (x7 : Int) =>
        join (S := Bool × Unit) (fun J8 =>
          sif (decide (x4 ≥ (55296 : Int))) (
            sif (decide (x4 < (56320 : Int))) (
              sif (decide (x7 ≥ (56320 : Int))) (
                J8 ((decide (x7 < (57344 : Int))), ())) (
                J8 (false, ()))) (
              J8 (false, ()))) (
            J8 (false, ()))) fun (s9 : Bool × Unit) =>
        sif s9.1 (
          K ((IntKind.wrap .i64 ((IntKind.wrap .i64 ((IntKind.wrap .i64 ((65536 : Int) + (IntKind.wrap .i64 ((IntKind.wrap .i64 (x4 - (55296 : Int))) * (1024 : Int))))) + x7)) - (56320 : Int))), (4 : Int), ())) (
          K (x4, (2 : Int), ())))) w := by
    intro be hbe hnx
    rw [hbe]
    rw [hnx] at hK
    refine runit_call hs (by omega) (by omega) fun w1 e1 => ?_
    rw [hr] at hK ⊢
    have e2 : IntKind.wrap .i64 ((n : Int) + 2) = ((n + 2 : Nat) : Int) := by rw [wrap64 (by omega) (by omega)]; omega
    rw [e2]
    cases r with
    | nil =>
      refine sif_r (fun _ => ?_) (fun h => by cases h)
      refine ix_by (hs.ext e1) (by omega) (b := b) (by rw [Int.toNat_natCast]; exact g0) fun p => ?_
      rw [wrap64 (a := (b.toNat : Int)) (by omega) (by omega), wrap64 (by omega) (by omega)]
      exact hK w1 e1
    | cons c r' =>
      have hc := c.toNat_lt
      have hu : un be b c < 65536 := by unfold un; split <;> omega
      have hx4 : unI be (b :: c :: r') = ((un be b c : Nat) : Int) := rfl
      refine sif_r (fun h => by simp only [decide_eq_true_eq] at h; omega) (fun _ => ?_)
      refine runit_call (hs.ext e1) (by omega) (by omega) fun w2 e3 => ?_
      have e12 := e1.trans e3
      have hd2 : l.drop (n + 2) = r' := by
        have := congrArg (List.drop 2) hr
        rw [List.drop_drop] at this
        simpa using this
      rw [hd2]
      refine join_r (fun x w' => (x.1 = true ↔ (un be b c / 1024 = 54 ∧ ∃ d f r'', r' = d :: f :: r'' ∧ un be d f / 1024 = 55)) ∧ w2 = w') ?_ ?_
      · have key : ∀ x7, x7 = unI be r' → ((56320 ≤ x7 ∧ x7 < 57344) ↔ ∃ d f r'', r' = d :: f :: r'' ∧ un be d f / 1024 = 55) := by
          rintro x7 rfl
          match r' with
          | [] => exact ⟨fun h => by have h' : (56320 : Int) ≤ -1 := h.1; omega, by rintro ⟨d, f, r'', h, _⟩; cases h⟩
          | [d] => exact ⟨fun h => by have h' : (56320 : Int) ≤ -1 := h.1; omega, by rintro ⟨d, f, r'', h, _⟩; cases h⟩
          | d :: f :: r'' =>
            show ((56320 : Int) ≤ ((un be d f : Nat) : Int) ∧ ((un be d f : Nat) : Int) < 57344) ↔ _
            constructor
            · intro h; exact ⟨d, f, r'', rfl, by omega⟩
            · rintro ⟨d', f', r3, h, hu⟩; cases h; omega
        have key' := key _ rfl
        refine sif_r (fun h => sif_r (fun h2 => sif_r (fun h3 => ⟨?_, rfl⟩) (fun h3 => ⟨?_, rfl⟩)) (fun h2 => ⟨?_, rfl⟩)) (fun h => ⟨?_, rfl⟩)
        all_goals (try simp only [decide_eq_true_eq, decide_eq_false_iff_not, ge_iff_le] at h)
        all_goals (try simp only [decide_eq_true_eq, decide_eq_false_iff_not, ge_iff_le] at h2)
        all_goals (try simp only [decide_eq_true_eq, decide_eq_false_iff_not, ge_iff_le] at h3)
        all_goals (try simp only [decide_eq_true_eq])
        all_goals have hx4 : unI be (b :: c :: r') = ((un be b c : Nat) : Int) := rfl
        · rw [← key']
          constructor
          · intro h4; exact ⟨by clear key key'; omega, h3, h4⟩
          · intro h4; exact h4.2.2
        · rw [← key']
          exact ⟨(fun h => by cases h), fun h4 => absurd h4.2.1 h3⟩
        · exact ⟨(fun h => by cases h), fun h4 => by have := h4.1; clear key key' h4; omega⟩
        · exact ⟨(fun h => by cases h), fun h4 => by have := h4.1; clear key key' h4; omega⟩
      rintro ⟨x, _⟩ w3 ⟨hx, rfl⟩
      refine sif_r (fun h => ?_) (fun h => ?_)
      · obtain ⟨h54, d, f, r'', rfl, h55⟩ := hx.1 h
        have hd := d.toNat_lt; have hf := f.toNat_lt
        have hv : un be d f < 65536 := by unfold un; split <;> omega
        have := hK w2 e12
        show K ((IntKind.wrap .i64 ((IntKind.wrap .i64 ((IntKind.wrap .i64 ((65536 : Int) + (IntKind.wrap .i64 ((IntKind.wrap .i64 (((un be b c : Nat) : Int) - (55296 : Int))) * (1024 : Int))))) + ((un be d f : Nat) : Int))) - (56320 : Int))), (4 : Int), ()) w2
        rw [wrap64 (a := ((un be b c : Nat) : Int) - 55296) (by omega) (by omega), wrap64 (a := (((un be b c : Nat) : Int) - 55296) * 1024) (by omega) (by omega), wrap64 (a := (65536 : Int) + _) (by omega) (by omega), wrap64 (a := (65536 : Int) + _ + _) (by omega) (by omega), wrap64 (by omega) (by omega)]
        have e4 : nx16 be (b :: c :: d :: f :: r'') = (65536 + ((un be b c % 1024 * 1024 + un be d f % 1024 : Nat) : Int), 4) := by
          simp only [nx16]; rw [if_pos h54, if_pos h55]
        rw [e4] at this
        have e5 : (65536 : Int) + (((un be b c : Nat) : Int) - 55296) * 1024 + ((un be d f : Nat) : Int) - 56320 = 65536 + ((un be b c % 1024 * 1024 + un be d f % 1024 : Nat) : Int) := by omega
        rw [e5]
        exact this
      · have h : ¬ (un be b c / 1024 = 54 ∧ ∃ d f r'', r' = d :: f :: r'' ∧ un be d f / 1024 = 55) := fun hh => by have h1 := hx.2 hh; have h2 : x = false := h; rw [h2] at h1; cases h1
        have := hK w2 e12
        have e4 : nx16 be (b :: c :: r') = (((un be b c : Nat) : Int), 2) := by
          simp only [nx16]
          split
          · rename_i h54
            split
            · rename_i d f r''
              rw [if_neg (fun h55 => h ⟨h54, _, _, _, rfl, h55⟩)]
            · rfl
          · rfl
        rw [e4] at this
        exact this
  cases e with
  | u8 =>
    refine sif_r (fun _ => ?_) (fun h => by cases h)
    exact eightAt_call hs (by omega) hn fun w1 e1 => hK w1 e1
  | le => exact sif_r (fun h => by cases h) (fun _ => sif_r (fun h => by cases h) (fun _ => six false rfl rfl))
  | be => exact sif_r (fun h => by cases h) (fun _ => sif_r (fun h => by cases h) (fun _ => six true rfl rfl))
  | l1 =>
    refine sif_r (fun h => by cases h) (fun _ => sif_r (fun _ => ?_) (fun h => by cases h))
    refine ix_by hs (by omega) (b := b) (by rw [Int.toNat_natCast]; exact g0) fun p => ?_
    rw [wrap64 (a := (b.toNat : Int)) (by omega) (by omega)]
    have := hK w (Ext.refl w)
    rw [hr] at this
    exact this
theorem decode_call {e : Enc} {s : Sl} {l : Bs} (hs : By w s l) (hl : l.length < 2 ^ 40) {K : Sl × Int × Unit → World → Prop} (hK : ∀ s' w', SlOwn w' w.heap.size s' 3 1 (iv (atoms (ats e l))) → Ext w w' → K (s', 0, ()) w') :
    callT Tryz.prog 34 #[.int .i64 e.num, .slice s.a s.len s.cap] (.tup [(.one .sl), (.one (.int .i64))]) K w := by
  refine F34_calls ?_
  unfold F34
  have h1 := hs.len
  refine known_call (sif_r (fun h => by cases h) (fun _ => ?_))
  refine join_r (fun x w' => SlOwn w' w.heap.size x.1 3 1 (iv (atoms (ats e l))) ∧ Ext w w') ?_ (fun x w' h => hK _ _ h.1 h.2)
  refine sloop_r (fun x w' => ∃ j, j ≤ (ats e l).length ∧ x.2 = (((szs ((ats e l).take j) : Nat) : Int), ()) ∧ SlOwn w' w.heap.size x.1 3 1 (iv (atoms ((ats e l).take j))) ∧ Ext w w') (fun x _ => ((l.length : Int) - x.2.1).toNat) ⟨0, Nat.zero_le _, rfl, SlOwn.nil _ _ _ _, Ext.refl w⟩ ?_
  rintro ⟨r, _⟩ w1 ⟨j, hj, rfl, ho, e1⟩
  have hsj : szs ((ats e l).take j) ≤ l.length := pos_le j
  have hol := ho.len1
  dsimp only at ho hol ⊢
  rw [List.length_map, List.length_map, List.length_take] at hol
  refine sif_r (fun hc => ?_) (fun hc => ?_)
  · simp only [decide_eq_true_eq] at hc
    obtain ⟨a, m, hqa, hnx, htk, hss, hm1, hsl⟩ := pos_step (e := e) (l := l) (j := j) (by omega)
    have hql : j < (ats e l).length := (List.getElem?_eq_some_iff.1 hqa).1
    refine rat_call (hs.ext e1) (by omega) (by omega) fun w2 e2 => ?_
    rw [hnx]
    refine newO_r fun b w3 e3 n3 hb3 hz3 => ?_
    have hal := szs_ge (ats_posd e l)
    rw [szs_all] at hal
    refine append_rx eInts eInts.ts_ (x := ⟨some (at0 b), 1, 1⟩) (ho.ext (e2.trans e3)) (iv_box n3) (fun v hv => by rw [List.mem_singleton.1 hv]; rfl) (by
      show (r.len + 1 + (r.len + 1) / 4 + 512) * 8 ≤ 2 ^ 48
      omega) (by have := e1.size; have := e2.size; omega) fun s' w4 o4 l4 u4 b4 => ?_
    have e4 : iv (atoms ((ats e l).take j)) ++ [.int .i64 a] = iv (atoms ((ats e l).take (j + 1))) := by rw [htk]; simp
    rw [e4] at o4
    have ew : IntKind.wrap .i64 (((szs ((ats e l).take j) : Nat) : Int) + (m : Int)) = ((szs ((ats e l).take (j + 1)) : Nat) : Int) := by rw [wrap64 (by omega) (by omega)]; omega
    refine ⟨⟨j + 1, by omega, by dsimp only; rw [ew], o4, ((e1.trans e2).trans e3).step u4 fun k hk => ho.blk_ge hk⟩, ?_⟩
    dsimp only
    rw [ew]; omega
  · simp only [decide_eq_false_iff_not] at hc
    have := pos_end (e := e) (l := l) (j := j) (by omega)
    rw [this] at ho
    exact ⟨ho, e1⟩
end
end Go.Proofs.YtabcpghhfeplaaaGreat
