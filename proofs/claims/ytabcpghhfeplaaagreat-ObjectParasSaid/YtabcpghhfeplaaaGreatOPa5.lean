/- YtabcpghhfeplaaaGreatOPa5: parts of the proof, put together by program. -/
import Derived.Test.YtabcpghhfeplaaaGreatOPa4
set_option linter.unusedVariables false
set_option linter.unusedSimpArgs false
set_option linter.unusedSectionVars false
set_option maxRecDepth 100000
namespace Go.Proofs.YtabcpghhfeplaaaGreat
open Go Go.Vx
noncomputable def F33 (a0 : Option Addr) (a1 : Int) (a2 : (Int × Int × Int × Unit)) (K : ((Int × Int × Int × Unit) × Int × Unit) → World → Prop) : World → Prop :=
 newO (.cells #[(.pointer a0)] 25) fun b1 =>
 newO (.cells #[(.int .i64 a2.1), (.int .i64 a2.2.1), (.int .i64 a2.2.2.1)] 39) fun b2 =>
 newO (.cells #[(.int .i64 (0 : Int)), (.int .i64 (0 : Int)), (.int .i64 (0 : Int))] 34) fun b3 =>
 ld (.ptr) (at0 b1) fun (x4 : Option Addr) =>
 lds c39 (at0 b2) fun (x5 : (Int × Int × Int × Unit)) =>
 callT Tryz.prog 37 #[(.pointer x4), (.int .i64 a1), (.agg (Cells.vals c39 x5).toArray), (.int .i64 (69 : Int)), (.int .i64 (70 : Int))] (.one (.one (.int .i64))) fun (x6 : Int) =>
 sif (x6 != (0 : Int)) (
 aggSt (at0 b3) (.agg #[(.int .i64 (0 : Int)), (.int .i64 (0 : Int)), (.int .i64 (0 : Int))]) 3 <|
 lds c34 (at0 b3) fun (x7 : (Int × Int × Int × Unit)) =>
 K (x7, x6, ())) (
 ld (.ptr) (at0 b1) fun (x8 : Option Addr) =>
 callT Tryz.prog 57 #[(.pointer x8), (.int .i64 a1)] (.one (.one (.int .i64))) fun (x9 : Int) =>
 ld (.ptr) (at0 b1) fun (x10 : Option Addr) =>
 callT Tryz.prog 58 #[(.pointer x10)] (.one (.one (.int .i64))) fun (x11 : Int) =>
 sif (decide (x9 ≥ x11)) (
 aggSt (at0 b3) (.agg #[(.int .i64 (0 : Int)), (.int .i64 (0 : Int)), (.int .i64 (0 : Int))]) 3 <|
 lds c34 (at0 b3) fun (x12 : (Int × Int × Int × Unit)) =>
 K (x12, (90 : Int), ())) (
 newO (.cells #[(.slice none 0 0)] 95) fun b13 =>
 newO (.cells #[(.slice none 0 0)] 26) fun b14 =>
 ld (.ptr) (at0 b1) fun (x15 : Option Addr) =>
 callT Tryz.prog 59 #[(.pointer x15)] (.one (.one .any)) fun (x16 : Value) =>
 rangeE (S := Int × (Int × Int × Int × Int × Unit) × Unit) Tryz.prog (Slots.vals [(40, (.one (.int .i64))), (41, (.agg c100))]) x16 (fun l17 rc18 R19 (s20 : Int × (Int × Int × Int × Int × Unit) × Unit) =>
 newO (.cells #[(.int .i64 (0 : Int)), (.int .i64 (0 : Int)), (.int .i64 (0 : Int)), (.int .i64 (0 : Int))] 100) fun b22 =>
 aggSt (at0 b22) (.agg (Cells.vals c100 s20.2.1).toArray) 4 <|
 begR l17 rc18 <|
 join (S := Int × Unit) (fun J23 =>
 ld (.ptr) (at0 b1) fun (x25 : Option Addr) =>
 ld (.int .i64) (at0 b22) fun (x26 : Int) =>
 ld (.int .i64) (⟨b22, 1, none⟩ : Addr) fun (x27 : Int) =>
 callT Tryz.prog 23 #[(.pointer x25), (.int .i64 x26), (.int .i64 x27)] (.one (.one .sl)) fun (x28 : Sl) =>
 callT Tryz.prog 39 #[(.slice x28.a x28.len x28.cap), (.int .i64 (0 : Int))] (.one (.one .sl)) fun (x29 : Sl) =>
 sloop (S := Int × Int × Unit) (fun (s30 : Int × Int × Unit) again31 =>
 sif (decide (s30.2.1 < ((x29.len : Nat) : Int))) (
 ix x29.a x29.len s30.2.1 fun p32 =>
 lds c72 (p32.add (scaled (Int.toNat s30.2.1) 5)) fun (x33 : (Int × Int × Int × Bool × Int × Unit)) =>
 newO (.cells #[(.int .i64 (0 : Int)), (.int .i64 (0 : Int)), (.int .i64 (0 : Int)), (.bool false), (.int .i64 (0 : Int))] 72) fun b34 =>
 aggSt (at0 b34) (.agg (Cells.vals c72 x33).toArray) 5 <|
 ld (.int .i64) (⟨b34, 2, none⟩ : Addr) fun (x35 : Int) =>
 sif (x35 != (0 : Int)) (
 J23 ((1 : Int), ())) (
 again31 (s30.1, (IntKind.wrap .i64 (s30.2.1 + (1 : Int))), ()))) (
 J23 (s30.1, ()))) ((0 : Int), (0 : Int), ())) fun (s24 : Int × Unit) =>
 drew <|
 ld (.sl) (at0 b13) fun (x36 : Sl) =>
 lds c100 (at0 b22) fun (x37 : (Int × Int × Int × Int × Unit)) =>
 ld (.sl) (at0 b14) fun (x38 : Sl) =>
 both (
 newO (.cells #[(.int .i64 s24.1)] 3) fun b39 =>
 keep (fun w => w.cell? (at0 b14) = some (Cell.val (.sl) x38)) <|
 keep (fun w => cellsAt w (at0 b22) 0 (Cells.vals c100 x37)) <|
 keep (fun w => w.cell? (at0 b13) = some (Cell.val (.sl) x36)) <|
 newO (.cells #[(.int .i64 x37.1), (.int .i64 x37.2.1), (.int .i64 x37.2.2.1), (.int .i64 x37.2.2.2.1)] 100) fun b40 =>
 keep (fun w => w.cell? (at0 b14) = some (Cell.val (.sl) x38)) <|
 keep (fun w => w.cell? (at0 b13) = some (Cell.val (.sl) x36)) <|
 rawT Tryz.prog (.one (.one .sl)) (Builtin.append_ #[95, 95] 95 #[(.slice x36.a x36.len x36.cap), (.slice (some (at0 b40)) 1 1)]) fun (x41 : Sl) =>
 keep (fun w => w.cell? (at0 b14) = some (Cell.val (.sl) x38)) <|
 rawT Tryz.prog (.one (.one .sl)) (Builtin.append_ #[26, 26] 26 #[(.slice x38.a x38.len x38.cap), (.slice (some (at0 b39)) 1 1)]) fun (x42 : Sl) =>
 stC (at0 b13) (.slice x41.a x41.len x41.cap) <|
 stC (at0 b14) (.slice x42.a x42.len x42.cap) <|
 endR l17 rc18 none R19) <|
 newO (.cells #[(.int .i64 x37.1), (.int .i64 x37.2.1), (.int .i64 x37.2.2.1), (.int .i64 x37.2.2.2.1)] 100) fun b43 =>
 keep (fun w => w.cell? (at0 b14) = some (Cell.val (.sl) x38)) <|
 keep (fun w => w.cell? (at0 b13) = some (Cell.val (.sl) x36)) <|
 both (
 newO (.cells #[(.int .i64 s24.1)] 3) fun b44 =>
 keep (fun w => w.cell? (at0 b14) = some (Cell.val (.sl) x38)) <|
 keep (fun w => cellsAt w (at0 b22) 0 (Cells.vals c100 x37)) <|
 keep (fun w => w.cell? (at0 b13) = some (Cell.val (.sl) x36)) <|
 rawT Tryz.prog (.one (.one .sl)) (Builtin.append_ #[95, 95] 95 #[(.slice x36.a x36.len x36.cap), (.slice (some (at0 b43)) 1 1)]) fun (x45 : Sl) =>
 keep (fun w => w.cell? (at0 b14) = some (Cell.val (.sl) x38)) <|
 rawT Tryz.prog (.one (.one .sl)) (Builtin.append_ #[26, 26] 26 #[(.slice x38.a x38.len x38.cap), (.slice (some (at0 b44)) 1 1)]) fun (x46 : Sl) =>
 stC (at0 b13) (.slice x45.a x45.len x45.cap) <|
 stC (at0 b14) (.slice x46.a x46.len x46.cap) <|
 endR l17 rc18 none R19) <|
 rawT Tryz.prog (.one (.one .sl)) (Builtin.append_ #[95, 95] 95 #[(.slice x36.a x36.len x36.cap), (.slice (some (at0 b43)) 1 1)]) fun (x47 : Sl) =>
 keep (fun w => w.cell? (at0 b14) = some (Cell.val (.sl) x38)) <|
 both (
 newO (.cells #[(.int .i64 s24.1)] 3) fun b48 =>
 keep (fun w => w.cell? (at0 b14) = some (Cell.val (.sl) x38)) <|
 keep (fun w => cellsAt w (at0 b22) 0 (Cells.vals c100 x37)) <|
 keep (fun w => w.cell? (at0 b13) = some (Cell.val (.sl) x36)) <|
 rawT Tryz.prog (.one (.one .sl)) (Builtin.append_ #[26, 26] 26 #[(.slice x38.a x38.len x38.cap), (.slice (some (at0 b48)) 1 1)]) fun (x49 : Sl) =>
 stC (at0 b13) (.slice x47.a x47.len x47.cap) <|
 stC (at0 b14) (.slice x49.a x49.len x49.cap) <|
 endR l17 rc18 none R19) <|
 nothing) fun D21 => aft (
 ld (.sl) (at0 b13) fun (x69 : Sl) =>
 newO (.cells #[(.int .i64 (0 : Int)), .nilFunc] 89) fun b70 =>
 aggSt (at0 b70) (.agg #[(.int .i64 ((x69.len : Nat) : Int)), (.func (Fn.func 60) #[] #[(.pointer (some (at0 b14)))])]) 2 <|
 lds c89 (at0 b70) fun (x71 : (Int × Value × Unit)) =>
 join (S := Value × Unit) (fun J72 =>
 ld (.int .i64) (at0 b2) fun (x74 : Int) =>
 sif (x74 == (70 : Int)) (
 lds c89 (at0 b70) fun (x75 : (Int × Value × Unit)) =>
 J72 ((.func (Fn.func 54) #[(.agg (Cells.vals c89 x75).toArray)] #[]), ())) (
 J72 ((.func (Fn.func 53) #[(.agg (Cells.vals c89 x71).toArray)] #[]), ()))) fun (s73 : Value × Unit) =>
 lds c39 (at0 b2) fun (x76 : (Int × Int × Int × Unit)) =>
 callT Tryz.prog 41 #[(.agg (Cells.vals c39 x76).toArray)] (.one (.one (.int .i64))) fun (x77 : Int) =>
 callX Tryz.prog (do let d ← Deferred.ofValue s73.1 #[(.int .i64 x9), (.int .i64 x77)]; invoke d.target d.args : Sem Next) (.tup [(.one (.int .i64)), (.one (.int .i64)), (.one .bool)]) fun (x78 : (Int × Int × Bool × Unit)) =>
 sif (!x78.2.2.1) (
 aggSt (at0 b3) (.agg #[(.int .i64 (0 : Int)), (.int .i64 (0 : Int)), (.int .i64 (0 : Int))]) 3 <|
 endM D21 <|
 lds c34 (at0 b3) fun (x79 : (Int × Int × Int × Unit)) =>
 K (x79, (90 : Int), ())) (
 drew <|
 ld (.sl) (at0 b13) fun (x80 : Sl) =>
 ix x80.a x80.len x78.1 fun p81 =>
 ld (.int .i64) (p81.add (scaled (Int.toNat x78.1) 4)) fun (x82 : Int) =>
 ld (.sl) (at0 b13) fun (x83 : Sl) =>
 ix x83.a x83.len (IntKind.wrap .i64 (x78.2.1 - (1 : Int))) fun p84 =>
 ld (.int .i64) ((p84.add (scaled (Int.toNat (IntKind.wrap .i64 (x78.2.1 - (1 : Int)))) 4)).add 2) fun (x85 : Int) =>
 aggSt (at0 b3) (.agg #[(.int .i64 x82), (.int .i64 x85), (.int .i64 (1 : Int))]) 3 <|
 endM D21 <|
 lds c34 (at0 b3) fun (x86 : (Int × Int × Int × Unit)) =>
 K (x86, (0 : Int), ()))) (fun i50 =>
 onE i50 0 (
 ld (.sl) (at0 b13) fun (x51 : Sl) =>
 newO (.cells #[(.int .i64 (0 : Int)), .nilFunc] 89) fun b52 =>
 aggSt (at0 b52) (.agg #[(.int .i64 ((x51.len : Nat) : Int)), (.func (Fn.func 60) #[] #[(.pointer (some (at0 b14)))])]) 2 <|
 lds c89 (at0 b52) fun (x53 : (Int × Value × Unit)) =>
 join (S := Value × Unit) (fun J54 =>
 ld (.int .i64) (at0 b2) fun (x56 : Int) =>
 sif (x56 == (70 : Int)) (
 lds c89 (at0 b52) fun (x57 : (Int × Value × Unit)) =>
 J54 ((.func (Fn.func 54) #[(.agg (Cells.vals c89 x57).toArray)] #[]), ())) (
 J54 ((.func (Fn.func 53) #[(.agg (Cells.vals c89 x53).toArray)] #[]), ()))) fun (s55 : Value × Unit) =>
 lds c39 (at0 b2) fun (x58 : (Int × Int × Int × Unit)) =>
 callT Tryz.prog 41 #[(.agg (Cells.vals c39 x58).toArray)] (.one (.one (.int .i64))) fun (x59 : Int) =>
 callX Tryz.prog (do let d ← Deferred.ofValue s55.1 #[(.int .i64 x9), (.int .i64 x59)]; invoke d.target d.args : Sem Next) (.tup [(.one (.int .i64)), (.one (.int .i64)), (.one .bool)]) fun (x60 : (Int × Int × Bool × Unit)) =>
 sif (!x60.2.2.1) (
 aggSt (at0 b3) (.agg #[(.int .i64 (0 : Int)), (.int .i64 (0 : Int)), (.int .i64 (0 : Int))]) 3 <|
 endM D21 <|
 lds c34 (at0 b3) fun (x61 : (Int × Int × Int × Unit)) =>
 K (x61, (90 : Int), ())) (
 drew <|
 ld (.sl) (at0 b13) fun (x62 : Sl) =>
 ix x62.a x62.len x60.1 fun p63 =>
 ld (.int .i64) (p63.add (scaled (Int.toNat x60.1) 4)) fun (x64 : Int) =>
 ld (.sl) (at0 b13) fun (x65 : Sl) =>
 ix x65.a x65.len (IntKind.wrap .i64 (x60.2.1 - (1 : Int))) fun p66 =>
 ld (.int .i64) ((p66.add (scaled (Int.toNat (IntKind.wrap .i64 (x60.2.1 - (1 : Int)))) 4)).add 2) fun (x67 : Int) =>
 aggSt (at0 b3) (.agg #[(.int .i64 x64), (.int .i64 x67), (.int .i64 (1 : Int))]) 3 <|
 endM D21 <|
 lds c34 (at0 b3) fun (x68 : (Int × Int × Int × Unit)) =>
 K (x68, (0 : Int), ()))) (
 fun _ => False)) (
 endM D21 <|
 lds c34 (at0 b3) fun (x87 : (Int × Int × Int × Unit)) =>
 K (x87, (0 : Int), ()))))
noncomputable def h33 : Hint := (hS (hR 4) (hS (hS (hR 5) (hS (hR 2) (hC (hS (hR 4) hL) hL))) (hS (hR 4) (hS (hS (hR 4) (hC (hS (hR 3) hL) hL)) (hS (hR 1) (hS (hR 1) (hS (hS (hR 2) (.block (.range [(40, tI), (41, (.agg c100))] (hR 2) (.block (hS (hR 1) (hJ (288225978105282560, [(14, tI)]) (hS (hR 9) (.block (.loop 287104476244951040 [(14, tI), (50, tI)] (hS (hR 1) (hS (hC hL hL) (hS (.block (hS (hR 4) (hS (hR 3) (hC (hS (hR 1) hL) hL)))) (hR 2))))))) (.region [0, 1, 4, 5, 2, 3, 7, 8, 9] (.float [6] (.ops 4 (.alt none (.plain (hO 5)) (.ops 1 (.alt none (.plain (hO 4)) (.ops 1 (.alt none (.plain (hO 3)) .stop)))))))))))))) (hS (hR 6) (hS (hR 3) (hJ (146393360968959001886720, [(18, (.one .any))]) (hS (hR 3) (hC (hR 3) hL)) (hS (hR 12) (hS (hS (hR 2) (hC (hS (hR 3) hL) hL)) (hS (.region [0, 1, 2, 3, 4, 5, 6, 7, 8, 9, 10, 11, 12, 13] (hO 14)) hL)))))))))))))
theorem F33_calls {a0 : Option Addr} {a1 : Int} {a2 : (Int × Int × Int × Unit)} {K : ((Int × Int × Int × Unit) × Int × Unit) → World → Prop} {w : World} (h : F33 a0 a1 a2 K w) : callT Tryz.prog 33 #[(.pointer a0), (.int .i64 a1), (.agg (Cells.vals c39 a2).toArray)] (.tup [(.agg c34), (.one (.int .i64))]) K w := tied tabOk Tryz.func33 h33 [(.pointer a0), (.int .i64 a1), (.agg (Cells.vals c39 a2).toArray)] (by kernel_rfl) h
noncomputable def F37 (a0 : Option Addr) (a1 : Int) (a2 : (Int × Int × Int × Unit)) (a3 : Int) (a4 : Int) (K : Int → World → Prop) : World → Prop :=
 newO (.cells #[(.int .i64 a2.1), (.int .i64 a2.2.1), (.int .i64 a2.2.2.1)] 39) fun b1 =>
 join (S := Bool × Unit) (fun J2 =>
 ld (.int .i64) (at0 b1) fun (x4 : Int) =>
 sif (decide (x4 < a3)) (
 J2 (true, ())) (
 ld (.int .i64) (at0 b1) fun (x5 : Int) =>
 sif (decide (x5 > a4)) (
 J2 (true, ())) (
 ld (.int .i64) (⟨b1, 1, none⟩ : Addr) fun (x6 : Int) =>
 J2 ((decide (x6 < (0 : Int))), ())))) fun (s3 : Bool × Unit) =>
 sif s3.1 (
 K (1 : Int)) (
 join (S := Bool × Unit) (fun J7 =>
 sif (decide (a1 < (0 : Int))) (
 J7 (true, ())) (
 callT Tryz.prog 40 #[(.pointer a0)] (.one (.one (.int .i64))) fun (x9 : Int) =>
 J7 ((decide (a1 > x9)), ()))) fun (s8 : Bool × Unit) =>
 sif s8.1 (
 K (2 : Int)) (
 K (0 : Int)))
noncomputable def h37 : Hint := (hS (hR 2) (hS (.block (hJ (134215680, [(11, tB)]) (.region [] (.ops 5 (.split 16 (.skips 4 (.ops 2 (.skips 3 (hO 2)))) (.ops 6 (.split 22 (.skips 3 (hO 2)) (hO 5)))))) (hC (hS (hR 1) hL) (hJ (68585259008, [(27, tB)]) (.region [] (.ops 3 (.split 30 (.skips 4 (hO 2)) (hO 6)))) (hC (hS (hR 1) hL) hL))))) (hS (hR 1) hL)))
theorem F37_calls {a0 : Option Addr} {a1 : Int} {a2 : (Int × Int × Int × Unit)} {a3 : Int} {a4 : Int} {K : Int → World → Prop} {w : World} (h : F37 a0 a1 a2 a3 a4 K w) : callT Tryz.prog 37 #[(.pointer a0), (.int .i64 a1), (.agg (Cells.vals c39 a2).toArray), (.int .i64 a3), (.int .i64 a4)] (.one (.one (.int .i64))) K w := tied tabOk Tryz.func37 h37 [(.pointer a0), (.int .i64 a1), (.agg (Cells.vals c39 a2).toArray), (.int .i64 a3), (.int .i64 a4)] (by kernel_rfl) h
noncomputable def F39 (a0 : Sl) (a1 : Int) (K : Sl → World → Prop) : World → Prop :=
 callT Tryz.prog 68 #[(.slice a0.a a0.len a0.cap)] (.one (.one .sl)) fun (x1 : Sl) =>
 join (S := Sl × Unit) (fun J2 =>
 sloop (S := Sl × Int × Unit) (fun (s4 : Sl × Int × Unit) again5 =>
 sif (decide (s4.2.1 < (IntKind.wrap .i64 (((x1.len : Nat) : Int) - (1 : Int))))) (
 ix x1.a x1.len s4.2.1 fun p6 =>
 ld (.int .i64) (p6.add (scaled (Int.toNat s4.2.1) 1)) fun (x7 : Int) =>
 ix a0.a a0.len x7 fun p8 =>
 ld (.int .i64) (p8.add (scaled (Int.toNat x7) 1)) fun (x9 : Int) =>
 drew <|
 ix x1.a x1.len s4.2.1 fun p10 =>
 ld (.int .i64) (p10.add (scaled (Int.toNat s4.2.1) 1)) fun (x11 : Int) =>
 ix x1.a x1.len (IntKind.wrap .i64 (s4.2.1 + (1 : Int))) fun p12 =>
 ld (.int .i64) (p12.add (scaled (Int.toNat (IntKind.wrap .i64 (s4.2.1 + (1 : Int)))) 1)) fun (x13 : Int) =>
 ix x1.a x1.len (IntKind.wrap .i64 (s4.2.1 + (1 : Int))) fun p14 =>
 ld (.int .i64) (p14.add (scaled (Int.toNat (IntKind.wrap .i64 (s4.2.1 + (1 : Int)))) 1)) fun (x15 : Int) =>
 ix x1.a x1.len s4.2.1 fun p16 =>
 ld (.int .i64) (p16.add (scaled (Int.toNat s4.2.1) 1)) fun (x17 : Int) =>
 callT Tryz.prog 69 #[(.int .i64 x9)] (.one (.one (.int .i64))) fun (x18 : Int) =>
 keep (fun w => w.cell? (p16.add (scaled (Int.toNat s4.2.1) 1)) = some (Cell.val (.int .i64) x17)) <|
 keep (fun w => w.cell? (p14.add (scaled (Int.toNat (IntKind.wrap .i64 (s4.2.1 + (1 : Int)))) 1)) = some (Cell.val (.int .i64) x15)) <|
 keep (fun w => w.cell? (p12.add (scaled (Int.toNat (IntKind.wrap .i64 (s4.2.1 + (1 : Int)))) 1)) = some (Cell.val (.int .i64) x13)) <|
 keep (fun w => w.cell? (p10.add (scaled (Int.toNat s4.2.1) 1)) = some (Cell.val (.int .i64) x11)) <|
 newO (.cells #[(.int .i64 (IntKind.wrap .i64 (a1 + x11))), (.int .i64 (IntKind.wrap .i64 (a1 + x13))), (.int .i64 x18), (.bool (x15 == (IntKind.wrap .i64 (x17 + (1 : Int))))), (.int .i64 x9)] 72) fun b19 =>
 rawT Tryz.prog (.one (.one .sl)) (Builtin.append_ #[68, 68] 68 #[(.slice s4.1.a s4.1.len s4.1.cap), (.slice (some (at0 b19)) 1 1)]) fun (x20 : Sl) =>
 again5 (x20, (IntKind.wrap .i64 (s4.2.1 + (1 : Int))), ())) (
 J2 (s4.1, ()))) (⟨none, 0, 0⟩, (0 : Int), ())) fun (s3 : Sl × Unit) =>
 K s3.1
noncomputable def h39 : Hint := (hS (hR 1) (hS (hR 1) (hS (hR 3) (hJ (72057594037926304, [(5, tS)]) (hS (hR 4) (.block (.loop 72057594037911968 [(5, tS), (14, tI)] (hS (hR 1) (hS (hC hL hL) (hS (.block (hS (hR 2) (hS (hR 8) (.region [0, 1, 2, 3, 4, 5, 6, 7, 8, 9, 10, 11, 12, 13, 14, 16, 17, 18, 19, 20, 21, 22, 23, 24, 25, 26, 27, 15, 28, 29, 30, 31] (hO 32))))) (hR 2))))))) (hS (hR 2) hL)))))
theorem F39_calls {a0 : Sl} {a1 : Int} {K : Sl → World → Prop} {w : World} (h : F39 a0 a1 K w) : callT Tryz.prog 39 #[(.slice a0.a a0.len a0.cap), (.int .i64 a1)] (.one (.one .sl)) K w := tied tabOk Tryz.func39 h39 [(.slice a0.a a0.len a0.cap), (.int .i64 a1)] (by kernel_rfl) h
noncomputable def F41 (a0 : (Int × Int × Int × Unit)) (K : Int → World → Prop) : World → Prop :=
 newO (.cells #[(.int .i64 a0.1), (.int .i64 a0.2.1), (.int .i64 a0.2.2.1)] 39) fun b1 =>
 ld (.int .i64) (⟨b1, 1, none⟩ : Addr) fun (x2 : Int) =>
 K (if (1 : Int) > x2 then (1 : Int) else x2)
noncomputable def h41 : Hint := (hS (hR 2) (hS (hR 4) hL))
theorem F41_calls {a0 : (Int × Int × Int × Unit)} {K : Int → World → Prop} {w : World} (h : F41 a0 K w) : callT Tryz.prog 41 #[(.agg (Cells.vals c39 a0).toArray)] (.one (.one (.int .i64))) K w := tied tabOk Tryz.func41 h41 [(.agg (Cells.vals c39 a0).toArray)] (by kernel_rfl) h
noncomputable def F53 (a0 : (Int × Value × Unit)) (a1 : Int) (a2 : Int) (K : (Int × Int × Bool × Unit) → World → Prop) : World → Prop :=
 newO (.cells #[(.int .i64 a0.1), a0.2.1] 89) fun b1 =>
 join (S := Int × Unit) (fun J2 =>
 sloop (S := Int × Int × Unit) (fun (s4 : Int × Int × Unit) again5 =>
 sif (decide (s4.2.1 < a2)) (
 ld (.int .i64) (at0 b1) fun (x6 : Int) =>
 sif (decide (s4.1 ≥ x6)) (
 K ((0 : Int), (0 : Int), false, ())) (
 lds c89 (at0 b1) fun (x7 : (Int × Value × Unit)) =>
 callT Tryz.prog 79 #[(.agg (Cells.vals c89 x7).toArray), (.int .i64 s4.1)] (.one (.one (.int .i64))) fun (x8 : Int) =>
 again5 (x8, (IntKind.wrap .i64 (s4.2.1 + (1 : Int))), ()))) (
 J2 (s4.1, ()))) (a1, (0 : Int), ())) fun (s3 : Int × Unit) =>
 lds c89 (at0 b1) fun (x9 : (Int × Value × Unit)) =>
 callT Tryz.prog 80 #[(.agg (Cells.vals c89 x9).toArray), (.int .i64 a1)] (.one (.one (.int .i64))) fun (x10 : Int) =>
 K (x10, s3.1, true, ())
noncomputable def h53 : Hint := (hS (hR 4) (hS (hR 2) (hJ (4193216, [(9, tI)]) (hS (hR 2) (.block (.loop 4191168 [(9, tI), (12, tI)] (hS (hR 1) (hS (hC hL hL) (hS (.block (hS (hS (hR 4) (hC (hS (hR 3) hL) hL)) (hR 4))) (hR 2))))))) (hS (hR 7) hL))))
theorem F53_calls {a0 : (Int × Value × Unit)} {a1 : Int} {a2 : Int} {K : (Int × Int × Bool × Unit) → World → Prop} {w : World} (h : F53 a0 a1 a2 K w) : callT Tryz.prog 53 #[(.agg (Cells.vals c89 a0).toArray), (.int .i64 a1), (.int .i64 a2)] (.tup [(.one (.int .i64)), (.one (.int .i64)), (.one .bool)]) K w := tied tabOk Tryz.func53 h53 [(.agg (Cells.vals c89 a0).toArray), (.int .i64 a1), (.int .i64 a2)] (by kernel_rfl) h
noncomputable def F54 (a0 : (Int × Value × Unit)) (a1 : Int) (a2 : Int) (K : (Int × Int × Bool × Unit) → World → Prop) : World → Prop :=
 newO (.cells #[(.int .i64 a0.1), a0.2.1] 89) fun b1 =>
 ld (.any) (⟨b1, 1, none⟩ : Addr) fun (x2 : Value) =>
 callX Tryz.prog (do let d ← Deferred.ofValue x2 #[(.int .i64 a1)]; invoke d.target d.args : Sem Next) (.one (.one (.int .i64))) fun (x3 : Int) =>
 lds c89 (at0 b1) fun (x4 : (Int × Value × Unit)) =>
 callT Tryz.prog 80 #[(.agg (Cells.vals c89 x4).toArray), (.int .i64 a1)] (.one (.one (.int .i64))) fun (x5 : Int) =>
 join (S := Int × Unit) (fun J6 =>
 sloop (S := Int × Int × Unit) (fun (s8 : Int × Int × Unit) again9 =>
 sif (decide (s8.2.1 < a2)) (
 join (S := Int × Unit) (fun J10 =>
 join (S := Bool × Unit) (fun J12 =>
 ld (.int .i64) (at0 b1) fun (x14 : Int) =>
 sif (decide (s8.1 < x14)) (
 ld (.any) (⟨b1, 1, none⟩ : Addr) fun (x15 : Value) =>
 callX Tryz.prog (do let d ← Deferred.ofValue x15 #[(.int .i64 s8.1)]; invoke d.target d.args : Sem Next) (.one (.one (.int .i64))) fun (x16 : Int) =>
 J12 ((x16 == (0 : Int)), ())) (
 J12 (false, ()))) fun (s13 : Bool × Unit) =>
 sif s13.1 (
 lds c89 (at0 b1) fun (x17 : (Int × Value × Unit)) =>
 callT Tryz.prog 79 #[(.agg (Cells.vals c89 x17).toArray), (.int .i64 s8.1)] (.one (.one (.int .i64))) fun (x18 : Int) =>
 J10 (x18, ())) (
 J10 (s8.1, ()))) fun (s11 : Int × Unit) =>
 ld (.int .i64) (at0 b1) fun (x19 : Int) =>
 sif (decide (s11.1 ≥ x19)) (
 K ((0 : Int), (0 : Int), false, ())) (
 lds c89 (at0 b1) fun (x20 : (Int × Value × Unit)) =>
 callT Tryz.prog 79 #[(.agg (Cells.vals c89 x20).toArray), (.int .i64 s11.1)] (.one (.one (.int .i64))) fun (x21 : Int) =>
 again9 (x21, (IntKind.wrap .i64 (s8.2.1 + (1 : Int))), ()))) (
 J6 (s8.1, ()))) (a1, (0 : Int), ())) fun (s7 : Int × Unit) =>
 join (S := Int × Int × Unit) (fun J22 =>
 sif (x3 == (0 : Int)) (
 J22 (x5, s7.1, ())) (
 join (S := Bool × Unit) (fun J24 =>
 ld (.int .i64) (at0 b1) fun (x26 : Int) =>
 sif (decide (s7.1 < x26)) (
 ld (.any) (⟨b1, 1, none⟩ : Addr) fun (x27 : Value) =>
 callX Tryz.prog (do let d ← Deferred.ofValue x27 #[(.int .i64 s7.1)]; invoke d.target d.args : Sem Next) (.one (.one (.int .i64))) fun (x28 : Int) =>
 J24 ((x28 == (0 : Int)), ())) (
 J24 (false, ()))) fun (s25 : Bool × Unit) =>
 sif s25.1 (
 lds c89 (at0 b1) fun (x29 : (Int × Value × Unit)) =>
 callT Tryz.prog 79 #[(.agg (Cells.vals c89 x29).toArray), (.int .i64 s7.1)] (.one (.one (.int .i64))) fun (x30 : Int) =>
 J22 (x5, x30, ())) (
 join (S := Bool × Unit) (fun J31 =>
 sif (decide (x5 > (0 : Int))) (
 ld (.any) (⟨b1, 1, none⟩ : Addr) fun (x33 : Value) =>
 callX Tryz.prog (do let d ← Deferred.ofValue x33 #[(.int .i64 (IntKind.wrap .i64 (x5 - (1 : Int))))]; invoke d.target d.args : Sem Next) (.one (.one (.int .i64))) fun (x34 : Int) =>
 J31 ((x34 == (0 : Int)), ())) (
 J31 (false, ()))) fun (s32 : Bool × Unit) =>
 sif s32.1 (
 lds c89 (at0 b1) fun (x35 : (Int × Value × Unit)) =>
 callT Tryz.prog 80 #[(.agg (Cells.vals c89 x35).toArray), (.int .i64 (IntKind.wrap .i64 (x5 - (1 : Int))))] (.one (.one (.int .i64))) fun (x36 : Int) =>
 J22 (x36, s7.1, ())) (
 J22 (x5, s7.1, ()))))) fun (s23 : Int × Int × Unit) =>
 K (s23.1, s23.2.1, true, ())
noncomputable def h54 : Hint := (hS (hR 4) (hS (hR 6) (hS (hR 6) (hJ (70368742083008, [(11, tI)]) (hS (hR 2) (.block (.loop 70368739985856 [(11, tI), (22, tI)] (hS (hR 1) (hS (hC hL hL) (hS (.block (hJ (274861131776, [(11, tI)]) (hJ (34342961152, [(34, tB)]) (.region [] (.ops 5 (.split 28 (hO 6) (.skips 5 (hO 1))))) (hC (hR 4) hL)) (hS (hS (hR 4) (hC (hS (hR 3) hL) hL)) (hR 4)))) (hR 2))))))) (hJ (302231454833288549501952, [(10, tI), (11, tI)]) (.block (hS (hR 2) (hC hL (hJ (1152640029630136320, [(48, tB)]) (.region [] (.ops 5 (.split 53 (hO 7) (.skips 5 (hO 2))))) (hC (hR 4) (hJ (18880242559441726078976, [(63, tB)]) (.region [] (.ops 3 (.split 66 (hO 8) (.skips 6 (hO 2))))) (hC (hR 5) hL))))))) (hS (hR 5) hL))))))
theorem F54_calls {a0 : (Int × Value × Unit)} {a1 : Int} {a2 : Int} {K : (Int × Int × Bool × Unit) → World → Prop} {w : World} (h : F54 a0 a1 a2 K w) : callT Tryz.prog 54 #[(.agg (Cells.vals c89 a0).toArray), (.int .i64 a1), (.int .i64 a2)] (.tup [(.one (.int .i64)), (.one (.int .i64)), (.one .bool)]) K w := tied tabOk Tryz.func54 h54 [(.agg (Cells.vals c89 a0).toArray), (.int .i64 a1), (.int .i64 a2)] (by kernel_rfl) h
noncomputable def F57 (a0 : Option Addr) (a1 : Int) (K : Int → World → Prop) : World → Prop :=
 callT Tryz.prog 40 #[(.pointer a0)] (.one (.one (.int .i64))) fun (x1 : Int) =>
 callT Tryz.prog 66 #[(.pointer a0), (.int .i64 (if x1 < (if (0 : Int) > a1 then (0 : Int) else a1) then x1 else (if (0 : Int) > a1 then (0 : Int) else a1)))] (.one (.one (.int .i64))) fun (x2 : Int) =>
 K x2
noncomputable def h57 : Hint := (hS (hR 1) (hS (hR 8) hL))
theorem F57_calls {a0 : Option Addr} {a1 : Int} {K : Int → World → Prop} {w : World} (h : F57 a0 a1 K w) : callT Tryz.prog 57 #[(.pointer a0), (.int .i64 a1)] (.one (.one (.int .i64))) K w := tied tabOk Tryz.func57 h57 [(.pointer a0), (.int .i64 a1)] (by kernel_rfl) h
noncomputable def F58 (a0 : Option Addr) (K : Int → World → Prop) : World → Prop :=
 callT Tryz.prog 40 #[(.pointer a0)] (.one (.one (.int .i64))) fun (x1 : Int) =>
 callT Tryz.prog 66 #[(.pointer a0), (.int .i64 x1)] (.one (.one (.int .i64))) fun (x2 : Int) =>
 join (S := Int × Unit) (fun J3 =>
 callT Tryz.prog 81 #[(.pointer a0)] (.one (.one .bool)) fun (x5 : Bool) =>
 sif (!x5) (
 J3 ((IntKind.wrap .i64 (x2 + (1 : Int))), ())) (
 J3 (x2, ()))) fun (s4 : Int × Unit) =>
 K s4.1
noncomputable def h58 : Hint := (hS (hR 1) (hS (hR 5) (hJ (7944, [(3, tI)]) (hS (hR 3) (hC (hR 3) hL)) (hS (hR 2) hL))))
theorem F58_calls {a0 : Option Addr} {K : Int → World → Prop} {w : World} (h : F58 a0 K w) : callT Tryz.prog 58 #[(.pointer a0)] (.one (.one (.int .i64))) K w := tied tabOk Tryz.func58 h58 [(.pointer a0)] (by kernel_rfl) h
noncomputable def F59 (a0 : Option Addr) (K : Value → World → Prop) : World → Prop :=
 newO (.cells #[(.pointer a0)] 25) fun b1 =>
 K (.func (Fn.func 82) #[] #[(.pointer (some (at0 b1)))])
noncomputable def h59 : Hint := (hS (hR 2) (hS (hR 2) hL))
theorem F59_calls {a0 : Option Addr} {K : Value → World → Prop} {w : World} (h : F59 a0 K w) : callT Tryz.prog 59 #[(.pointer a0)] (.one (.one .any)) K w := tied tabOk Tryz.func59 h59 [(.pointer a0)] (by kernel_rfl) h
noncomputable def F60 (a0 : Int) (v0 : Addr) (K : Int → World → Prop) : World → Prop :=
 ld (.sl) v0 fun (x1 : Sl) =>
 ix x1.a x1.len a0 fun p2 =>
 ld (.int .i64) (p2.add (scaled (Int.toNat a0) 1)) fun (x3 : Int) =>
 K x3
noncomputable def h60 : Hint := (hS (hR 1) (hS (hR 5) hL))
theorem F60_calls {a0 : Int} {v0 : Addr} {K : Int → World → Prop} {w : World} (h : F60 a0 v0 K w) : callT Tryz.prog 60 #[(.int .i64 a0), (.pointer (some v0))] (.one (.one (.int .i64))) K w := tied tabOk Tryz.func60 h60 [(.int .i64 a0), (.pointer (some v0))] (by kernel_rfl) h
noncomputable def F71 (a0 : Option Addr) (a1 : Int) (K : ((Int × Int × Int × Int × Unit) × Int × Unit) → World → Prop) : World → Prop :=
 newO (.cells #[(.int .i64 (0 : Int)), (.int .i64 (0 : Int)), (.int .i64 (0 : Int)), (.int .i64 (0 : Int))] 100) fun b1 =>
 sif (decide (a1 < (0 : Int))) (
 aggSt (at0 b1) (.agg #[(.int .i64 (0 : Int)), (.int .i64 (0 : Int)), (.int .i64 (0 : Int)), (.int .i64 (0 : Int))]) 4 <|
 lds c100 (at0 b1) fun (x2 : (Int × Int × Int × Int × Unit)) =>
 K (x2, (2 : Int), ())) (
 callT Tryz.prog 67 #[(.pointer a0), (.int .i64 a1)] (.one (.one (.int .i64))) fun (x3 : Int) =>
 sif (decide (x3 < (0 : Int))) (
 aggSt (at0 b1) (.agg #[(.int .i64 (0 : Int)), (.int .i64 (0 : Int)), (.int .i64 (0 : Int)), (.int .i64 (0 : Int))]) 4 <|
 lds c100 (at0 b1) fun (x4 : (Int × Int × Int × Int × Unit)) =>
 K (x4, (2 : Int), ())) (
 callT Tryz.prog 40 #[(.pointer a0)] (.one (.one (.int .i64))) fun (x5 : Int) =>
 callT Tryz.prog 66 #[(.pointer a0), (.int .i64 x5)] (.one (.one (.int .i64))) fun (x6 : Int) =>
 sif (decide (a1 < x6)) (
 callT Tryz.prog 67 #[(.pointer a0), (.int .i64 (IntKind.wrap .i64 (a1 + (1 : Int))))] (.one (.one (.int .i64))) fun (x7 : Int) =>
 callT Tryz.prog 97 #[(.pointer a0), (.int .i64 x3), (.int .i64 x7)] (.one (.agg c100)) fun (x8 : (Int × Int × Int × Int × Unit)) =>
 aggSt (at0 b1) (.agg (Cells.vals c100 x8).toArray) 4 <|
 lds c100 (at0 b1) fun (x9 : (Int × Int × Int × Int × Unit)) =>
 K (x9, (0 : Int), ())) (
 callT Tryz.prog 40 #[(.pointer a0)] (.one (.one (.int .i64))) fun (x10 : Int) =>
 callT Tryz.prog 40 #[(.pointer a0)] (.one (.one (.int .i64))) fun (x11 : Int) =>
 aggSt (at0 b1) (.agg #[(.int .i64 x3), (.int .i64 x10), (.int .i64 x11), (.int .i64 (0 : Int))]) 4 <|
 lds c100 (at0 b1) fun (x12 : (Int × Int × Int × Int × Unit)) =>
 K (x12, (0 : Int), ()))))
noncomputable def h71 : Hint := (hS (hR 2) (hS (hS (hR 2) (hC (hS (hR 3) hL) hL)) (hS (hR 4) (hS (hS (hR 2) (hC (hS (hR 3) hL) hL)) (hS (hS (hR 6) (hC (hS (hR 9) hL) hL)) (hS (hR 8) hL))))))
theorem F71_calls {a0 : Option Addr} {a1 : Int} {K : ((Int × Int × Int × Int × Unit) × Int × Unit) → World → Prop} {w : World} (h : F71 a0 a1 K w) : callT Tryz.prog 71 #[(.pointer a0), (.int .i64 a1)] (.tup [(.agg c100), (.one (.int .i64))]) K w := tied tabOk Tryz.func71 h71 [(.pointer a0), (.int .i64 a1)] (by kernel_rfl) h
noncomputable def F79 (a0 : (Int × Value × Unit)) (a1 : Int) (K : Int → World → Prop) : World → Prop :=
 newO (.cells #[(.int .i64 a0.1), a0.2.1] 89) fun b1 =>
 join (S := Int × Unit) (fun J2 =>
 sloop (S := Int × Unit) (fun (s4 : Int × Unit) again5 =>
 join (S := Bool × Unit) (fun J6 =>
 drew <|
 ld (.int .i64) (at0 b1) fun (x8 : Int) =>
 sif (decide (s4.1 < x8)) (
 ld (.any) (⟨b1, 1, none⟩ : Addr) fun (x9 : Value) =>
 ld (.any) (⟨b1, 1, none⟩ : Addr) fun (x10 : Value) =>
 callX Tryz.prog (do let d ← Deferred.ofValue x9 #[(.int .i64 s4.1)]; invoke d.target d.args : Sem Next) (.one (.one (.int .i64))) fun (x11 : Int) =>
 keep (fun w => w.cell? (⟨b1, 1, none⟩ : Addr) = some (Cell.val (.any) x10)) <|
 callX Tryz.prog (do let d ← Deferred.ofValue x10 #[(.int .i64 a1)]; invoke d.target d.args : Sem Next) (.one (.one (.int .i64))) fun (x12 : Int) =>
 J6 ((x11 == x12), ())) (
 J6 (false, ()))) fun (s7 : Bool × Unit) =>
 sif s7.1 (
 again5 ((IntKind.wrap .i64 (s4.1 + (1 : Int))), ())) (
 J2 (s4.1, ()))) ((IntKind.wrap .i64 (a1 + (1 : Int))), ())) fun (s3 : Int × Unit) =>
 K s3.1
noncomputable def h79 : Hint := (hS (hR 2) (hS (hR 3) (hJ (33554208, [(5, tI)]) (.block (.loop 33554208 [(5, tI)] (hS (hJ (8388352, [(22, tB)]) (.region [0, 1, 2, 3, 4, 5, 6, 7, 9, 10, 11, 8, 12, 13, 14] (.ops 5 (.split 12 (hO 10) (.skips 9 (hO 1))))) (hC hL hL)) (.block (hR 3))))) (hS (hR 2) hL))))
theorem F79_calls {a0 : (Int × Value × Unit)} {a1 : Int} {K : Int → World → Prop} {w : World} (h : F79 a0 a1 K w) : callT Tryz.prog 79 #[(.agg (Cells.vals c89 a0).toArray), (.int .i64 a1)] (.one (.one (.int .i64))) K w := tied tabOk Tryz.func79 h79 [(.agg (Cells.vals c89 a0).toArray), (.int .i64 a1)] (by kernel_rfl) h
noncomputable def F80 (a0 : (Int × Value × Unit)) (a1 : Int) (K : Int → World → Prop) : World → Prop :=
 newO (.cells #[(.int .i64 a0.1), a0.2.1] 89) fun b1 =>
 join (S := Int × Unit) (fun J2 =>
 sloop (S := Int × Unit) (fun (s4 : Int × Unit) again5 =>
 join (S := Bool × Unit) (fun J6 =>
 drew <|
 sif (decide (s4.1 > (0 : Int))) (
 ld (.any) (⟨b1, 1, none⟩ : Addr) fun (x8 : Value) =>
 ld (.any) (⟨b1, 1, none⟩ : Addr) fun (x9 : Value) =>
 callX Tryz.prog (do let d ← Deferred.ofValue x8 #[(.int .i64 (IntKind.wrap .i64 (s4.1 - (1 : Int))))]; invoke d.target d.args : Sem Next) (.one (.one (.int .i64))) fun (x10 : Int) =>
 keep (fun w => w.cell? (⟨b1, 1, none⟩ : Addr) = some (Cell.val (.any) x9)) <|
 callX Tryz.prog (do let d ← Deferred.ofValue x9 #[(.int .i64 s4.1)]; invoke d.target d.args : Sem Next) (.one (.one (.int .i64))) fun (x11 : Int) =>
 J6 ((x10 == x11), ())) (
 J6 (false, ()))) fun (s7 : Bool × Unit) =>
 sif s7.1 (
 again5 ((IntKind.wrap .i64 (s4.1 - (1 : Int))), ())) (
 J2 (s4.1, ()))) (a1, ())) fun (s3 : Int × Unit) =>
 K s3.1
noncomputable def h80 : Hint := (hS (hR 2) (hJ (2097122, [(1, tI)]) (.block (.loop 2097122 [(1, tI)] (hS (hJ (524256, [(18, tB)]) (.region [0, 1, 2, 3, 4, 5, 6, 8, 9, 10, 7, 11, 12, 13] (.ops 3 (.split 7 (hO 11) (.skips 10 (hO 1))))) (hC hL hL)) (.block (hR 3))))) (hS (hR 2) hL)))
theorem F80_calls {a0 : (Int × Value × Unit)} {a1 : Int} {K : Int → World → Prop} {w : World} (h : F80 a0 a1 K w) : callT Tryz.prog 80 #[(.agg (Cells.vals c89 a0).toArray), (.int .i64 a1)] (.one (.one (.int .i64))) K w := tied tabOk Tryz.func80 h80 [(.agg (Cells.vals c89 a0).toArray), (.int .i64 a1)] (by kernel_rfl) h
noncomputable def F81 (a0 : Option Addr) (K : Bool → World → Prop) : World → Prop :=
 callT Tryz.prog 40 #[(.pointer a0)] (.one (.one (.int .i64))) fun (x1 : Int) =>
 sif (decide (x1 > (0 : Int))) (
 callT Tryz.prog 66 #[(.pointer a0), (.int .i64 x1)] (.one (.one (.int .i64))) fun (x2 : Int) =>
 callT Tryz.prog 67 #[(.pointer a0), (.int .i64 x2)] (.one (.one (.int .i64))) fun (x3 : Int) =>
 K (x3 == x1)) (
 K false)
noncomputable def h81 : Hint := (hS (hR 1) (hS (hR 3) (hS (.region [] (.ops 3 (.split 8 (hO 9) (.skips 7 (hO 2))))) hL)))
theorem F81_calls {a0 : Option Addr} {K : Bool → World → Prop} {w : World} (h : F81 a0 K w) : callT Tryz.prog 81 #[(.pointer a0)] (.one (.one .bool)) K w := tied tabOk Tryz.func81 h81 [(.pointer a0)] (by kernel_rfl) h
noncomputable def F82 (a0 : Value) (v0 : Addr) (K : Unit → World → Prop) : World → Prop :=
 sloop (S := Int × Unit) (fun (s1 : Int × Unit) again2 =>
 ld (.ptr) v0 fun (x3 : Option Addr) =>
 callT Tryz.prog 71 #[(.pointer x3), (.int .i64 s1.1)] (.tup [(.agg c100), (.one (.int .i64))]) fun (x4 : ((Int × Int × Int × Int × Unit) × Int × Unit)) =>
 newO (.cells #[(.int .i64 (0 : Int)), (.int .i64 (0 : Int)), (.int .i64 (0 : Int)), (.int .i64 (0 : Int))] 100) fun b5 =>
 aggSt (at0 b5) (.agg (Cells.vals c100 x4.1).toArray) 4 <|
 ld (.int .i64) (at0 b5) fun (x6 : Int) =>
 ld (.int .i64) (at0 b5) fun (x7 : Int) =>
 ld (.int .i64) (at0 b5) fun (x8 : Int) =>
 newO (.cells #[(.int .i64 (0 : Int)), (.int .i64 (0 : Int)), (.int .i64 (0 : Int)), (.int .i64 (0 : Int))] 100) fun b9 =>
 aggSt (at0 b9) (.agg #[(.int .i64 x6), (.int .i64 x7), (.int .i64 x8), (.int .i64 (0 : Int))]) 4 <|
 join (S := Bool × Unit) (fun J10 =>
 sif (x4.2.1 != (0 : Int)) (
 J10 (true, ())) (
 sif (decide (s1.1 > (0 : Int))) (
 lds c100 (at0 b5) fun (x12 : (Int × Int × Int × Int × Unit)) =>
 lds c100 (at0 b9) fun (x13 : (Int × Int × Int × Int × Unit)) =>
 rdB Tryz.prog (do eqGuard .eql 100 (Operand.tmp 28) (Operand.tmp 29) (.agg (Cells.vals c100 x12).toArray) (.agg (Cells.vals c100 x13).toArray); binOp .eql 100 (.agg (Cells.vals c100 x12).toArray) (.agg (Cells.vals c100 x13).toArray) : Sem Value) fun r14 =>
 sif r14 (
 J10 (true, ())) (
 lds c100 (at0 b5) fun (x15 : (Int × Int × Int × Int × Unit)) =>
 callX Tryz.prog (do let d ← Deferred.ofValue a0 #[(.int .i64 s1.1), (.agg (Cells.vals c100 x15).toArray)]; invoke d.target d.args : Sem Next) (.one (.one .bool)) fun (x16 : Bool) =>
 J10 ((!x16), ()))) (
 lds c100 (at0 b5) fun (x17 : (Int × Int × Int × Int × Unit)) =>
 callX Tryz.prog (do let d ← Deferred.ofValue a0 #[(.int .i64 s1.1), (.agg (Cells.vals c100 x17).toArray)]; invoke d.target d.args : Sem Next) (.one (.one .bool)) fun (x18 : Bool) =>
 J10 ((!x18), ())))) fun (s11 : Bool × Unit) =>
 sif s11.1 (
 K ()) (
 again2 ((IntKind.wrap .i64 (s1.1 + (1 : Int))), ()))) ((0 : Int), ())
noncomputable def h82 : Hint := (hS (hR 1) (.block (.loop 1099511627768 [(3, tI)] (hS (.block (hS (hR 9) (hS (hR 9) (hJ (1099507433472, [(39, tB)]) (.region [] (.ops 3 (.split 24 (.skips 7 (.ops 2 (.skips 5 (hO 1)))) (.ops 3 (.split 27 (.ops 6 (.split 33 (.skips 5 (hO 1)) (hO 6))) (.skips 3 (hO 9))))))) (hC hL hL))))) (hR 3)))))
theorem F82_calls {a0 : Value} {v0 : Addr} {K : Unit → World → Prop} {w : World} (h : F82 a0 v0 K w) : callT Tryz.prog 82 #[a0, (.pointer (some v0))] (.tup []) K w := tied tabOk Tryz.func82 h82 [a0, (.pointer (some v0))] (by kernel_rfl) h
noncomputable def F97 (a0 : Option Addr) (a1 : Int) (a2 : Int) (K : (Int × Int × Int × Int × Unit) → World → Prop) : World → Prop :=
 newO (.cells #[(.int .i64 (0 : Int)), (.int .i64 (0 : Int)), (.int .i64 (0 : Int)), (.int .i64 (0 : Int))] 100) fun b1 =>
 callT Tryz.prog 23 #[(.pointer a0), (.int .i64 (if (IntKind.wrap .i64 (a2 - (2 : Int))) > a1 then (IntKind.wrap .i64 (a2 - (2 : Int))) else a1)), (.int .i64 a2)] (.one (.one .sl)) fun (x2 : Sl) =>
 ix x2.a x2.len (IntKind.wrap .i64 (((x2.len : Nat) : Int) - (1 : Int))) fun p3 =>
 ld (.int .i64) (p3.add (scaled (Int.toNat (IntKind.wrap .i64 (((x2.len : Nat) : Int) - (1 : Int)))) 1)) fun (x4 : Int) =>
 sif (x4 == (13 : Int)) (
 aggSt (at0 b1) (.agg #[(.int .i64 a1), (.int .i64 (IntKind.wrap .i64 (a2 - (1 : Int)))), (.int .i64 a2), (.int .i64 (3 : Int))]) 4 <|
 lds c100 (at0 b1) fun (x5 : (Int × Int × Int × Int × Unit)) =>
 K x5) (
 join (S := Bool × Unit) (fun J6 =>
 sif (decide ((IntKind.wrap .i64 (((x2.len : Nat) : Int) - (1 : Int))) > (0 : Int))) (
 ix x2.a x2.len (IntKind.wrap .i64 ((IntKind.wrap .i64 (((x2.len : Nat) : Int) - (1 : Int))) - (1 : Int))) fun p8 =>
 ld (.int .i64) (p8.add (scaled (Int.toNat (IntKind.wrap .i64 ((IntKind.wrap .i64 (((x2.len : Nat) : Int) - (1 : Int))) - (1 : Int)))) 1)) fun (x9 : Int) =>
 J6 ((x9 == (13 : Int)), ())) (
 J6 (false, ()))) fun (s7 : Bool × Unit) =>
 sif s7.1 (
 aggSt (at0 b1) (.agg #[(.int .i64 a1), (.int .i64 (IntKind.wrap .i64 (a2 - (2 : Int)))), (.int .i64 a2), (.int .i64 (2 : Int))]) 4 <|
 lds c100 (at0 b1) fun (x10 : (Int × Int × Int × Int × Unit)) =>
 K x10) (
 aggSt (at0 b1) (.agg #[(.int .i64 a1), (.int .i64 (IntKind.wrap .i64 (a2 - (1 : Int)))), (.int .i64 a2), (.int .i64 (1 : Int))]) 4 <|
 lds c100 (at0 b1) fun (x11 : (Int × Int × Int × Int × Unit)) =>
 K x11))
noncomputable def h97 : Hint := (hS (hR 1) (hS (hR 8) (hS (hR 4) (hS (.block (hS (hR 6) (hC (hS (hR 6) hL) (hJ (2197949513728, [(30, tB)]) (.region [] (.ops 3 (.split 33 (hO 8) (.skips 6 (hO 2))))) (hC (hS (hR 6) hL) hL))))) (hS (hR 6) hL)))))
theorem F97_calls {a0 : Option Addr} {a1 : Int} {a2 : Int} {K : (Int × Int × Int × Int × Unit) → World → Prop} {w : World} (h : F97 a0 a1 a2 K w) : callT Tryz.prog 97 #[(.pointer a0), (.int .i64 a1), (.int .i64 a2)] (.one (.agg c100)) K w := tied tabOk Tryz.func97 h97 [(.pointer a0), (.int .i64 a1), (.int .i64 a2)] (by kernel_rfl) h
end Go.Proofs.YtabcpghhfeplaaaGreat
namespace Go.Proofs.YtabcpghhfeplaaaGreat
open Go Go.Vx Cdc Trx Lns
section
variable {w w' : World} {S : Nat → Prop} {p : Nat} {e : Enc} {lim na : Nat} {O : Nat → Prop} {M : Parts}
abbrev lnT (l : Ln) : Cells.T c100 := ((l.from_ : Int), (l.to_ : Int), (l.next : Int), (l.kind : Int), ())
theorem hal (e : Enc) (M : Parts) : (atoms (aOf e M)).length = (aOf e M).length := List.length_map _
theorem skI_nat (A : List Int) (k : Nat) : skI A (k : Int) = match sk A k with | some m => (m : Int) | none => -1 := by
 unfold skI
 rw [if_neg (by omega), Int.toNat_natCast]
 all_goals (cases sk A k <;> rfl)
theorem closed_call (h : Txt w p e lim na O M) {f x : Nat} (hfx : f < x) (hx : x ≤ (atoms (aOf e M)).length) {K : Cells.T c100 → World → Prop} (hK : ∀ w', Ext w w' → K (lnT (lnC (atoms (aOf e M)) f x)) w') :
  callT Tryz.prog 97 #[.pointer (some (at0 p)), .int .i64 (f : Int), .int .i64 (x : Int)] (.one (.agg c100)) K w := by
 refine F97_calls ?_
 unfold F97
 have few := h.few; have lims := h.lims
 generalize hA : atoms (aOf e M) = A at *
 have hAl : A.length = (aOf e M).length := by rw [← hA]; exact hal e M
 refine (St.start w).newO fun b1 w1 S1 e1 => ?_
 have ew : IntKind.wrap .i64 ((x : Int) - 2) = (x : Int) - 2 := wrap64 (by omega) (by omega)
 rw [ew]
 obtain ⟨g, hg⟩ : ∃ g : Nat, g = max f (x - 2) := ⟨_, rfl⟩
 have eg : (if (x : Int) - 2 > (f : Int) then (x : Int) - 2 else (f : Int)) = (g : Int) := by split <;> omega
 rw [eg]
 refine atoms_call (h.ext e1) fun s w2 o2 e2 => ?_
 rw [hA] at o2
 have hsub : sub A (g : Int) (x : Int) = (A.drop g).take (x - g) := by unfold sub; simp
 rw [hsub] at o2
 have hl := o2.len1
 rw [List.length_map, List.length_take, List.length_drop] at hl
 have hsl : s.len = x - g := by omega
 have get : ∀ i, i < x - g → ((A.drop g).take (x - g))[i]? = A[g + i]? := fun i hi => by rw [List.getElem?_take, if_pos hi, List.getElem?_drop]
 have ew1 : IntKind.wrap .i64 (((s.len : Nat) : Int) - 1) = ((x - g - 1 : Nat) : Int) := by rw [wrap64 (by omega) (by omega)]; omega
 rw [ew1]
 have S2 := S1.ext e2
 obtain ⟨a, ha⟩ : ∃ a, A[x - 1]? = some a := ⟨_, List.getElem?_eq_getElem (by omega)⟩
 have ex1 : IntKind.wrap .i64 ((x : Int) - 1) = ((x - 1 : Nat) : Int) := by rw [wrap64 (by omega) (by omega)]; omega
 have fin : ∀ {l : Ln} {W : World}, St (fun _ => False) w W [(b1, .cells #[.int .i64 0, .int .i64 0, .int .i64 0, .int .i64 0] 100 (0, 0))] → lnC A f x = l →
   aggSt (at0 b1) (.agg (Cells.vals c100 (lnT l)).toArray) 4 (lds c100 (at0 b1) fun x => K x) W := by
  intro l W SW el
  exact SW.aggSt 0 rfl rfl rfl rfl fun w3 S3 _ => S3.lds 0 (lnT l) rfl (by subst el; exact hK w3 S3.upd)
 refine ix_ld (c := .int .i64) (xs := (A.drop g).take (x - g)) o2.in (by omega) (x := a) (by rw [Int.toNat_natCast, get _ (by omega), ← ha]; congr 1; omega) fun q => sif_r (fun hc => ?_) (fun hc => ?_)
 ·simp only [beq_iff_eq] at hc
  rw [ex1]
  exact fin (l := ⟨f, x - 1, x, 3⟩) S2 (by unfold lnC; rw [if_pos (by rw [ha, hc])])
 ·simp only [beq_eq_false_iff_ne] at hc
  have h13 : ¬ A[x - 1]? = some 13 := by rw [ha]; exact fun h => hc (Option.some.inj h)
  refine join_r (fun y W => y = (decide (f + 1 < x ∧ A[x - 2]? = some 13), ()) ∧ w2 = W) ?_ ?_
  ·refine sif_r (fun hd => ?_) (fun hd => ?_)
   ·simp only [decide_eq_true_eq, gt_iff_lt] at hd
    have ew2 : IntKind.wrap .i64 (((x - g - 1 : Nat) : Int) - 1) = ((x - g - 2 : Nat) : Int) := by rw [wrap64 (by omega) (by omega)]; omega
    rw [ew2]
    obtain ⟨b, hb⟩ : ∃ b, A[x - 2]? = some b := ⟨_, List.getElem?_eq_getElem (by omega)⟩
    refine ix_ld (c := .int .i64) (xs := (A.drop g).take (x - g)) o2.in (by omega) (x := b) (by rw [Int.toNat_natCast, get _ (by omega), ← hb]; congr 1; omega) fun q2 => ⟨tupb ?_, rfl⟩
    simp only [beq_iff_eq, decide_eq_true_eq, hb, Option.some.injEq]
    omega
   ·simp only [decide_eq_false_iff_not, gt_iff_lt] at hd
    refine ⟨tupb ?_, rfl⟩
    simp only [Bool.false_eq_true, decide_eq_true_eq, false_iff]
    omega
  rintro _ _ ⟨rfl, rfl⟩
  refine sif_r (fun hd => ?_) (fun hd => ?_)
  ·simp only [decide_eq_true_eq] at hd
   have ew3 : (x : Int) - 2 = ((x - 2 : Nat) : Int) := by omega
   rw [ew3]
   exact fin (l := ⟨f, x - 2, x, 2⟩) S2 (by unfold lnC; rw [if_neg h13, if_pos hd])
  ·simp only [decide_eq_false_iff_not] at hd
   rw [ex1]
   exact fin (l := ⟨f, x - 1, x, 1⟩) S2 (by unfold lnC; rw [if_neg h13, if_neg hd])
def atRes (r : Option Ln) : Cells.T c100 × Int × Unit := match r with
 | some l => (lnT l, 0, ())
 | none => (lnT ⟨0, 0, 0, 0⟩, 2, ())
theorem lat_call {i : Int} (h : Txt w p e lim na O M) (hi : i < 2 ^ 62) {K : Cells.T c100 × Int × Unit → World → Prop} (hK : ∀ w', Ext w w' → K (atRes (lnI (atoms (aOf e M)) i)) w') :
  callT Tryz.prog 71 #[.pointer (some (at0 p)), .int .i64 i] (.tup [(.agg c100), (.one (.int .i64))]) K w := by
 refine F71_calls ?_
 unfold F71
 have few := h.few; have lims := h.lims
 have hal := hal e M
 refine (St.start w).newO fun b1 w1 S1 e1 => ?_
 refine sif_r (fun hc => ?_) (fun hc => ?_)
 ·simp only [decide_eq_true_eq] at hc
  refine S1.aggSt 0 rfl rfl rfl rfl fun w2 S2 _ => S2.lds 0 (lnT ⟨0, 0, 0, 0⟩) rfl ?_
  have := hK w2 S2.upd
  unfold lnI at this
  rw [if_pos hc] at this
  exact this
 simp only [decide_eq_false_iff_not] at hc
 obtain ⟨n, rfl⟩ : ∃ n : Nat, i = (n : Int) := ⟨i.toNat, by omega⟩
 unfold lnI at hK
 rw [if_neg hc, Int.toNat_natCast] at hK
 refine seek_call (h.ext e1) fun w2 e2 => ?_
 have S2 := S1.ext e2
 rw [skI_nat]
 cases hf : sk (atoms (aOf e M)) n with
 | none =>
  refine sif_r (fun _ => ?_) (fun h => by simp at h)
  refine S2.aggSt 0 rfl rfl rfl rfl fun w3 S3 _ => S3.lds 0 (lnT ⟨0, 0, 0, 0⟩) rfl ?_
  have := hK w3 S3.upd
  unfold lnAt at this
  rw [hf] at this
  exact this
 | some f =>
  refine sif_r (fun h => by simp at h; omega) (fun _ => ?_)
  obtain ⟨hnb, hfl, hnf, _⟩ := sk_get hf
  refine len_call (h.ext S2.upd) fun w3 e3 => breaks_call (h.ext (S2.ext e3).upd) fun w4 e4 => ?_
  have S4 := (S2.ext e3).ext e4
  rw [Int.toNat_natCast, ← hal, ← brs_nb]
  refine sif_r (fun hlt => ?_) (fun hlt => ?_)
  ·simp only [decide_eq_true_eq] at hlt
   have ew : IntKind.wrap .i64 ((n : Int) + 1) = ((n + 1 : Nat) : Int) := by rw [wrap64 (by omega) (by omega)]; omega
   rw [ew]
   refine seek_call (h.ext S4.upd) fun w5 e5 => ?_
   have S5 := S4.ext e5
   rw [skI_nat]
   obtain ⟨x, hx⟩ := sk_ok (A := atoms (aOf e M)) (k := n + 1) (by omega)
   obtain ⟨_, hxl, _, _⟩ := sk_get hx
   rw [hx]
   refine closed_call (h.ext S5.upd) (sk_lt hf hx (by omega)) hxl fun w6 e6 => (S5.ext e6).aggSt 0 rfl rfl rfl rfl fun w7 S7 _ => S7.lds 0 (lnT _) rfl ?_
   have := hK w7 S7.upd
   unfold lnAt at this
   rw [hf] at this
   simp only [hx] at this
   exact this
  ·simp only [decide_eq_false_iff_not] at hlt
   refine len_call (h.ext S4.upd) fun w5 e5 => len_call (h.ext (S4.ext e5).upd) fun w6 e6 => ((S4.ext e5).ext e6).aggSt 0 rfl rfl rfl rfl fun w7 S7 _ => S7.lds 0 (lnT ⟨f, (aOf e M).length, (aOf e M).length, 0⟩) rfl ?_
   have := hK w7 S7.upd
   unfold lnAt at this
   rw [hf] at this
   simp only [sk_none (atoms (aOf e M)) (n + 1) (by omega)] at this
   rw [hal] at this
   exact this
theorem lof_call {at_ : Int} (h : Txt w p e lim na O M) {K : Int → World → Prop} (hK : ∀ w', Ext w w' → K ((nb (atoms (aOf e M)) at_.toNat : Nat) : Int) w') :
  callT Tryz.prog 57 #[.pointer (some (at0 p)), .int .i64 at_] (.one (.one (.int .i64))) K w := by
 refine F57_calls ?_
 unfold F57
 have hal := hal e M
 refine len_call h fun w1 e1 => breaks_call (h.ext e1) fun w2 e2 => ?_
 have := hK w2 (e1.trans e2)
 have e : nb (atoms (aOf e M)) (if (((aOf e M).length : Nat) : Int) < (if (0 : Int) > at_ then (0 : Int) else at_) then (((aOf e M).length : Nat) : Int) else (if (0 : Int) > at_ then (0 : Int) else at_)).toNat = nb (atoms (aOf e M)) at_.toNat := by
  by_cases h0 : (0 : Int) > at_
  ·rw [if_pos h0, if_neg (by omega)]
   have : at_.toNat = (0 : Int).toNat := by omega
   rw [this]
  ·rw [if_neg h0]
   split
   ·rw [Int.toNat_natCast, nb_ge _ _ (by omega), nb_ge _ _ (by omega)]
   ·rfl
 rw [e]; exact this
theorem lended_call (h : Txt w p e lim na O M) {K : Bool → World → Prop} (hK : ∀ w', Ext w w' → K (ended (atoms (aOf e M))) w') :
  callT Tryz.prog 81 #[.pointer (some (at0 p))] (.one (.one .bool)) K w := by
 refine F81_calls ?_
 unfold F81
 have hal := hal e M
 unfold ended at hK
 refine len_call h fun w1 e1 => sif_r (fun hc => ?_) (fun hc => ?_)
 ·simp only [decide_eq_true_eq, gt_iff_lt] at hc
  refine breaks_call (h.ext e1) fun w2 e2 => seek_call (h.ext (e1.trans e2)) fun w3 e3 => ?_
  have := hK w3 ((e1.trans e2).trans e3)
  rw [Int.toNat_natCast, ← hal, ← brs_nb, skI_nat]
  rw [decide_eq_true (by omega), Bool.true_and] at this
  cases hs : sk (atoms (aOf e M)) (brs (atoms (aOf e M))) with
  | none =>
   rw [hs] at this
   have e1 : ((-1 : Int) == (((atoms (aOf e M)).length : Nat) : Int)) = false := by rw [beq_eq_false_iff_ne]; omega
   show K ((-1 : Int) == _) w3
   rw [e1]; exact this
  | some m =>
   rw [hs] at this
   have e1 : ((m : Int) == (((atoms (aOf e M)).length : Nat) : Int)) = (some m == some (atoms (aOf e M)).length) := by rw [Bool.eq_iff_iff, beq_iff_eq, beq_iff_eq, Option.some.injEq]; omega
   show K ((m : Int) == _) w3
   rw [e1]; exact this
 ·simp only [decide_eq_false_iff_not, gt_iff_lt] at hc
  have := hK w1 e1
  rw [decide_eq_false (by omega), Bool.false_and] at this
  exact this
theorem lcount_call (h : Txt w p e lim na O M) {K : Int → World → Prop} (hK : ∀ w', Ext w w' → K ((lnN (atoms (aOf e M)) : Nat) : Int) w') :
  callT Tryz.prog 58 #[.pointer (some (at0 p))] (.one (.one (.int .i64))) K w := by
 refine F58_calls ?_
 unfold F58
 have few := h.few; have lims := h.lims
 have hal := hal e M
 have hb : brs (atoms (aOf e M)) ≤ (atoms (aOf e M)).length := by rw [brs_nb]; exact nb_le _ _
 refine len_call h fun w1 e1 => breaks_call (h.ext e1) fun w2 e2 => ?_
 rw [Int.toNat_natCast, ← hal, ← brs_nb]
 refine join_r (fun x W => x = (((lnN (atoms (aOf e M)) : Nat) : Int), ()) ∧ Ext w W) ?_ (fun x W hx => by obtain ⟨rfl, hx⟩ := hx; exact hK W hx)
 refine lended_call (h.ext (e1.trans e2)) fun w3 e3 => ?_
 have e03 := (e1.trans e2).trans e3
 refine sif_r (fun hc => ⟨?_, e03⟩) (fun hc => ⟨?_, e03⟩)
 ·simp only [Bool.not_eq_true'] at hc
  unfold lnN
  rw [hc, wrap64 (by omega) (by omega)]
  simp
 ·simp only [Bool.not_eq_false'] at hc
  unfold lnN
  rw [hc]
  simp
end
end Go.Proofs.YtabcpghhfeplaaaGreat
namespace Go.Proofs.YtabcpghhfeplaaaGreat
open Go Go.Vx Cdc Trx Gly Clu Lns Obx
section
variable {w w' : World} {S : Nat → Prop} {p : Nat} {e : Enc} {lim na : Nat} {O : Nat → Prop} {M : Parts}
abbrev celT (c : Cel) : Cells.T c72 := ((c.from_ : Int), (c.to_ : Int), (c.kind : Int), c.alone, c.atom, ())
abbrev CelIn (w : World) (s : Sl) (C : List Cel) : Prop := SlIn w s 72 5 (flat c72 (C.map celT))
theorem CelIn.lenC {s : Sl} {C : List Cel} (h : CelIn w s C) : C.length = s.len := by
 have := SlIn.lenR (cs := c72) h (by decide)
 rwa [List.length_map] at this
theorem ix_cel {s : Sl} {C : List Cel} {i : Nat} {c : Cel} {K : Addr → Cells.T c72 → World → Prop} (h : CelIn w s C) (hc : C[i]? = some c) (hK : ∀ p, K p (celT c) w) :
  ix s.a s.len (i : Int) (fun p => lds c72 (p.add (scaled (Int.toNat (i : Int)) 5)) (K p)) w :=
 ix_lds (cs := c72) h (by decide) (by omega) (by rw [Int.toNat_natCast, List.getElem?_map, hc]; rfl) hK
theorem eCells : ElemOk Tryz.prog 68 72 5 40 := ElemOk.of (z := .agg #[.int .i64 0, .int .i64 0, .int .i64 0, .bool false, .int .i64 0]) i68_ok i72_ok rfl rfl rfl (by decide)
theorem cel_one (c : Cel) : ∀ v ∈ flat c72 [celT c], isOne v = true := by
 intro v hv
 rw [flat_one] at hv
 have h : v ∈ [_, _, _, _, _] := hv
 simp only [List.mem_cons, List.not_mem_nil, or_false] at h
 rcases h with rfl | rfl | rfl | rfl | rfl <;> rfl
theorem cells_call {A : List Int} {s : Sl} {t : TypeId} {off : Nat} (hs : SlIn w s t 1 (iv A)) (hl : A.length < 2 ^ 40) (ho : off < 2 ^ 60) {K : Sl → World → Prop} (hK : ∀ s' w', CelIn w' s' (cels A off) → Ext w w' → (∀ k, s'.blk k → w.heap.size ≤ k) → K s' w') :
  callT Tryz.prog 39 #[.slice s.a s.len s.cap, .int .i64 (off : Int)] (.one (.one .sl)) K w := by
 refine F39_calls ?_
 unfold F39
 refine cbreaks_call hs hl fun b w1 o1 e1 => ?_
 have hbl := o1.len1
 rw [List.length_map] at hbl
 have hcp := cuts_pos A
 have hcl := cutsTo_len A A.length
 have hcl' : (cuts A).length ≤ A.length + 1 := hcl
 have ew : IntKind.wrap .i64 (((b.len : Nat) : Int) - 1) = (((cuts A).length - 1 : Nat) : Int) := by rw [wrap64 (by omega) (by omega)]; omega
 rw [ew]
 have nvi : nv (cuts A) = ((cuts A).map fun (n : Nat) => (n : Int)).map (Cell.int .i64).val := by rw [List.map_map]; rfl
 rw [nvi] at o1
 have hcels := cels_len A off
 refine join_r (fun x W => SlOwn W w1.heap.size x.1 72 5 (flat c72 ((cels A off).map celT)) ∧ Ext w W) ?_ (fun x W h => hK _ _ h.1.in h.2 (fun k hk => by have := h.1.blk_ge hk; have := e1.size; omega))
 refine sloop_r (fun x W => ∃ i, i ≤ (cels A off).length ∧ x.2 = ((i : Int), ()) ∧ SlOwn W w1.heap.size x.1 72 5 (flat c72 (((cels A off).take i).map celT)) ∧ Ext w1 W) (fun x _ => ((((cels A off).length : Nat) : Int) - x.2.1).toNat) ⟨0, Nat.zero_le _, rfl, SlOwn.nil _ _ _ _, Ext.refl _⟩ ?_
 rintro ⟨r, _⟩ W ⟨i, hi, rfl, hr, e2⟩
 dsimp only at hr ⊢
 have hrl : i = r.len := by
  have := SlOwn.lenR (cs := c72) hr (by decide)
  rw [List.length_map, List.length_take] at this; omega
 refine sif_r (fun hc => ?_) (fun hc => ?_)
 ·simp only [decide_eq_true_eq] at hc
  obtain ⟨c, hc'⟩ : ∃ c, (cels A off)[i]? = some c := ⟨_, List.getElem?_eq_getElem (by omega)⟩
  obtain ⟨x, y, g1, g2, g3, g4, g5, g6, _, _, g7, g8, g9⟩ := (cels_ok hc').ex
  have o2 := o1.ext e2
  have m1 : ((cuts A).map fun (n : Nat) => (n : Int))[(i : Int).toNat]? = some (x : Int) := by rw [Int.toNat_natCast, List.getElem?_map, g1]; rfl
  have ew1 : IntKind.wrap .i64 ((i : Int) + 1) = ((i + 1 : Nat) : Int) := by rw [wrap64 (by omega) (by omega)]; omega
  have m2 : ((cuts A).map fun (n : Nat) => (n : Int))[((i + 1 : Nat) : Int).toNat]? = some (y : Int) := by rw [Int.toNat_natCast, List.getElem?_map, g2]; rfl
  rw [ew1]
  refine ix_ld (c := .int .i64) o2.in (by omega) m1 fun p1 => ix_ld (c := .int .i64) (xs := A) (hs.ext (e1.trans e2)) (by omega) (x := c.atom) (by rw [Int.toNat_natCast]; exact g7) fun p2 => drew_r fun w3 e3 _ => ?_
  have o3 := o2.ext e3
  refine ix_ldE (c := .int .i64) o3.in (by omega) m1 fun p3 k3 => ix_ldE (c := .int .i64) o3.in (by omega) m2 fun p4 k4 => ix_ldE (c := .int .i64) o3.in (by omega) m2 fun p5 k5 => ix_ldE (c := .int .i64) o3.in (by omega) m1 fun p6 k6 => ?_
  refine word_call fun w4 e4 => keep_r (k6 w4 e4) (keep_r (k5 w4 e4) (keep_r (k4 w4 e4) (keep_r (k3 w4 e4) ?_)))
  refine newO_r fun b5 w5 e5 n5 hb5 _ => ?_
  have e15 := ((e2.trans e3).trans e4).trans e5
  have ec : ∀ z : Nat, z ≤ A.length → IntKind.wrap .i64 ((off : Int) + (z : Int)) = ((off + z : Nat) : Int) := fun z hz => by rw [wrap64 (by omega) (by omega)]; omega
  have eb : ((y : Int) == IntKind.wrap .i64 ((x : Int) + 1)) = c.alone := by
   rw [wrap64 (by omega) (by omega), Bool.eq_iff_iff, beq_iff_eq, g9]; omega
  rw [ec x (by omega), ec y (by omega), eb, ← g5, ← g6, ← g8] at n5
  have hbox : SlX w5 ⟨some (at0 b5), 1, 1⟩ 5 (flat c72 [celT c]) := (SlIn.of_box n5 (n := 1) (sz := 5) rfl).x
  refine append_rx eCells eCells.ts_ (x := ⟨some (at0 b5), 1, 1⟩) (hr.ext ((e3.trans e4).trans e5)) hbox (cel_one c) (by
   show (r.len + 1 + (r.len + 1) / 4 + 512) * 40 ≤ 2 ^ 48
   have := cels_le A off
   omega) (by have := e15.size; omega) fun r' w6 o6 l6 u6 k6 => ?_
  have e6 : flat c72 (((cels A off).take i).map celT) ++ flat c72 [celT c] = flat c72 (((cels A off).take (i + 1)).map celT) := by
   rw [List.take_add_one, hc', List.map_append, flat_append]; rfl
  rw [e6] at o6
  exact ⟨⟨i + 1, by omega, rfl, o6, e15.step u6 fun k hk => hr.blk_ge hk⟩, by omega⟩
 ·simp only [decide_eq_false_iff_not] at hc
  have : i = (cels A off).length := by omega
  subst this
  rw [List.take_length] at hr
  exact ⟨hr, e1.trans e2⟩
abbrev mvT (kind count arg : Int) : Cells.T c39 := (kind, count, arg, ())
theorem checked_call {at_ kind count arg lo hi : Int} (h : Txt w p e lim na O M) {K : Int → World → Prop} (hK : ∀ w', Ext w w' → K (checked (aOf e M).length at_ kind count lo hi) w') :
  callT Tryz.prog 37 #[.pointer (some (at0 p)), .int .i64 at_, .agg (Cells.vals c39 (mvT kind count arg)).toArray, .int .i64 lo, .int .i64 hi] (.one (.one (.int .i64))) K w := by
 refine F37_calls (a2 := mvT kind count arg) ?_
 unfold F37
 unfold checked at hK
 refine (St.start w).newO fun b w1 S1 e1 => ?_
 refine join_r (fun x W => x = (decide (kind < lo ∨ hi < kind ∨ count < 0), ()) ∧ w1 = W) ?_ ?_
 ·refine S1.ld 0 rfl (x := kind) rfl (sif_r (fun h1 => ⟨tupb ?_, rfl⟩) (fun h1 => S1.ld 0 rfl (x := kind) rfl (sif_r (fun h2 => ⟨tupb ?_, rfl⟩) (fun h2 => S1.ld 0 rfl (x := count) rfl ⟨tupb ?_, rfl⟩))))
  all_goals simp only [decide_eq_true_eq, decide_eq_false_iff_not, true_iff, gt_iff_lt] at *
  all_goals omega
 rintro _ _ ⟨rfl, rfl⟩
 refine sif_r (fun h1 => ?_) (fun h1 => ?_)
 ·simp only [decide_eq_true_eq] at h1
  have := hK w1 e1
  rwa [if_pos h1] at this
 simp only [decide_eq_false_iff_not] at h1
 rw [if_neg h1] at hK
 refine join_r (fun x W => x = (decide (at_ < 0 ∨ (((aOf e M).length : Nat) : Int) < at_), ()) ∧ Ext w W) ?_ ?_
 ·refine sif_r (fun h2 => ⟨tupb ?_, e1⟩) (fun h2 => len_call (h.ext e1) fun w2 e2 => ⟨tupb ?_, e1.trans e2⟩)
  all_goals simp only [decide_eq_true_eq, decide_eq_false_iff_not, true_iff, gt_iff_lt] at *
  all_goals omega
 rintro _ w2 ⟨rfl, e2⟩
 refine sif_r (fun h2 => ?_) (fun h2 => ?_)
 ·simp only [decide_eq_true_eq] at h2
  have := hK w2 e2
  rwa [if_pos h2] at this
 ·simp only [decide_eq_false_iff_not] at h2
  have := hK w2 e2
  rwa [if_neg h2] at this
theorem times_call {kind count arg : Int} (hc : count < 2 ^ 63) {K : Int → World → Prop} (hK : ∀ w', Ext w w' → K ((times count : Nat) : Int) w') : callT Tryz.prog 41 #[.agg (Cells.vals c39 (mvT kind count arg)).toArray] (.one (.one (.int .i64))) K w := by
 refine F41_calls (a0 := mvT kind count arg) ?_
 unfold F41
 refine (St.start w).newO fun b w1 S1 e1 => S1.ld 0 rfl (x := count) rfl ?_
 have := hK w1 e1
 unfold times at this
 have e : (if (1 : Int) > count then (1 : Int) else count) = (((max count 1).toNat : Nat) : Int) := by split <;> omega
 rw [e]; exact this
end
section
variable {w w' : World} {S : Nat → Prop} {p : Nat} {e : Enc} {lim na : Nat} {O : Nat → Prop} {M : Parts}
theorem run_eqInt {n : Nat} {x y : Int} (w : World) : (Op.equalIn (n + 1) 3 (.int .i64 x) (.int .i64 y)).run Tryz.prog w = .ok (x == y) w := run_equalIn_int w n 3 .i64 .i64 x y i3_ok.und
theorem lnEql_r {a b : Ln} {o1 o2 : Operand} {K : Bool → World → Prop} (hK : K (decide (a = b)) w) :
  rdB Tryz.prog (do eqGuard .eql 100 o1 o2 (.agg (Cells.vals c100 (lnT a)).toArray) (.agg (Cells.vals c100 (lnT b)).toArray); binOp .eql 100 (.agg (Cells.vals c100 (lnT a)).toArray) (.agg (Cells.vals c100 (lnT b)).toArray) : Sem Value) K w := by
 refine ⟨decide (a = b), ?_, hK⟩
 have hg := run_eqGuard_agg (P := Tryz.prog) w .eql 100 o1 o2 (Cells.vals c100 (lnT a)).toArray (Cells.vals c100 (lnT b)).toArray (by kernel_rfl)
 have hq := run_eql_struct (P := Tryz.prog) w 100 (Cells.vals c100 (lnT a)).toArray (Cells.vals c100 (lnT b)).toArray
 have hs := run_equalIn_struct (P := Tryz.prog) w 9999 100 (Cells.vals c100 (lnT a)).toArray (Cells.vals c100 (lnT b)).toArray (by kernel_rfl) (by kernel_rfl)
 have hf : (Tryz.prog.fieldsOf 100).toList.map (fun f => (f.name, f.type, f.offset)) = [("From", 3, 0), ("To", 3, 1), ("Next", 3, 2), ("Break", 3, 3)] := by kernel_rfl
 have key : ∀ fs : List Field, fs.map (fun f => (f.name, f.type, f.offset)) = [("From", 3, 0), ("To", 3, 1), ("Next", 3, 2), ("Break", 3, 3)] → (Op.eqFields 9999 (Cells.vals c100 (lnT a)).toArray (Cells.vals c100 (lnT b)).toArray fs).run Tryz.prog w = .ok (decide (a = b)) w := by
  intro fs hfs
  have hl : fs.length = 4 := by simpa using congrArg List.length hfs
  obtain ⟨f1, f2, f3, f4, rfl⟩ : ∃ f1 f2 f3 f4, fs = [f1, f2, f3, f4] := by
   match fs, hl with
   | [f1, f2, f3, f4], _ => exact ⟨f1, f2, f3, f4, rfl⟩
  simp only [List.map_cons, List.map_nil, List.cons.injEq, Prod.mk.injEq, and_true] at hfs
  obtain ⟨⟨n1, t1, o1⟩, ⟨n2, t2, o2⟩, ⟨n3, t3, o3⟩, ⟨n4, t4, o4⟩⟩ := hfs
  have pt : ∀ (l : Ln) (i : Nat) (v : Int), (Cells.vals c100 (lnT l)).toArray[i]? = some (.int .i64 v) → (Go.part 3 (Cells.vals c100 (lnT l)).toArray i).run Tryz.prog w = .ok (.int .i64 v) w := by
   intro l i v hv
   have ha : (isAgg 3).run Tryz.prog w = .ok false w := i3_ok.run_isAgg w
   simp only [Go.part, Sem.run_bind, ha, Result.andThen_ok]
   simp [hv]
  have step : ∀ (f : Field) (fs : List Field) (x y : Nat), f.name ≠ "_" → f.type = 3 → (Cells.vals c100 (lnT a)).toArray[f.offset]? = some (.int .i64 (x : Int)) → (Cells.vals c100 (lnT b)).toArray[f.offset]? = some (.int .i64 (y : Int)) →
    (Op.eqFields 9999 (Cells.vals c100 (lnT a)).toArray (Cells.vals c100 (lnT b)).toArray (f :: fs)).run Tryz.prog w = if x = y then (Op.eqFields 9999 (Cells.vals c100 (lnT a)).toArray (Cells.vals c100 (lnT b)).toArray fs).run Tryz.prog w else .ok false w := by
   intro f fs x y hn ht hx hy
   rw [Op.eqFields, if_pos hn, ht]
   simp only [Sem.run_bind, pt a _ _ hx, pt b _ _ hy, Result.andThen_ok, run_eqInt (n := 9998)]
   by_cases hxy : x = y
   ·rw [if_pos hxy, hxy]; simp
   ·have : ((x : Int) == (y : Int)) = false := by rw [beq_eq_false_iff_ne]; omega
    rw [if_neg hxy, this]; rfl
  rw [step f1 _ a.from_ b.from_ (by rw [n1]; decide) t1 (by rw [o1]; rfl) (by rw [o1]; rfl), step f2 _ a.to_ b.to_ (by rw [n2]; decide) t2 (by rw [o2]; rfl) (by rw [o2]; rfl), step f3 _ a.next b.next (by rw [n3]; decide) t3 (by rw [o3]; rfl) (by rw [o3]; rfl), step f4 _ a.kind b.kind (by rw [n4]; decide) t4 (by rw [o4]; rfl) (by rw [o4]; rfl)]
  obtain ⟨x1, x2, x3, x4⟩ := a
  obtain ⟨y1, y2, y3, y4⟩ := b
  by_cases h1 : x1 = y1 <;> by_cases h2 : x2 = y2 <;> by_cases h3 : x3 = y3 <;> by_cases h4 : x4 = y4 <;> simp [h1, h2, h3, h4, Op.eqFields]
 rw [key _ hf] at hs
 simp only [Sem.run_bind, hg, Result.andThen_ok, hq, hs]
abbrev spT (s : Int × Int × Int) : Cells.T c34 := (s.1, s.2.1, s.2.2, ())
theorem lnI_nat (A : List Int) (n : Nat) : lnI A (n : Int) = lnAt A n := by unfold lnI; rw [if_neg (by omega), Int.toNat_natCast]
end
end Go.Proofs.YtabcpghhfeplaaaGreat
namespace Go.Proofs.YtabcpghhfeplaaaGreat
open Go Go.Vx Cdc
section
variable {w w' : World}
theorem known_call {e : Enc} {K : Bool → World → Prop} (hK : K true w) : callT Tryz.prog 61 #[.int .i64 e.num] (.one (.one .bool)) K w := by
 refine F61_calls ?_
 unfold F61
 cases e <;> exact sif_r (fun _ => hK) (fun h => by cases h)
theorem rscalar_call {a : Int} {K : Bool → World → Prop} (h1 : Scalar a → K true w) (h2 : ¬ Scalar a → K false w) : callT Tryz.prog 117 #[.int .i64 a] (.one (.one .bool)) K w := by
 refine F117_calls ?_
 unfold F117
 unfold Scalar at h1 h2
 refine sif_r (fun h => sif_r (fun h' => ?_) (fun h' => sif_r (fun h'' => ?_) (fun h'' => ?_))) (fun h => sif_r (fun h'' => ?_) (fun h'' => ?_))
 all_goals simp only [decide_eq_true_eq, decide_eq_false_iff_not, gt_iff_lt, ge_iff_le] at *
 ·exact h1 (by omega)
 ·by_cases hc : a ≤ 1114111
  ·rw [decide_eq_true hc]; exact h1 (by omega)
  ·rw [decide_eq_false hc]; exact h2 (by omega)
 ·exact h2 (by omega)
 ·by_cases hc : a ≤ 1114111
  ·rw [decide_eq_true hc]; exact h1 (by omega)
  ·rw [decide_eq_false hc]; exact h2 (by omega)
 ·exact h2 (by omega)
def unI (be : Bool) : Bs → Int
 | a :: b :: _ => ((un be a b : Nat) : Int)
 | _ => -1
theorem runit_call {s : Sl} {l : Bs} {n : Nat} {be : Bool} (hB : By w s l) (hn : n < 2 ^ 60) (hl : l.length < 2 ^ 60) {K : Int → World → Prop} (hK : ∀ w', Ext w w' → K (unI be (l.drop n)) w') :
  callT Tryz.prog 84 #[.int .i64 (if be then 3 else 2), .slice s.a s.len s.cap, .int .i64 (n : Int)] (.one (.one (.int .i64))) K w := by
 refine F84_calls ?_
 unfold F84
 have hlen := hB.len
 have e2 : IntKind.wrap .i64 ((n : Int) + 2) = (n : Int) + 2 := wrap64 (by omega) (by omega)
 have e1 : IntKind.wrap .i64 ((n : Int) + 1) = ((n + 1 : Nat) : Int) := by rw [wrap64 (by omega) (by omega)]; omega
 rw [e2, e1]
 refine sif_r (fun h => ?_) (fun h => ?_)
 ·simp only [decide_eq_true_eq, gt_iff_lt] at h
  have := hK w (Ext.refl w)
  have hd : (l.drop n).length < 2 := by rw [List.length_drop]; omega
  match hdd : l.drop n, hd with
  | [], _ => rw [hdd] at this; exact this
  | [_], _ => rw [hdd] at this; exact this
  | _ :: _ :: _, hd => simp at hd; omega
 ·simp only [decide_eq_false_iff_not, gt_iff_lt] at h
  have h0 : n < l.length := by omega
  have h1 : n + 1 < l.length := by omega
  have hd : l.drop n = l[n] :: l[n + 1] :: l.drop (n + 2) := by
   rw [List.drop_eq_getElem_cons h0, List.drop_eq_getElem_cons h1]
  have ha := l[n].toNat_lt
  have hb := l[n + 1].toNat_lt
  rw [hd] at hK
  have g0 : l[(n : Int).toNat]? = some l[n] := by rw [Int.toNat_natCast]; simp [h0]
  have g1 : l[((n + 1 : Nat) : Int).toNat]? = some l[n + 1] := by rw [Int.toNat_natCast]; simp [h1]
  cases be with
  | false =>
   refine sif_r (fun _ => drew_r fun w1 e3 _ => ?_) (fun h => by cases h)
   have hB1 : By w1 s l := hB.ext e3
   refine ix_by hB1 (by omega) g0 fun p => ix_by hB1 (by omega) g1 fun p => ?_
   rw [wrap64 (a := (l[n].toNat : Int)) (by omega) (by omega), wrap64 (a := (l[n + 1].toNat : Int)) (by omega) (by omega), wrap64 (a := 256 * (l[n + 1].toNat : Int)) (by omega) (by omega), wrap64 (by omega) (by omega)]
   have : (l[n].toNat : Int) + 256 * (l[n + 1].toNat : Int) = unI false (l[n] :: l[n + 1] :: l.drop (n + 2)) := by
    show _ = ((l[n].toNat + l[n + 1].toNat * 256 : Nat) : Int); omega
   rw [this]; exact hK w1 e3
  | true =>
   refine sif_r (fun h => by cases h) (fun _ => drew_r fun w1 e3 _ => ?_)
   have hB1 : By w1 s l := hB.ext e3
   refine ix_by hB1 (by omega) g0 fun p => ix_by hB1 (by omega) g1 fun p => ?_
   rw [wrap64 (a := (l[n].toNat : Int)) (by omega) (by omega), wrap64 (a := (l[n + 1].toNat : Int)) (by omega) (by omega), wrap64 (a := 256 * (l[n].toNat : Int)) (by omega) (by omega), wrap64 (by omega) (by omega)]
   have : 256 * (l[n].toNat : Int) + (l[n + 1].toNat : Int) = unI true (l[n] :: l[n + 1] :: l.drop (n + 2)) := by
    show _ = ((l[n + 1].toNat + l[n].toNat * 256 : Nat) : Int); omega
   rw [this]; exact hK w1 e3
end
end Go.Proofs.YtabcpghhfeplaaaGreat
namespace Go.Proofs.YtabcpghhfeplaaaGreat
namespace Cdc
theorem ofNat_toNat (b : UInt8) : UInt8.ofNat b.toNat = b := by
 apply UInt8.toNat_inj.1
 rw [UInt8.toNat_ofNat']
 have := b.toNat_lt
 omega
theorem byte_of {n : Nat} {b : UInt8} (h : n = b.toNat) : UInt8.ofNat n = b := by rw [h, ofNat_toNat]
theorem sz8_nat {n : Nat} (h : Scalar (n : Int)) : sz8 (n : Int) = if n < 128 then 1 else if n < 2048 then 2 else if n < 65536 then 3 else 4 := by
 unfold sz8
 rw [if_neg (by rcases h with h | h <;> omega)]
 repeat' split
 all_goals first | rfl | omega
theorem pt8_1 {n : Nat} (h : n < 128) : pt8 (n : Int) = [UInt8.ofNat n] := by
 have hs : sz8 (n : Int) = 1 := by rw [sz8_nat (.inl (by omega)), if_pos h]
 unfold pt8
 rw [if_neg (by omega), if_pos hs, Int.toNat_natCast]
theorem pt8_2 {n : Nat} (h0 : 128 ≤ n) (h : n < 2048) : pt8 (n : Int) = [UInt8.ofNat (192 + n / 64), UInt8.ofNat (128 + n % 64)] := by
 have hs : sz8 (n : Int) = 2 := by rw [sz8_nat (.inl (by omega)), if_neg (by omega), if_pos h]
 unfold pt8
 rw [if_neg (by omega), hs, if_neg (by decide), Int.toNat_natCast]
 show [UInt8.ofNat (192 + n / 64), UInt8.ofNat (128 + n / 1 % 64)] = _
 rw [Nat.div_one]
theorem pt8_3 {n : Nat} (hs : Scalar (n : Int)) (h0 : 2048 ≤ n) (h : n < 65536) : pt8 (n : Int) = [UInt8.ofNat (224 + n / 4096), UInt8.ofNat (128 + n / 64 % 64), UInt8.ofNat (128 + n % 64)] := by
 have hs : sz8 (n : Int) = 3 := by rw [sz8_nat hs, if_neg (by omega), if_neg (by omega), if_pos h]
 unfold pt8
 rw [if_neg (by omega), hs, if_neg (by decide), Int.toNat_natCast]
 show [UInt8.ofNat (224 + n / 4096), UInt8.ofNat (128 + n / 64 % 64), UInt8.ofNat (128 + n / 1 % 64)] = _
 rw [Nat.div_one]
theorem pt8_4 {n : Nat} (h0 : 65536 ≤ n) (h : n < 1114112) : pt8 (n : Int) = [UInt8.ofNat (240 + n / 262144), UInt8.ofNat (128 + n / 4096 % 64), UInt8.ofNat (128 + n / 64 % 64), UInt8.ofNat (128 + n % 64)] := by
 have hs : sz8 (n : Int) = 4 := by rw [sz8_nat (.inr (by omega)), if_neg (by omega), if_neg (by omega), if_neg (by omega)]
 unfold pt8
 rw [if_neg (by omega), hs, if_neg (by decide), Int.toNat_natCast]
 show [UInt8.ofNat (240 + n / 262144), UInt8.ofNat (128 + n / 4096 % 64), UInt8.ofNat (128 + n / 64 % 64), UInt8.ofNat (128 + n / 1 % 64)] = _
 rw [Nat.div_one]
theorem cont_iff (c : UInt8) : cont c = true ↔ 128 ≤ c.toNat ∧ c.toNat < 192 := by
 unfold cont; simp; omega
theorem nx8_back {b : UInt8} {r : Bs} (h : 0 ≤ (nx8 (b :: r)).1) : Scalar (nx8 (b :: r)).1 ∧ pt8 (nx8 (b :: r)).1 = (b :: r).take (nx8 (b :: r)).2 ∧ sz8 (nx8 (b :: r)).1 = (nx8 (b :: r)).2 := by
 have hb := b.toNat_lt
 have h2 := rowOf_bnds b r
 simp only [nx8] at h ⊢
 by_cases hc : (rowOf (b :: r)).2 = 0 ∨ (rowOf (b :: r)).1 < (rowOf (b :: r)).2
 ·rw [if_pos hc] at h
  have : (0 : Int) ≤ -1 - (b.toNat : Int) := h
  omega
 rw [if_neg hc] at h ⊢
 obtain ⟨hn0, hle⟩ : ¬ (rowOf (b :: r)).2 = 0 ∧ ¬ (rowOf (b :: r)).1 < (rowOf (b :: r)).2 := ⟨fun h => hc (.inl h), fun h => hc (.inr h)⟩
 clear hc
 have two : ∀ {lo hi k : Nat}, bnds b.toNat = (k + 2, lo, hi) → ∃ c r', r = c :: r' ∧ lo ≤ c.toNat ∧ c.toNat ≤ hi ∧ k ≤ more k r' ∧ (rowOf (b :: r)).2 = k + 2 := by
  intro lo hi k hk
  rw [h2, hk] at hle
  cases r with
  | nil =>
   have e : rowOf [b] = (1, k + 2) := by simp only [rowOf, hk]; rw [if_neg (by omega)]
   rw [e] at hle; simp at hle
  | cons c r' =>
   have e : rowOf (b :: c :: r') = if c.toNat < lo ∨ hi < c.toNat then (1, k + 2) else (2 + more k r', k + 2) := by simp only [rowOf, hk]; rw [if_neg (by omega)]; rfl
   rw [e] at hle
   dsimp only at hle
   by_cases hcc : c.toNat < lo ∨ hi < c.toNat
   ·rw [if_pos hcc] at hle; simp at hle
   ·rw [if_neg hcc] at hle
    simp only at hle
    exact ⟨c, r', rfl, by omega, by omega, by omega, by rw [h2, hk]⟩
 have more1 : ∀ {r : Bs}, 1 ≤ more 1 r → ∃ d r', r = d :: r' ∧ 128 ≤ d.toNat ∧ d.toNat < 192 := by
  intro r hr
  cases r with
  | nil => simp [more] at hr
  | cons d r' =>
   by_cases hd : cont d = true
   ·exact ⟨d, r', rfl, (cont_iff d).1 hd⟩
   ·simp [more, hd] at hr
 have more2 : ∀ {r : Bs}, 2 ≤ more 2 r → ∃ d e r', r = d :: e :: r' ∧ 128 ≤ d.toNat ∧ d.toNat < 192 ∧ 128 ≤ e.toNat ∧ e.toNat < 192 := by
  intro r hr
  cases r with
  | nil => simp [more] at hr
  | cons d r' =>
   by_cases hd : cont d = true
   ·have hr' : 1 ≤ more 1 r' := by
     have e2 : more 2 (d :: r') = more 1 r' + 1 := by show (if cont d then more 1 r' + 1 else 0) = _; rw [if_pos hd]
     omega
    obtain ⟨e, r'', rfl, h1⟩ := more1 hr'
    exact ⟨d, e, r'', rfl, ((cont_iff d).1 hd).1, ((cont_iff d).1 hd).2, h1⟩
   ·simp [more, hd] at hr
 have fin2 : ∀ {lo hi : Nat}, bnds b.toNat = (2, lo, hi) → 194 ≤ b.toNat → b.toNat < 224 → 128 ≤ lo → hi ≤ 191 →
   Scalar ((rest (lead (rowOf (b :: r)).2 b.toNat) (r.take ((rowOf (b :: r)).2 - 1)) : Nat) : Int) ∧ pt8 ((rest (lead (rowOf (b :: r)).2 b.toNat) (r.take ((rowOf (b :: r)).2 - 1)) : Nat) : Int) = (b :: r).take (rowOf (b :: r)).2 ∧ sz8 ((rest (lead (rowOf (b :: r)).2 b.toNat) (r.take ((rowOf (b :: r)).2 - 1)) : Nat) : Int) = (rowOf (b :: r)).2 := by
  intro lo hi hk g1 g2 g3 g4
  obtain ⟨c, r', rfl, c1, c2, _, hn⟩ := two (k := 0) hk
  rw [hn]
  show Scalar (((b.toNat % 32 * 64 + c.toNat % 64 : Nat)) : Int) ∧ pt8 (((b.toNat % 32 * 64 + c.toNat % 64 : Nat)) : Int) = [b, c] ∧ sz8 (((b.toNat % 32 * 64 + c.toNat % 64 : Nat)) : Int) = 2
  have hS : Scalar (((b.toNat % 32 * 64 + c.toNat % 64 : Nat)) : Int) := .inl (by omega)
  refine ⟨hS, ?_, ?_⟩
  ·rw [pt8_2 (by omega) (by omega), byte_of (b := b) (by omega), byte_of (b := c) (by omega)]
  ·rw [sz8_nat hS, if_neg (by omega), if_pos (by omega)]
 have fin3 : ∀ {lo hi : Nat}, bnds b.toNat = (3, lo, hi) → 224 ≤ b.toNat → b.toNat < 240 → 128 ≤ lo → hi ≤ 191 → (b.toNat = 224 → 160 ≤ lo) → (b.toNat = 237 → hi ≤ 159) →
   Scalar ((rest (lead (rowOf (b :: r)).2 b.toNat) (r.take ((rowOf (b :: r)).2 - 1)) : Nat) : Int) ∧ pt8 ((rest (lead (rowOf (b :: r)).2 b.toNat) (r.take ((rowOf (b :: r)).2 - 1)) : Nat) : Int) = (b :: r).take (rowOf (b :: r)).2 ∧ sz8 ((rest (lead (rowOf (b :: r)).2 b.toNat) (r.take ((rowOf (b :: r)).2 - 1)) : Nat) : Int) = (rowOf (b :: r)).2 := by
  intro lo hi hk g1 g2 g3 g4 g5 g6
  obtain ⟨c, r', rfl, c1, c2, hm, hn⟩ := two (k := 1) hk
  obtain ⟨d, r'', rfl, d1, d2⟩ := more1 hm
  rw [hn]
  show Scalar ((((b.toNat % 16 * 64 + c.toNat % 64) * 64 + d.toNat % 64 : Nat)) : Int) ∧ pt8 ((((b.toNat % 16 * 64 + c.toNat % 64) * 64 + d.toNat % 64 : Nat)) : Int) = [b, c, d] ∧ sz8 ((((b.toNat % 16 * 64 + c.toNat % 64) * 64 + d.toNat % 64 : Nat)) : Int) = 3
  have hS : Scalar ((((b.toNat % 16 * 64 + c.toNat % 64) * 64 + d.toNat % 64 : Nat)) : Int) := by
   unfold Scalar
   by_cases h7 : b.toNat = 237
   ·have := g6 h7; omega
   ·omega
  have hlow : 2048 ≤ (b.toNat % 16 * 64 + c.toNat % 64) * 64 + d.toNat % 64 := by
   by_cases h4 : b.toNat = 224
   ·have := g5 h4; omega
   ·omega
  refine ⟨hS, ?_, ?_⟩
  ·rw [pt8_3 hS hlow (by omega), byte_of (b := b) (by omega), byte_of (b := c) (by omega), byte_of (b := d) (by omega)]
  ·rw [sz8_nat hS, if_neg (by omega), if_neg (by omega), if_pos (by omega)]
 have fin4 : ∀ {lo hi : Nat}, bnds b.toNat = (4, lo, hi) → 240 ≤ b.toNat → b.toNat < 245 → 128 ≤ lo → hi ≤ 191 → (b.toNat = 240 → 144 ≤ lo) → (b.toNat = 244 → hi ≤ 143) →
   Scalar ((rest (lead (rowOf (b :: r)).2 b.toNat) (r.take ((rowOf (b :: r)).2 - 1)) : Nat) : Int) ∧ pt8 ((rest (lead (rowOf (b :: r)).2 b.toNat) (r.take ((rowOf (b :: r)).2 - 1)) : Nat) : Int) = (b :: r).take (rowOf (b :: r)).2 ∧ sz8 ((rest (lead (rowOf (b :: r)).2 b.toNat) (r.take ((rowOf (b :: r)).2 - 1)) : Nat) : Int) = (rowOf (b :: r)).2 := by
  intro lo hi hk g1 g2 g3 g4 g5 g6
  obtain ⟨c, r', rfl, c1, c2, hm, hn⟩ := two (k := 2) hk
  obtain ⟨d, e, r'', rfl, d1, d2, e1, e2⟩ := more2 hm
  rw [hn]
  show Scalar (((((b.toNat % 8 * 64 + c.toNat % 64) * 64 + d.toNat % 64) * 64 + e.toNat % 64 : Nat)) : Int) ∧ pt8 (((((b.toNat % 8 * 64 + c.toNat % 64) * 64 + d.toNat % 64) * 64 + e.toNat % 64 : Nat)) : Int) = [b, c, d, e] ∧ sz8 (((((b.toNat % 8 * 64 + c.toNat % 64) * 64 + d.toNat % 64) * 64 + e.toNat % 64 : Nat)) : Int) = 4
  have hlow : 65536 ≤ ((b.toNat % 8 * 64 + c.toNat % 64) * 64 + d.toNat % 64) * 64 + e.toNat % 64 := by
   by_cases h4 : b.toNat = 240
   ·have := g5 h4; omega
   ·omega
  have hhigh : ((b.toNat % 8 * 64 + c.toNat % 64) * 64 + d.toNat % 64) * 64 + e.toNat % 64 < 1114112 := by
   by_cases h4 : b.toNat = 244
   ·have := g6 h4; omega
   ·omega
  have hS : Scalar (((((b.toNat % 8 * 64 + c.toNat % 64) * 64 + d.toNat % 64) * 64 + e.toNat % 64 : Nat)) : Int) := .inr (by omega)
  refine ⟨hS, ?_, ?_⟩
  ·rw [pt8_4 hlow hhigh, byte_of (b := b) (by omega), byte_of (b := c) (by omega), byte_of (b := d) (by omega), byte_of (b := e) (by omega)]
  ·rw [sz8_nat hS, if_neg (by omega), if_neg (by omega), if_neg (by omega)]
 by_cases k1 : b.toNat < 128
 ·have hk : bnds b.toNat = (1, 0, 0) := by unfold bnds; rw [if_pos k1]
  have hn : (rowOf (b :: r)).2 = 1 := by rw [h2, hk]
  rw [hn]
  show Scalar ((b.toNat : Nat) : Int) ∧ pt8 ((b.toNat : Nat) : Int) = [b] ∧ sz8 ((b.toNat : Nat) : Int) = 1
  have hS : Scalar ((b.toNat : Nat) : Int) := .inl (by omega)
  exact ⟨hS, by rw [pt8_1 k1, ofNat_toNat], by rw [sz8_nat hS, if_pos k1]⟩
 by_cases k2 : b.toNat < 194
 ·exact absurd (by rw [h2]; unfold bnds; rw [if_neg k1, if_pos k2]) hn0
 by_cases k3 : b.toNat < 224
 ·exact fin2 (lo := 128) (hi := 191) (by unfold bnds; rw [if_neg k1, if_neg k2, if_pos k3]) (by omega) k3 (by omega) (by omega)
 by_cases k4 : b.toNat = 224
 ·exact fin3 (lo := 160) (hi := 191) (by unfold bnds; rw [if_neg k1, if_neg k2, if_neg k3, if_pos k4]) (by omega) (by omega) (by omega) (by omega) (fun _ => by omega) (fun h => by omega)
 by_cases k5 : b.toNat = 237
 ·exact fin3 (lo := 128) (hi := 159) (by unfold bnds; rw [if_neg k1, if_neg k2, if_neg k3, if_neg k4, if_pos k5]) (by omega) (by omega) (by omega) (by omega) (fun h => by omega) (fun _ => by omega)
 by_cases k6 : b.toNat < 240
 ·exact fin3 (lo := 128) (hi := 191) (by unfold bnds; rw [if_neg k1, if_neg k2, if_neg k3, if_neg k4, if_neg k5, if_pos k6]) (by omega) (by omega) (by omega) (by omega) (fun h => by omega) (fun h => by omega)
 by_cases k7 : b.toNat = 240
 ·exact fin4 (lo := 144) (hi := 191) (by unfold bnds; rw [if_neg k1, if_neg k2, if_neg k3, if_neg k4, if_neg k5, if_neg k6, if_pos k7]) (by omega) (by omega) (by omega) (by omega) (fun _ => by omega) (fun h => by omega)
 by_cases k8 : b.toNat < 244
 ·exact fin4 (lo := 128) (hi := 191) (by unfold bnds; rw [if_neg k1, if_neg k2, if_neg k3, if_neg k4, if_neg k5, if_neg k6, if_neg k7, if_pos k8]) (by omega) (by omega) (by omega) (by omega) (fun h => by omega) (fun h => by omega)
 by_cases k9 : b.toNat = 244
 ·exact fin4 (lo := 128) (hi := 143) (by unfold bnds; rw [if_neg k1, if_neg k2, if_neg k3, if_neg k4, if_neg k5, if_neg k6, if_neg k7, if_neg k8, if_pos k9]) (by omega) (by omega) (by omega) (by omega) (fun h => by omega) (fun _ => by omega)
 ·exact absurd (by rw [h2]; unfold bnds; rw [if_neg k1, if_neg k2, if_neg k3, if_neg k4, if_neg k5, if_neg k6, if_neg k7, if_neg k8, if_neg k9]) hn0
def leadN (n : Nat) : Int := if n = 2 then 192 else if n = 3 then 224 else if n = 4 then 240 else 0
def goOn (a : Int) (l : Bs) : Int := l.foldl (fun a c => a * 64 + (c.toNat : Int) - 128) a
def meantP (n : Nat) : Bs → Int
 | [] => 0
 | b :: r => goOn ((b.toNat : Int) - leadN n) (r.take (n - 1))
theorem meant_pt {a : Int} (h : Scalar a) (r : Bs) : meantP (sz8 a) (pt8 a ++ r) = a := by
 obtain ⟨n, rfl⟩ : ∃ n : Nat, a = (n : Int) := Int.eq_ofNat_of_zero_le (by rcases h with h | h <;> omega)
 have hs := sz8_nat h
 by_cases k1 : n < 128
 ·rw [if_pos k1] at hs
  rw [hs, pt8_1 k1]
  show goOn (((UInt8.ofNat n).toNat : Int) - 0) [] = _
  rw [byte_nat (by omega)]; show ((n : Int) - 0) = n; omega
 by_cases k2 : n < 2048
 ·rw [if_neg k1, if_pos k2] at hs
  rw [hs, pt8_2 (by omega) k2]
  show (((UInt8.ofNat (192 + n / 64)).toNat : Int) - 192) * 64 + ((UInt8.ofNat (128 + n % 64)).toNat : Int) - 128 = _
  rw [byte_nat (by omega), byte_nat (by omega)]; omega
 by_cases k3 : n < 65536
 ·rw [if_neg k1, if_neg k2, if_pos k3] at hs
  rw [hs, pt8_3 h (by omega) k3]
  show ((((UInt8.ofNat (224 + n / 4096)).toNat : Int) - 224) * 64 + ((UInt8.ofNat (128 + n / 64 % 64)).toNat : Int) - 128) * 64 + ((UInt8.ofNat (128 + n % 64)).toNat : Int) - 128 = _
  rw [byte_nat (by omega), byte_nat (by omega), byte_nat (by omega)]; omega
 ·rw [if_neg k1, if_neg k2, if_neg k3] at hs
  have h' : n < 1114112 := by rcases h with h | h <;> omega
  rw [hs, pt8_4 (by omega) h']
  show (((((UInt8.ofNat (240 + n / 262144)).toNat : Int) - 240) * 64 + ((UInt8.ofNat (128 + n / 4096 % 64)).toNat : Int) - 128) * 64 + ((UInt8.ofNat (128 + n / 64 % 64)).toNat : Int) - 128) * 64 + ((UInt8.ofNat (128 + n % 64)).toNat : Int) - 128 = _
  rw [byte_nat (by omega), byte_nat (by omega), byte_nat (by omega), byte_nat (by omega)]; omega
def Hit (r : Bs) (n : Nat) : Prop := Scalar (meantP n r) ∧ r.take (pt8 (meantP n r)).length = pt8 (meantP n r) ∧ (pt8 (meantP n r)).length = n
theorem hit_nx {r : Bs} {n : Nat} (h : Hit r n) : nx8 r = (meantP n r, n) := by
 obtain ⟨h1, h2, h3⟩ := h
 have e : r = pt8 (meantP n r) ++ r.drop (pt8 (meantP n r)).length := by
  conv => lhs; rw [← List.take_append_drop (pt8 (meantP n r)).length r, h2]
 have := nx8_pt h1 (r.drop (pt8 (meantP n r)).length)
 rw [← e] at this
 have hl : (pt8 (meantP n r)).length = sz8 (meantP n r) := pt_len .u8 _ (fun h0 => by
  have h4 : sz8 (meantP n r) ≠ 0 := by
   unfold sz8
   rw [if_neg (by rcases h1 with h | h <;> omega)]
   repeat' split
   all_goals decide
  exact h4 h0)
 rw [this, ← hl, h3]
theorem nx_hit {b : UInt8} {r : Bs} (h : 0 ≤ (nx8 (b :: r)).1) : Hit (b :: r) (nx8 (b :: r)).2 ∧ meantP (nx8 (b :: r)).2 (b :: r) = (nx8 (b :: r)).1 := by
 obtain ⟨h1, h2, h3⟩ := nx8_back h
 have hsz := nx8_size b r
 have hl : (pt8 (nx8 (b :: r)).1).length = (nx8 (b :: r)).2 := by rw [h2, List.length_take]; omega
 have hm : meantP (nx8 (b :: r)).2 (b :: r) = (nx8 (b :: r)).1 := by
  have := meant_pt h1 ((b :: r).drop (nx8 (b :: r)).2)
  rw [h2, List.take_append_drop, h3] at this
  exact this
 refine ⟨⟨?_, ?_, ?_⟩, hm⟩
 ·rw [hm]; exact h1
 ·rw [hm, hl]; exact h2.symm
 ·rw [hm, hl]
theorem nx_neg {b : UInt8} {r : Bs} (h : ¬ 0 ≤ (nx8 (b :: r)).1) : nx8 (b :: r) = (-1 - (b.toNat : Int), 1) := by
 simp only [nx8] at h ⊢
 split at h
 ·rename_i hc; rw [if_pos hc]
 ·exact absurd (Int.natCast_nonneg _) h
end Cdc
end Go.Proofs.YtabcpghhfeplaaaGreat
namespace Go.Proofs.YtabcpghhfeplaaaGreat
open Go Go.Vx Cdc Trx
section
variable {w w' : World} {S : Nat → Prop} {p : Nat} {e : Enc} {lim na : Nat} {O : Nat → Prop} {M : Parts}
theorem eParts : ElemOk Tryz.prog 108 112 7 64 := ElemOk.of (z := .agg #[.slice none 0 0, .int .i64 0, .int .i64 0, .int .i64 0, .int .i64 0, .bool false, .bool false]) i108_ok i112_ok rfl rfl rfl (by decide)
def bOf (M : Parts) : Bs := M.flatMap fun x => x.2
theorem bOf_app (M N : Parts) : bOf (M ++ N) = bOf M ++ bOf N := by simp [bOf]
theorem Pc_one (x : Pc) : ∀ v ∈ flat c112 [pcT x], isOne v = true := by
 intro v hv
 rw [flat_one] at hv
 have : v ∈ (Cells.vals c112 (pcT x)) := hv
 revert this
 show v ∈ [_, _, _, _, _, _, _] → _
 intro h
 simp only [List.mem_cons, List.not_mem_nil, or_false] at h
 rcases h with rfl | rfl | rfl | rfl | rfl | rfl | rfl <;> rfl
set_option maxHeartbeats 1000000 in
theorem open_call {s : Sl} {l : Bs} (hB : By w s l) (hl : l.length ≤ lim) (hlim : lim ≤ 65536) {K : Option Addr × Int × Unit → World → Prop}
  (hK : ∀ p O M w', Txt w' p e lim 0 O M → aOf e M = ats e l → bOf M = l → Ext w w' → (∀ k, O k → w.heap.size ≤ k) → K (some (at0 p), 0, ()) w') :
  callT Tryz.prog 35 #[.int .i64 e.num, .slice s.a s.len s.cap, .int .i64 (lim : Int)] (.tup [(.one .ptr), (.one (.int .i64))]) K w := by
 refine F35_calls ?_
 unfold F35
 have hlen := hB.len
 have hen : 1 ≤ e.num ∧ e.num ≤ 4 := by cases e <;> decide
 refine join_r (fun x w' => x = (false, ()) ∧ w = w') (sif_r (fun h => ?_) (fun h => ⟨by rw [decide_eq_false (by omega)], rfl⟩)) ?_
 ·simp only [decide_eq_true_eq] at h; omega
 rintro _ _ ⟨rfl, rfl⟩
 refine sif_false (join_r (fun x w' => x = (false, ()) ∧ w = w') (sif_r (fun h => ?_) (fun h => ⟨by rw [decide_eq_false (by omega)], rfl⟩)) ?_)
 ·simp only [decide_eq_true_eq] at h; omega
 rintro _ _ ⟨rfl, rfl⟩
 refine sif_false (sif_r (fun h => ?_) (fun _ => ?_))
 ·simp only [decide_eq_true_eq, gt_iff_lt] at h; omega
 refine makeSlice_r EBy.ts_ i5_ok (z := .int .u8 0) rfl rfl (by omega) (by show ((s.len : Nat) : Int) * 1 ≤ 2 ^ 48; omega) (by omega) fun b w1 c n1 hc1 _ e1 hb1 => ?_
 rw [Int.toNat_natCast] at hc1 ⊢
 have hc1' : c.size = s.len := by rw [hc1]; show s.len * 1 = _; omega
 refine copy_r (off := 0) EBy.ts_ i5_ok.run_size n1 (by rw [List.length_map]; omega) (hB.ext e1).x (Nat.le_refl _) (bv_one l) fun w2 n2 u2 _ => ?_
 rw [setRow_whole (bv l) c (by rw [List.length_map]; omega)] at n2
 have e2 : Ext w w2 := e1.step u2 fun k hk => by omega
 have hL : By w2 ⟨some (at0 b), s.len, s.len⟩ l := by
  have := SlIn.of_box n2 (n := s.len) (sz := 1) (by simp; omega)
  simpa using this
 refine (St.start w2).newO fun b7 w3 S3 e3 => ?_
 have hb7 := S3.ge 0 rfl
 let Zt : Option Addr → Obj := fun q => .cells #[.int .i64 e.num, .int .i64 (lim : Int), .pointer q, .slice none 0 0] 107 (0, 0)
 let Lp : Nat → Sl → World → Prop := fun j r W => ∃ (its : List Pc) (M : Parts), St (fun _ => False) w2 W [(b7, Zt none)] ∧ SlOwn W w3.heap.size r 112 7 (flat c112 (its.map pcT)) ∧ Its W e its M ∧ aOf e M = (ats e l).take j ∧ bOf M = l.take (szs ((ats e l).take j)) ∧
  (∀ x ∈ its, ∀ k, x.bytes.blk k → k = b) ∧ By W ⟨some (at0 b), s.len, s.len⟩ l ∧ its.length ≤ j ∧ w3.heap.size ≤ W.heap.size
 have hne : ∀ {r : Sl} {its : List Pc} {W : World}, SlOwn W w3.heap.size r 112 7 (flat c112 (its.map pcT)) → its.length = r.len := fun ho => by
  have := SlOwn.lenR (cs := c112) ho (by decide)
  rwa [List.length_map] at this
 refine join_r (fun x W => ∃ j, Lp j x.1 W ∧ (ats e l).take j = ats e l) ?_ ?_
 ·refine sloop_r (fun x W => ∃ j, j ≤ (ats e l).length ∧ x.2 = (((szs ((ats e l).take j) : Nat) : Int), ()) ∧ Lp j x.1 W) (fun x _ => ((l.length : Int) - x.2.1).toNat) ⟨0, Nat.zero_le _, rfl, [], [], S3, SlOwn.nil _ _ _ _, trivial, rfl, rfl, (fun _ h => by cases h), hL.ext e3, Nat.le_refl _, Nat.le_refl _⟩ ?_
  rintro ⟨r, _⟩ W4 ⟨j, hj, rfl, its, M, S4, ho, hi, ha, hb, hk, hL4, hil, hW4⟩
  have hsj : szs ((ats e l).take j) ≤ l.length := pos_le j
  dsimp only at ho ⊢
  refine sif_r (fun hc => ?_) (fun hc => ?_)
  ·simp only [decide_eq_true_eq] at hc
   have hc' : szs ((ats e l).take j) < l.length := by omega
   refine join_r (fun x W => ∃ q, 1 ≤ q ∧ j + q ≤ (ats e l).length ∧ x = (((szs ((ats e l).take (j + q)) : Nat) : Int), ()) ∧ Ext W4 W) ?_ ?_
   ·refine sloop_r (fun x W => ∃ q, j + q ≤ (ats e l).length ∧ q ≤ 128 ∧ x = (((szs ((ats e l).take (j + q)) : Nat) : Int), (q : Int), ()) ∧ Ext W4 W) (fun x _ => ((l.length : Int) - x.1).toNat) ⟨0, by omega, by omega, rfl, Ext.refl W4⟩ ?_
    rintro _ W5 ⟨q, hq, hq2, rfl, x5⟩
    have hsq : szs ((ats e l).take (j + q)) ≤ l.length := pos_le _
    refine join_r (fun x W => x = (decide (szs ((ats e l).take (j + q)) < l.length ∧ q < 128), ()) ∧ W5 = W) ?_ ?_
    ·refine sif_r (fun h => ⟨tupb ?_, rfl⟩) (fun h => ⟨tupb ?_, rfl⟩)
     ·simp only [decide_eq_true_eq] at h ⊢; omega
     ·simp only [decide_eq_false_iff_not, decide_eq_true_eq] at h ⊢
      exact ⟨(fun h => by cases h), fun h => by omega⟩
    rintro _ W6 ⟨rfl, rfl⟩
    refine sif_r (fun h => ?_) (fun h => ?_)
    ·simp only [decide_eq_true_eq] at h
     obtain ⟨a, m, hqa, hnx, htk, hss, hm1, hsl⟩ := pos_step (e := e) (l := l) (j := j + q) h.1
     have hql : j + q < (ats e l).length := (List.getElem?_eq_some_iff.1 hqa).1
     refine next_call (hL4.ext x5) h.1 fun W7 x7 => ?_
     rw [hnx]
     have ewa : IntKind.wrap .i64 (((szs ((ats e l).take (j + q)) : Nat) : Int) + (m : Int)) = ((szs ((ats e l).take (j + q + 1)) : Nat) : Int) := by rw [wrap64 (by omega) (by omega)]; omega
     have ewb : IntKind.wrap .i64 ((q : Int) + 1) = ((q + 1 : Nat) : Int) := by rw [wrap64 (by omega) (by omega)]; omega
     refine ⟨⟨q + 1, by omega, by omega, by dsimp only; rw [ewa, ewb]; rfl, x5.trans x7⟩, ?_⟩
     dsimp only
     rw [ewa]; omega
    ·refine ⟨q, ?_, hq, rfl, x5⟩
     rcases Nat.eq_zero_or_pos q with h0 | h0
     ·subst h0
      have h' : ¬ (szs ((ats e l).take (j + 0)) < l.length ∧ 0 < 128) := fun hh => by rw [decide_eq_true hh] at h; cases h
      exact absurd ⟨hc', by decide⟩ h'
     ·exact h0
   ·rintro _ W5 ⟨q, hq1, hjq, rfl, x5⟩
    have S5 := S4.ext x5
    have hsq : szs ((ats e l).take (j + q)) ≤ l.length := pos_le _
    have hadd : szs ((ats e l).take (j + q)) = szs ((ats e l).take j) + szs (((ats e l).drop j).take q) := by rw [List.take_add, szs_append]
    have hpq := ((ats_posd e l).drop j).take q
    have hqpos : 1 ≤ szs (((ats e l).drop j).take q) := by
     have := szs_ge hpq
     rw [List.length_take, List.length_drop] at this; omega
    obtain ⟨pb, hpb⟩ : ∃ pb : Bs, pb = (l.drop (szs ((ats e l).take j))).take (szs (((ats e l).drop j).take q)) := ⟨_, rfl⟩
    have hpa : ats e pb = ((ats e l).drop j).take q := by
     have h1 := (ats_cut e j l).2
     have h2 := (ats_cut e q (l.drop (szs ((ats e l).take j)))).1
     rw [h1] at h2
     rw [hpb]; exact h2
    have hpl : pb.length = szs (((ats e l).drop j).take q) := by rw [← hpa, szs_all]
    have hL5 := hL4.ext x5
    have hcut := By.cut hL5 (l := ((szs ((ats e l).take j) : Nat) : Int)) (h := ((szs ((ats e l).take (j + q)) : Nat) : Int)) (m := ((szs ((ats e l).take (j + q)) : Nat) : Int)) (by omega) (by omega) (by show _ ≤ ((s.len : Nat) : Int); omega) (by omega) (by show _ ≤ ((s.len : Nat) : Int); omega)
    have hcb : (l.drop ((szs ((ats e l).take j) : Nat) : Int).toNat).take (((szs ((ats e l).take (j + q)) : Nat) : Int).toNat - ((szs ((ats e l).take j) : Nat) : Int).toNat) = pb := by
     rw [hpb, Int.toNat_natCast, Int.toNat_natCast, hadd, Nat.add_sub_cancel_left]
    rw [hcb] at hcut
    refine chk_r (by omega) (newpart_call hcut (by omega) fun W6 x6 => ?_)
    have S6 := S5.ext x6
    refine S6.newO fun b21 W7 S7 x7 => ?_
    have x47 := (x5.trans x6).trans x7
    have hrl := hne ho
    have hi7 : Its W7 e its M := hi.ext x47
    have hx : PcIn W7 e (mkPc e (Sl.cut (some (at0 b)) ((szs ((ats e l).take j) : Nat) : Int) ((szs ((ats e l).take (j + q)) : Nat) : Int) ((szs ((ats e l).take (j + q)) : Nat) : Int) 1) ((szs ((ats e l).take j) : Nat) : Int) pb) (((szs ((ats e l).take j) : Nat) : Int), pb) :=
     ⟨hcut.ext (x6.trans x7), rfl, rfl, fun h0 => by have h0' : pb = [] := h0; rw [h0'] at hpl; simp at hpl; omega, by show -1 ≤ ((szs ((ats e l).take j) : Nat) : Int); omega, by show ((szs ((ats e l).take j) : Nat) : Int) + (pb.length : Int) ≤ 2 ^ 40; omega⟩
    generalize hpc : mkPc e (Sl.cut (some (at0 b)) ((szs ((ats e l).take j) : Nat) : Int) ((szs ((ats e l).take (j + q)) : Nat) : Int) ((szs ((ats e l).take (j + q)) : Nat) : Int) 1) ((szs ((ats e l).take j) : Nat) : Int) pb = xp at *
    have hxb : ∀ k, xp.bytes.blk k → k = b := by
     rw [← hpc]
     rintro k hk
     obtain ⟨pp, hp1, hp2⟩ := cut_blk (s := ⟨some (at0 b), s.len, s.len⟩) hk
     cases hp1; exact hp2.symm
    have hbox : SlX W7 ⟨some (at0 b21), 1, 1⟩ 7 (flat c112 [pcT xp]) := by
     have := SlIn.of_box (S7.at_ 0 rfl) (n := 1) (sz := 7) rfl
     exact this.x
    refine append_rx eParts eParts.ts_ (x := ⟨some (at0 b21), 1, 1⟩) (ho.ext x47) hbox (Pc_one xp) (by
     show (r.len + 1 + (r.len + 1) / 4 + 512) * 64 ≤ 2 ^ 48
     have := szs_ge (ats_posd e l)
     rw [szs_all] at this
     omega) (by have := x47.size; omega) fun r' W8 o8 l8 u8 k8 => ?_
    have hty : ∀ {t' : TypeId}, 112 ≠ t' → NoTy W7 r.blk t' := fun ht => NoTy.blk (ho.ext x47).in ht
    have st8 : St (fun _ => False) w2 W8 [(b7, Zt none)] := by
     refine S7.tail.fresh u8 (fun k hk => .inr ?_) (fun x hx hk => ?_)
     ·have := ho.blk_ge hk; have := e3.size; omega
     ·rw [List.mem_singleton.1 hx] at hk
      exact hty (by decide) _ hk _ _ (S7.at_ 1 rfl)
    have e8 : flat c112 (its.map pcT) ++ flat c112 [pcT xp] = flat c112 ((its ++ [xp]).map pcT) := by rw [List.map_append, flat_append]; rfl
    rw [e8] at o8
    have hi8 : Its W8 e (its ++ [xp]) (M ++ [(((szs ((ats e l).take j) : Nat) : Int), pb)]) := by
     have h9 : Its W7 e (its ++ [xp]) (M ++ [(((szs ((ats e l).take j) : Nat) : Int), pb)]) := hi7.app ⟨hx, trivial⟩
     refine h9.upd u8 fun x hx k hk hS => ?_
     obtain ⟨y, hy⟩ : ∃ y, PcIn W7 e x y := by
      obtain ⟨n, hn⟩ := List.getElem?_of_mem hx
      obtain ⟨y, _, hy⟩ := h9.get n hn
      exact ⟨y, hy⟩
     obtain ⟨c2, fr2, hc2⟩ := hy.by_.blk_cells hk
     exact hty (t' := 5) (by decide) k hS _ _ hc2
    refine ⟨⟨j + q, hjq, rfl, its ++ [xp], M ++ [_], st8, o8, hi8, ?_, ?_, ?_, ?_, ?_, ?_⟩, ?_⟩
    ·rw [aOf_app, ha, List.take_add]
     show _ ++ aOf e [_] = _
     simp only [aOf, List.flatMap_cons, List.flatMap_nil, List.append_nil]
     rw [hpa]
    ·rw [bOf_app, hb, hadd, List.take_add]
     show _ ++ bOf [_] = _
     simp only [bOf, List.flatMap_cons, List.flatMap_nil, List.append_nil]
     rw [hpb]
    ·intro x hx k hkk
     rcases List.mem_append.1 hx with hx | hx
     ·exact hk x hx k hkk
     ·rw [List.mem_singleton.1 hx] at hkk; exact hxb k hkk
    ·exact SlIn.ty (hL5.ext (x6.trans x7)) u8 (hty (by decide))
    ·rw [List.length_append]; simp; omega
    ·have := u8.size; have := x47.size; omega
    ·dsimp only
     omega
  ·simp only [decide_eq_false_iff_not] at hc
   have := pos_end (e := e) (l := l) (j := j) (by omega)
   exact ⟨j, ⟨its, M, S4, ho, hi, ha, hb, hk, hL4, hil, hW4⟩, this⟩
 ·rintro ⟨r, _⟩ W4 ⟨j, ⟨its, M, S4, ho, hi, ha, hb, hk, hL4, hil, hW4⟩, hj⟩
  rw [hj] at ha hb
  have hM : szs (aOf e M) = l.length := by rw [ha, szs_all]
  have hfine := hi.fine (by omega)
  refine treeOf_call (l := its) ho.in hfine fun t W5 ht hti x5 => nn_some ?_
  have S5 := S4.ext x5
  rw [addr_add]
  refine aggSt_r (S5.at_ 0 rfl) rfl rfl (by show 0 + 2 + 1 ≤ 4; decide) fun W6 u56 n6' z6 => ?_
  have n6 : W6.heap[b7]? = some (Zt t.ptr) := n6'
  have hb0 : w.heap.size ≤ b := by omega
  have hb0' : w.heap.size ≤ b7 := by have := e2.size; omega
  have e06 : Ext w W6 := (e2.trans S5.upd).step u56 fun k hk => by omega
  refine hK b7 (fun k => k = b ∨ k = b7) M W6 ⟨⟨t, ⟨none, 0, 0⟩, [], n6, ?_, ?_, SlOwn.nil _ _ _ _, ?_, ?_, ?_, Nat.le_refl _⟩, hlim, by omega, .inr rfl, ?_⟩ ha (by rw [hb, szs_all]; exact List.take_length) e06 (by rintro k (rfl | rfl) <;> assumption)
  ·exact ht.ty u56 (NoTy.box (S5.at_ 0 rfl) (by decide))
  ·rw [hti]
   refine (hi.ext x5).upd u56 fun x hx k hkk he => ?_
   have := hk x hx k hkk
   have hbl := lt_of_heap n2
   omega
  ·rintro x hx k hkk ⟨q, hq, _⟩; cases hq
  ·intro x hx k hkk
   rw [hti] at hx
   exact .inl (hk x hx k hkk)
  ·rintro k ⟨q, hq, _⟩; cases hq
  ·have hbl := lt_of_heap n2
   have h7 := lt_of_heap n6
   have := S5.upd.size
   rintro k (rfl | rfl) <;> omega
end
section
variable {w w' : World}
theorem bv_lit {b : Nat} {c : Array Value} {l : Bs} (h : w.heap[b]? = some (.cells c 5 (0, 0))) (hc : c.toList = bv l) : By w ⟨some (at0 b), l.length, l.length⟩ l := by
 have hs : c.size = l.length * 1 := by rw [← Array.length_toList, hc, List.length_map]; omega
 have := SlIn.of_box h (n := l.length) (sz := 1) hs
 rw [hc] at this
 exact this
theorem lit_byte {n : Int} {m : Nat} (hm : m < 256) (h : n = (m : Int)) : Value.int .u8 (IntKind.wrap .u8 n) = Value.int .u8 ((UInt8.ofNat m).toNat : Int) := by
 rw [h, byte_nat hm, wrap8 (by omega) (by omega)]
theorem eight_call {a : Int} (ha : Scalar a) {K : Sl → World → Prop} (hK : ∀ s w', By w' s (pt8 a) → Ext w w' → K s w') : callT Tryz.prog 118 #[.int .i64 a] (.one (.one .sl)) K w := by
 refine F118_calls ?_
 unfold F118
 obtain ⟨n, rfl⟩ : ∃ n : Nat, a = (n : Int) := Int.eq_ofNat_of_zero_le (by rcases ha with h | h <;> omega)
 have td : ∀ m : Nat, Int.tdiv (n : Int) ((m : Nat) : Int) = ((n / m : Nat) : Int) := fun m => by rw [Int.tdiv_eq_ediv_of_nonneg (by omega)]; rfl
 have tm : ∀ k m : Nat, Int.tmod (k : Int) ((m : Nat) : Int) = ((k % m : Nat) : Int) := fun k m => by rw [Int.tmod_eq_emod_of_nonneg (by omega)]; rfl
 have d64 := td 64; have d4096 := td 4096; have d262144 := td 262144
 have hn : n < 1114112 := by rcases ha with h | h <;> omega
 refine sif_r (fun h => ?_) (fun h => sif_r (fun h2 => ?_) (fun h2 => sif_r (fun h3 => ?_) (fun h3 => ?_)))
 ·simp only [decide_eq_true_eq] at h
  refine newO_r fun b w1 e1 n1 _ _ => hK _ w1 ?_ e1
  have := bv_lit (l := pt8 (n : Int)) n1 (by rw [pt8_1 (by omega)]; show [_] = [_]; rw [lit_byte (m := n) (by omega) rfl])
  rw [pt8_1 (by omega)] at this ⊢
  exact this
 ·simp only [decide_eq_true_eq, decide_eq_false_iff_not] at h h2
  refine chk_r (by decide) (chk_r (by decide) (newO_r fun b w1 e1 n1 _ _ => hK _ w1 ?_ e1))
  have := bv_lit (l := pt8 (n : Int)) n1 (by
   rw [pt8_2 (by omega) (by omega)]
   show [_, _] = [_, _]
   have e1 := td 64; have e2 := tm n 64
   simp only [Int.cast_ofNat_Int] at e1 e2
   rw [e1, e2, wrap64 (a := ((n / 64 : Nat) : Int)) (by omega) (by omega), wrap64 (by omega) (by omega), wrap64 (by omega) (by omega), lit_byte (m := 192 + n / 64) (by omega) (by omega), lit_byte (m := 128 + n % 64) (by omega) (by omega)])
  rw [pt8_2 (by omega) (by omega)] at this ⊢
  exact this
 ·simp only [decide_eq_true_eq, decide_eq_false_iff_not] at h h2 h3
  refine chk_r (by decide) (chk_r (by decide) (chk_r (by decide) (chk_r (by decide) (newO_r fun b w1 e1 n1 _ _ => hK _ w1 ?_ e1))))
  have := bv_lit (l := pt8 (n : Int)) n1 (by
   rw [pt8_3 ha (by omega) (by omega)]
   show [_, _, _] = [_, _, _]
   have e1 := td 64; have e2 := tm n 64; have e3 := td 4096; have e4 := tm (n / 64) 64
   simp only [Int.cast_ofNat_Int] at e1 e2 e3 e4
   rw [e1, e2, e3, wrap64 (a := ((n / 64 : Nat) : Int)) (by omega) (by omega), wrap64 (a := ((n / 4096 : Nat) : Int)) (by omega) (by omega), e4, wrap64 (by omega) (by omega), wrap64 (by omega) (by omega), wrap64 (by omega) (by omega), lit_byte (m := 224 + n / 4096) (by omega) (by omega), lit_byte (m := 128 + n / 64 % 64) (by omega) (by omega), lit_byte (m := 128 + n % 64) (by omega) (by omega)])
  rw [pt8_3 ha (by omega) (by omega)] at this ⊢
  exact this
 ·simp only [decide_eq_false_iff_not] at h h2 h3
  refine chk_r (by decide) (chk_r (by decide) (chk_r (by decide) (chk_r (by decide) (chk_r (by decide) (chk_r (by decide) (newO_r fun b w1 e1 n1 _ _ => hK _ w1 ?_ e1))))))
  have := bv_lit (l := pt8 (n : Int)) n1 (by
   rw [pt8_4 (by omega) (by omega)]
   show [_, _, _, _] = [_, _, _, _]
   have e1 := td 64; have e2 := tm n 64; have e3 := td 4096; have e4 := tm (n / 64) 64; have e5 := td 262144; have e6 := tm (n / 4096) 64
   simp only [Int.cast_ofNat_Int] at e1 e2 e3 e4 e5 e6
   rw [e1, e2, e3, e5, wrap64 (a := ((n / 64 : Nat) : Int)) (by omega) (by omega), wrap64 (a := ((n / 4096 : Nat) : Int)) (by omega) (by omega), wrap64 (a := ((n / 262144 : Nat) : Int)) (by omega) (by omega), e4, e6, wrap64 (by omega) (by omega), wrap64 (by omega) (by omega), wrap64 (by omega) (by omega), wrap64 (by omega) (by omega),
    lit_byte (m := 240 + n / 262144) (by omega) (by omega), lit_byte (m := 128 + n / 4096 % 64) (by omega) (by omega), lit_byte (m := 128 + n / 64 % 64) (by omega) (by omega), lit_byte (m := 128 + n % 64) (by omega) (by omega)])
  rw [pt8_4 (by omega) (by omega)] at this ⊢
  exact this
theorem begins_call {s t : Sl} {l m : Bs} {n : Nat} (hs : By w s l) (ht : By w t m) (hn : n ≤ l.length) (hl : l.length < 2 ^ 60) (hm : m.length < 2 ^ 60) {K : Bool → World → Prop} (hK : ∀ w', Ext w w' → K (decide ((l.drop n).take m.length = m)) w') :
  callT Tryz.prog 119 #[.slice s.a s.len s.cap, .int .i64 (n : Int), .slice t.a t.len t.cap] (.one (.one .bool)) K w := by
 refine F119_calls ?_
 unfold F119
 have h1 := hs.len; have h2 := ht.len
 rw [wrap64 (by omega) (by omega)]
 refine sif_r (fun h => ?_) (fun h => ?_)
 ·simp only [decide_eq_true_eq, gt_iff_lt] at h
  have := hK w (Ext.refl w)
  rw [decide_eq_false] at this
  ·exact this
  ·intro hc
   have := congrArg List.length hc
   rw [List.length_take, List.length_drop] at this; omega
 simp only [decide_eq_false_iff_not, gt_iff_lt] at h
 refine join_r (fun _ w' => Ext w w' ∧ (l.drop n).take m.length = m) ?_ ?_
 ·refine sloop_r (fun x w' => ∃ i : Nat, i ≤ m.length ∧ x = ((i : Int), ()) ∧ Ext w w' ∧ (l.drop n).take i = m.take i) (fun x _ => ((m.length : Int) - x.1).toNat) ⟨0, Nat.zero_le _, rfl, Ext.refl w, by simp⟩ ?_
  rintro _ w1 ⟨i, hi, rfl, e1, heq⟩
  refine sif_r (fun hc => ?_) (fun hc => ?_)
  ·simp only [decide_eq_true_eq] at hc
   have him : i < m.length := by omega
   have hil : n + i < l.length := by omega
   have ew : IntKind.wrap .i64 ((n : Int) + (i : Int)) = ((n + i : Nat) : Int) := by rw [wrap64 (by omega) (by omega)]; omega
   rw [ew]
   refine drew_r fun w2 e2 _ => ix_by (hs.ext (e1.trans e2)) (by omega) (b := l[n + i]) (by rw [Int.toNat_natCast]; simp [hil]) fun p => ix_by (ht.ext (e1.trans e2)) (by omega) (b := m[i]) (by rw [Int.toNat_natCast]; simp [him]) fun q => ?_
   have g1 : (l.drop n)[i]? = some l[n + i] := by rw [List.getElem?_drop]; simp [hil]
   refine sif_r (fun hne => ?_) (fun hne => ?_)
   ·simp only [bne_iff_ne] at hne
    have := hK w2 (e1.trans e2)
    rw [decide_eq_false] at this
    ·exact this
    ·intro hc2
     have h5 : ((l.drop n).take m.length)[i]? = m[i]? := by rw [hc2]
     rw [List.getElem?_take, if_pos him, g1, List.getElem?_eq_getElem him] at h5
     exact hne (by rw [Option.some.inj h5])
   ·have hne' : ((l[n + i].toNat : Int) != (m[i].toNat : Int)) = false := hne
    simp only [bne_eq_false_iff_eq] at hne'
    have hbe : l[n + i] = m[i] := UInt8.toNat_inj.1 (by omega)
    have ew2 : IntKind.wrap .i64 ((i : Int) + 1) = ((i + 1 : Nat) : Int) := by rw [wrap64 (by omega) (by omega)]; omega
    refine ⟨⟨i + 1, by omega, by rw [ew2], e1.trans e2, ?_⟩, ?_⟩
    ·rw [List.take_add_one, List.take_add_one, heq, g1, List.getElem?_eq_getElem him, hbe]
    ·dsimp only
     rw [ew2]; omega
  ·simp only [decide_eq_false_iff_not] at hc
   have : i = m.length := by omega
   subst this
   exact ⟨e1, by rw [heq, List.take_length]⟩
 ·rintro _ w1 ⟨e1, heq⟩
  have := hK w1 e1
  rwa [decide_eq_true heq] at this
theorem goOn_bound : ∀ (l : Bs) (a : Int), l.length ≤ 3 → -1000 ≤ a → a ≤ 1000 → -1000000000 ≤ goOn a l ∧ goOn a l ≤ 1000000000 := by
 intro l a hl h0 h1
 match l, hl with
 | [], _ => exact ⟨by show -1000000000 ≤ a; omega, by show a ≤ 1000000000; omega⟩
 | [x], _ => have := x.toNat_lt; exact ⟨by show _ ≤ a * 64 + (x.toNat : Int) - 128; omega, by show a * 64 + (x.toNat : Int) - 128 ≤ _; omega⟩
 | [x, y], _ => have := x.toNat_lt; have := y.toNat_lt; exact ⟨by show _ ≤ (a * 64 + (x.toNat : Int) - 128) * 64 + (y.toNat : Int) - 128; omega, by show (a * 64 + (x.toNat : Int) - 128) * 64 + (y.toNat : Int) - 128 ≤ _; omega⟩
 | [x, y, z], _ => have := x.toNat_lt; have := y.toNat_lt; have := z.toNat_lt; exact ⟨by show _ ≤ ((a * 64 + (x.toNat : Int) - 128) * 64 + (y.toNat : Int) - 128) * 64 + (z.toNat : Int) - 128; omega, by show ((a * 64 + (x.toNat : Int) - 128) * 64 + (y.toNat : Int) - 128) * 64 + (z.toNat : Int) - 128 ≤ _; omega⟩
theorem goOn_snoc (a : Int) (l : Bs) (x : UInt8) : goOn a (l ++ [x]) = goOn a l * 64 + (x.toNat : Int) - 128 := by simp [goOn]
theorem meant_call {s : Sl} {b : UInt8} {l r : Bs} {n m : Nat} (hs : By w s l) (hl : l.length < 2 ^ 60) (hr : l.drop n = b :: r) (hm0 : 1 ≤ m) (hm4 : m ≤ 4) (hm : n + m ≤ l.length) {K : Int → World → Prop} (hK : ∀ w', Ext w w' → K (meantP m (b :: r)) w') :
    callT Tryz.prog 116 #[.slice s.a s.len s.cap, .int .i64 (n : Int), .int .i64 (m : Int)] (.one (.one (.int .i64))) K w := by
  refine F116_calls ?_
  unfold F116
  have h1 := hs.len
  have hb := b.toNat_lt
  have hnl : n < l.length := by omega
  have hrl : r.length = l.length - n - 1 := by
    have := congrArg List.length hr
    rw [List.length_drop, List.length_cons] at this; omega
  have g0 : l[n]? = some b := by
    have := congrArg (fun x => x[0]?) hr
    simp only [List.getElem?_drop, List.getElem?_cons_zero, Nat.add_zero] at this
    exact this
  have gi : ∀ i, l[n + (i + 1)]? = r[i]? := fun i => by
    have := congrArg (fun x => x[i + 1]?) hr
    simp only [List.getElem?_drop, List.getElem?_cons_succ] at this
    exact this
  refine (St.start w).newAgg rfl rfl rfl fun b1 w1 S1 e1 => S1.drew fun w2 S2 e2 _ => ix_by (hs.ext S2.upd) (by omega) (b := b) (by rw [Int.toNat_natCast]; exact g0) fun p => chk_r (by omega) ?_
  rw [addr_add, scaled_eq, Int.toNat_natCast]
  have hlead : (#[(.int .i64 (0 : Int)), (.int .i64 (0 : Int)), (.int .i64 (192 : Int)), (.int .i64 (224 : Int)), (.int .i64 (240 : Int))] : Array Value)[0 + m * 1]? = some (.int .i64 (leadN m)) := by
    match m, hm0, hm4 with
    | 1, _, _ => rfl
    | 2, _, _ => rfl
    | 3, _, _ => rfl
    | 4, _, _ => rfl
  have hlb : 0 ≤ leadN m ∧ leadN m ≤ 240 := by unfold leadN; repeat' split
                                               all_goals omega
  refine ld_r (S2.at_ 0 rfl) (x := leadN m) hlead ?_
  rw [wrap64 (a := (b.toNat : Int)) (by omega) (by omega), wrap64 (a := (b.toNat : Int) - leadN m) (by omega) (by omega)]
  refine join_r (fun x w' => x = (meantP m (b :: r), ()) ∧ Ext w w') ?_ ?_
  · refine sloop_r (fun x w' => ∃ i : Nat, 1 ≤ i ∧ i ≤ m ∧ x = (goOn ((b.toNat : Int) - leadN m) (r.take (i - 1)), (i : Int), ()) ∧ Ext w w') (fun x _ => ((m : Int) - x.2.1).toNat) ⟨1, by omega, by omega, rfl, S2.upd⟩ ?_
    rintro _ w3 ⟨i, hi1, him, rfl, e3⟩
    refine sif_r (fun hc => ?_) (fun hc => ?_)
    · simp only [decide_eq_true_eq] at hc
      have ew : IntKind.wrap .i64 ((n : Int) + (i : Int)) = ((n + i : Nat) : Int) := by rw [wrap64 (by omega) (by omega)]; omega
      rw [ew]
      have hil : n + i < l.length := by omega
      refine ix_by (hs.ext e3) (by omega) (b := l[n + i]) (by rw [Int.toNat_natCast]; simp [hil]) fun q => ?_
      have hxb := l[n + i].toNat_lt
      have hg : r[i - 1]? = some l[n + i] := by
        rw [← gi (i - 1), show n + (i - 1 + 1) = n + i by omega]; simp [hil]
      have hbd := goOn_bound (r.take (i - 1)) ((b.toNat : Int) - leadN m) (by rw [List.length_take]; omega) (by omega) (by omega)
      have hsn : goOn ((b.toNat : Int) - leadN m) (r.take (i + 1 - 1)) = goOn ((b.toNat : Int) - leadN m) (r.take (i - 1)) * 64 + (l[n + i].toNat : Int) - 128 := by
        rw [show i + 1 - 1 = (i - 1) + 1 by omega, List.take_add_one, hg]
        exact goOn_snoc _ _ _
      have ew2 : IntKind.wrap .i64 ((i : Int) + 1) = ((i + 1 : Nat) : Int) := by rw [wrap64 (by omega) (by omega)]; omega
      rw [wrap64 (a := goOn ((b.toNat : Int) - leadN m) (r.take (i - 1)) * 64) (by omega) (by omega), wrap64 (a := (l[n + i].toNat : Int)) (by omega) (by omega), wrap64 (a := goOn ((b.toNat : Int) - leadN m) (r.take (i - 1)) * 64 + (l[n + i].toNat : Int)) (by omega) (by omega), wrap64 (a := goOn ((b.toNat : Int) - leadN m) (r.take (i - 1)) * 64 + (l[n + i].toNat : Int) - 128) (by omega) (by omega), ew2]
      refine ⟨⟨i + 1, by omega, by omega, ?_, e3⟩, ?_⟩
      · rw [hsn]
      · dsimp only; omega
    · simp only [decide_eq_false_iff_not] at hc
      have : i = m := by omega
      subst this
      exact ⟨rfl, e3⟩
  · rintro _ w3 ⟨rfl, e3⟩
    exact hK w3 e3
theorem eightAt_call {s : Sl} {l : Bs} {n : Nat} (hs : By w s l) (hl : l.length < 2 ^ 60) (hn : n < l.length) {K : Int × Int × Unit → World → Prop} (hK : ∀ w', Ext w w' → K ((nx8 (l.drop n)).1, ((nx8 (l.drop n)).2 : Nat), ()) w') :
  callT Tryz.prog 83 #[.slice s.a s.len s.cap, .int .i64 (n : Int)] (.tup [(.one (.int .i64)), (.one (.int .i64))]) K w := by
 refine F83_calls ?_
 unfold F83
 have h1 := hs.len
 obtain ⟨b, r, hr⟩ : ∃ b r, l.drop n = b :: r := ⟨_, _, List.drop_eq_getElem_cons hn⟩
 have hb := b.toNat_lt
 have hrl : r.length = l.length - n - 1 := by
  have := congrArg List.length hr
  rw [List.length_drop, List.length_cons] at this; omega
 have g0 : l[n]? = some b := by
  have := congrArg (fun x => x[0]?) hr
  simp only [List.getElem?_drop, List.getElem?_cons_zero, Nat.add_zero] at this
  exact this
 rw [hr] at hK
 have hsz := nx8_size b r
 refine join_r (fun _ w' => Ext w w' ∧ ¬ 0 ≤ (nx8 (b :: r)).1) ?_ ?_
 ·refine sloop_r (fun x w' => ∃ i : Nat, 1 ≤ i ∧ i ≤ 5 ∧ x = ((i : Int), ()) ∧ Ext w w' ∧ (0 ≤ (nx8 (b :: r)).1 → i ≤ (nx8 (b :: r)).2)) (fun x _ => ((5 : Int) - x.1).toNat) ⟨1, by omega, by omega, rfl, Ext.refl w, fun _ => hsz.1⟩ ?_
  rintro _ w1 ⟨i, hi1, hi5, rfl, e1, hno⟩
  refine join_r (fun x w' => x = (decide (i ≤ 4 ∧ n + i ≤ l.length), ()) ∧ w1 = w') ?_ ?_
  ·refine sif_r (fun h => ⟨tupb ?_, rfl⟩) (fun h => ⟨tupb ?_, rfl⟩)
   ·simp only [decide_eq_true_eq] at h ⊢
    rw [wrap64 (by omega) (by omega)]; omega
   ·simp only [decide_eq_false_iff_not, decide_eq_true_eq] at h ⊢
    exact ⟨(fun h => by cases h), fun h => by omega⟩
  rintro _ w2 ⟨rfl, rfl⟩
  refine sif_r (fun h => ?_) (fun h => ?_)
  ·simp only [decide_eq_true_eq] at h
   have ew : IntKind.wrap .i64 ((i : Int) + 1) = ((i + 1 : Nat) : Int) := by rw [wrap64 (by omega) (by omega)]; omega
   refine join_r (fun _ w' => Ext w w' ∧ ¬ Hit (b :: r) i) ?_ ?_
   ·refine meant_call (hs.ext e1) hl hr hi1 h.1 h.2 fun w3 e3 => ?_
    refine rscalar_call (fun hS => sif_r (fun h => by cases h) (fun _ => ?_)) (fun hS => sif_r (fun _ => ⟨e1.trans e3, fun hh => hS hh.1⟩) (fun h => by cases h))
    refine eight_call hS fun t w4 ht e4 => ?_
    have hpl : (pt8 (meantP i (b :: r))).length ≤ 4 := by
     have hne : sz8 (meantP i (b :: r)) ≠ 0 ∧ sz8 (meantP i (b :: r)) ≤ 4 := by
      unfold sz8
      rw [if_neg (by rcases hS with h | h <;> omega)]
      repeat' split
      all_goals decide
     have := pt_len .u8 _ hne.1
     show (pt .u8 _).length ≤ 4
     rw [this]; exact hne.2
    refine begins_call (hs.ext ((e1.trans e3).trans e4)) ht (by omega) hl (by omega) fun w5 e5 => ?_
    rw [hr]
    have htl := ht.len
    have e15 := ((e1.trans e3).trans e4).trans e5
    refine join_r (fun x w' => (x.1 = true ↔ Hit (b :: r) i) ∧ w5 = w') ?_ ?_
    ·refine sif_r (fun h => ⟨?_, rfl⟩) (fun h => ⟨?_, rfl⟩)
     ·simp only [beq_iff_eq] at h
      simp only [decide_eq_true_eq]
      exact ⟨fun hh => ⟨hS, hh, by omega⟩, fun hh => hh.2.1⟩
     ·simp only [beq_eq_false_iff_ne] at h
      exact ⟨(fun h => by cases h), fun hh => by have := hh.2.2; omega⟩
    rintro ⟨x, _⟩ w6 ⟨hx, rfl⟩
    refine sif_r (fun hh => ?_) (fun hh => ⟨e15, fun hit => by have h1 := hx.2 hit; have h2 : x = false := hh; rw [h2] at h1; cases h1⟩)
    have hit := hx.1 hh
    have := hK w5 e15
    rw [hit_nx hit] at this
    exact this
   ·rintro _ w3 ⟨e3, hno2⟩
    refine ⟨⟨i + 1, by omega, by omega, by rw [ew], e3, fun h0 => ?_⟩, ?_⟩
    ·have := hno h0
     rcases Nat.lt_or_ge i (nx8 (b :: r)).2 with h2 | h2
     ·omega
     ·have : i = (nx8 (b :: r)).2 := by omega
      subst this
      exact absurd (nx_hit h0).1 hno2
    ·dsimp only
     rw [ew]; omega
  ·simp only [decide_eq_false_iff_not] at h
   refine ⟨e1, fun h0 => h ?_⟩
   have h2 := hno h0
   have h3 := hsz.2.1
   rw [List.length_cons] at h3
   omega
 ·rintro _ w1 ⟨e1, hneg⟩
  refine ix_by (hs.ext e1) (by omega) (b := b) (by rw [Int.toNat_natCast]; exact g0) fun p => ?_
  have := hK w1 e1
  rw [nx_neg hneg] at this
  rw [wrap64 (a := (b.toNat : Int)) (by omega) (by omega), wrap64 (by omega) (by omega)]
  exact this
theorem rat_call {e : Enc} {s : Sl} {l : Bs} {n : Nat} (hs : By w s l) (hl : l.length < 2 ^ 59) (hn : n < l.length) {K : Int × Int × Unit → World → Prop} (hK : ∀ w', Ext w w' → K ((nx e (l.drop n)).1, ((nx e (l.drop n)).2 : Nat), ()) w') :
  callT Tryz.prog 62 #[.int .i64 e.num, .slice s.a s.len s.cap, .int .i64 (n : Int)] (.tup [(.one (.int .i64)), (.one (.int .i64))]) K w := by
 refine F62_calls ?_
 unfold F62
 have h1 := hs.len
 obtain ⟨b, r, hr⟩ : ∃ b r, l.drop n = b :: r := ⟨_, _, List.drop_eq_getElem_cons hn⟩
 have hb := b.toNat_lt
 have g0 : l[n]? = some b := by
  have := congrArg (fun x => x[0]?) hr
  simp only [List.getElem?_drop, List.getElem?_cons_zero, Nat.add_zero] at this
  exact this
 have six : ∀ be : Bool, e.num = (if be then 3 else 2) → nx e = nx16 be →
   callT Tryz.prog 84 #[.int .i64 e.num, .slice s.a s.len s.cap, .int .i64 (n : Int)] (.one (.one (.int .i64))) (fun (x4 : Int) => sif (decide (x4 < (0 : Int))) (
    ix s.a s.len (n : Int) fun p5 =>
    ld (.int .u8) (p5.add (scaled (Int.toNat (n : Int)) 1)) fun (x6 : Int) =>
    K ((IntKind.wrap .i64 ((-1 : Int) - (IntKind.wrap .i64 x6))), (1 : Int), ())) (
    callT Tryz.prog 84 #[(.int .i64 e.num), (.slice s.a s.len s.cap), (.int .i64 (IntKind.wrap .i64 ((n : Int) + (2 : Int))))] (.one (.one (.int .i64))) fun (x7 : Int) =>
    join (S := Bool × Unit) (fun J8 =>
     sif (decide (x4 ≥ (55296 : Int))) (
      sif (decide (x4 < (56320 : Int))) (
       sif (decide (x7 ≥ (56320 : Int))) (
        J8 ((decide (x7 < (57344 : Int))), ())) (
        J8 (false, ()))) (
       J8 (false, ()))) (
      J8 (false, ()))) fun (s9 : Bool × Unit) =>
    sif s9.1 (
     K ((IntKind.wrap .i64 ((IntKind.wrap .i64 ((IntKind.wrap .i64 ((65536 : Int) + (IntKind.wrap .i64 ((IntKind.wrap .i64 (x4 - (55296 : Int))) * (1024 : Int))))) + x7)) - (56320 : Int))), (4 : Int), ())) (
     K (x4, (2 : Int), ())))) w := by
  intro be hbe hnx
  rw [hbe]
  rw [hnx] at hK
  refine runit_call hs (by omega) (by omega) fun w1 e1 => ?_
  rw [hr] at hK ⊢
  have e2 : IntKind.wrap .i64 ((n : Int) + 2) = ((n + 2 : Nat) : Int) := by rw [wrap64 (by omega) (by omega)]; omega
  rw [e2]
  cases r with
  | nil =>
   refine sif_r (fun _ => ?_) (fun h => by cases h)
   refine ix_by (hs.ext e1) (by omega) (b := b) (by rw [Int.toNat_natCast]; exact g0) fun p => ?_
   rw [wrap64 (a := (b.toNat : Int)) (by omega) (by omega), wrap64 (by omega) (by omega)]
   exact hK w1 e1
  | cons c r' =>
   have hc := c.toNat_lt
   have hu : un be b c < 65536 := by unfold un; split <;> omega
   have hx4 : unI be (b :: c :: r') = ((un be b c : Nat) : Int) := rfl
   refine sif_r (fun h => by simp only [decide_eq_true_eq] at h; omega) (fun _ => ?_)
   refine runit_call (hs.ext e1) (by omega) (by omega) fun w2 e3 => ?_
   have e12 := e1.trans e3
   have hd2 : l.drop (n + 2) = r' := by
    have := congrArg (List.drop 2) hr
    rw [List.drop_drop] at this
    simpa using this
   rw [hd2]
   refine join_r (fun x w' => (x.1 = true ↔ (un be b c / 1024 = 54 ∧ ∃ d f r'', r' = d :: f :: r'' ∧ un be d f / 1024 = 55)) ∧ w2 = w') ?_ ?_
   ·have key : ∀ x7, x7 = unI be r' → ((56320 ≤ x7 ∧ x7 < 57344) ↔ ∃ d f r'', r' = d :: f :: r'' ∧ un be d f / 1024 = 55) := by
     rintro x7 rfl
     match r' with
     | [] => exact ⟨fun h => by have h' : (56320 : Int) ≤ -1 := h.1; omega, by rintro ⟨d, f, r'', h, _⟩; cases h⟩
     | [d] => exact ⟨fun h => by have h' : (56320 : Int) ≤ -1 := h.1; omega, by rintro ⟨d, f, r'', h, _⟩; cases h⟩
     | d :: f :: r'' =>
      show ((56320 : Int) ≤ ((un be d f : Nat) : Int) ∧ ((un be d f : Nat) : Int) < 57344) ↔ _
      constructor
      ·intro h; exact ⟨d, f, r'', rfl, by omega⟩
      ·rintro ⟨d', f', r3, h, hu⟩; cases h; omega
    have key' := key _ rfl
    refine sif_r (fun h => sif_r (fun h2 => sif_r (fun h3 => ⟨?_, rfl⟩) (fun h3 => ⟨?_, rfl⟩)) (fun h2 => ⟨?_, rfl⟩)) (fun h => ⟨?_, rfl⟩)
    all_goals (try simp only [decide_eq_true_eq, decide_eq_false_iff_not, ge_iff_le] at h)
    all_goals (try simp only [decide_eq_true_eq, decide_eq_false_iff_not, ge_iff_le] at h2)
    all_goals (try simp only [decide_eq_true_eq, decide_eq_false_iff_not, ge_iff_le] at h3)
    all_goals (try simp only [decide_eq_true_eq])
    all_goals have hx4 : unI be (b :: c :: r') = ((un be b c : Nat) : Int) := rfl
    ·rw [← key']
     constructor
     ·intro h4; exact ⟨by clear key key'; omega, h3, h4⟩
     ·intro h4; exact h4.2.2
    ·rw [← key']
     exact ⟨(fun h => by cases h), fun h4 => absurd h4.2.1 h3⟩
    ·exact ⟨(fun h => by cases h), fun h4 => by have := h4.1; clear key key' h4; omega⟩
    ·exact ⟨(fun h => by cases h), fun h4 => by have := h4.1; clear key key' h4; omega⟩
   rintro ⟨x, _⟩ w3 ⟨hx, rfl⟩
   refine sif_r (fun h => ?_) (fun h => ?_)
   ·obtain ⟨h54, d, f, r'', rfl, h55⟩ := hx.1 h
    have hd := d.toNat_lt; have hf := f.toNat_lt
    have hv : un be d f < 65536 := by unfold un; split <;> omega
    have := hK w2 e12
    show K ((IntKind.wrap .i64 ((IntKind.wrap .i64 ((IntKind.wrap .i64 ((65536 : Int) + (IntKind.wrap .i64 ((IntKind.wrap .i64 (((un be b c : Nat) : Int) - (55296 : Int))) * (1024 : Int))))) + ((un be d f : Nat) : Int))) - (56320 : Int))), (4 : Int), ()) w2
    rw [wrap64 (a := ((un be b c : Nat) : Int) - 55296) (by omega) (by omega), wrap64 (a := (((un be b c : Nat) : Int) - 55296) * 1024) (by omega) (by omega), wrap64 (a := (65536 : Int) + _) (by omega) (by omega), wrap64 (a := (65536 : Int) + _ + _) (by omega) (by omega), wrap64 (by omega) (by omega)]
    have e4 : nx16 be (b :: c :: d :: f :: r'') = (65536 + ((un be b c % 1024 * 1024 + un be d f % 1024 : Nat) : Int), 4) := by
     simp only [nx16]; rw [if_pos h54, if_pos h55]
    rw [e4] at this
    have e5 : (65536 : Int) + (((un be b c : Nat) : Int) - 55296) * 1024 + ((un be d f : Nat) : Int) - 56320 = 65536 + ((un be b c % 1024 * 1024 + un be d f % 1024 : Nat) : Int) := by omega
    rw [e5]
    exact this
   ·have h : ¬ (un be b c / 1024 = 54 ∧ ∃ d f r'', r' = d :: f :: r'' ∧ un be d f / 1024 = 55) := fun hh => by have h1 := hx.2 hh; have h2 : x = false := h; rw [h2] at h1; cases h1
    have := hK w2 e12
    have e4 : nx16 be (b :: c :: r') = (((un be b c : Nat) : Int), 2) := by
     simp only [nx16]
     split
     ·rename_i h54
      split
      ·rename_i d f r''
       rw [if_neg (fun h55 => h ⟨h54, _, _, _, rfl, h55⟩)]
      ·rfl
     ·rfl
    rw [e4] at this
    exact this
 cases e with
 | u8 =>
  refine sif_r (fun _ => ?_) (fun h => by cases h)
  exact eightAt_call hs (by omega) hn fun w1 e1 => hK w1 e1
 | le => exact sif_r (fun h => by cases h) (fun _ => sif_r (fun h => by cases h) (fun _ => six false rfl rfl))
 | be => exact sif_r (fun h => by cases h) (fun _ => sif_r (fun h => by cases h) (fun _ => six true rfl rfl))
 | l1 =>
  refine sif_r (fun h => by cases h) (fun _ => sif_r (fun _ => ?_) (fun h => by cases h))
  refine ix_by hs (by omega) (b := b) (by rw [Int.toNat_natCast]; exact g0) fun p => ?_
  rw [wrap64 (a := (b.toNat : Int)) (by omega) (by omega)]
  have := hK w (Ext.refl w)
  rw [hr] at this
  exact this
theorem decode_call {e : Enc} {s : Sl} {l : Bs} (hs : By w s l) (hl : l.length < 2 ^ 40) {K : Sl × Int × Unit → World → Prop} (hK : ∀ s' w', SlOwn w' w.heap.size s' 3 1 (iv (atoms (ats e l))) → Ext w w' → K (s', 0, ()) w') :
  callT Tryz.prog 34 #[.int .i64 e.num, .slice s.a s.len s.cap] (.tup [(.one .sl), (.one (.int .i64))]) K w := by
 refine F34_calls ?_
 unfold F34
 have h1 := hs.len
 refine known_call (sif_r (fun h => by cases h) (fun _ => ?_))
 refine join_r (fun x w' => SlOwn w' w.heap.size x.1 3 1 (iv (atoms (ats e l))) ∧ Ext w w') ?_ (fun x w' h => hK _ _ h.1 h.2)
 refine sloop_r (fun x w' => ∃ j, j ≤ (ats e l).length ∧ x.2 = (((szs ((ats e l).take j) : Nat) : Int), ()) ∧ SlOwn w' w.heap.size x.1 3 1 (iv (atoms ((ats e l).take j))) ∧ Ext w w') (fun x _ => ((l.length : Int) - x.2.1).toNat) ⟨0, Nat.zero_le _, rfl, SlOwn.nil _ _ _ _, Ext.refl w⟩ ?_
 rintro ⟨r, _⟩ w1 ⟨j, hj, rfl, ho, e1⟩
 have hsj : szs ((ats e l).take j) ≤ l.length := pos_le j
 have hol := ho.len1
 dsimp only at ho hol ⊢
 rw [List.length_map, List.length_map, List.length_take] at hol
 refine sif_r (fun hc => ?_) (fun hc => ?_)
 ·simp only [decide_eq_true_eq] at hc
  obtain ⟨a, m, hqa, hnx, htk, hss, hm1, hsl⟩ := pos_step (e := e) (l := l) (j := j) (by omega)
  have hql : j < (ats e l).length := (List.getElem?_eq_some_iff.1 hqa).1
  refine rat_call (hs.ext e1) (by omega) (by omega) fun w2 e2 => ?_
  rw [hnx]
  refine newO_r fun b w3 e3 n3 hb3 hz3 => ?_
  have hal := szs_ge (ats_posd e l)
  rw [szs_all] at hal
  refine append_rx eInts eInts.ts_ (x := ⟨some (at0 b), 1, 1⟩) (ho.ext (e2.trans e3)) (iv_box n3) (fun v hv => by rw [List.mem_singleton.1 hv]; rfl) (by
   show (r.len + 1 + (r.len + 1) / 4 + 512) * 8 ≤ 2 ^ 48
   omega) (by have := e1.size; have := e2.size; omega) fun s' w4 o4 l4 u4 b4 => ?_
  have e4 : iv (atoms ((ats e l).take j)) ++ [.int .i64 a] = iv (atoms ((ats e l).take (j + 1))) := by rw [htk]; simp
  rw [e4] at o4
  have ew : IntKind.wrap .i64 (((szs ((ats e l).take j) : Nat) : Int) + (m : Int)) = ((szs ((ats e l).take (j + 1)) : Nat) : Int) := by rw [wrap64 (by omega) (by omega)]; omega
  refine ⟨⟨j + 1, by omega, by dsimp only; rw [ew], o4, ((e1.trans e2).trans e3).step u4 fun k hk => ho.blk_ge hk⟩, ?_⟩
  dsimp only
  rw [ew]; omega
 ·simp only [decide_eq_false_iff_not] at hc
  have := pos_end (e := e) (l := l) (j := j) (by omega)
  rw [this] at ho
  exact ⟨ho, e1⟩
end
end Go.Proofs.YtabcpghhfeplaaaGreat
namespace Go.Proofs.YtabcpghhfeplaaaGreat
open Go Go.Vx
noncomputable def F9 (a0 : (Int × Sl × Unit)) (a1 : (Int × Sl × Unit)) (a2 : Sl) (K : Bool → World → Prop) : World → Prop :=
 newO (.cells #[(.int .i64 a0.1), (.slice a0.2.1.a a0.2.1.len a0.2.1.cap)] 24) fun b1 =>
 newO (.cells #[(.int .i64 a1.1), (.slice a1.2.1.a a1.2.1.len a1.2.1.cap)] 24) fun b2 =>
 lds c24 (at0 b1) fun (x3 : (Int × Sl × Unit)) =>
 lds c24 (at0 b2) fun (x4 : (Int × Sl × Unit)) =>
 callT Tryz.prog 25 #[(.agg (Cells.vals c24 x3).toArray), (.agg (Cells.vals c24 x4).toArray), (.slice a2.a a2.len a2.cap), (.int .i64 (4 : Int)), (.int .i64 (4 : Int))] (.one (.one .bool)) fun (x5 : Bool) =>
 K x5
noncomputable def h9 : Hint := (hS (hR 3) (hS (hR 5) hL))
theorem F9_calls {a0 : (Int × Sl × Unit)} {a1 : (Int × Sl × Unit)} {a2 : Sl} {K : Bool → World → Prop} {w : World} (h : F9 a0 a1 a2 K w) : callT Tryz.prog 9 #[(.agg (Cells.vals c24 a0).toArray), (.agg (Cells.vals c24 a1).toArray), (.slice a2.a a2.len a2.cap)] (.one (.one .bool)) K w := tied tabOk Tryz.func9 h9 [(.agg (Cells.vals c24 a0).toArray), (.agg (Cells.vals c24 a1).toArray), (.slice a2.a a2.len a2.cap)] (by kernel_rfl) h
noncomputable def F16 (a0 : (Int × Sl × Unit)) (K : ((Option Addr × Sl × Unit) × Bool × Unit) → World → Prop) : World → Prop :=
 newO (.cells #[(.int .i64 a0.1), (.slice a0.2.1.a a0.2.1.len a0.2.1.cap)] 24) fun b1 =>
 newO (.cells #[(.pointer none), (.slice none 0 0)] 28) fun b2 =>
 ld (.int .i64) (at0 b1) fun (x3 : Int) =>
 join (S := Sl × Unit) (fun J4 =>
 sloop (S := Sl × Int × Unit) (fun (s6 : Sl × Int × Unit) again7 =>
 join (S := Bool × Unit) (fun J8 =>
 ld (.sl) (⟨b1, 1, none⟩ : Addr) fun (x10 : Sl) =>
 sif (decide (s6.2.1 < ((x10.len : Nat) : Int))) (
 J8 ((decide (s6.2.1 < (50000 : Int))), ())) (
 J8 (false, ()))) fun (s9 : Bool × Unit) =>
 sif s9.1 (
 ld (.sl) (⟨b1, 1, none⟩ : Addr) fun (x11 : Sl) =>
 ix x11.a x11.len s6.2.1 fun p12 =>
 ld (.int .u8) (p12.add (scaled (Int.toNat s6.2.1) 1)) fun (x13 : Int) =>
 newO (.cells #[(.int .u8 x13)] 5) fun b14 =>
 rawT Tryz.prog (.one (.one .sl)) (Builtin.append_ #[22, 22] 22 #[(.slice s6.1.a s6.1.len s6.1.cap), (.slice (some (at0 b14)) 1 1)]) fun (x15 : Sl) =>
 again7 (x15, (IntKind.wrap .i64 (s6.2.1 + (1 : Int))), ())) (
 J4 (s6.1, ()))) (⟨none, 0, 0⟩, (0 : Int), ())) fun (s5 : Sl × Unit) =>
 callT Tryz.prog 34 #[(.int .i64 (IntKind.wrap .i64 ((1 : Int) + (IntKind.wrap .i64 ((BitVec.toNat (BitVec.ofInt (IntKind.bits .i64) x3 &&& BitVec.ofInt (IntKind.bits .i64) (3 : Int)) : Nat) : Int))))), (.slice s5.1.a s5.1.len s5.1.cap)] (.tup [(.one .sl), (.one (.int .i64))]) fun (x16 : (Sl × Int × Unit)) =>
 callT Tryz.prog 35 #[(.int .i64 (IntKind.wrap .i64 ((1 : Int) + (IntKind.wrap .i64 ((BitVec.toNat (BitVec.ofInt (IntKind.bits .i64) x3 &&& BitVec.ofInt (IntKind.bits .i64) (3 : Int)) : Nat) : Int))))), (.slice s5.1.a s5.1.len s5.1.cap), (.int .i64 (65536 : Int))] (.tup [(.one .ptr), (.one (.int .i64))]) fun (x17 : (Option Addr × Int × Unit)) =>
 join (S := Bool × Unit) (fun J18 =>
 sif (Option.isNone x17.1) (
 J18 (true, ())) (
 J18 ((x17.2.1 != (0 : Int)), ()))) fun (s19 : Bool × Unit) =>
 sif s19.1 (
 aggSt (at0 b2) (.agg #[(.pointer none), (.slice none 0 0)]) 2 <|
 lds c28 (at0 b2) fun (x20 : (Option Addr × Sl × Unit)) =>
 K (x20, false, ())) (
 callT Tryz.prog 36 #[(.pointer x17.1), (.slice x16.1.a x16.1.len x16.1.cap)] (.one (.one .bool)) fun (x21 : Bool) =>
 aggSt (at0 b2) (.agg #[(.pointer x17.1), (.slice x16.1.a x16.1.len x16.1.cap)]) 2 <|
 lds c28 (at0 b2) fun (x22 : (Option Addr × Sl × Unit)) =>
 K (x22, x21, ()))
noncomputable def h16 : Hint := (hS (hR 3) (hS (hR 5) (hS (hR 1) (hJ (17179836512, [(5, tS)]) (hS (hR 1) (.block (.loop 17179836512 [(5, tS), (6, tI)] (hS (hJ (16744448, [(23, tB)]) (.region [] (.ops 6 (.split 20 (hO 3) (.skips 2 (hO 1))))) (hC hL hL)) (hS (.block (hR 9)) (hR 3)))))) (hS (hR 8) (hS (hR 8) (hS (hJ (4433230883192832, [(51, tB)]) (.region [] (.ops 3 (.split 48 (.skips 2 (hO 1)) (hO 3)))) (hC (hS (hR 3) hL) hL)) (hS (hR 8) hL))))))))
theorem F16_calls {a0 : (Int × Sl × Unit)} {K : ((Option Addr × Sl × Unit) × Bool × Unit) → World → Prop} {w : World} (h : F16 a0 K w) : callT Tryz.prog 16 #[(.agg (Cells.vals c24 a0).toArray)] (.tup [(.agg c28), (.one .bool)]) K w := tied tabOk Tryz.func16 h16 [(.agg (Cells.vals c24 a0).toArray)] (by kernel_rfl) h
noncomputable def F17 (a0 : Int) (K : Bool → World → Prop) : World → Prop :=
 newO (.cells #[(.int .u8 (40 : Int)), (.int .u8 (34 : Int)), (.int .u8 (120 : Int)), (.int .u8 (34 : Int)), (.int .u8 (41 : Int))] 5) fun b1 =>
 rawT Tryz.prog (.one (.one .sl)) (convert 22 22 (.slice (some (at0 b1)) 5 5)) fun x2 =>
 callT Tryz.prog 16 #[(.agg #[(.int .i64 (0 : Int)), (.slice x2.a x2.len x2.cap)])] (.tup [(.agg c28), (.one .bool)]) fun (x3 : ((Option Addr × Sl × Unit) × Bool × Unit)) =>
 newO (.cells #[(.pointer none), (.slice none 0 0)] 28) fun b4 =>
 aggSt (at0 b4) (.agg (Cells.vals c28 x3.1).toArray) 2 <|
 sif (!x3.2.1) (
 K false) (
 newO (.cells #[(.int .i64 (0 : Int)), (.int .i64 (0 : Int)), (.int .i64 (0 : Int))] 34) fun b5 =>
 join (S := Int × Unit) (fun J6 =>
 sif (a0 == (1 : Int)) (
 ld (.ptr) (at0 b4) fun (x8 : Option Addr) =>
 callT Tryz.prog 29 #[(.pointer x8), (.int .i64 (2 : Int)), (.agg #[(.int .i64 (61 : Int)), (.int .i64 (0 : Int)), (.int .i64 (0 : Int))])] (.tup [(.agg c34), (.one (.int .i64))]) fun (x9 : ((Int × Int × Int × Unit) × Int × Unit)) =>
 aggSt (at0 b5) (.agg (Cells.vals c34 x9.1).toArray) 3 <|
 J6 (x9.2.1, ())) (
 sif (a0 == (2 : Int)) (
 ld (.ptr) (at0 b4) fun (x10 : Option Addr) =>
 callT Tryz.prog 31 #[(.pointer x10), (.int .i64 (2 : Int)), (.agg #[(.int .i64 (65 : Int)), (.int .i64 (0 : Int)), (.int .i64 (34 : Int))])] (.tup [(.agg c34), (.one (.int .i64))]) fun (x11 : ((Int × Int × Int × Unit) × Int × Unit)) =>
 aggSt (at0 b5) (.agg (Cells.vals c34 x11.1).toArray) 3 <|
 J6 (x11.2.1, ())) (
 sif (a0 == (3 : Int)) (
 ld (.ptr) (at0 b4) fun (x12 : Option Addr) =>
 callT Tryz.prog 19 #[(.pointer x12), (.int .i64 (2 : Int)), (.agg #[(.int .i64 (67 : Int)), (.int .i64 (0 : Int)), (.int .i64 (40 : Int))])] (.tup [(.agg c34), (.one (.int .i64))]) fun (x13 : ((Int × Int × Int × Unit) × Int × Unit)) =>
 aggSt (at0 b5) (.agg (Cells.vals c34 x13.1).toArray) 3 <|
 sif (x13.2.1 == (0 : Int)) (
 ld (.int .i64) (at0 b5) fun (x14 : Int) =>
 sif (x14 == (1 : Int)) (
 ld (.int .i64) (⟨b5, 1, none⟩ : Addr) fun (x15 : Int) =>
 K (x15 == (4 : Int))) (
 K false)) (
 K false)) (
 sif (a0 == (4 : Int)) (
 ld (.ptr) (at0 b4) fun (x16 : Option Addr) =>
 callT Tryz.prog 33 #[(.pointer x16), (.int .i64 (2 : Int)), (.agg #[(.int .i64 (69 : Int)), (.int .i64 (0 : Int)), (.int .i64 (0 : Int))])] (.tup [(.agg c34), (.one (.int .i64))]) fun (x17 : ((Int × Int × Int × Unit) × Int × Unit)) =>
 aggSt (at0 b5) (.agg (Cells.vals c34 x17.1).toArray) 3 <|
 sif (x17.2.1 == (0 : Int)) (
 ld (.int .i64) (⟨b5, 2, none⟩ : Addr) fun (x18 : Int) =>
 sif (x18 == (1 : Int)) (
 ld (.int .i64) (⟨b5, 1, none⟩ : Addr) fun (x19 : Int) =>
 K (x19 == (5 : Int))) (
 K false)) (
 K false)) (
 sif (a0 == (5 : Int)) (
 ld (.ptr) (at0 b4) fun (x20 : Option Addr) =>
 callT Tryz.prog 20 #[(.pointer x20), (.int .i64 (2 : Int)), (.agg #[(.int .i64 (61 : Int)), (.int .i64 (0 : Int)), (.int .i64 (0 : Int))])] (.tup [(.agg c34), (.one (.int .i64))]) fun (x21 : ((Int × Int × Int × Unit) × Int × Unit)) =>
 aggSt (at0 b5) (.agg (Cells.vals c34 x21.1).toArray) 3 <|
 J6 (x21.2.1, ())) (
 J6 ((0 : Int), ()))))))) fun (s7 : Int × Unit) =>
 sif (s7.1 == (0 : Int)) (
 ld (.int .i64) (at0 b5) fun (x22 : Int) =>
 sif (x22 == (2 : Int)) (
 ld (.int .i64) (⟨b5, 1, none⟩ : Addr) fun (x23 : Int) =>
 sif (x23 == (3 : Int)) (
 ld (.int .i64) (⟨b5, 2, none⟩ : Addr) fun (x24 : Int) =>
 K (x24 == (0 : Int))) (
 K false)) (
 K false)) (
 K false))
noncomputable def h17 : Hint := (hS (hR 1) (hS (hR 10) (hS (hS (hR 2) (hC (hS (hR 1) hL) hL)) (hS (hR 1) (hS (hR 1) (hJ (77371252455336267181129796, [(6, tI)]) (hS (hR 1) (.block (hS (hR 2) (hC (hR 9) (hS (hR 2) (hC (hR 9) (hS (hR 2) (hC (hS (hR 9) (hS (.region [] (.ops 3 (.split 46 (.ops 5 (.split 51 (hO 5) (.skips 3 (hO 2)))) (.skips 3 (.ops 2 (.skips 3 (hO 2))))))) hL)) (hS (hR 2) (hC (hS (hR 9) (hS (.region [] (.ops 3 (.split 67 (.ops 5 (.split 72 (hO 5) (.skips 3 (hO 2)))) (.skips 3 (.ops 2 (.skips 3 (hO 2))))))) hL)) (hS (hR 2) (hC (hR 9) hL)))))))))))) (hS (.region [] (.ops 3 (.split 88 (.ops 5 (.split 93 (.ops 5 (.split 98 (hO 5) (.skips 3 (hO 2)))) (.skips 3 (.ops 2 (.skips 3 (hO 2)))))) (.skips 3 (.ops 2 (.skips 3 (.ops 2 (.skips 3 (hO 2))))))))) hL)))))))
theorem F17_calls {a0 : Int} {K : Bool → World → Prop} {w : World} (h : F17 a0 K w) : callT Tryz.prog 17 #[(.int .i64 a0)] (.one (.one .bool)) K w := tied tabOk Tryz.func17 h17 [(.int .i64 a0)] (by kernel_rfl) h
noncomputable def F18 (a0 : Int) (a1 : Int) (K : Int → World → Prop) : World → Prop :=
 join (S := Int × Unit) (fun J1 =>
 sif (decide (a0 < (0 : Int))) (
 J1 ((IntKind.wrap .i64 (0 - (IntKind.wrap .i64 (a0 + (1 : Int))))), ())) (
 J1 (a0, ()))) fun (s2 : Int × Unit) =>
 chk ((IntKind.wrap .i64 (a1 + (1 : Int))) ≠ 0) <|
 K (Int.tmod s2.1 (IntKind.wrap .i64 (a1 + (1 : Int))))
noncomputable def h18 : Hint := (hS (hR 1) (hJ (993, [(0, tI)]) (hS (hR 2) (hC (hR 4) hL)) (hS (hR 5) hL)))
theorem F18_calls {a0 : Int} {a1 : Int} {K : Int → World → Prop} {w : World} (h : F18 a0 a1 K w) : callT Tryz.prog 18 #[(.int .i64 a0), (.int .i64 a1)] (.one (.one (.int .i64))) K w := tied tabOk Tryz.func18 h18 [(.int .i64 a0), (.int .i64 a1)] (by kernel_rfl) h
noncomputable def F25 (a0 : (Int × Sl × Unit)) (a1 : (Int × Sl × Unit)) (a2 : Sl) (a3 : Int) (a4 : Int) (K : Bool → World → Prop) : World → Prop :=
 newO (.cells #[(.int .i64 a0.1), (.slice a0.2.1.a a0.2.1.len a0.2.1.cap)] 24) fun b1 =>
 newO (.cells #[(.int .i64 a1.1), (.slice a1.2.1.a a1.2.1.len a1.2.1.cap)] 24) fun b2 =>
 lds c24 (at0 b1) fun (x3 : (Int × Sl × Unit)) =>
 callT Tryz.prog 16 #[(.agg (Cells.vals c24 x3).toArray)] (.tup [(.agg c28), (.one .bool)]) fun (x4 : ((Option Addr × Sl × Unit) × Bool × Unit)) =>
 newO (.cells #[(.pointer none), (.slice none 0 0)] 28) fun b5 =>
 aggSt (at0 b5) (.agg (Cells.vals c28 x4.1).toArray) 2 <|
 sif (!x4.2.1) (
 K false) (
 lds c24 (at0 b2) fun (x6 : (Int × Sl × Unit)) =>
 callT Tryz.prog 16 #[(.agg (Cells.vals c24 x6).toArray)] (.tup [(.agg c28), (.one .bool)]) fun (x7 : ((Option Addr × Sl × Unit) × Bool × Unit)) =>
 newO (.cells #[(.pointer none), (.slice none 0 0)] 28) fun b8 =>
 aggSt (at0 b8) (.agg (Cells.vals c28 x7.1).toArray) 2 <|
 join (S := Bool × Unit) (fun J9 =>
 sif (!x7.2.1) (
 J9 (true, ())) (
 callT Tryz.prog 17 #[(.int .i64 a3)] (.one (.one .bool)) fun (x11 : Bool) =>
 J9 ((!x11), ()))) fun (s10 : Bool × Unit) =>
 sif s10.1 (
 K false) (
 join (S := Unit) (fun J12 =>
 sloop (S := Int × Unit) (fun (s14 : Int × Unit) again15 =>
 join (S := Bool × Unit) (fun J16 =>
 sif (decide (s14.1 < ((a2.len : Nat) : Int))) (
 J16 ((decide (s14.1 < (200 : Int))), ())) (
 J16 (false, ()))) fun (s17 : Bool × Unit) =>
 sif s17.1 (
 join (S := Bool × Unit) (fun J18 =>
 ix a2.a a2.len s14.1 fun p20 =>
 ld (.int .i64) (p20.add (scaled (Int.toNat s14.1) 7)) fun (x21 : Int) =>
 sif (x21 == (0 : Int)) (
 ix a2.a a2.len s14.1 fun p22 =>
 lds c43 (p22.add (scaled (Int.toNat s14.1) 7)) fun (x23 : (Int × Int × Int × Int × Int × Int × Sl × Unit)) =>
 callT Tryz.prog 49 #[(.pointer (some (at0 b5))), (.agg (Cells.vals c43 x23).toArray), (.int .i64 a3), (.int .i64 a4)] (.one (.one .bool)) fun (x24 : Bool) =>
 J18 (x24, ())) (
 ix a2.a a2.len s14.1 fun p25 =>
 lds c43 (p25.add (scaled (Int.toNat s14.1) 7)) fun (x26 : (Int × Int × Int × Int × Int × Int × Sl × Unit)) =>
 callT Tryz.prog 49 #[(.pointer (some (at0 b8))), (.agg (Cells.vals c43 x26).toArray), (.int .i64 a3), (.int .i64 a4)] (.one (.one .bool)) fun (x27 : Bool) =>
 J18 (x27, ()))) fun (s19 : Bool × Unit) =>
 sif (!s19.1) (
 K false) (
 again15 ((IntKind.wrap .i64 (s14.1 + (1 : Int))), ()))) (
 J12 ())) ((0 : Int), ())) fun (s13 : Unit) =>
 K true))
noncomputable def h25 : Hint := (hS (hR 3) (hS (hR 8) (hS (hS (hR 2) (hC (hS (hR 1) hL) hL)) (hS (hR 8) (hS (hJ (17045651456, [(33, tB)]) (.region [] (.ops 3 (.split 29 (.skips 3 (hO 1)) (hO 4)))) (hC (hS (hR 1) hL) hL)) (hJ (73786976277658358784, []) (hS (hR 1) (.block (.loop 73786976277658358784 [(14, tI)] (hS (hJ (4380866641920, [(41, tB)]) (.region [] (.ops 5 (.split 38 (hO 3) (.skips 2 (hO 1))))) (hC hL hL)) (hS (.block (hJ (18446726481523511296, [(12, tB)]) (hS (hR 6) (hC (hR 8) (hR 8))) (hS (hR 2) (hC (hS (hR 1) hL) hL)))) (hR 3)))))) (hS (hR 1) hL)))))))
theorem F25_calls {a0 : (Int × Sl × Unit)} {a1 : (Int × Sl × Unit)} {a2 : Sl} {a3 : Int} {a4 : Int} {K : Bool → World → Prop} {w : World} (h : F25 a0 a1 a2 a3 a4 K w) : callT Tryz.prog 25 #[(.agg (Cells.vals c24 a0).toArray), (.agg (Cells.vals c24 a1).toArray), (.slice a2.a a2.len a2.cap), (.int .i64 a3), (.int .i64 a4)] (.one (.one .bool)) K w := tied tabOk Tryz.func25 h25 [(.agg (Cells.vals c24 a0).toArray), (.agg (Cells.vals c24 a1).toArray), (.slice a2.a a2.len a2.cap), (.int .i64 a3), (.int .i64 a4)] (by kernel_rfl) h
noncomputable def F26 (a0 : Sl) (K : Sl → World → Prop) : World → Prop :=
 join (S := Sl × Unit) (fun J1 =>
 sloop (S := Sl × Int × Unit) (fun (s3 : Sl × Int × Unit) again4 =>
 join (S := Bool × Unit) (fun J5 =>
 sif (decide (s3.2.1 < ((a0.len : Nat) : Int))) (
 J5 ((decide (s3.2.1 < (16 : Int))), ())) (
 J5 (false, ()))) fun (s6 : Bool × Unit) =>
 sif s6.1 (
 ix a0.a a0.len s3.2.1 fun p7 =>
 ld (.int .i64) (p7.add (scaled (Int.toNat s3.2.1) 1)) fun (x8 : Int) =>
 join (S := Int × Unit) (fun J9 =>
 join (S := Bool × Unit) (fun J11 =>
 sif (x8 != (10 : Int)) (
 J11 ((x8 != (13 : Int)), ())) (
 J11 (false, ()))) fun (s12 : Bool × Unit) =>
 sif s12.1 (
 J9 ((IntKind.wrap .i64 ((32 : Int) + (IntKind.wrap .i64 ((BitVec.toNat (BitVec.ofInt (IntKind.bits .i64) x8 &&& BitVec.ofInt (IntKind.bits .i64) (95 : Int)) : Nat) : Int)))), ())) (
 J9 (x8, ()))) fun (s10 : Int × Unit) =>
 newO (.cells #[(.int .i64 s10.1)] 3) fun b13 =>
 rawT Tryz.prog (.one (.one .sl)) (Builtin.append_ #[26, 26] 26 #[(.slice s3.1.a s3.1.len s3.1.cap), (.slice (some (at0 b13)) 1 1)]) fun (x14 : Sl) =>
 again4 (x14, (IntKind.wrap .i64 (s3.2.1 + (1 : Int))), ())) (
 J1 (s3.1, ()))) (⟨none, 0, 0⟩, (0 : Int), ())) fun (s2 : Sl × Unit) =>
 K s2.1
noncomputable def h26 : Hint := (hS (hR 1) (hS (hR 1) (hJ (8589934584, [(3, tS)]) (hS (hR 1) (.block (.loop 8589934584 [(3, tS), (4, tI)] (hS (hJ (16320, [(13, tB)]) (.region [] (.ops 5 (.split 10 (hO 3) (.skips 2 (hO 1))))) (hC hL hL)) (hS (.block (hS (hR 5) (hJ (535822368, [(5, tI)]) (hJ (66060288, [(25, tB)]) (.region [] (.ops 3 (.split 22 (hO 3) (.skips 2 (hO 1))))) (hC (hR 4) hL)) (hR 5)))) (hR 3)))))) (hS (hR 2) hL))))
theorem F26_calls {a0 : Sl} {K : Sl → World → Prop} {w : World} (h : F26 a0 K w) : callT Tryz.prog 26 #[(.slice a0.a a0.len a0.cap)] (.one (.one .sl)) K w := tied tabOk Tryz.func26 h26 [(.slice a0.a a0.len a0.cap)] (by kernel_rfl) h
noncomputable def F32 (a0 : Sl) (a1 : Sl) (K : Sl → World → Prop) : World → Prop :=
 callT Tryz.prog 46 #[(.slice a0.a a0.len a0.cap)] (.one (.one .sl)) fun (x1 : Sl) =>
 join (S := Sl × Unit) (fun J2 =>
 sloop (S := Sl × Int × Unit) (fun (s4 : Sl × Int × Unit) again5 =>
 sif (decide (s4.2.1 < ((a1.len : Nat) : Int))) (
 ix a1.a a1.len s4.2.1 fun p6 =>
 ld (.int .i64) (p6.add (scaled (Int.toNat s4.2.1) 1)) fun (x7 : Int) =>
 newO (.cells #[(.int .i64 x7)] 3) fun b8 =>
 rawT Tryz.prog (.one (.one .sl)) (Builtin.append_ #[26, 26] 26 #[(.slice s4.1.a s4.1.len s4.1.cap), (.slice (some (at0 b8)) 1 1)]) fun (x9 : Sl) =>
 again5 (x9, (IntKind.wrap .i64 (s4.2.1 + (1 : Int))), ())) (
 J2 (s4.1, ()))) (x1, (0 : Int), ())) fun (s3 : Sl × Unit) =>
 K s3.1
noncomputable def h32 : Hint := (hS (hR 1) (hS (hR 3) (hJ (4193888, [(5, tS)]) (hS (hR 1) (.block (.loop 4193888 [(5, tS), (6, tI)] (hS (hS (hR 4) (hC hL hL)) (hS (.block (hR 8)) (hR 3)))))) (hS (hR 2) hL))))
theorem F32_calls {a0 : Sl} {a1 : Sl} {K : Sl → World → Prop} {w : World} (h : F32 a0 a1 K w) : callT Tryz.prog 32 #[(.slice a0.a a0.len a0.cap), (.slice a1.a a1.len a1.cap)] (.one (.one .sl)) K w := tied tabOk Tryz.func32 h32 [(.slice a0.a a0.len a0.cap), (.slice a1.a a1.len a1.cap)] (by kernel_rfl) h
noncomputable def F36 (a0 : Option Addr) (a1 : Sl) (K : Bool → World → Prop) : World → Prop :=
 join (S := Unit) (fun J1 =>
 sloop (S := Int × Int × Unit) (fun (s3 : Int × Int × Unit) again4 =>
 sif (decide (s3.2.1 < ((a1.len : Nat) : Int))) (
 join (S := Int × Unit) (fun J5 =>
 join (S := Bool × Unit) (fun J7 =>
 ix a1.a a1.len s3.2.1 fun p9 =>
 ld (.int .i64) (p9.add (scaled (Int.toNat s3.2.1) 1)) fun (x10 : Int) =>
 sif (x10 == (10 : Int)) (
 J7 (true, ())) (
 ix a1.a a1.len s3.2.1 fun p11 =>
 ld (.int .i64) (p11.add (scaled (Int.toNat s3.2.1) 1)) fun (x12 : Int) =>
 sif (x12 == (13 : Int)) (
 sif ((IntKind.wrap .i64 (s3.2.1 + (1 : Int))) == ((a1.len : Nat) : Int)) (
 J7 (true, ())) (
 ix a1.a a1.len (IntKind.wrap .i64 (s3.2.1 + (1 : Int))) fun p13 =>
 ld (.int .i64) (p13.add (scaled (Int.toNat (IntKind.wrap .i64 (s3.2.1 + (1 : Int)))) 1)) fun (x14 : Int) =>
 J7 ((x14 != (10 : Int)), ()))) (
 J7 (false, ())))) fun (s8 : Bool × Unit) =>
 sif s8.1 (
 join (S := Bool × Unit) (fun J15 =>
 callT Tryz.prog 66 #[(.pointer a0), (.int .i64 (IntKind.wrap .i64 (s3.2.1 + (1 : Int))))] (.one (.one (.int .i64))) fun (x17 : Int) =>
 sif (x17 != (IntKind.wrap .i64 (s3.1 + (1 : Int)))) (
 J15 (true, ())) (
 callT Tryz.prog 67 #[(.pointer a0), (.int .i64 (IntKind.wrap .i64 (s3.1 + (1 : Int))))] (.one (.one (.int .i64))) fun (x18 : Int) =>
 J15 ((x18 != (IntKind.wrap .i64 (s3.2.1 + (1 : Int)))), ()))) fun (s16 : Bool × Unit) =>
 sif s16.1 (
 K false) (
 J5 ((IntKind.wrap .i64 (s3.1 + (1 : Int))), ()))) (
 J5 (s3.1, ()))) fun (s6 : Int × Unit) =>
 again4 (s6.1, (IntKind.wrap .i64 (s3.2.1 + (1 : Int))), ())) (
 J1 ())) ((0 : Int), (0 : Int), ())) fun (s2 : Unit) =>
 K true
noncomputable def h36 : Hint := (hS (hR 1) (hS (hR 1) (hJ (72057594037927920, []) (hS (hR 1) (.block (.loop 72057594037927920 [(5, tI), (6, tI)] (hS (hS (hR 4) (hC hL hL)) (hJ (72057594037919792, [(5, tI)]) (.block (hJ (1099511619584, [(39, tB)]) (.region [] (.ops 6 (.split 18 (.skips 20 (hO 1)) (.ops 6 (.split 24 (.ops 6 (.split 30 (.skips 6 (hO 3)) (hO 9))) (.skips 13 (hO 2))))))) (hC (hS (hR 3) (hJ (72053195991416832, [(55, tB)]) (.region [] (.ops 7 (.split 48 (.skips 6 (hO 1)) (hO 7)))) (hC (hS (hR 1) hL) hL))) hL))) (hR 3)))))) (hS (hR 1) hL))))
theorem F36_calls {a0 : Option Addr} {a1 : Sl} {K : Bool → World → Prop} {w : World} (h : F36 a0 a1 K w) : callT Tryz.prog 36 #[(.pointer a0), (.slice a1.a a1.len a1.cap)] (.one (.one .bool)) K w := tied tabOk Tryz.func36 h36 [(.pointer a0), (.slice a1.a a1.len a1.cap)] (by kernel_rfl) h
noncomputable def F46 (a0 : Sl) (K : Sl → World → Prop) : World → Prop :=
 join (S := Sl × Unit) (fun J1 =>
 sloop (S := Sl × Int × Unit) (fun (s3 : Sl × Int × Unit) again4 =>
 sif (decide (s3.2.1 < ((a0.len : Nat) : Int))) (
 ix a0.a a0.len s3.2.1 fun p5 =>
 ld (.int .i64) (p5.add (scaled (Int.toNat s3.2.1) 1)) fun (x6 : Int) =>
 newO (.cells #[(.int .i64 x6)] 3) fun b7 =>
 rawT Tryz.prog (.one (.one .sl)) (Builtin.append_ #[26, 26] 26 #[(.slice s3.1.a s3.1.len s3.1.cap), (.slice (some (at0 b7)) 1 1)]) fun (x8 : Sl) =>
 again4 (x8, (IntKind.wrap .i64 (s3.2.1 + (1 : Int))), ())) (
 J1 (s3.1, ()))) (⟨none, 0, 0⟩, (0 : Int), ())) fun (s2 : Sl × Unit) =>
 K s2.1
noncomputable def h46 : Hint := (hS (hR 1) (hS (hR 1) (hJ (262136, [(3, tS)]) (hS (hR 1) (.block (.loop 262136 [(3, tS), (4, tI)] (hS (hS (hR 4) (hC hL hL)) (hS (.block (hR 8)) (hR 3)))))) (hS (hR 2) hL))))
theorem F46_calls {a0 : Sl} {K : Sl → World → Prop} {w : World} (h : F46 a0 K w) : callT Tryz.prog 46 #[(.slice a0.a a0.len a0.cap)] (.one (.one .sl)) K w := tied tabOk Tryz.func46 h46 [(.slice a0.a a0.len a0.cap)] (by kernel_rfl) h
noncomputable def F49 (a0 : Option Addr) (a1 : (Int × Int × Int × Int × Int × Int × Sl × Unit)) (a2 : Int) (a3 : Int) (K : Bool → World → Prop) : World → Prop :=
 newO (.cells #[(.int .i64 a1.1), (.int .i64 a1.2.1), (.int .i64 a1.2.2.1), (.int .i64 a1.2.2.2.1), (.int .i64 a1.2.2.2.2.1), (.int .i64 a1.2.2.2.2.2.1), (.slice a1.2.2.2.2.2.2.1.a a1.2.2.2.2.2.2.1.len a1.2.2.2.2.2.2.1.cap)] 43) fun b1 =>
 ld (.int .i64) (⟨b1, 1, none⟩ : Addr) fun (x2 : Int) =>
 sif (x2 == (0 : Int)) (
 ld (.int .i64) (⟨b1, 2, none⟩ : Addr) fun (x3 : Int) =>
 ld (.int .i64) (⟨b1, 4, none⟩ : Addr) fun (x4 : Int) =>
 ld (.sl) (⟨b1, 6, none⟩ : Addr) fun (x5 : Sl) =>
 callT Tryz.prog 75 #[(.pointer a0), (.int .i64 x3), (.int .i64 x4), (.slice x5.a x5.len x5.cap)] (.one (.one .bool)) fun (x6 : Bool) =>
 K x6) (
 join (S := Bool × Unit) (fun J7 =>
 ld (.int .i64) (⟨b1, 1, none⟩ : Addr) fun (x9 : Int) =>
 sif (decide (x9 < a2)) (
 J7 (true, ())) (
 ld (.int .i64) (⟨b1, 1, none⟩ : Addr) fun (x10 : Int) =>
 J7 ((decide (x10 > a3)), ()))) fun (s8 : Bool × Unit) =>
 sif s8.1 (
 K true) (
 lds c43 (at0 b1) fun (x11 : (Int × Int × Int × Int × Int × Int × Sl × Unit)) =>
 callT Tryz.prog 76 #[(.pointer a0), (.agg (Cells.vals c43 x11).toArray)] (.one (.one .bool)) fun (x12 : Bool) =>
 K x12))
noncomputable def h49 : Hint := (hS (hR 2) (hS (hS (hR 3) (hC (hS (hR 9) hL) hL)) (hS (hJ (1072693248, [(29, tB)]) (.region [] (.ops 5 (.split 24 (.skips 4 (hO 1)) (hO 5)))) (hC (hS (hR 1) hL) hL)) (hS (hR 4) hL))))
theorem F49_calls {a0 : Option Addr} {a1 : (Int × Int × Int × Int × Int × Int × Sl × Unit)} {a2 : Int} {a3 : Int} {K : Bool → World → Prop} {w : World} (h : F49 a0 a1 a2 a3 K w) : callT Tryz.prog 49 #[(.pointer a0), (.agg (Cells.vals c43 a1).toArray), (.int .i64 a2), (.int .i64 a3)] (.one (.one .bool)) K w := tied tabOk Tryz.func49 h49 [(.pointer a0), (.agg (Cells.vals c43 a1).toArray), (.int .i64 a2), (.int .i64 a3)] (by kernel_rfl) h
noncomputable def F75 (a0 : Option Addr) (a1 : Int) (a2 : Int) (a3 : Sl) (K : Bool → World → Prop) : World → Prop :=
 nn a0 fun p1 =>
 ld (.sl) (p1.add 1) fun (x2 : Sl) =>
 callT Tryz.prog 18 #[(.int .i64 a1), (.int .i64 ((x2.len : Nat) : Int))] (.one (.one (.int .i64))) fun (x3 : Int) =>
 nn a0 fun p4 =>
 ld (.sl) (p4.add 1) fun (x5 : Sl) =>
 callT Tryz.prog 18 #[(.int .i64 a2), (.int .i64 (IntKind.wrap .i64 (((x5.len : Nat) : Int) - x3)))] (.one (.one (.int .i64))) fun (x6 : Int) =>
 callT Tryz.prog 26 #[(.slice a3.a a3.len a3.cap)] (.one (.one .sl)) fun (x7 : Sl) =>
 drew <|
 nn a0 fun p8 =>
 ld (.ptr) p8 fun (x9 : Option Addr) =>
 callT Tryz.prog 46 #[(.slice x7.a x7.len x7.cap)] (.one (.one .sl)) fun (x10 : Sl) =>
 keep (fun w => w.cell? p8 = some (Cell.val (.ptr) x9)) <|
 newO (.cells #[(.int .i64 x3), (.int .i64 (IntKind.wrap .i64 (x3 + x6))), (.slice x10.a x10.len x10.cap)] 83) fun b11 =>
 keep (fun w => w.cell? p8 = some (Cell.val (.ptr) x9)) <|
 callT Tryz.prog 50 #[(.pointer x9), (.slice (some (at0 b11)) 1 1)] (.one (.one (.int .i64))) fun (x12 : Int) =>
 sif (x12 != (0 : Int)) (
 K false) (
 nn a0 fun p13 =>
 ld (.sl) (p13.add 1) fun (x14 : Sl) =>
 callT Tryz.prog 103 #[(.slice x14.a x14.len x14.cap), (.int .i64 x3), (.int .i64 (IntKind.wrap .i64 (x3 + x6))), (.slice x7.a x7.len x7.cap)] (.one (.one .sl)) fun (x15 : Sl) =>
 nn a0 fun p16 =>
 stC (p16.add 1) (.slice x15.a x15.len x15.cap) <|
 K true)
noncomputable def h75 : Hint := (hS (hR 1) (hS (hR 8) (hS (hR 12) (hS (hR 3) (hS (.region [0, 1, 2, 3, 4, 5, 6, 7, 8, 9, 10, 11] (hO 12)) (hS (hS (hR 2) (hC (hS (hR 1) hL) hL)) (hS (hR 12) (hS (hR 1) hL))))))))
theorem F75_calls {a0 : Option Addr} {a1 : Int} {a2 : Int} {a3 : Sl} {K : Bool → World → Prop} {w : World} (h : F75 a0 a1 a2 a3 K w) : callT Tryz.prog 75 #[(.pointer a0), (.int .i64 a1), (.int .i64 a2), (.slice a3.a a3.len a3.cap)] (.one (.one .bool)) K w := tied tabOk Tryz.func75 h75 [(.pointer a0), (.int .i64 a1), (.int .i64 a2), (.slice a3.a a3.len a3.cap)] (by kernel_rfl) h
noncomputable def F76 (a0 : Option Addr) (a1 : (Int × Int × Int × Int × Int × Int × Sl × Unit)) (K : Bool → World → Prop) : World → Prop :=
 newO (.cells #[(.int .i64 a1.1), (.int .i64 a1.2.1), (.int .i64 a1.2.2.1), (.int .i64 a1.2.2.2.1), (.int .i64 a1.2.2.2.2.1), (.int .i64 a1.2.2.2.2.2.1), (.slice a1.2.2.2.2.2.2.1.a a1.2.2.2.2.2.2.1.len a1.2.2.2.2.2.2.1.cap)] 43) fun b1 =>
 ld (.int .i64) (⟨b1, 3, none⟩ : Addr) fun (x2 : Int) =>
 ld (.int .i64) (⟨b1, 4, none⟩ : Addr) fun (x3 : Int) =>
 ld (.int .i64) (⟨b1, 5, none⟩ : Addr) fun (x4 : Int) =>
 newO (.cells #[(.int .i64 (0 : Int)), (.int .i64 (0 : Int)), (.int .i64 (0 : Int))] 39) fun b5 =>
 aggSt (at0 b5) (.agg #[(.int .i64 x2), (.int .i64 x3), (.int .i64 x4)]) 3 <|
 ld (.int .i64) (⟨b1, 1, none⟩ : Addr) fun (x6 : Int) =>
 sif (x6 == (1 : Int)) (
 join (S := Addr × Int × Unit) (fun J7 =>
 drew <|
 nn a0 fun p9 =>
 ld (.ptr) p9 fun (x10 : Option Addr) =>
 ld (.int .i64) (⟨b1, 2, none⟩ : Addr) fun (x11 : Int) =>
 lds c39 (at0 b5) fun (x12 : (Int × Int × Int × Unit)) =>
 both (
 newO (.cells #[(.int .i64 (0 : Int)), (.int .i64 (0 : Int)), (.int .i64 (0 : Int))] 34) fun b13 =>
 keep (fun w => cellsAt w (at0 b5) 0 (Cells.vals c39 x12)) <|
 keep (fun w => w.cell? (⟨b1, 2, none⟩ : Addr) = some (Cell.val (.int .i64) x11)) <|
 keep (fun w => w.cell? p9 = some (Cell.val (.ptr) x10)) <|
 callT Tryz.prog 29 #[(.pointer x10), (.int .i64 x11), (.agg (Cells.vals c39 x12).toArray)] (.tup [(.agg c34), (.one (.int .i64))]) fun (x14 : ((Int × Int × Int × Unit) × Int × Unit)) =>
 aggSt (at0 b13) (.agg (Cells.vals c34 x14.1).toArray) 3 <|
 J7 ((at0 b13), x14.2.1, ())) <|
 callT Tryz.prog 29 #[(.pointer x10), (.int .i64 x11), (.agg (Cells.vals c39 x12).toArray)] (.tup [(.agg c34), (.one (.int .i64))]) fun (x15 : ((Int × Int × Int × Unit) × Int × Unit)) =>
 both (
 newO (.cells #[(.int .i64 (0 : Int)), (.int .i64 (0 : Int)), (.int .i64 (0 : Int))] 34) fun b16 =>
 keep (fun w => cellsAt w (at0 b5) 0 (Cells.vals c39 x12)) <|
 keep (fun w => w.cell? (⟨b1, 2, none⟩ : Addr) = some (Cell.val (.int .i64) x11)) <|
 keep (fun w => w.cell? p9 = some (Cell.val (.ptr) x10)) <|
 aggSt (at0 b16) (.agg (Cells.vals c34 x15.1).toArray) 3 <|
 J7 ((at0 b16), x15.2.1, ())) <|
 nothing) fun (s8 : Addr × Int × Unit) =>
 join (S := Addr × Int × Unit) (fun J17 =>
 drew <|
 nn a0 fun p19 =>
 ld (.sl) (p19.add 1) fun (x20 : Sl) =>
 ld (.int .i64) (⟨b1, 2, none⟩ : Addr) fun (x21 : Int) =>
 ld (.int .i64) (⟨b1, 3, none⟩ : Addr) fun (x22 : Int) =>
 ld (.int .i64) (⟨b1, 4, none⟩ : Addr) fun (x23 : Int) =>
 both (
 newO (.cells #[(.int .i64 (0 : Int)), (.int .i64 (0 : Int)), (.int .i64 (0 : Int))] 149) fun b24 =>
 keep (fun w => w.cell? (⟨b1, 4, none⟩ : Addr) = some (Cell.val (.int .i64) x23)) <|
 keep (fun w => w.cell? (⟨b1, 3, none⟩ : Addr) = some (Cell.val (.int .i64) x22)) <|
 keep (fun w => w.cell? (⟨b1, 2, none⟩ : Addr) = some (Cell.val (.int .i64) x21)) <|
 keep (fun w => w.cell? (p19.add 1) = some (Cell.val (.sl) x20)) <|
 callT Tryz.prog 104 #[(.slice x20.a x20.len x20.cap), (.int .i64 x21), (.int .i64 x22), (.int .i64 x23)] (.tup [(.agg c149), (.one (.int .i64))]) fun (x25 : ((Int × Int × Int × Unit) × Int × Unit)) =>
 aggSt (at0 b24) (.agg (Cells.vals c149 x25.1).toArray) 3 <|
 J17 ((at0 b24), x25.2.1, ())) <|
 callT Tryz.prog 104 #[(.slice x20.a x20.len x20.cap), (.int .i64 x21), (.int .i64 x22), (.int .i64 x23)] (.tup [(.agg c149), (.one (.int .i64))]) fun (x26 : ((Int × Int × Int × Unit) × Int × Unit)) =>
 both (
 newO (.cells #[(.int .i64 (0 : Int)), (.int .i64 (0 : Int)), (.int .i64 (0 : Int))] 149) fun b27 =>
 keep (fun w => w.cell? (⟨b1, 4, none⟩ : Addr) = some (Cell.val (.int .i64) x23)) <|
 keep (fun w => w.cell? (⟨b1, 3, none⟩ : Addr) = some (Cell.val (.int .i64) x22)) <|
 keep (fun w => w.cell? (⟨b1, 2, none⟩ : Addr) = some (Cell.val (.int .i64) x21)) <|
 keep (fun w => w.cell? (p19.add 1) = some (Cell.val (.sl) x20)) <|
 aggSt (at0 b27) (.agg (Cells.vals c149 x26.1).toArray) 3 <|
 J17 ((at0 b27), x26.2.1, ())) <|
 nothing) fun (s18 : Addr × Int × Unit) =>
 lds c34 s8.1 fun (x28 : (Int × Int × Int × Unit)) =>
 lds c149 s18.1 fun (x29 : (Int × Int × Int × Unit)) =>
 callT Tryz.prog 105 #[(.agg (Cells.vals c34 x28).toArray), (.int .i64 s8.2.1), (.agg (Cells.vals c149 x29).toArray), (.int .i64 s18.2.1)] (.one (.one .bool)) fun (x30 : Bool) =>
 K x30) (
 sif (x6 == (2 : Int)) (
 join (S := Addr × Int × Unit) (fun J31 =>
 drew <|
 nn a0 fun p33 =>
 ld (.ptr) p33 fun (x34 : Option Addr) =>
 ld (.int .i64) (⟨b1, 2, none⟩ : Addr) fun (x35 : Int) =>
 lds c39 (at0 b5) fun (x36 : (Int × Int × Int × Unit)) =>
 both (
 newO (.cells #[(.int .i64 (0 : Int)), (.int .i64 (0 : Int)), (.int .i64 (0 : Int))] 34) fun b37 =>
 keep (fun w => cellsAt w (at0 b5) 0 (Cells.vals c39 x36)) <|
 keep (fun w => w.cell? (⟨b1, 2, none⟩ : Addr) = some (Cell.val (.int .i64) x35)) <|
 keep (fun w => w.cell? p33 = some (Cell.val (.ptr) x34)) <|
 callT Tryz.prog 31 #[(.pointer x34), (.int .i64 x35), (.agg (Cells.vals c39 x36).toArray)] (.tup [(.agg c34), (.one (.int .i64))]) fun (x38 : ((Int × Int × Int × Unit) × Int × Unit)) =>
 aggSt (at0 b37) (.agg (Cells.vals c34 x38.1).toArray) 3 <|
 J31 ((at0 b37), x38.2.1, ())) <|
 callT Tryz.prog 31 #[(.pointer x34), (.int .i64 x35), (.agg (Cells.vals c39 x36).toArray)] (.tup [(.agg c34), (.one (.int .i64))]) fun (x39 : ((Int × Int × Int × Unit) × Int × Unit)) =>
 both (
 newO (.cells #[(.int .i64 (0 : Int)), (.int .i64 (0 : Int)), (.int .i64 (0 : Int))] 34) fun b40 =>
 keep (fun w => cellsAt w (at0 b5) 0 (Cells.vals c39 x36)) <|
 keep (fun w => w.cell? (⟨b1, 2, none⟩ : Addr) = some (Cell.val (.int .i64) x35)) <|
 keep (fun w => w.cell? p33 = some (Cell.val (.ptr) x34)) <|
 aggSt (at0 b40) (.agg (Cells.vals c34 x39.1).toArray) 3 <|
 J31 ((at0 b40), x39.2.1, ())) <|
 nothing) fun (s32 : Addr × Int × Unit) =>
 join (S := Addr × Int × Unit) (fun J41 =>
 drew <|
 nn a0 fun p43 =>
 ld (.sl) (p43.add 1) fun (x44 : Sl) =>
 ld (.int .i64) (⟨b1, 2, none⟩ : Addr) fun (x45 : Int) =>
 ld (.int .i64) (⟨b1, 3, none⟩ : Addr) fun (x46 : Int) =>
 ld (.int .i64) (⟨b1, 4, none⟩ : Addr) fun (x47 : Int) =>
 ld (.int .i64) (⟨b1, 5, none⟩ : Addr) fun (x48 : Int) =>
 both (
 newO (.cells #[(.int .i64 (0 : Int)), (.int .i64 (0 : Int)), (.int .i64 (0 : Int))] 149) fun b49 =>
 keep (fun w => w.cell? (⟨b1, 5, none⟩ : Addr) = some (Cell.val (.int .i64) x48)) <|
 keep (fun w => w.cell? (⟨b1, 4, none⟩ : Addr) = some (Cell.val (.int .i64) x47)) <|
 keep (fun w => w.cell? (⟨b1, 3, none⟩ : Addr) = some (Cell.val (.int .i64) x46)) <|
 keep (fun w => w.cell? (⟨b1, 2, none⟩ : Addr) = some (Cell.val (.int .i64) x45)) <|
 keep (fun w => w.cell? (p43.add 1) = some (Cell.val (.sl) x44)) <|
 callT Tryz.prog 106 #[(.slice x44.a x44.len x44.cap), (.int .i64 x45), (.int .i64 x46), (.int .i64 x47), (.int .i64 x48)] (.tup [(.agg c149), (.one (.int .i64))]) fun (x50 : ((Int × Int × Int × Unit) × Int × Unit)) =>
 aggSt (at0 b49) (.agg (Cells.vals c149 x50.1).toArray) 3 <|
 J41 ((at0 b49), x50.2.1, ())) <|
 callT Tryz.prog 106 #[(.slice x44.a x44.len x44.cap), (.int .i64 x45), (.int .i64 x46), (.int .i64 x47), (.int .i64 x48)] (.tup [(.agg c149), (.one (.int .i64))]) fun (x51 : ((Int × Int × Int × Unit) × Int × Unit)) =>
 both (
 newO (.cells #[(.int .i64 (0 : Int)), (.int .i64 (0 : Int)), (.int .i64 (0 : Int))] 149) fun b52 =>
 keep (fun w => w.cell? (⟨b1, 5, none⟩ : Addr) = some (Cell.val (.int .i64) x48)) <|
 keep (fun w => w.cell? (⟨b1, 4, none⟩ : Addr) = some (Cell.val (.int .i64) x47)) <|
 keep (fun w => w.cell? (⟨b1, 3, none⟩ : Addr) = some (Cell.val (.int .i64) x46)) <|
 keep (fun w => w.cell? (⟨b1, 2, none⟩ : Addr) = some (Cell.val (.int .i64) x45)) <|
 keep (fun w => w.cell? (p43.add 1) = some (Cell.val (.sl) x44)) <|
 aggSt (at0 b52) (.agg (Cells.vals c149 x51.1).toArray) 3 <|
 J41 ((at0 b52), x51.2.1, ())) <|
 nothing) fun (s42 : Addr × Int × Unit) =>
 lds c34 s32.1 fun (x53 : (Int × Int × Int × Unit)) =>
 lds c149 s42.1 fun (x54 : (Int × Int × Int × Unit)) =>
 callT Tryz.prog 105 #[(.agg (Cells.vals c34 x53).toArray), (.int .i64 s32.2.1), (.agg (Cells.vals c149 x54).toArray), (.int .i64 s42.2.1)] (.one (.one .bool)) fun (x55 : Bool) =>
 K x55) (
 sif (x6 == (3 : Int)) (
 join (S := Addr × Int × Unit) (fun J56 =>
 drew <|
 nn a0 fun p58 =>
 ld (.ptr) p58 fun (x59 : Option Addr) =>
 ld (.int .i64) (⟨b1, 2, none⟩ : Addr) fun (x60 : Int) =>
 lds c39 (at0 b5) fun (x61 : (Int × Int × Int × Unit)) =>
 both (
 newO (.cells #[(.int .i64 (0 : Int)), (.int .i64 (0 : Int)), (.int .i64 (0 : Int))] 34) fun b62 =>
 keep (fun w => cellsAt w (at0 b5) 0 (Cells.vals c39 x61)) <|
 keep (fun w => w.cell? (⟨b1, 2, none⟩ : Addr) = some (Cell.val (.int .i64) x60)) <|
 keep (fun w => w.cell? p58 = some (Cell.val (.ptr) x59)) <|
 callT Tryz.prog 19 #[(.pointer x59), (.int .i64 x60), (.agg (Cells.vals c39 x61).toArray)] (.tup [(.agg c34), (.one (.int .i64))]) fun (x63 : ((Int × Int × Int × Unit) × Int × Unit)) =>
 aggSt (at0 b62) (.agg (Cells.vals c34 x63.1).toArray) 3 <|
 J56 ((at0 b62), x63.2.1, ())) <|
 callT Tryz.prog 19 #[(.pointer x59), (.int .i64 x60), (.agg (Cells.vals c39 x61).toArray)] (.tup [(.agg c34), (.one (.int .i64))]) fun (x64 : ((Int × Int × Int × Unit) × Int × Unit)) =>
 both (
 newO (.cells #[(.int .i64 (0 : Int)), (.int .i64 (0 : Int)), (.int .i64 (0 : Int))] 34) fun b65 =>
 keep (fun w => cellsAt w (at0 b5) 0 (Cells.vals c39 x61)) <|
 keep (fun w => w.cell? (⟨b1, 2, none⟩ : Addr) = some (Cell.val (.int .i64) x60)) <|
 keep (fun w => w.cell? p58 = some (Cell.val (.ptr) x59)) <|
 aggSt (at0 b65) (.agg (Cells.vals c34 x64.1).toArray) 3 <|
 J56 ((at0 b65), x64.2.1, ())) <|
 nothing) fun (s57 : Addr × Int × Unit) =>
 join (S := Addr × Int × Unit) (fun J66 =>
 drew <|
 nn a0 fun p68 =>
 ld (.sl) (p68.add 1) fun (x69 : Sl) =>
 ld (.int .i64) (⟨b1, 2, none⟩ : Addr) fun (x70 : Int) =>
 ld (.int .i64) (⟨b1, 3, none⟩ : Addr) fun (x71 : Int) =>
 ld (.int .i64) (⟨b1, 4, none⟩ : Addr) fun (x72 : Int) =>
 ld (.int .i64) (⟨b1, 5, none⟩ : Addr) fun (x73 : Int) =>
 both (
 newO (.cells #[(.int .i64 (0 : Int)), (.int .i64 (0 : Int)), (.int .i64 (0 : Int))] 149) fun b74 =>
 keep (fun w => w.cell? (⟨b1, 5, none⟩ : Addr) = some (Cell.val (.int .i64) x73)) <|
 keep (fun w => w.cell? (⟨b1, 4, none⟩ : Addr) = some (Cell.val (.int .i64) x72)) <|
 keep (fun w => w.cell? (⟨b1, 3, none⟩ : Addr) = some (Cell.val (.int .i64) x71)) <|
 keep (fun w => w.cell? (⟨b1, 2, none⟩ : Addr) = some (Cell.val (.int .i64) x70)) <|
 keep (fun w => w.cell? (p68.add 1) = some (Cell.val (.sl) x69)) <|
 callT Tryz.prog 107 #[(.slice x69.a x69.len x69.cap), (.int .i64 x70), (.int .i64 x71), (.int .i64 x72), (.int .i64 x73)] (.tup [(.agg c149), (.one (.int .i64))]) fun (x75 : ((Int × Int × Int × Unit) × Int × Unit)) =>
 aggSt (at0 b74) (.agg (Cells.vals c149 x75.1).toArray) 3 <|
 J66 ((at0 b74), x75.2.1, ())) <|
 callT Tryz.prog 107 #[(.slice x69.a x69.len x69.cap), (.int .i64 x70), (.int .i64 x71), (.int .i64 x72), (.int .i64 x73)] (.tup [(.agg c149), (.one (.int .i64))]) fun (x76 : ((Int × Int × Int × Unit) × Int × Unit)) =>
 both (
 newO (.cells #[(.int .i64 (0 : Int)), (.int .i64 (0 : Int)), (.int .i64 (0 : Int))] 149) fun b77 =>
 keep (fun w => w.cell? (⟨b1, 5, none⟩ : Addr) = some (Cell.val (.int .i64) x73)) <|
 keep (fun w => w.cell? (⟨b1, 4, none⟩ : Addr) = some (Cell.val (.int .i64) x72)) <|
 keep (fun w => w.cell? (⟨b1, 3, none⟩ : Addr) = some (Cell.val (.int .i64) x71)) <|
 keep (fun w => w.cell? (⟨b1, 2, none⟩ : Addr) = some (Cell.val (.int .i64) x70)) <|
 keep (fun w => w.cell? (p68.add 1) = some (Cell.val (.sl) x69)) <|
 aggSt (at0 b77) (.agg (Cells.vals c149 x76.1).toArray) 3 <|
 J66 ((at0 b77), x76.2.1, ())) <|
 nothing) fun (s67 : Addr × Int × Unit) =>
 lds c34 s57.1 fun (x78 : (Int × Int × Int × Unit)) =>
 lds c149 s67.1 fun (x79 : (Int × Int × Int × Unit)) =>
 callT Tryz.prog 105 #[(.agg (Cells.vals c34 x78).toArray), (.int .i64 s57.2.1), (.agg (Cells.vals c149 x79).toArray), (.int .i64 s67.2.1)] (.one (.one .bool)) fun (x80 : Bool) =>
 K x80) (
 sif (x6 == (4 : Int)) (
 join (S := Addr × Int × Unit) (fun J81 =>
 drew <|
 nn a0 fun p83 =>
 ld (.ptr) p83 fun (x84 : Option Addr) =>
 ld (.int .i64) (⟨b1, 2, none⟩ : Addr) fun (x85 : Int) =>
 lds c39 (at0 b5) fun (x86 : (Int × Int × Int × Unit)) =>
 both (
 newO (.cells #[(.int .i64 (0 : Int)), (.int .i64 (0 : Int)), (.int .i64 (0 : Int))] 34) fun b87 =>
 keep (fun w => cellsAt w (at0 b5) 0 (Cells.vals c39 x86)) <|
 keep (fun w => w.cell? (⟨b1, 2, none⟩ : Addr) = some (Cell.val (.int .i64) x85)) <|
 keep (fun w => w.cell? p83 = some (Cell.val (.ptr) x84)) <|
 callT Tryz.prog 33 #[(.pointer x84), (.int .i64 x85), (.agg (Cells.vals c39 x86).toArray)] (.tup [(.agg c34), (.one (.int .i64))]) fun (x88 : ((Int × Int × Int × Unit) × Int × Unit)) =>
 aggSt (at0 b87) (.agg (Cells.vals c34 x88.1).toArray) 3 <|
 J81 ((at0 b87), x88.2.1, ())) <|
 callT Tryz.prog 33 #[(.pointer x84), (.int .i64 x85), (.agg (Cells.vals c39 x86).toArray)] (.tup [(.agg c34), (.one (.int .i64))]) fun (x89 : ((Int × Int × Int × Unit) × Int × Unit)) =>
 both (
 newO (.cells #[(.int .i64 (0 : Int)), (.int .i64 (0 : Int)), (.int .i64 (0 : Int))] 34) fun b90 =>
 keep (fun w => cellsAt w (at0 b5) 0 (Cells.vals c39 x86)) <|
 keep (fun w => w.cell? (⟨b1, 2, none⟩ : Addr) = some (Cell.val (.int .i64) x85)) <|
 keep (fun w => w.cell? p83 = some (Cell.val (.ptr) x84)) <|
 aggSt (at0 b90) (.agg (Cells.vals c34 x89.1).toArray) 3 <|
 J81 ((at0 b90), x89.2.1, ())) <|
 nothing) fun (s82 : Addr × Int × Unit) =>
 join (S := Addr × Int × Unit) (fun J91 =>
 drew <|
 nn a0 fun p93 =>
 ld (.sl) (p93.add 1) fun (x94 : Sl) =>
 ld (.int .i64) (⟨b1, 2, none⟩ : Addr) fun (x95 : Int) =>
 ld (.int .i64) (⟨b1, 3, none⟩ : Addr) fun (x96 : Int) =>
 ld (.int .i64) (⟨b1, 4, none⟩ : Addr) fun (x97 : Int) =>
 both (
 newO (.cells #[(.int .i64 (0 : Int)), (.int .i64 (0 : Int)), (.int .i64 (0 : Int))] 149) fun b98 =>
 keep (fun w => w.cell? (⟨b1, 4, none⟩ : Addr) = some (Cell.val (.int .i64) x97)) <|
 keep (fun w => w.cell? (⟨b1, 3, none⟩ : Addr) = some (Cell.val (.int .i64) x96)) <|
 keep (fun w => w.cell? (⟨b1, 2, none⟩ : Addr) = some (Cell.val (.int .i64) x95)) <|
 keep (fun w => w.cell? (p93.add 1) = some (Cell.val (.sl) x94)) <|
 callT Tryz.prog 108 #[(.slice x94.a x94.len x94.cap), (.int .i64 x95), (.int .i64 x96), (.int .i64 x97)] (.tup [(.agg c149), (.one (.int .i64))]) fun (x99 : ((Int × Int × Int × Unit) × Int × Unit)) =>
 aggSt (at0 b98) (.agg (Cells.vals c149 x99.1).toArray) 3 <|
 J91 ((at0 b98), x99.2.1, ())) <|
 callT Tryz.prog 108 #[(.slice x94.a x94.len x94.cap), (.int .i64 x95), (.int .i64 x96), (.int .i64 x97)] (.tup [(.agg c149), (.one (.int .i64))]) fun (x100 : ((Int × Int × Int × Unit) × Int × Unit)) =>
 both (
 newO (.cells #[(.int .i64 (0 : Int)), (.int .i64 (0 : Int)), (.int .i64 (0 : Int))] 149) fun b101 =>
 keep (fun w => w.cell? (⟨b1, 4, none⟩ : Addr) = some (Cell.val (.int .i64) x97)) <|
 keep (fun w => w.cell? (⟨b1, 3, none⟩ : Addr) = some (Cell.val (.int .i64) x96)) <|
 keep (fun w => w.cell? (⟨b1, 2, none⟩ : Addr) = some (Cell.val (.int .i64) x95)) <|
 keep (fun w => w.cell? (p93.add 1) = some (Cell.val (.sl) x94)) <|
 aggSt (at0 b101) (.agg (Cells.vals c149 x100.1).toArray) 3 <|
 J91 ((at0 b101), x100.2.1, ())) <|
 nothing) fun (s92 : Addr × Int × Unit) =>
 lds c34 s82.1 fun (x102 : (Int × Int × Int × Unit)) =>
 lds c149 s92.1 fun (x103 : (Int × Int × Int × Unit)) =>
 callT Tryz.prog 105 #[(.agg (Cells.vals c34 x102).toArray), (.int .i64 s82.2.1), (.agg (Cells.vals c149 x103).toArray), (.int .i64 s92.2.1)] (.one (.one .bool)) fun (x104 : Bool) =>
 K x104) (
 sif (x6 == (5 : Int)) (
 join (S := Addr × Int × Unit) (fun J105 =>
 drew <|
 nn a0 fun p107 =>
 ld (.ptr) p107 fun (x108 : Option Addr) =>
 ld (.int .i64) (⟨b1, 2, none⟩ : Addr) fun (x109 : Int) =>
 lds c39 (at0 b5) fun (x110 : (Int × Int × Int × Unit)) =>
 both (
 newO (.cells #[(.int .i64 (0 : Int)), (.int .i64 (0 : Int)), (.int .i64 (0 : Int))] 34) fun b111 =>
 keep (fun w => cellsAt w (at0 b5) 0 (Cells.vals c39 x110)) <|
 keep (fun w => w.cell? (⟨b1, 2, none⟩ : Addr) = some (Cell.val (.int .i64) x109)) <|
 keep (fun w => w.cell? p107 = some (Cell.val (.ptr) x108)) <|
 callT Tryz.prog 20 #[(.pointer x108), (.int .i64 x109), (.agg (Cells.vals c39 x110).toArray)] (.tup [(.agg c34), (.one (.int .i64))]) fun (x112 : ((Int × Int × Int × Unit) × Int × Unit)) =>
 aggSt (at0 b111) (.agg (Cells.vals c34 x112.1).toArray) 3 <|
 J105 ((at0 b111), x112.2.1, ())) <|
 callT Tryz.prog 20 #[(.pointer x108), (.int .i64 x109), (.agg (Cells.vals c39 x110).toArray)] (.tup [(.agg c34), (.one (.int .i64))]) fun (x113 : ((Int × Int × Int × Unit) × Int × Unit)) =>
 both (
 newO (.cells #[(.int .i64 (0 : Int)), (.int .i64 (0 : Int)), (.int .i64 (0 : Int))] 34) fun b114 =>
 keep (fun w => cellsAt w (at0 b5) 0 (Cells.vals c39 x110)) <|
 keep (fun w => w.cell? (⟨b1, 2, none⟩ : Addr) = some (Cell.val (.int .i64) x109)) <|
 keep (fun w => w.cell? p107 = some (Cell.val (.ptr) x108)) <|
 aggSt (at0 b114) (.agg (Cells.vals c34 x113.1).toArray) 3 <|
 J105 ((at0 b114), x113.2.1, ())) <|
 nothing) fun (s106 : Addr × Int × Unit) =>
 join (S := Addr × Int × Unit) (fun J115 =>
 drew <|
 nn a0 fun p117 =>
 ld (.sl) (p117.add 1) fun (x118 : Sl) =>
 ld (.int .i64) (⟨b1, 2, none⟩ : Addr) fun (x119 : Int) =>
 ld (.int .i64) (⟨b1, 3, none⟩ : Addr) fun (x120 : Int) =>
 ld (.int .i64) (⟨b1, 4, none⟩ : Addr) fun (x121 : Int) =>
 ld (.int .i64) (⟨b1, 5, none⟩ : Addr) fun (x122 : Int) =>
 both (
 newO (.cells #[(.int .i64 (0 : Int)), (.int .i64 (0 : Int)), (.int .i64 (0 : Int))] 149) fun b123 =>
 keep (fun w => w.cell? (⟨b1, 5, none⟩ : Addr) = some (Cell.val (.int .i64) x122)) <|
 keep (fun w => w.cell? (⟨b1, 4, none⟩ : Addr) = some (Cell.val (.int .i64) x121)) <|
 keep (fun w => w.cell? (⟨b1, 3, none⟩ : Addr) = some (Cell.val (.int .i64) x120)) <|
 keep (fun w => w.cell? (⟨b1, 2, none⟩ : Addr) = some (Cell.val (.int .i64) x119)) <|
 keep (fun w => w.cell? (p117.add 1) = some (Cell.val (.sl) x118)) <|
 callT Tryz.prog 109 #[(.slice x118.a x118.len x118.cap), (.int .i64 x119), (.int .i64 x120), (.int .i64 x121), (.int .i64 x122)] (.tup [(.agg c149), (.one (.int .i64))]) fun (x124 : ((Int × Int × Int × Unit) × Int × Unit)) =>
 aggSt (at0 b123) (.agg (Cells.vals c149 x124.1).toArray) 3 <|
 J115 ((at0 b123), x124.2.1, ())) <|
 callT Tryz.prog 109 #[(.slice x118.a x118.len x118.cap), (.int .i64 x119), (.int .i64 x120), (.int .i64 x121), (.int .i64 x122)] (.tup [(.agg c149), (.one (.int .i64))]) fun (x125 : ((Int × Int × Int × Unit) × Int × Unit)) =>
 both (
 newO (.cells #[(.int .i64 (0 : Int)), (.int .i64 (0 : Int)), (.int .i64 (0 : Int))] 149) fun b126 =>
 keep (fun w => w.cell? (⟨b1, 5, none⟩ : Addr) = some (Cell.val (.int .i64) x122)) <|
 keep (fun w => w.cell? (⟨b1, 4, none⟩ : Addr) = some (Cell.val (.int .i64) x121)) <|
 keep (fun w => w.cell? (⟨b1, 3, none⟩ : Addr) = some (Cell.val (.int .i64) x120)) <|
 keep (fun w => w.cell? (⟨b1, 2, none⟩ : Addr) = some (Cell.val (.int .i64) x119)) <|
 keep (fun w => w.cell? (p117.add 1) = some (Cell.val (.sl) x118)) <|
 aggSt (at0 b126) (.agg (Cells.vals c149 x125.1).toArray) 3 <|
 J115 ((at0 b126), x125.2.1, ())) <|
 nothing) fun (s116 : Addr × Int × Unit) =>
 lds c34 s106.1 fun (x127 : (Int × Int × Int × Unit)) =>
 lds c149 s116.1 fun (x128 : (Int × Int × Int × Unit)) =>
 callT Tryz.prog 105 #[(.agg (Cells.vals c34 x127).toArray), (.int .i64 s106.2.1), (.agg (Cells.vals c149 x128).toArray), (.int .i64 s116.2.1)] (.one (.one .bool)) fun (x129 : Bool) =>
 K x129) (
 K true)))))
noncomputable def h76 : Hint := (hS (hR 2) (hS (hR 9) (hS (hS (hR 2) (.block (hS (hR 2) (hC (hJ (281337537757376, [(6, (.one .addr)), (7, tI)]) (.region [0, 1, 2, 3, 4, 5, 6, 7, 8, 9, 10, 12, 13] (.float [11] (.ops 7 (.alt none (.plain (hO 6)) (.ops 4 (.alt none (.plain (hO 2)) .stop)))))) (hJ (4611404543450678016, [(8, (.one .addr)), (9, tI)]) (.region [0, 1, 2, 3, 4, 5, 6, 7, 8, 9, 10, 11, 12, 13, 15, 16] (.float [14] (.ops 10 (.alt none (.plain (hO 6)) (.ops 4 (.alt none (.plain (hO 2)) .stop)))))) (hS (hR 6) hL))) (hS (hR 2) (hC (hJ (1208335523804270469057536, [(10, (.one .addr)), (11, tI)]) (.region [0, 1, 2, 3, 4, 5, 6, 7, 8, 9, 10, 12, 13] (.float [11] (.ops 7 (.alt none (.plain (hO 6)) (.ops 4 (.alt none (.plain (hO 2)) .stop)))))) (hJ (79226953588444722964369256448, [(12, (.one .addr)), (13, tI)]) (.region [0, 1, 2, 3, 4, 5, 6, 7, 8, 9, 10, 11, 12, 13, 14, 15, 17, 18] (.float [16] (.ops 12 (.alt none (.plain (hO 6)) (.ops 4 (.alt none (.plain (hO 2)) .stop)))))) (hS (hR 6) hL))) (hS (hR 2) (hC (hJ (20759046229337484678910011691286528, [(14, (.one .addr)), (15, tI)]) (.region [0, 1, 2, 3, 4, 5, 6, 7, 8, 9, 10, 12, 13] (.float [11] (.ops 7 (.alt none (.plain (hO 6)) (.ops 4 (.alt none (.plain (hO 2)) .stop)))))) (hJ (1361108698496319714542984307741756162048, [(16, (.one .addr)), (17, tI)]) (.region [0, 1, 2, 3, 4, 5, 6, 7, 8, 9, 10, 11, 12, 13, 14, 15, 17, 18] (.float [16] (.ops 12 (.alt none (.plain (hO 6)) (.ops 4 (.alt none (.plain (hO 2)) .stop)))))) (hS (hR 6) hL))) (hS (hR 2) (hC (hJ (356637698604626449771278244563368718772207616, [(18, (.one .addr)), (19, tI)]) (.region [0, 1, 2, 3, 4, 5, 6, 7, 8, 9, 10, 12, 13] (.float [11] (.ops 7 (.alt none (.plain (hO 6)) (.ops 4 (.alt none (.plain (hO 2)) .stop)))))) (hJ (5845649737400435182844474759372769704839637630976, [(20, (.one .addr)), (21, tI)]) (.region [0, 1, 2, 3, 4, 5, 6, 7, 8, 9, 10, 11, 12, 13, 15, 16] (.float [14] (.ops 10 (.alt none (.plain (hO 6)) (.ops 4 (.alt none (.plain (hO 2)) .stop)))))) (hS (hR 6) hL))) (hS (hR 2) (hC (hJ (1531747252027575436064226740515958446712675284734181376, [(22, (.one .addr)), (23, tI)]) (.region [0, 1, 2, 3, 4, 5, 6, 7, 8, 9, 10, 12, 13] (.float [11] (.ops 7 (.alt none (.plain (hO 6)) (.ops 4 (.alt none (.plain (hO 2)) .stop)))))) (hJ (100432095270646026332514272424295512348454068372302418935808, [(24, (.one .addr)), (25, tI)]) (.region [0, 1, 2, 3, 4, 5, 6, 7, 8, 9, 10, 11, 12, 13, 14, 15, 17, 18] (.float [16] (.ops 12 (.alt none (.plain (hO 6)) (.ops 4 (.alt none (.plain (hO 2)) .stop)))))) (hS (hR 6) hL))) hL)))))))))))) (hS (hR 1) hL))))
theorem F76_calls {a0 : Option Addr} {a1 : (Int × Int × Int × Int × Int × Int × Sl × Unit)} {K : Bool → World → Prop} {w : World} (h : F76 a0 a1 K w) : callT Tryz.prog 76 #[(.pointer a0), (.agg (Cells.vals c43 a1).toArray)] (.one (.one .bool)) K w := tied tabOk Tryz.func76 h76 [(.pointer a0), (.agg (Cells.vals c43 a1).toArray)] (by kernel_rfl) h
noncomputable def F103 (a0 : Sl) (a1 : Int) (a2 : Int) (a3 : Sl) (K : Sl → World → Prop) : World → Prop :=
 slc a0.a 0 a1 ((a0.cap : Nat) : Int) a0.cap 1 fun x1 =>
 callT Tryz.prog 32 #[(.slice x1.a x1.len x1.cap), (.slice a3.a a3.len a3.cap)] (.one (.one .sl)) fun (x2 : Sl) =>
 slc a0.a a2 ((a0.len : Nat) : Int) ((a0.cap : Nat) : Int) a0.cap 1 fun x3 =>
 callT Tryz.prog 32 #[(.slice x2.a x2.len x2.cap), (.slice x3.a x3.len x3.cap)] (.one (.one .sl)) fun (x4 : Sl) =>
 K x4
noncomputable def h103 : Hint := (hS (hR 1) (hS (hR 6) (hS (hR 6) hL)))
theorem F103_calls {a0 : Sl} {a1 : Int} {a2 : Int} {a3 : Sl} {K : Sl → World → Prop} {w : World} (h : F103 a0 a1 a2 a3 K w) : callT Tryz.prog 103 #[(.slice a0.a a0.len a0.cap), (.int .i64 a1), (.int .i64 a2), (.slice a3.a a3.len a3.cap)] (.one (.one .sl)) K w := tied tabOk Tryz.func103 h103 [(.slice a0.a a0.len a0.cap), (.int .i64 a1), (.int .i64 a2), (.slice a3.a a3.len a3.cap)] (by kernel_rfl) h
noncomputable def F105 (a0 : (Int × Int × Int × Unit)) (a1 : Int) (a2 : (Int × Int × Int × Unit)) (a3 : Int) (K : Bool → World → Prop) : World → Prop :=
 newO (.cells #[(.int .i64 a0.1), (.int .i64 a0.2.1), (.int .i64 a0.2.2.1)] 34) fun b1 =>
 newO (.cells #[(.int .i64 a2.1), (.int .i64 a2.2.1), (.int .i64 a2.2.2.1)] 149) fun b2 =>
 ld (.int .i64) (at0 b1) fun (x3 : Int) =>
 ld (.int .i64) (at0 b2) fun (x4 : Int) =>
 sif (x3 == x4) (
 ld (.int .i64) (⟨b1, 1, none⟩ : Addr) fun (x5 : Int) =>
 ld (.int .i64) (⟨b2, 1, none⟩ : Addr) fun (x6 : Int) =>
 sif (x5 == x6) (
 ld (.int .i64) (⟨b1, 2, none⟩ : Addr) fun (x7 : Int) =>
 ld (.int .i64) (⟨b2, 2, none⟩ : Addr) fun (x8 : Int) =>
 sif (x7 == x8) (
 K (a1 == a3)) (
 K false)) (
 K false)) (
 K false)
noncomputable def h105 : Hint := (hS (hR 3) (hS (.region [] (.ops 6 (.split 14 (.ops 7 (.split 21 (.ops 7 (.split 28 (hO 5) (.skips 3 (hO 2)))) (.skips 5 (.ops 2 (.skips 3 (hO 2)))))) (.skips 5 (.ops 2 (.skips 5 (.ops 2 (.skips 3 (hO 2))))))))) hL))
theorem F105_calls {a0 : (Int × Int × Int × Unit)} {a1 : Int} {a2 : (Int × Int × Int × Unit)} {a3 : Int} {K : Bool → World → Prop} {w : World} (h : F105 a0 a1 a2 a3 K w) : callT Tryz.prog 105 #[(.agg (Cells.vals c34 a0).toArray), (.int .i64 a1), (.agg (Cells.vals c149 a2).toArray), (.int .i64 a3)] (.one (.one .bool)) K w := tied tabOk Tryz.func105 h105 [(.agg (Cells.vals c34 a0).toArray), (.int .i64 a1), (.agg (Cells.vals c149 a2).toArray), (.int .i64 a3)] (by kernel_rfl) h
end Go.Proofs.YtabcpghhfeplaaaGreat
namespace Go.Proofs.YtabcpghhfeplaaaGreat
open Go Go.Vx Cdc Trx Gly Clu Lns Obx
section
variable {w w' : World} {S : Nat → Prop} {p : Nat} {e : Enc} {lim na : Nat} {O : Nat → Prop} {M : Parts}
abbrev In64 (x : Int) : Prop := -(2 ^ 63) ≤ x ∧ x < 2 ^ 63
def within (x : Int) (n : Nat) : Nat := (if x < 0 then -(x + 1) else x).toNat % (n + 1)
theorem within_le (x : Int) (n : Nat) : within x n ≤ n := by have := Nat.mod_lt (if x < 0 then -(x + 1) else x).toNat (show 0 < n + 1 by omega); unfold within; omega
theorem within_call {x : Int} {n : Nat} (hx : In64 x) (hn : n < 2 ^ 62) {K : Int → World → Prop} (hK : K ((within x n : Nat) : Int) w) : callT Tryz.prog 18 #[.int .i64 x, .int .i64 (n : Int)] (.one (.one (.int .i64))) K w := by
 refine F18_calls ?_
 unfold F18
 have ew : IntKind.wrap .i64 ((n : Int) + 1) = ((n + 1 : Nat) : Int) := by rw [wrap64 (by omega) (by omega)]; omega
 rw [ew]
 refine join_r (fun y W => y = ((((if x < 0 then -(x + 1) else x).toNat : Nat) : Int), ()) ∧ w = W) ?_ ?_
 ·refine sif_r (fun h => ⟨?_, rfl⟩) (fun h => ⟨?_, rfl⟩)
  ·simp only [decide_eq_true_eq] at h
   rw [if_pos h, wrap64 (a := x + 1) (by omega) (by omega), wrap64 (by omega) (by omega)]
   congr 1; omega
  ·simp only [decide_eq_false_iff_not] at h
   rw [if_neg h]
   congr 1; omega
 rintro _ _ ⟨rfl, rfl⟩
 refine chk_r (by omega) ?_
 rw [Int.tmod_eq_emod_of_nonneg (by omega)]
 exact hK
theorem sk_isb {A : List Int} {i : Nat} (h : isb A i = true) : sk A (nb A i + 1) = some (i + 1) := by
 have hi := isb_lt h
 have hn : nb A (i + 1) = nb A i + 1 := by rw [nb_succ, h]; rfl
 have hle : nb A i + 1 ≤ brs A := by rw [← hn, brs_nb]; exact nb_mono A _ _ (by omega)
 obtain ⟨m, hm⟩ := sk_ok hle
 obtain ⟨_, _, h3, h4⟩ := sk_get hm
 rw [hm]
 have h1 : ¬ i + 1 < m := fun hc => by have := h4 _ hc; omega
 have h2 : ¬ m < i + 1 := fun hc => by have := nb_mono A m i (by omega); omega
 congr 1; omega
theorem lined_call {s : Sl} {t : TypeId} (h : Txt w p e lim na O M) (hs : SlIn w s t 1 (iv (atoms (aOf e M)))) {K : Bool → World → Prop} (hK : ∀ w', Ext w w' → K true w') :
  callT Tryz.prog 36 #[.pointer (some (at0 p)), .slice s.a s.len s.cap] (.one (.one .bool)) K w := by
 refine F36_calls ?_
 unfold F36
 have few := h.few; have lims := h.lims
 have hal := hal e M
 generalize hA : atoms (aOf e M) = A at *
 have hlen : A.length = s.len := by have := hs.len1; rwa [List.length_map] at this
 refine join_r (fun _ W => Ext w W) ?_ (fun _ W h => hK W h)
 refine sloop_r (fun x W => ∃ i : Nat, i ≤ A.length ∧ x = (((nb A i : Nat) : Int), (i : Int), ()) ∧ Ext w W) (fun x _ => ((A.length : Int) - x.2.1).toNat) ⟨0, Nat.zero_le _, by rw [nb_zero]; rfl, Ext.refl w⟩ ?_
 rintro _ W ⟨i, hi, rfl, e1⟩
 refine sif_r (fun hc => ?_) (fun _ => e1)
 simp only [decide_eq_true_eq] at hc
 have hil : i < A.length := by omega
 obtain ⟨a, ha⟩ : ∃ a, A[i]? = some a := ⟨_, List.getElem?_eq_getElem hil⟩
 have hnl := nb_le A i
 have ew : IntKind.wrap .i64 ((i : Int) + 1) = ((i + 1 : Nat) : Int) := by rw [wrap64 (by omega) (by omega)]; omega
 have ewn : IntKind.wrap .i64 (((nb A i : Nat) : Int) + 1) = ((nb A i + 1 : Nat) : Int) := by rw [wrap64 (by omega) (by omega)]; omega
 rw [ew, ewn]
 have hs1 := hs.ext e1
 have rd : ∀ {K : Addr → Int → World → Prop}, (∀ p, K p a W) → ix s.a s.len (i : Int) (fun p => ld (.int .i64) (p.add (scaled (Int.toNat (i : Int)) 1)) (K p)) W := fun hk => ix_ld (c := .int .i64) (xs := A) hs1 (by omega) (x := a) (by rw [Int.toNat_natCast]; exact ha) hk
 refine join_r (fun x W' => x = (((nb A (i + 1) : Nat) : Int), ()) ∧ Ext w W') ?_ ?_
 ·refine join_r (fun x W' => x = (isb A i, ()) ∧ W = W') ?_ ?_
  ·refine rd fun p1 => sif_r (fun h10 => ⟨tupb ?_, rfl⟩) (fun h10 => rd fun p2 => sif_r (fun h13 => sif_r (fun he => ⟨tupb ?_, rfl⟩) (fun he => ?_)) (fun h13 => ⟨tupb ?_, rfl⟩))
   all_goals simp only [beq_iff_eq, beq_eq_false_iff_ne, ne_eq, true_iff, Bool.false_eq_true, false_iff] at *
   ·exact (isb_iff ha).2 (.inl h10)
   ·exact (isb_iff ha).2 (.inr ⟨h13, by rw [List.getElem?_eq_none (by omega)]; intro h; cases h⟩)
   ·obtain ⟨b, hb⟩ : ∃ b, A[i + 1]? = some b := ⟨_, List.getElem?_eq_getElem (by omega)⟩
    refine ix_ld (c := .int .i64) (xs := A) hs1 (by omega) (x := b) (by rw [Int.toNat_natCast]; exact hb) fun p3 => ⟨tupb ?_, rfl⟩
    rw [isb_iff ha, hb, bne_iff_ne, ne_eq, ne_eq, Option.some.injEq]
    exact ⟨fun h => .inr ⟨h13, h⟩, fun h => h.elim (fun h => absurd h h10) fun h => h.2⟩
   ·rw [isb_iff ha]
    exact fun h => h.elim h10 fun h => h13 h.1
  rintro _ _ ⟨rfl, rfl⟩
  refine sif_r (fun hb => ?_) (fun hb => ?_)
  ·have hb : isb A i = true := hb
   have hn : nb A (i + 1) = nb A i + 1 := by rw [nb_succ, hb]; rfl
   refine join_r (fun x W' => x = (false, ()) ∧ Ext w W') ?_ ?_
   ·refine breaks_call (h.ext e1) fun w2 e2 => ?_
    rw [hA, Int.toNat_natCast, hn]
    refine sif_r (fun h => by simp at h) (fun _ => seek_call (h.ext (e1.trans e2)) fun w3 e3 => ⟨?_, (e1.trans e2).trans e3⟩)
    rw [hA, skI_nat, sk_isb hb]
    refine tupb ?_
    simp
   rintro _ w4 ⟨rfl, e4⟩
   refine sif_false ⟨?_, e4⟩
   rw [hn]
  ·have hb : isb A i = false := hb
   have hn : nb A (i + 1) = nb A i := by rw [nb_succ, hb]; rfl
   exact ⟨by rw [hn], e1⟩
 ·rintro _ W' ⟨rfl, e2⟩
  exact ⟨⟨i + 1, by omega, rfl, e2⟩, by dsimp only; omega⟩
theorem enc_of (x : Int) : ∃ e : Enc, IntKind.wrap .i64 ((1 : Int) + (IntKind.wrap .i64 ((BitVec.toNat (BitVec.ofInt (IntKind.bits .i64) x &&& BitVec.ofInt (IntKind.bits .i64) (3 : Int)) : Nat) : Int))) = e.num := by
 have h : BitVec.toNat (BitVec.ofInt (IntKind.bits .i64) x &&& BitVec.ofInt (IntKind.bits .i64) (3 : Int)) ≤ 3 := by
  rw [BitVec.toNat_and]
  exact Nat.le_trans Nat.and_le_right (by decide)
 generalize BitVec.toNat (BitVec.ofInt (IntKind.bits .i64) x &&& BitVec.ofInt (IntKind.bits .i64) (3 : Int)) = n at h
 match n, h with
 | 0, _ => exact ⟨.u8, by decide⟩
 | 1, _ => exact ⟨.le, by decide⟩
 | 2, _ => exact ⟨.be, by decide⟩
 | 3, _ => exact ⟨.l1, by decide⟩
theorem ix_byX {s : Sl} {l : Bs} {n : Int} {K : Addr → Int → World → Prop} (h : SlX w s 1 (bv l)) (h0 : 0 ≤ n) {b : UInt8} (hb : l[n.toNat]? = some b) (hK : ∀ p, K p (b.toNat : Int) w) :
  ix s.a s.len n (fun p => ld (.int .u8) (p.add (scaled (Int.toNat n) 1)) (K p)) w := by
 rw [bv_map] at h
 exact ix_ldX (c := .int .u8) (xs := l.map fun b => (b.toNat : Int)) h h0 (x := (b.toNat : Int)) (by rw [List.getElem?_map, hb]; rfl) hK
abbrev stT (enc : Int) (s : Sl) : Cells.T c24 := (enc, s, ())
structure Bth (w : World) (N p : Nat) (e : Enc) (O : Nat → Prop) (M : Parts) (s : Sl) : Prop where
 txt : Txt w p e 65536 0 O M
 lst : SlOwn w N s 3 1 (iv (atoms (aOf e M)))
 new : ∀ k, O k → N ≤ k
theorem opened_callT {enc : Int} {s : Sl} {l : Bs} (hs : SlX w s 1 (bv l)) (hl : l.length < 2 ^ 60) {K : (Option Addr × Sl × Unit) × Bool × Unit → World → Prop}
  (hK : ∀ p e O M s' w', Bth w' w.heap.size p e O M s' → Ext w w' → aOf e M = ats e (l.take (min l.length 50000)) → IntKind.wrap .i64 ((1 : Int) + (IntKind.wrap .i64 ((BitVec.toNat (BitVec.ofInt (IntKind.bits .i64) enc &&& BitVec.ofInt (IntKind.bits .i64) (3 : Int)) : Nat) : Int))) = e.num → (∀ k, s'.blk k → ¬ O k) → K ((some (at0 p), s', ()), true, ()) w') :
  callT Tryz.prog 16 #[.agg (Cells.vals c24 (stT enc s)).toArray] (.tup [(.agg c28), (.one .bool)]) K w := by
 refine F16_calls (a0 := stT enc s) ?_
 unfold F16
 have hlen : l.length = s.len := by have := hs.len1; rwa [List.length_map] at this
 let Z : Obj := .cells #[.pointer none, .slice none 0 0] 28 (0, 0)
 let Q : Obj := .cells (Cells.vals c24 (stT enc s)).toArray 24 (0, 0)
 refine (St.start w).newO fun b1 w1 S1 e1 => S1.newO fun b2 w2 S2 e2 => ?_
 have S2 : St (fun _ => False) w w2 [(b2, Z), (b1, Q)] := S2
 refine S2.ld 1 rfl (x := enc) rfl ?_
 refine join_r (fun x W => ∃ m, m = min l.length 50000 ∧ SlOwn W w.heap.size x.1 5 1 (bv (l.take m)) ∧ St (fun _ => False) w W [(b2, Z), (b1, Q)]) ?_ ?_
 ·refine sloop_r (fun x W => ∃ i : Nat, i ≤ l.length ∧ i ≤ 50000 ∧ x.2 = ((i : Int), ()) ∧ SlOwn W w2.heap.size x.1 5 1 (bv (l.take i)) ∧ St (fun _ => False) w W [(b2, Z), (b1, Q)] ∧ w2.heap.size ≤ W.heap.size) (fun x _ => ((l.length : Int) - x.2.1).toNat) ⟨0, Nat.zero_le _, Nat.zero_le _, rfl, SlOwn.nil _ _ _ _, S2, Nat.le_refl _⟩ ?_
  rintro ⟨r, _⟩ W ⟨i, hi, hi2, rfl, hr, SW, hW⟩
  dsimp only at hr ⊢
  have hrl := hr.len1
  rw [List.length_map, List.length_take] at hrl
  refine join_r (fun x W' => x = (decide (i < l.length ∧ i < 50000), ()) ∧ W = W') ?_ ?_
  ·refine SW.ld 1 rfl (x := s) rfl (sif_r (fun h => ⟨tupb ?_, rfl⟩) (fun h => ⟨tupb ?_, rfl⟩))
   all_goals simp only [decide_eq_true_eq, decide_eq_false_iff_not, Bool.false_eq_true, false_iff] at *
   all_goals omega
  rintro _ _ ⟨rfl, rfl⟩
  refine sif_r (fun hc => ?_) (fun hc => ?_)
  ·simp only [decide_eq_true_eq] at hc
   obtain ⟨b, hb⟩ : ∃ b, l[i]? = some b := ⟨_, List.getElem?_eq_getElem hc.1⟩
   have hsW : SlX W s 1 (bv l) := hs.ext SW.upd
   refine SW.ld 1 rfl (x := s) rfl (ix_byX hsW (by omega) (b := b) (by rw [Int.toNat_natCast]; exact hb) fun q => newO_r fun b14 w4 e4 n4 hb4 _ => ?_)
   have hbox : SlX w4 ⟨some (at0 b14), 1, 1⟩ 1 (bv [b]) := (SlIn.of_box n4 (n := 1) (sz := 1) rfl).x
   refine append_rx EBy EBy.ts_ (x := ⟨some (at0 b14), 1, 1⟩) (hr.ext e4) hbox (bv_one [b]) (by
    show (r.len + 1 + (r.len + 1) / 4 + 512) * 1 ≤ 2 ^ 48
    omega) (by have := e4.size; omega) fun r' w5 o5 l5 u5 k5 => ?_
   have ew : IntKind.wrap .i64 ((i : Int) + 1) = ((i + 1 : Nat) : Int) := by rw [wrap64 (by omega) (by omega)]; omega
   rw [ew]
   have e5 : bv (l.take i) ++ bv [b] = bv (l.take (i + 1)) := by rw [List.take_add_one, hb]; simp [bv]
   rw [e5] at o5
   refine ⟨⟨i + 1, by omega, by omega, rfl, o5, (SW.ext e4).fresh u5 (fun k hk => .inr ?_) (fun x hx hk => ?_), ?_⟩, by omega⟩
   ·have := hr.blk_ge hk; have := S2.upd.size; omega
   ·have h1 := hr.blk_ge hk
    have h2 := S2.lt x hx
    omega
   ·have := e4.size; have := u5.size; omega
  ·simp only [decide_eq_false_iff_not] at hc
   exact ⟨i, by omega, hr.mono S2.upd.size, SW⟩
 rintro ⟨d, _⟩ w3 ⟨m, hm, hd, S3⟩
 dsimp only at hd ⊢
 obtain ⟨e, he⟩ := enc_of enc
 rw [he]
 have hml : (l.take m).length ≤ 50000 := by rw [List.length_take]; omega
 refine decode_call (e := e) hd.in (by omega) fun a w4 o4 e4 => ?_
 refine open_call (e := e) (lim := 65536) (hd.in.ext e4) (by omega) (by decide) fun p O M w5 tx hM hB e5 hO => ?_
 have S5 := (S3.ext e4).ext e5
 have o5 := o4.ext e5
 rw [← hM] at o5
 refine join_r (fun x W => x = (false, ()) ∧ w5 = W) (sif_r (fun h => by simp at h) (fun _ => ⟨rfl, rfl⟩)) ?_
 rintro _ _ ⟨rfl, rfl⟩
 refine sif_false (lined_call tx o5.in fun w6 e6 => ?_)
 have S6 := S5.ext e6
 have h3 := S3.upd.size
 have h4 := e4.size
 refine S6.aggSt 0 rfl rfl rfl rfl fun w7 S7 u7 => S7.lds 0 (some (at0 p), a, ()) rfl (hK p e O M a w7 ⟨?_, ?_, fun k hk => ?_⟩ S7.upd (by rw [hM, hm]) he fun k hk hO' => by
  have h1 := o4.in.blk_lt hk
  have := hO k hO'
  omega)
 ·refine (tx.ext e6).upd u7 (fun k hk hS => ?_) (NoTy.box (S6.at_ 0 rfl) (by decide))
  have := hO k hk
  have hb2 := S5.lt _ List.mem_cons_self
  have hb2' := S3.lt _ List.mem_cons_self
  simp only at hb2'
  omega
 ·exact ((o5.ext e6).mono h3).box (S6.at_ 0 rfl) (by decide) u7
 ·have := hO k hk; omega
theorem opened_call {enc : Int} {s : Sl} {l : Bs} (hs : SlX w s 1 (bv l)) (hl : l.length < 2 ^ 60) {K : (Option Addr × Sl × Unit) × Bool × Unit → World → Prop}
  (hK : ∀ p e O M s' w', Bth w' w.heap.size p e O M s' → Ext w w' → (l.length ≤ 50000 → aOf e M = ats e l) → IntKind.wrap .i64 ((1 : Int) + (IntKind.wrap .i64 ((BitVec.toNat (BitVec.ofInt (IntKind.bits .i64) enc &&& BitVec.ofInt (IntKind.bits .i64) (3 : Int)) : Nat) : Int))) = e.num → K ((some (at0 p), s', ()), true, ()) w') :
  callT Tryz.prog 16 #[.agg (Cells.vals c24 (stT enc s)).toArray] (.tup [(.agg c28), (.one .bool)]) K w :=
 opened_callT hs hl fun p e O M s' w' hB x hM he _ => hK p e O M s' w' hB x (fun h => by rw [hM, List.take_of_length_le (by omega)]) he
end
section
variable {w w' : World} {S : Nat → Prop} {p : Nat} {e : Enc} {lim na : Nat} {O : Nat → Prop} {M : Parts}
abbrev exB : Bs := [40, 34, 120, 34, 41]
abbrev exA : List Int := [40, 34, 120, 34, 41]
theorem ats_ex : atoms (ats .u8 exB) = exA := by
 have one : ∀ (b : UInt8) (r : Bs), b.toNat < 128 → ats .u8 (b :: r) = ((b.toNat : Int), 1) :: ats .u8 r := by
  intro b r hb
  have h1 : nx .u8 (b :: r) = ((b.toNat : Int), 1) := by
   have hbn : bnds b.toNat = (1, 0, 0) := by unfold bnds; rw [if_pos hb]
   have hr : rowOf (b :: r) = (1, 1) := by simp only [rowOf, hbn]; rw [if_pos (by decide)]
   show nx8 (b :: r) = _
   simp only [nx8, hr]
   rw [if_neg (by decide)]
   rfl
  rw [ats_cons .u8 (by simp), h1]; rfl
 rw [one _ _ (by decide), one _ _ (by decide), one _ _ (by decide), one _ _ (by decide), one _ _ (by decide), ats_nil]
 rfl
theorem litBytes {b n : Nat} {l : Bs} {c : Array Value} {K : Sl → World → Prop} (hb : w.heap[b]? = some (.cells c 5 (0, 0))) (hc : c.toList = bv l) (hn : n = l.length) (hw : ∀ w', SlX w' ⟨some (at0 b), n, n⟩ 1 (bv l) → Upd (fun k => k = b) w w' → K ⟨some (at0 b), n, n⟩ w') :
  rawT Tryz.prog (.one (.one .sl)) (convert 22 22 (.slice (some (at0 b)) n n)) K w := by
 subst hn
 refine lit_r i22_ok.und i5_ok.und hb fun w' fr hb' u => hw w' ?_ u
 have hs : c.size = l.length * 1 := by rw [← Array.length_toList, hc, List.length_map]; omega
 have := SlIn.of_box hb' (n := l.length) (sz := 1) hs
 rw [hc] at this
 exact this.x
end
end Go.Proofs.YtabcpghhfeplaaaGreat
namespace Go.Proofs.YtabcpghhfeplaaaGreat
open Trx Gly Clu Lns Obx
namespace Obx
def endP (L : List Nat) (i : Nat) : Nat := i + 1 + ((L.drop (i + 1)).takeWhile fun s => s == L.getD i 0).length
def beginP (L : List Nat) : Nat → Nat
 | 0 => 0
 | i + 1 => if L.getD i 0 = L.getD (i + 1) 0 then beginP L i else i + 1
def innerGo (L : List Nat) : Nat → Nat → Option Nat
 | _, 0 => none
 | j, 1 => if j < L.length then some (endP L j) else none
 | j, k + 2 => if j < L.length then innerGo L (endP L j) (k + 1) else none
def innerP (L : List Nat) (i k : Nat) : Option (Nat × Nat) := (innerGo L i k).map fun j => (beginP L i, j)
def overP (L : List Nat) (j : Nat) : Nat := if j < L.length ∧ L.getD j 0 = 0 then endP L j else j
def aroundGo (L : List Nat) : Nat → Nat → Option Nat
 | _, 0 => none
 | j, 1 => if overP L j < L.length then some (endP L (overP L j)) else none
 | j, k + 2 => if overP L j < L.length then aroundGo L (endP L (overP L j)) (k + 1) else none
def aroundP (L : List Nat) (i k : Nat) : Option (Nat × Nat) := (aroundGo L i k).map fun j =>
 if L.getD i 0 = 0 then (beginP L i, j) else if j < L.length ∧ L.getD j 0 = 0 then (beginP L i, endP L j)
 else if 0 < beginP L i ∧ L.getD (beginP L i - 1) 0 = 0 then (beginP L (beginP L i - 1), j) else (beginP L i, j)
theorem endP_gt (L : List Nat) (i : Nat) : i < endP L i := by unfold endP; omega
theorem endP_le {L : List Nat} {i : Nat} (h : i < L.length) : endP L i ≤ L.length := by
 unfold endP
 have := (List.takeWhile_sublist (fun s => s == L.getD i 0) (l := L.drop (i + 1))).length_le
 rw [List.length_drop] at this
 omega
theorem getD_of {L : List Nat} {j s : Nat} (h : L[j]? = some s) : L.getD j 0 = s := by rw [List.getD_eq_getElem?_getD, h]; rfl
theorem tw_mem {α : Type} {p : α → Bool} : ∀ {l : List α} {x : α}, x ∈ l.takeWhile p → p x = true
 | [], _, h => by simp at h
 | y :: r, x, h => by
  rw [List.takeWhile_cons] at h
  split at h
  ·rename_i hy
   rcases List.mem_cons.1 h with rfl | h
   ·exact hy
   ·exact tw_mem h
  ·cases h
theorem endP_same {L : List Nat} {i j : Nat} (h1 : i < j) (h2 : j < endP L i) (hj : j < L.length) : L.getD j 0 = L.getD i 0 := by
 unfold endP at h2
 have hlt : j - (i + 1) < ((L.drop (i + 1)).takeWhile fun s => s == L.getD i 0).length := by omega
 have hm := List.getElem_mem hlt
 have ht := tw_mem hm
 have hp : ((L.drop (i + 1)).takeWhile fun s => s == L.getD i 0) <+: L.drop (i + 1) := List.takeWhile_prefix _
 have he := hp.getElem hlt
 rw [he, List.getElem_drop] at ht
 have : i + 1 + (j - (i + 1)) = j := by omega
 simp only [this, beq_iff_eq] at ht
 rw [List.getD_eq_getElem?_getD, List.getElem?_eq_getElem hj]
 exact ht
theorem endP_stop {L : List Nat} {i : Nat} (h : endP L i < L.length) : L.getD (endP L i) 0 ≠ L.getD i 0 := by
 unfold endP at h ⊢
 generalize hn : ((L.drop (i + 1)).takeWhile fun s => s == L.getD i 0).length = n at *
 have hlt : n < (L.drop (i + 1)).length := by rw [List.length_drop]; omega
 have key : ∀ (p : Nat → Bool) (l : List Nat) (h : (l.takeWhile p).length < l.length), p l[(l.takeWhile p).length] = false := by
  intro p l
  induction l with
  | nil => intro h; simp at h
  | cons x r ih =>
   intro h
   cases hx : p x with
   | false => simp [List.takeWhile_cons, hx]
   | true =>
    simp only [List.takeWhile_cons, hx, if_true, List.length_cons] at h ⊢
    simpa using ih (by omega)
 have := key (fun s => s == L.getD i 0) (L.drop (i + 1)) (by rw [hn]; exact hlt)
 simp only [hn, List.getElem_drop, beq_eq_false_iff_ne] at this
 rw [List.getD_eq_getElem?_getD, List.getElem?_eq_getElem (by omega)]
 exact this
theorem endP_eq {L : List Nat} {i e : Nat} (h1 : i < e) (h2 : e ≤ L.length) (hs : ∀ j, i < j → j < e → L.getD j 0 = L.getD i 0) (ht : e < L.length → L.getD e 0 ≠ L.getD i 0) : endP L i = e := by
 have hle := endP_le (L := L) (i := i) (by omega)
 have hgt := endP_gt L i
 rcases Nat.lt_trichotomy (endP L i) e with h | h | h
 ·exact absurd (hs _ hgt h) (endP_stop (by omega))
 ·exact h
 ·exact absurd (endP_same h1 h (by omega)) (ht (by omega))
theorem beginP_le (L : List Nat) : ∀ i, beginP L i ≤ i
 | 0 => Nat.le_refl _
 | i + 1 => by rw [beginP]; have := beginP_le L i; split <;> omega
theorem beginP_same (L : List Nat) : ∀ i j, beginP L i ≤ j → j ≤ i → L.getD j 0 = L.getD i 0
  | 0, j, _, h => by have : j = 0 := by omega
                     rw [this]
  | i + 1, j, h1, h2 => by
    rw [beginP] at h1
    split at h1
    · rename_i he
      by_cases hj : j = i + 1
      · rw [hj]
      · rw [beginP_same L i j h1 (by omega), he]
    · have : j = i + 1 := by omega
      rw [this]
theorem beginP_stop (L : List Nat) : ∀ i, 0 < beginP L i → L.getD (beginP L i - 1) 0 ≠ L.getD (beginP L i) 0
 | 0, h => absurd h (Nat.lt_irrefl _)
 | i + 1, h => by
  rw [beginP] at h ⊢
  split
  ·rename_i he; rw [if_pos he] at h; exact beginP_stop L i h
  ·rename_i he; rw [Nat.add_sub_cancel]; exact he
theorem innerGo_le {L : List Nat} : ∀ {k j t : Nat}, innerGo L j k = some t → j < t ∧ t ≤ L.length
 | 0, _, _, h => by simp [innerGo] at h
 | 1, j, t, h => by
  rw [innerGo] at h
  split at h
  ·cases h; exact ⟨endP_gt L j, endP_le ‹_›⟩
  ·cases h
 | k + 2, j, t, h => by
  rw [innerGo] at h
  split at h
  ·have := innerGo_le h; have := endP_gt L j; omega
  ·cases h
theorem overP_ge (L : List Nat) (j : Nat) : j ≤ overP L j := by unfold overP; split; exact Nat.le_of_lt (endP_gt L j); omega
theorem aroundGo_le {L : List Nat} : ∀ {k j t : Nat}, aroundGo L j k = some t → j < t ∧ t ≤ L.length
 | 0, _, _, h => by simp [aroundGo] at h
 | 1, j, t, h => by
  rw [aroundGo] at h
  split at h
  ·cases h; have := overP_ge L j; have := endP_gt L (overP L j); exact ⟨by omega, endP_le ‹_›⟩
  ·cases h
 | k + 2, j, t, h => by
  rw [aroundGo] at h
  split at h
  ·have := aroundGo_le h; have := overP_ge L j; have := endP_gt L (overP L j); omega
  ·cases h
theorem innerP_le {L : List Nat} {i k f t : Nat} (h : innerP L i k = some (f, t)) : f ≤ i ∧ i < t ∧ t ≤ L.length := by
 unfold innerP at h
 obtain ⟨j, hj, he⟩ := Option.map_eq_some_iff.1 h
 cases he
 have := innerGo_le hj; have := beginP_le L i; omega
theorem aroundP_le {L : List Nat} {i k f t : Nat} (h : aroundP L i k = some (f, t)) : f ≤ i ∧ i < t ∧ t ≤ L.length := by
 unfold aroundP at h
 obtain ⟨j, hj, he⟩ := Option.map_eq_some_iff.1 h
 have := aroundGo_le hj; have := beginP_le L i
 split at he
 ·cases he; omega
 ·split at he
  ·cases he
   rename_i h2
   have := endP_gt L j; have := endP_le h2.1; omega
  ·split at he
   ·cases he
    have := beginP_le L (beginP L i - 1); omega
   ·cases he; omega
noncomputable def lineC (A : List Int) (l : Ln) : List Cel := cels ((A.drop l.from_).take (l.to_ - l.from_)) l.from_
noncomputable def sortsW (C : List Cel) (big : Bool) : List Nat := C.map fun c => if big ∧ c.kind ≠ 0 then 2 else c.kind
noncomputable def pickP (out : Bool) (L : List Nat) (i k : Nat) : Option (Nat × Nat) := if out then aroundP L i k else innerP L i k
def lnAll (A : List Int) : List Ln := (List.range (lnN A)).map fun i => (lnAt A i).getD ⟨0, 0, 0, 0⟩
noncomputable def sortLn (A : List Int) (l : Ln) : Nat := if (cels ((A.drop l.from_).take (l.to_ - l.from_)) 0).any (fun c => c.kind != 0) then 1 else 0
noncomputable def sortsP (A : List Int) : List Nat := (lnAll A).map (sortLn A)
noncomputable def parasP (A : List Int) (at_ kind count : Int) : (Int × Int × Int) × Int :=
 if checked A.length at_ kind count 69 70 ≠ 0 then ((0, 0, 0), checked A.length at_ kind count 69 70) else
 if lnN A ≤ nb A at_.toNat then ((0, 0, 0), 90) else
 match pickP (decide (kind = 70)) (sortsP A) (nb A at_.toNat) (times count) with
 | none => ((0, 0, 0), 90)
 | some (f, t) => (((((lnAll A)[f]?.map (·.from_)).getD 0 : Nat), (((lnAll A)[t - 1]?.map (·.next)).getD 0 : Nat), 1), 0)
end Obx
namespace Obx
structure Good (A : List Int) (s : Int × Int × Int) : Prop where
 lo : 0 ≤ s.1
 le : s.1 ≤ s.2.1
 hi : s.2.1 ≤ A.length
 b1 : bk A s.1.toNat = true
 b2 : bk A s.2.1.toNat = true
structure LcOk (A : List Int) (l : Ln) (c : Cel) : Prop where
 lo : l.from_ ≤ c.from_
 lt : c.from_ < c.to_
 hi : c.to_ ≤ l.to_
 b1 : bk A c.from_ = true
 b2 : bk A c.to_ = true
theorem sortsW_len (C : List Cel) (big : Bool) : (sortsW C big).length = C.length := List.length_map _
end Obx
namespace Obx
theorem begin_found {L : List Nat} {i b : Nat} (h1 : b ≤ i) (hs : ∀ j, b ≤ j → j ≤ i → L.getD j 0 = L.getD i 0) (ht : 0 < b → L.getD (b - 1) 0 ≠ L.getD b 0) : beginP L i = b := by
 have hle := beginP_le L i
 rcases Nat.lt_trichotomy (beginP L i) b with h | h | h
 ·have := ht (by omega)
  rw [beginP_same L i (b - 1) (by omega) (by omega), hs b (Nat.le_refl _) h1] at this
  exact absurd rfl this
 ·exact h
 ·have := beginP_stop L i (by omega)
  rw [hs _ (by omega) (by omega), hs _ (by omega) hle] at this
  exact absurd rfl this
end Obx
end Go.Proofs.YtabcpghhfeplaaaGreat
namespace Go.Proofs.YtabcpghhfeplaaaGreat
open Go Go.Vx Cdc Trx Gly Clu Lns Obx
section
variable {w w' : World} {S : Nat → Prop} {p : Nat} {e : Enc} {lim na : Nat} {O : Nat → Prop} {M : Parts}
theorem func_m {g : FuncId} {a : Value} {args : Array Value} {t : RTy} {K : t.T → World → Prop} (hf : ((Tryz.prog.funcs[g]?).map fun fn => (fn.body.isNone, fn.name == "runtime.NumGoroutine")) = some (false, false)) (h : callT Tryz.prog g (#[a] ++ args) t K w) :
  callX Tryz.prog (do let d ← Deferred.ofValue (.func (.func g) #[a] #[]) args; invoke d.target d.args : Sem Next) t K w := by
 refine .inl ⟨g, #[a] ++ args, ?_, h⟩
 have := run_callFunc (P := Tryz.prog) (f := g) (args := #[a] ++ args) hf w
 simp only [Deferred.ofValue, pure_bind, invoke]
 have e : (#[a] ++ args ++ #[] : Array Value) = #[a] ++ args := by simp
 first
  | exact this
  | (rw [e]; exact this)
def SortX (w : World) (f : Value) (L : List Nat) : Prop := ∀ (W : World) (i s : Nat) (K : Int → World → Prop), Ext w W → L[i]? = some s → (∀ W', Ext W W' → K (s : Int) W') →
 callX Tryz.prog (do let d ← Deferred.ofValue f #[.int .i64 (i : Int)]; invoke d.target d.args : Sem Next) (.one (.one (.int .i64))) K W
theorem SortX.ext {f : Value} {L : List Nat} (h : SortX w f L) (x : Ext w w') : SortX w' f L := fun W i s K e hs hK => h W i s K (x.trans e) hs hK
abbrev rowT (n : Nat) (f : Value) : Cells.T c89 := ((n : Int), f, ())
theorem get_of {L : List Nat} {j : Nat} (h : j < L.length) : L[j]? = some (L.getD j 0) := by rw [List.getD_eq_getElem?_getD, List.getElem?_eq_getElem h]; rfl
theorem rend_call {L : List Nat} {f : Value} {i : Nat} (hf : SortX w f L) (h1 : isOne f = true) (hi : i < L.length) (hl : L.length < 2 ^ 60) {K : Int → World → Prop} (hK : ∀ w', Ext w w' → K ((endP L i : Nat) : Int) w') :
  callT Tryz.prog 79 #[.agg (Cells.vals c89 (rowT L.length f)).toArray, .int .i64 (i : Int)] (.one (.one (.int .i64))) K w := by
 refine F79_calls (a0 := rowT L.length f) ?_
 unfold F79
 refine (St.start w).newO fun b w1 S1 e1 => ?_
 let Q : Obj := .cells #[.int .i64 ((L.length : Nat) : Int), f] 89 (0, 0)
 have S1 : St (fun _ => False) w w1 [(b, Q)] := S1
 have ew : IntKind.wrap .i64 ((i : Int) + 1) = ((i + 1 : Nat) : Int) := by rw [wrap64 (by omega) (by omega)]; omega
 rw [ew]
 refine join_r (fun x W => x = (((endP L i : Nat) : Int), ()) ∧ Ext w W) ?_ (fun x W h => by obtain ⟨rfl, h⟩ := h; exact hK W h)
 refine sloop_r (fun x W => ∃ j : Nat, i < j ∧ j ≤ L.length ∧ x = ((j : Int), ()) ∧ St (fun _ => False) w W [(b, Q)] ∧ ∀ q, i < q → q < j → L.getD q 0 = L.getD i 0) (fun x _ => ((L.length : Int) - x.1).toNat) ⟨i + 1, by omega, by omega, rfl, S1, fun q h1 h2 => by omega⟩ ?_
 rintro _ W ⟨j, hij, hjl, rfl, SW, hs⟩
 refine join_r (fun x W' => x = (decide (j < L.length ∧ L.getD j 0 = L.getD i 0), ()) ∧ St (fun _ => False) w W' [(b, Q)]) ?_ ?_
 ·refine SW.drew fun w2 S2 e2 _ => S2.ld 0 rfl (x := ((L.length : Nat) : Int)) rfl (sif_r (fun h => ?_) (fun h => ⟨tupb ?_, S2⟩))
  ·simp only [decide_eq_true_eq] at h
   refine S2.ld 0 rfl (c := .any) (x := f) rfl (S2.ld 0 rfl (c := .any) (x := f) rfl ?_)
   refine hf _ j _ _ S2.upd (get_of (by omega)) fun w3 e3 => (S2.ext e3).keep 0 rfl (v := f) rfl ?_
   refine hf _ i _ _ (S2.ext e3).upd (get_of hi) fun w4 e4 => ⟨tupb ?_, (S2.ext e3).ext e4⟩
   simp only [beq_iff_eq, decide_eq_true_eq]
   omega
  ·simp only [decide_eq_false_iff_not] at h
   simp only [Bool.false_eq_true, decide_eq_true_eq, false_iff]
   omega
 rintro _ w2 ⟨rfl, S2⟩
 refine sif_r (fun h => ?_) (fun h => ?_)
 ·simp only [decide_eq_true_eq] at h
  have ew : IntKind.wrap .i64 ((j : Int) + 1) = ((j + 1 : Nat) : Int) := by rw [wrap64 (by omega) (by omega)]; omega
  rw [ew]
  refine ⟨⟨j + 1, by omega, by omega, rfl, S2, fun q h1 h2 => ?_⟩, by omega⟩
  by_cases hq : q = j
  ·rw [hq]; exact h.2
  ·exact hs q h1 (by omega)
 ·simp only [decide_eq_false_iff_not] at h
  refine ⟨?_, S2.upd⟩
  rw [endP_eq hij hjl hs fun h2 h3 => h ⟨h2, h3⟩]
theorem rbegin_call {L : List Nat} {f : Value} {i : Nat} (hf : SortX w f L) (h1 : isOne f = true) (hi : i < L.length) (hl : L.length < 2 ^ 60) {K : Int → World → Prop} (hK : ∀ w', Ext w w' → K ((beginP L i : Nat) : Int) w') {n : Nat} :
  callT Tryz.prog 80 #[.agg (Cells.vals c89 (rowT n f)).toArray, .int .i64 (i : Int)] (.one (.one (.int .i64))) K w := by
 refine F80_calls (a0 := rowT n f) ?_
 unfold F80
 refine (St.start w).newO fun b w1 S1 e1 => ?_
 let Q : Obj := .cells #[.int .i64 (n : Int), f] 89 (0, 0)
 have S1 : St (fun _ => False) w w1 [(b, Q)] := S1
 refine join_r (fun x W => x = (((beginP L i : Nat) : Int), ()) ∧ Ext w W) ?_ (fun x W h => by obtain ⟨rfl, h⟩ := h; exact hK W h)
 refine sloop_r (fun x W => ∃ j : Nat, j ≤ i ∧ x = ((j : Int), ()) ∧ St (fun _ => False) w W [(b, Q)] ∧ beginP L j = beginP L i) (fun x _ => x.1.toNat) ⟨i, Nat.le_refl _, rfl, S1, rfl⟩ ?_
 rintro _ W ⟨j, hji, rfl, SW, hb⟩
 refine join_r (fun x W' => x = (decide (0 < j ∧ L.getD (j - 1) 0 = L.getD j 0), ()) ∧ St (fun _ => False) w W' [(b, Q)]) ?_ ?_
 ·refine SW.drew fun w2 S2 e2 _ => sif_r (fun h => ?_) (fun h => ⟨tupb ?_, S2⟩)
  ·simp only [decide_eq_true_eq, gt_iff_lt] at h
   have ew : IntKind.wrap .i64 ((j : Int) - 1) = ((j - 1 : Nat) : Int) := by rw [wrap64 (by omega) (by omega)]; omega
   rw [ew]
   refine S2.ld 0 rfl (c := .any) (x := f) rfl (S2.ld 0 rfl (c := .any) (x := f) rfl ?_)
   refine hf _ (j - 1) _ _ S2.upd (get_of (by omega)) fun w3 e3 => (S2.ext e3).keep 0 rfl (v := f) rfl ?_
   refine hf _ j _ _ (S2.ext e3).upd (get_of (by omega)) fun w4 e4 => ⟨tupb ?_, (S2.ext e3).ext e4⟩
   simp only [beq_iff_eq, decide_eq_true_eq]
   omega
  ·simp only [decide_eq_false_iff_not, gt_iff_lt] at h
   simp only [Bool.false_eq_true, decide_eq_true_eq, false_iff]
   omega
 rintro _ w2 ⟨rfl, S2⟩
 refine sif_r (fun h => ?_) (fun h => ?_)
 ·simp only [decide_eq_true_eq] at h
  have ew : IntKind.wrap .i64 ((j : Int) - 1) = ((j - 1 : Nat) : Int) := by rw [wrap64 (by omega) (by omega)]; omega
  rw [ew]
  refine ⟨⟨j - 1, by omega, rfl, S2, ?_⟩, by dsimp only; omega⟩
  rw [← hb]
  obtain ⟨m, rfl⟩ : ∃ m, j = m + 1 := ⟨j - 1, by omega⟩
  rw [Nat.add_sub_cancel] at h ⊢
  rw [beginP, if_pos h.2]
 ·simp only [decide_eq_false_iff_not] at h
  refine ⟨?_, S2.upd⟩
  rw [← hb]
  cases j with
  | zero => rfl
  | succ m =>
   rw [Nat.add_sub_cancel] at h
   rw [beginP, if_neg fun hc => h ⟨by omega, hc⟩]
theorem innerGo_step (L : List Nat) (j m : Nat) : innerGo L j (m + 1) = if j < L.length then (if m = 0 then some (endP L j) else innerGo L (endP L j) m) else none := by
 cases m with
 | zero => simp [innerGo]
 | succ m => rw [innerGo]; simp
theorem aroundGo_step (L : List Nat) (j m : Nat) : aroundGo L j (m + 1) = if overP L j < L.length then (if m = 0 then some (endP L (overP L j)) else aroundGo L (endP L (overP L j)) m) else none := by
 cases m with
 | zero => simp [aroundGo]
 | succ m => rw [aroundGo]; simp
def pickV (r : Option (Nat × Nat)) : Int × Int × Bool × Unit := match r with
 | some (f, t) => ((f : Int), (t : Int), true, ())
 | none => (0, 0, false, ())
theorem inner_call {L : List Nat} {f : Value} {i k : Nat} (hf : SortX w f L) (h1 : isOne f = true) (hi : i < L.length) (hl : L.length < 2 ^ 60) (hk1 : 1 ≤ k) (hk : (k : Int) < 2 ^ 63) {K : Int × Int × Bool × Unit → World → Prop} (hK : ∀ w', Ext w w' → K (pickV (innerP L i k)) w') :
  callT Tryz.prog 53 #[.agg (Cells.vals c89 (rowT L.length f)).toArray, .int .i64 (i : Int), .int .i64 (k : Int)] (.tup [(.one (.int .i64)), (.one (.int .i64)), (.one .bool)]) K w := by
 refine F53_calls (a0 := rowT L.length f) ?_
 unfold F53
 unfold innerP at hK
 refine (St.start w).newO fun b w1 S1 e1 => ?_
 let Q : Obj := .cells #[.int .i64 ((L.length : Nat) : Int), f] 89 (0, 0)
 have S1 : St (fun _ => False) w w1 [(b, Q)] := S1
 refine join_r (fun x W => ∃ j : Nat, innerGo L i k = some j ∧ x = ((j : Int), ()) ∧ St (fun _ => False) w W [(b, Q)]) ?_ ?_
 ·refine sloop_r (fun x W => ∃ j q : Nat, q ≤ k ∧ x = ((j : Int), (q : Int), ()) ∧ St (fun _ => False) w W [(b, Q)] ∧ j ≤ L.length ∧ (q < k → innerGo L i k = innerGo L j (k - q)) ∧ (q = k → innerGo L i k = some j)) (fun x _ => ((L.length : Int) - x.1).toNat) ⟨i, 0, Nat.zero_le _, rfl, S1, by omega, fun _ => rfl, fun h => by omega⟩ ?_
  rintro _ W ⟨j, q, hq, rfl, SW, hj, hlt, heq⟩
  refine sif_r (fun hc => ?_) (fun hc => ?_)
  ·simp only [decide_eq_true_eq] at hc
   have hg := hlt (by omega)
   obtain ⟨m, hm⟩ : ∃ m, k - q = m + 1 := ⟨k - q - 1, by omega⟩
   rw [hm, innerGo_step] at hg
   refine SW.ld 0 rfl (x := ((L.length : Nat) : Int)) rfl (sif_r (fun hn => ?_) (fun hn => ?_))
   ·simp only [decide_eq_true_eq, ge_iff_le] at hn
    rw [if_neg (by omega)] at hg
    have := hK W SW.upd
    rw [hg] at this
    exact this
   ·simp only [decide_eq_false_iff_not, ge_iff_le] at hn
    rw [if_pos (by omega)] at hg
    refine SW.lds 0 (rowT L.length f) rfl (rend_call (hf.ext SW.upd) h1 (by omega) hl fun w2 e2 => ?_)
    have ew : IntKind.wrap .i64 ((q : Int) + 1) = ((q + 1 : Nat) : Int) := by rw [wrap64 (by omega) (by omega)]; omega
    rw [ew]
    have hgt := endP_gt L j
    have hle := endP_le (L := L) (i := j) (by omega)
    refine ⟨⟨endP L j, q + 1, by omega, rfl, SW.ext e2, hle, fun h => ?_, fun h => ?_⟩, by dsimp only; omega⟩
    ·rw [if_neg (by omega)] at hg
     rw [hg]; congr 1; omega
    ·rw [if_pos (by omega)] at hg
     exact hg
  ·simp only [decide_eq_false_iff_not] at hc
   exact ⟨j, heq (by omega), rfl, SW⟩
 ·rintro _ W ⟨j, hj, rfl, SW⟩
  refine SW.lds 0 (rowT L.length f) rfl (rbegin_call (hf.ext SW.upd) h1 hi hl fun w2 e2 => ?_)
  have := hK w2 (SW.ext e2).upd
  rw [hj] at this
  exact this
theorem around_call {L : List Nat} {f : Value} {i k : Nat} (hf : SortX w f L) (h1 : isOne f = true) (hi : i < L.length) (hl : L.length < 2 ^ 60) (hk1 : 1 ≤ k) (hk : (k : Int) < 2 ^ 63) {K : Int × Int × Bool × Unit → World → Prop} (hK : ∀ w', Ext w w' → K (pickV (aroundP L i k)) w') :
  callT Tryz.prog 54 #[.agg (Cells.vals c89 (rowT L.length f)).toArray, .int .i64 (i : Int), .int .i64 (k : Int)] (.tup [(.one (.int .i64)), (.one (.int .i64)), (.one .bool)]) K w := by
 refine F54_calls (a0 := rowT L.length f) ?_
 unfold F54
 unfold aroundP at hK
 refine (St.start w).newO fun b w1 S1 e1 => ?_
 let Q : Obj := .cells #[.int .i64 ((L.length : Nat) : Int), f] 89 (0, 0)
 have S1 : St (fun _ => False) w w1 [(b, Q)] := S1
 refine S1.ld 0 rfl (c := .any) (x := f) rfl (hf _ i _ _ S1.upd (get_of hi) fun w2 e2 => ?_)
 have S2 := S1.ext e2
 refine S2.lds 0 (rowT L.length f) rfl (rbegin_call (hf.ext S2.upd) h1 hi hl fun w3 e3 => ?_)
 have S3 := S2.ext e3
 have hbl := beginP_le L i
 have plain : ∀ {W : World} {j : Nat} {J : Bool × Unit → World → Prop}, St (fun _ => False) w W [(b, Q)] → (∀ W', St (fun _ => False) w W' [(b, Q)] → J (decide (j < L.length ∧ L.getD j 0 = 0), ()) W') →
   ld (.int .i64) (at0 b) (fun x14 => sif (decide ((j : Int) < x14)) (ld .any (⟨b, 1, none⟩ : Addr) fun x15 => callX Tryz.prog (do let d ← Deferred.ofValue x15 #[.int .i64 (j : Int)]; invoke d.target d.args : Sem Next) (.one (.one (.int .i64))) fun x16 => J ((x16 == (0 : Int)), ())) (J (false, ()))) W := by
  intro W j J SW hJ
  refine SW.ld 0 rfl (x := ((L.length : Nat) : Int)) rfl (sif_r (fun h => ?_) (fun h => ?_))
  ·simp only [decide_eq_true_eq] at h
   refine SW.ld 0 rfl (c := .any) (x := f) rfl (hf _ j _ _ SW.upd (get_of (by omega)) fun w4 e4 => ?_)
   have := hJ w4 (SW.ext e4)
   have e : (((L.getD j 0 : Nat) : Int) == 0) = decide (j < L.length ∧ L.getD j 0 = 0) := by rw [Bool.eq_iff_iff, beq_iff_eq, decide_eq_true_eq]; omega
   show J ((((L.getD j 0 : Nat) : Int) == 0), ()) w4
   rw [e]; exact this
  ·simp only [decide_eq_false_iff_not] at h
   have := hJ W SW
   rw [decide_eq_false (by omega)] at this
   exact this
 refine join_r (fun x W => ∃ j : Nat, aroundGo L i k = some j ∧ j ≤ L.length ∧ x = ((j : Int), ()) ∧ St (fun _ => False) w W [(b, Q)]) ?_ ?_
 ·refine sloop_r (fun x W => ∃ j q : Nat, q ≤ k ∧ x = ((j : Int), (q : Int), ()) ∧ St (fun _ => False) w W [(b, Q)] ∧ j ≤ L.length ∧ (q < k → aroundGo L i k = aroundGo L j (k - q)) ∧ (q = k → aroundGo L i k = some j)) (fun x _ => ((L.length : Int) - x.1).toNat) ⟨i, 0, Nat.zero_le _, rfl, S3, by omega, fun _ => rfl, fun h => by omega⟩ ?_
  rintro _ W ⟨j, q, hq, rfl, SW, hj, hlt, heq⟩
  refine sif_r (fun hc => ?_) (fun hc => ?_)
  ·simp only [decide_eq_true_eq] at hc
   have hg := hlt (by omega)
   obtain ⟨m, hm⟩ : ∃ m, k - q = m + 1 := ⟨k - q - 1, by omega⟩
   rw [hm, aroundGo_step] at hg
   have hov := overP_ge L j
   have hol : overP L j ≤ L.length := by
    unfold overP
    split
    ·exact endP_le (by omega)
    ·exact hj
   refine join_r (fun x W' => x = (((overP L j : Nat) : Int), ()) ∧ St (fun _ => False) w W' [(b, Q)]) ?_ ?_
   ·refine join_r (fun x W' => x = (decide (j < L.length ∧ L.getD j 0 = 0), ()) ∧ St (fun _ => False) w W' [(b, Q)]) ?_ ?_
    ·exact plain (j := j) (J := fun x W' => x = (decide (j < L.length ∧ L.getD j 0 = 0), ()) ∧ St (fun _ => False) w W' [(b, Q)]) SW fun W' SW' => ⟨rfl, SW'⟩
    rintro _ W1 ⟨rfl, SW1⟩
    refine sif_r (fun h => ?_) (fun h => ?_)
    ·simp only [decide_eq_true_eq] at h
     refine SW1.lds 0 (rowT L.length f) rfl (rend_call (hf.ext SW1.upd) h1 h.1 hl fun w5 e5 => ⟨?_, SW1.ext e5⟩)
     unfold overP; rw [if_pos h]
    ·simp only [decide_eq_false_iff_not] at h
     refine ⟨?_, SW1⟩
     unfold overP; rw [if_neg h]
   rintro _ W1 ⟨rfl, SW1⟩
   generalize overP L j = jo at *
   refine SW1.ld 0 rfl (x := ((L.length : Nat) : Int)) rfl (sif_r (fun hn => ?_) (fun hn => ?_))
   ·simp only [decide_eq_true_eq, ge_iff_le] at hn
    rw [if_neg (by omega)] at hg
    have := hK W1 SW1.upd
    rw [hg] at this
    exact this
   ·simp only [decide_eq_false_iff_not, ge_iff_le] at hn
    rw [if_pos (by omega)] at hg
    refine SW1.lds 0 (rowT L.length f) rfl (rend_call (hf.ext SW1.upd) h1 (by omega) hl fun w2 e2 => ?_)
    have ew : IntKind.wrap .i64 ((q : Int) + 1) = ((q + 1 : Nat) : Int) := by rw [wrap64 (by omega) (by omega)]; omega
    rw [ew]
    have hgt := endP_gt L jo
    have hle := endP_le (L := L) (i := jo) (by omega)
    refine ⟨⟨endP L jo, q + 1, by omega, rfl, SW1.ext e2, hle, fun h => ?_, fun h => ?_⟩, by dsimp only; omega⟩
    ·rw [if_neg (by omega)] at hg
     rw [hg]; congr 1; omega
    ·rw [if_pos (by omega)] at hg
     exact hg
  ·simp only [decide_eq_false_iff_not] at hc
   exact ⟨j, heq (by omega), hj, rfl, SW⟩
 ·rintro _ W ⟨j, hj, hjl, rfl, SW⟩
  have hK' : ∀ w', Ext w w' → K (pickV (some (if L.getD i 0 = 0 then (beginP L i, j) else if j < L.length ∧ L.getD j 0 = 0 then (beginP L i, endP L j)
   else if 0 < beginP L i ∧ L.getD (beginP L i - 1) 0 = 0 then (beginP L (beginP L i - 1), j) else (beginP L i, j)))) w' := fun w' x => by
   have := hK w' x
   rw [hj] at this
   exact this
  refine join_r (fun x W' => ∃ f' t', x = (((f' : Nat) : Int), ((t' : Nat) : Int), ()) ∧ St (fun _ => False) w W' [(b, Q)] ∧ (if L.getD i 0 = 0 then (beginP L i, j) else if j < L.length ∧ L.getD j 0 = 0 then (beginP L i, endP L j)
   else if 0 < beginP L i ∧ L.getD (beginP L i - 1) 0 = 0 then (beginP L (beginP L i - 1), j) else (beginP L i, j)) = (f', t')) ?_ ?_
  ·refine sif_r (fun h => ?_) (fun h => ?_)
   ·have h : (((L.getD i 0 : Nat) : Int) == 0) = true := h
    simp only [beq_iff_eq] at h
    exact ⟨beginP L i, j, rfl, SW, by rw [if_pos (by omega)]⟩
   have h : (((L.getD i 0 : Nat) : Int) == 0) = false := h
   simp only [beq_eq_false_iff_ne, ne_eq] at h
   rw [if_neg (by omega)]
   refine join_r (fun x W' => x = (decide (j < L.length ∧ L.getD j 0 = 0), ()) ∧ St (fun _ => False) w W' [(b, Q)]) ?_ ?_
   ·exact plain (j := j) (J := fun x W' => x = (decide (j < L.length ∧ L.getD j 0 = 0), ()) ∧ St (fun _ => False) w W' [(b, Q)]) SW fun W' SW' => ⟨rfl, SW'⟩
   rintro _ W1 ⟨rfl, SW1⟩
   refine sif_r (fun h2 => ?_) (fun h2 => ?_)
   ·simp only [decide_eq_true_eq] at h2
    refine SW1.lds 0 (rowT L.length f) rfl (rend_call (hf.ext SW1.upd) h1 h2.1 hl fun w5 e5 => ⟨beginP L i, endP L j, rfl, SW1.ext e5, by rw [if_pos h2]⟩)
   simp only [decide_eq_false_iff_not] at h2
   rw [if_neg h2]
   refine join_r (fun x W' => x = (decide (0 < beginP L i ∧ L.getD (beginP L i - 1) 0 = 0), ()) ∧ St (fun _ => False) w W' [(b, Q)]) ?_ ?_
   ·refine sif_r (fun h3 => ?_) (fun h3 => ⟨tupb ?_, SW1⟩)
    ·simp only [decide_eq_true_eq, gt_iff_lt] at h3
     have ew : IntKind.wrap .i64 (((beginP L i : Nat) : Int) - 1) = ((beginP L i - 1 : Nat) : Int) := by rw [wrap64 (by omega) (by omega)]; omega
     rw [ew]
     refine SW1.ld 0 rfl (c := .any) (x := f) rfl (hf _ (beginP L i - 1) _ _ SW1.upd (get_of (by omega)) fun w5 e5 => ⟨tupb ?_, SW1.ext e5⟩)
     simp only [beq_iff_eq, decide_eq_true_eq]; omega
    ·simp only [decide_eq_false_iff_not, gt_iff_lt] at h3
     simp only [Bool.false_eq_true, decide_eq_true_eq, false_iff]; omega
   rintro _ W2 ⟨rfl, SW2⟩
   refine sif_r (fun h3 => ?_) (fun h3 => ?_)
   ·simp only [decide_eq_true_eq] at h3
    have ew : IntKind.wrap .i64 (((beginP L i : Nat) : Int) - 1) = ((beginP L i - 1 : Nat) : Int) := by rw [wrap64 (by omega) (by omega)]; omega
    rw [ew]
    refine SW2.lds 0 (rowT L.length f) rfl (rbegin_call (hf.ext SW2.upd) h1 (by omega) hl fun w6 e6 => ⟨beginP L (beginP L i - 1), j, rfl, SW2.ext e6, by rw [if_pos h3]⟩)
   ·simp only [decide_eq_false_iff_not] at h3
    exact ⟨beginP L i, j, rfl, SW2, by rw [if_neg h3]⟩
  ·rintro _ W1 ⟨f', t', rfl, SW1, he⟩
   have := hK' W1 SW1.upd
   rw [he] at this
   exact this
end
section
variable {w w' : World} {S : Nat → Prop} {p : Nat} {e : Enc} {lim na : Nat} {O : Nat → Prop} {M : Parts}
theorem sub_nat (A : List Int) (i j : Nat) : sub A (i : Int) (j : Int) = (A.drop i).take (j - i) := by unfold sub; simp
theorem times_pos (count : Int) : 1 ≤ times count := by unfold times; omega
theorem times_lt {count : Int} (h : count < 2 ^ 63) : ((times count : Nat) : Int) < 2 ^ 63 := by unfold times; omega
end
section
variable {w w' : World} {S : Nat → Prop} {p : Nat} {e : Enc} {lim na : Nat} {O : Nat → Prop} {M : Parts}
theorem yield_xs {l : Nat} {vs : List Value} {R : Bool → World → Prop} (h : yieldX Tryz.prog l vs R w) :
  callX Tryz.prog (do let d ← Deferred.ofValue (.func (.yield l) #[] #[]) vs.toArray; invoke d.target d.args : Sem Next) (.one (.one .bool)) R w := by
 obtain ⟨f, tmps, assign, body, h1, h2⟩ := h
 refine .inr (.inr ⟨l, f, tmps, assign, body, ?_, h2⟩)
 simp only [Deferred.ofValue, pure_bind, invoke, Array.empty_append]
 exact h1
theorem not_tail {A : List Int} {i : Nat} {l : Ln} (h : lnAt A i = some l) (hi : i < lnN A) (h0 : 0 < i) : l ≠ ⟨l.from_, l.from_, l.from_, 0⟩ := by
 intro he
 have ok := ln_ok h
 obtain ⟨hb, hf⟩ := lnAt_some h
 cases hx : sk A (i + 1) with
 | some x =>
  obtain ⟨e1, e2, _⟩ := ok.brk x hx
  have e3 := congrArg Ln.next he
  simp only at e3
  have := ok.ft
  omega
 | none =>
  obtain ⟨e1, e2, e3⟩ := ok.tail hx
  have e4 := congrArg Ln.to_ he
  simp only at e4
  have hbi : i = brs A := by
   rcases Nat.lt_or_ge i (brs A) with h1 | h1
   ·obtain ⟨m, hm⟩ := sk_ok (A := A) (k := i + 1) (by omega)
    rw [hm] at hx; cases hx
   ·omega
  have hne : ended A = false := by
   unfold lnN at hi
   cases hc : ended A with
   | false => rfl
   | true => rw [hc] at hi; simp at hi; omega
  unfold ended at hne
  rw [← hbi, hf, ← e4, e2] at hne
  have hl : A.length = 0 := by
   simp at hne; exact congrArg List.length hne
  have hb0 : brs A = 0 := by
   have := List.length_eq_zero_iff.1 hl
   rw [this]; rfl
  omega
theorem tail_at {A : List Int} : lnAt A (lnN A) = none ∨ ∃ l, lnAt A (lnN A) = some l ∧ 0 < lnN A ∧ l = ⟨l.from_, l.from_, l.from_, 0⟩ := by
 cases hc : ended A with
 | false =>
  left
  have : lnN A = brs A + 1 := by unfold lnN; rw [hc]; simp
  unfold lnAt
  rw [this, sk_none A (brs A + 1) (by omega)]
 | true =>
  right
  have hn : lnN A = brs A := by unfold lnN; rw [hc]; simp
  unfold ended at hc
  simp only [Bool.and_eq_true, decide_eq_true_eq, beq_iff_eq] at hc
  have hs : sk A (brs A + 1) = none := sk_none A (brs A + 1) (by omega)
  refine ⟨⟨A.length, A.length, A.length, 0⟩, ?_, ?_, rfl⟩
  ·unfold lnAt
   rw [hn, hc.2]
   simp only [hs]
  ·rw [hn]
   rcases Nat.eq_zero_or_pos (brs A) with hz | hz
   ·rw [hz, sk_zero] at hc
    have := Option.some.inj hc.2
    omega
   ·exact hz
theorem all_range {b1 : Nat} {vals : Int × Cells.T c100 × Unit → List Value} {body : Nat → (LoopState → Option Code → Loop) → (Bool → World → Prop) → Int × Cells.T c100 × Unit → World → Prop} {aft' : Nat → Option Code → World → Prop}
  (hv : ∀ s, vals s = [.int .i64 s.1, .agg (Cells.vals c100 s.2.1).toArray]) (Inv : Nat → World → Prop)
  (hT : ∀ j W, Inv j W → Txt W p e lim na O M ∧ W.heap[b1]? = some (.cells #[.pointer (some (at0 p))] 25 (0, 0)) ∧ W.heap[w.heap.size]? = some (.deferred (some [])))
  (hx : ∀ j W W', Inv j W → Ext W W' → Inv j W')
  (h0 : ∀ W, Ext w W → W.heap[w.heap.size]? = some (.deferred (some [])) → w.heap.size + 2 ≤ W.heap.size → Inv 0 W)
  (hb : ∀ (rc : LoopState → Option Code → Loop) (j : Nat) l R W, j < lnN (atoms (aOf e M)) → lnAt (atoms (aOf e M)) j = some l → Inv j W → W.heap[w.heap.size + 1]? = some (.loop (rc .ready none)) →
   (∀ W', Inv (j + 1) W' → W'.heap[w.heap.size + 1]? = some (.loop (rc .ready none)) → R true W') → body (w.heap.size + 1) rc R ((j : Int), lnT l, ()) W)
  (he : ∀ W W', Inv (lnN (atoms (aOf e M))) W → W'.heap[w.heap.size]? = some (.deferred (some [])) → Upd (fun k => k = w.heap.size + 1) W W' → (∀ o, W.heap[w.heap.size + 1]? = some o → ∃ lo, o = .loop lo) → aft' w.heap.size none W') :
  rangeE Tryz.prog vals (.func (.func 82) #[] #[.pointer (some (at0 b1))]) body aft' w := by
 intro rc hyield
 have e0 : Ext w (w.alloc (.deferred (some []))) := Ext.alloc w _
 generalize hW0 : w.alloc (.deferred (some [])) = W0 at *
 have d0 : W0.heap[w.heap.size]? = some (.deferred (some [])) := by rw [← hW0]; exact heap_alloc w _
 have z0 : W0.heap.size = w.heap.size + 1 := by rw [← hW0]; simp
 have e1 : Ext W0 (W0.alloc (.loop (rc .ready none))) := Ext.alloc W0 _
 have l1 : (W0.alloc (.loop (rc .ready none))).heap[w.heap.size + 1]? = some (.loop (rc .ready none)) := by rw [← z0]; exact heap_alloc W0 _
 have z1 : (W0.alloc (.loop (rc .ready none))).heap.size = w.heap.size + 2 := by simp [z0]
 generalize hW1 : W0.alloc (.loop (rc .ready none)) = W1 at *
 refine ⟨82, #[.func (.yield (w.heap.size + 1)) #[] #[], .pointer (some (at0 b1))], ?_, ?_⟩
 ·simp only [Deferred.ofValue, pure_bind, invoke]
  exact run_callFunc (P := Tryz.prog) (f := 82) (by kernel_rfl) W1
 have e01 := e0.trans e1
 have i1 := h0 W1 e01 (e1.ext_get d0) (by omega)
 have fin : ∀ W, Inv (lnN (atoms (aOf e M))) W → W.heap[w.heap.size + 1]? = some (.loop (rc .ready none)) →
   ∃ st pe, W.heap[w.heap.size + 1]? = some (.loop (rc st pe)) ∧ st ≠ .busy ∧ aft' w.heap.size pe (W.putObj (w.heap.size + 1) (.loop (rc .exhausted pe))) := by
  intro W hI hl
  obtain ⟨u, _⟩ := upd_putObj (o' := .loop (rc .exhausted none)) hl
  exact ⟨.ready, none, hl, by decide, he W _ hI (u.get (hT _ _ hI).2.2 (by omega)) u fun o ho => by rw [hl] at ho; cases ho; exact ⟨_, rfl⟩⟩
 have hT1 := hT _ _ i1
 have few := hT1.1.few; have lims := hT1.1.lims
 have hal := hal e M
 have hbrs : brs (atoms (aOf e M)) ≤ (atoms (aOf e M)).length := by rw [brs_nb]; exact nb_le _ _
 have hnl : lnN (atoms (aOf e M)) ≤ (atoms (aOf e M)).length + 1 := by unfold lnN; split <;> omega
 refine F82_calls ?_
 unfold F82
 refine sloop_r (fun x W => ∃ i : Nat, i ≤ lnN (atoms (aOf e M)) ∧ x = ((i : Int), ()) ∧ Inv i W ∧ W.heap[w.heap.size + 1]? = some (.loop (rc .ready none))) (fun x _ => (((lnN (atoms (aOf e M)) : Nat) : Int) - x.1).toNat) ⟨0, Nat.zero_le _, rfl, i1, l1⟩ ?_
 rintro _ W ⟨i, hi, rfl, hI, hl⟩
 obtain ⟨tx, h1, hd⟩ := hT _ _ hI
 refine ld_r h1 (x := some (at0 p)) rfl (lat_call tx (by omega) fun w2 e2 => ?_)
 rw [lnI_nat]
 cases hla : lnAt (atoms (aOf e M)) i with
 | none =>
  have hin : i = lnN (atoms (aOf e M)) := by
   rcases Nat.lt_or_ge i (lnN (atoms (aOf e M))) with h | h
   ·exfalso
    have : i ≤ brs (atoms (aOf e M)) := by unfold lnN at h; split at h <;> omega
    obtain ⟨l, hl⟩ := lnAt_ok this
    rw [hl] at hla; cases hla
   ·omega
  refine (St.start w2).newO fun b5 w3 S3 e3 => S3.aggSt 0 rfl rfl rfl rfl fun w4 S4 u4 => ?_
  refine S4.ld 0 rfl (x := (0 : Int)) rfl (S4.ld 0 rfl (x := (0 : Int)) rfl (S4.ld 0 rfl (x := (0 : Int)) rfl (S4.newO fun b9 w5 S5 e5 => S5.aggSt 0 rfl rfl rfl rfl fun w6 S6 u6 => ?_)))
  have e6 : Ext W w6 := e2.trans S6.upd
  refine join_r (fun x W' => x = (true, ()) ∧ w6 = W') (sif_true ⟨rfl, rfl⟩) ?_
  rintro _ _ ⟨rfl, rfl⟩
  subst hin
  exact sif_true (fin w6 (hx _ _ _ hI e6) (e6.ext_get hl))
 | some l =>
  refine (St.start w2).newO fun b5 w3 S3 e3 => S3.aggSt 0 rfl rfl rfl rfl fun w4 S4 u4 => ?_
  refine S4.ld 0 rfl (x := (l.from_ : Int)) rfl (S4.ld 0 rfl (x := (l.from_ : Int)) rfl (S4.ld 0 rfl (x := (l.from_ : Int)) rfl (S4.newO fun b9 w5 S5 e5 => S5.aggSt 0 rfl rfl rfl rfl fun w6 S6 u6 => ?_)))
  have e6 : Ext W w6 := e2.trans S6.upd
  have i6 := hx _ _ _ hI e6
  have l6 := e6.ext_get hl
  have S6' : St (fun _ => False) w2 w6 [(b9, .cells (Cells.vals c100 (lnT ⟨l.from_, l.from_, l.from_, 0⟩)).toArray 100 (0, 0)), (b5, .cells (Cells.vals c100 (lnT l)).toArray 100 (0, 0))] := S6
  refine join_r (fun x W' => (x = (false, ()) ∧ i < lnN (atoms (aOf e M)) ∧ Inv (i + 1) W' ∧ W'.heap[w.heap.size + 1]? = some (.loop (rc .ready none))) ∨ (x = (true, ()) ∧ i = lnN (atoms (aOf e M)) ∧ w6 = W')) ?_ ?_
  ·refine sif_false ?_
   have yld : i < lnN (atoms (aOf e M)) → ∀ {J : Bool → World → Prop}, (∀ W', Inv (i + 1) W' → W'.heap[w.heap.size + 1]? = some (.loop (rc .ready none)) → J true W') →
     callX Tryz.prog (do let d ← Deferred.ofValue (.func (.yield (w.heap.size + 1)) #[] #[]) #[.int .i64 (i : Int), .agg (Cells.vals c100 (lnT l)).toArray]; invoke d.target d.args : Sem Next) (.one (.one .bool)) J w6 := by
    intro hlt J hJ
    have := hyield J ((i : Int), lnT l, ()) w6 l6 (hb rc i l J w6 hlt hla i6 l6 hJ)
    rw [hv] at this
    exact yield_xs this
   refine sif_r (fun h => ?_) (fun h => ?_)
   ·simp only [decide_eq_true_eq, gt_iff_lt] at h
    refine S6'.lds 1 (lnT l) rfl (S6'.lds 0 (lnT ⟨l.from_, l.from_, l.from_, 0⟩) rfl (lnEql_r ?_))
    by_cases hlt : i < lnN (atoms (aOf e M))
    ·rw [decide_eq_false (not_tail hla hlt (by omega))]
     refine sif_false (S6'.lds 1 (lnT l) rfl (yld hlt fun W' i' l' => .inl ⟨rfl, hlt, i', l'⟩))
    ·have hin : i = lnN (atoms (aOf e M)) := by omega
     rcases tail_at (A := atoms (aOf e M)) with ht | ⟨l', ht, _, he'⟩
     ·rw [hin, ht] at hla; cases hla
     ·rw [hin, ht] at hla; cases hla
      rw [decide_eq_true he']
      exact sif_true (.inr ⟨rfl, hin, rfl⟩)
   ·simp only [decide_eq_false_iff_not, gt_iff_lt] at h
    have hlt : i < lnN (atoms (aOf e M)) := by
     rcases Nat.lt_or_ge i (lnN (atoms (aOf e M))) with h2 | h2
     ·exact h2
     ·exfalso
      have hin : i = lnN (atoms (aOf e M)) := by omega
      rcases tail_at (A := atoms (aOf e M)) with ht | ⟨l', ht, h3, _⟩
      ·rw [hin, ht] at hla; cases hla
      ·omega
    exact S6'.lds 1 (lnT l) rfl (yld hlt fun W' i' l' => .inl ⟨rfl, hlt, i', l'⟩)
  ·rintro _ W' (⟨rfl, hlt, i', l'⟩ | ⟨rfl, hin, rfl⟩)
   ·have ew : IntKind.wrap .i64 ((i : Int) + 1) = ((i + 1 : Nat) : Int) := by rw [wrap64 (by omega) (by omega)]; omega
    dsimp only
    rw [ew]
    exact sif_false ⟨⟨i + 1, by omega, rfl, i', l'⟩, by omega⟩
   ·subst hin
    exact sif_true (fin w6 i6 l6)
end
section
variable {w w' : World} {S : Nat → Prop} {p : Nat} {e : Enc} {lim na : Nat} {O : Nat → Prop} {M : Parts}
theorem eLines : ElemOk Tryz.prog 95 100 4 32 := ElemOk.of (z := .agg #[.int .i64 0, .int .i64 0, .int .i64 0, .int .i64 0]) i95_ok i100_ok rfl rfl rfl (by decide)
theorem ln_one (l : Ln) : ∀ v ∈ flat c100 [lnT l], isOne v = true := by
 intro v hv
 rw [flat_one] at hv
 have h : v ∈ [_, _, _, _] := hv
 simp only [List.mem_cons, List.not_mem_nil, or_false] at h
 rcases h with rfl | rfl | rfl | rfl <;> rfl
theorem sortsP_len (A : List Int) : (sortsP A).length = lnN A ∧ (lnAll A).length = lnN A := by
 unfold sortsP lnAll
 simp
theorem lnAll_get {A : List Int} {j : Nat} (hj : j < lnN A) : (lnAll A)[j]? = some ((lnAt A j).getD ⟨0, 0, 0, 0⟩) := by
 unfold lnAll
 rw [List.getElem?_map, List.getElem?_range hj]; rfl
theorem sortX_paras {L : List Nat} {r : Sl} {b : Nat} (hr : SlIn w r 3 1 (nv L)) (hb : w.heap[b]? = some (.cells #[.slice r.a r.len r.cap] 26 (0, 0))) :
  SortX w (.func (.func 60) #[] #[.pointer (some (at0 b))]) L := by
 intro W i so K e hs hK
 refine func_x (caps := #[.pointer (some (at0 b))]) (by kernel_rfl) ?_
 refine F60_calls ?_
 unfold F60
 have nvi : nv L = (L.map fun (n : Nat) => (n : Int)).map (Cell.int .i64).val := by rw [List.map_map]; rfl
 rw [nvi] at hr
 exact ld_r (e.ext_get hb) (x := r) rfl (ix_ld (c := .int .i64) (hr.ext e) (by omega) (x := (so : Int)) (by rw [Int.toNat_natCast, List.getElem?_map, hs]; rfl) fun q => hK W (Ext.refl W))
set_option maxHeartbeats 1000000 in
theorem paras_call {at_ kind count arg : Int} (h : Txt w p e lim na O M) (hcn : count < 2 ^ 63) {K : Cells.T c34 × Int × Unit → World → Prop} (hK : ∀ w', Ext w w' → K (spT (parasP (atoms (aOf e M)) at_ kind count).1, (parasP (atoms (aOf e M)) at_ kind count).2, ()) w') :
  callT Tryz.prog 33 #[.pointer (some (at0 p)), .int .i64 at_, .agg (Cells.vals c39 (mvT kind count arg)).toArray] (.tup [(.agg c34), (.one (.int .i64))]) K w := by
 refine F33_calls (a2 := mvT kind count arg) ?_
 unfold F33
 have few := h.few; have lims := h.lims
 have hal := hal e M
 obtain ⟨A, hA⟩ : ∃ A, A = atoms (aOf e M) := ⟨_, rfl⟩
 rw [← hA] at hal
 rw [← hA] at hK
 unfold parasP at hK
 rw [hal] at hK
 let Pt : Obj := .cells #[.pointer (some (at0 p))] 25 (0, 0)
 let Mv : Obj := .cells (Cells.vals c39 (mvT kind count arg)).toArray 39 (0, 0)
 let Z : Obj := .cells #[.int .i64 0, .int .i64 0, .int .i64 0] 34 (0, 0)
 refine (St.start w).newO fun b1 w1 S1 e1 => S1.newO fun b2 w2 S2 e2 => S2.newO fun b3 w3 S3 e3 => ?_
 have S3 : St (fun _ => False) w w3 [(b3, Z), (b2, Mv), (b1, Pt)] := S3
 refine S3.ld 2 rfl (x := some (at0 p)) rfl (S3.lds 1 (mvT kind count arg) rfl (checked_call (h.ext S3.upd) fun w4 e4 => ?_))
 have S4 := S3.ext e4
 generalize hck : checked (aOf e M).length at_ kind count 69 70 = ck at *
 have fin : ∀ {W : World} {s : Int × Int × Int} {n : Int}, St (fun _ => False) w W [(b3, Z), (b2, Mv), (b1, Pt)] → (∀ w', Ext w w' → K (spT s, n, ()) w') → aggSt (at0 b3) (.agg #[.int .i64 s.1, .int .i64 s.2.1, .int .i64 s.2.2]) 3 (lds c34 (at0 b3) fun x => K (x, n, ())) W := fun {W s n} SW hk =>
  SW.aggSt 0 rfl rfl rfl rfl fun w1 S1 _ => S1.lds 0 (spT s) rfl (hk w1 S1.upd)
 refine sif_r (fun h0 => ?_) (fun h0 => ?_)
 ·simp only [bne_iff_ne, ne_eq] at h0
  rw [if_pos h0] at hK
  exact fin (s := (0, 0, 0)) S4 hK
 simp only [bne_eq_false_iff_eq] at h0
 rw [if_neg (by rw [h0]; decide)] at hK
 have hat : 0 ≤ at_ ∧ at_ ≤ ((aOf e M).length : Int) := by
  unfold checked at hck
  split at hck
  ·omega
  ·split at hck <;> omega
 have hbrs : brs A ≤ A.length := by rw [brs_nb]; exact nb_le _ _
 have hnl : lnN A ≤ A.length + 1 := by unfold lnN; split <;> omega
 refine S4.ld 2 rfl (x := some (at0 p)) rfl (lof_call (h.ext S4.upd) fun w5 e5 => ?_)
 rw [← hA]
 generalize nb A at_.toNat = i at *
 have S5 := S4.ext e5
 refine S5.ld 2 rfl (x := some (at0 p)) rfl (lcount_call (h.ext S5.upd) fun w6 e6 => ?_)
 rw [← hA]
 have S6 := S5.ext e6
 refine sif_r (fun h1 => ?_) (fun h1 => ?_)
 ·simp only [decide_eq_true_eq, ge_iff_le] at h1
  rw [if_pos (by omega)] at hK
  exact fin (s := (0, 0, 0)) S6 hK
 simp only [decide_eq_false_iff_not, ge_iff_le] at h1
 rw [if_neg (by omega)] at hK
 refine S6.newO fun b13 w7 S7 e7 => S7.newO fun b14 w8 S8 e8 => ?_
 let B13 : Sl → Obj := fun r => .cells #[.slice r.a r.len r.cap] 95 (0, 0)
 let B14 : Sl → Obj := fun r => .cells #[.slice r.a r.len r.cap] 26 (0, 0)
 let Ls : Sl → Sl → List (Nat × Obj) := fun r1 r2 => [(b14, B14 r2), (b13, B13 r1), (b3, Z), (b2, Mv), (b1, Pt)]
 have S8 : St (fun _ => False) w w8 (Ls ⟨none, 0, 0⟩ ⟨none, 0, 0⟩) := S8
 refine S8.ld 4 rfl (x := some (at0 p)) rfl ?_
 refine F59_calls ?_
 unfold F59
 refine S8.newO fun ba w9 S9 e9 => ?_
 have hba : w9.heap[ba]? = some (.cells #[.pointer (some (at0 p))] 25 (0, 0)) := S9.at_ 0 rfl
 have S9 : St (fun _ => False) w w9 (Ls ⟨none, 0, 0⟩ ⟨none, 0, 0⟩) := S9.tail
 have hbal := lt_of_heap hba
 have lt9 : ∀ x ∈ Ls ⟨none, 0, 0⟩ ⟨none, 0, 0⟩, x.1 < w9.heap.size := S9.lt
 have hb14 := lt9 _ (List.mem_cons_self)
 have hb13 := lt9 (b13, B13 ⟨none, 0, 0⟩) (by simp [Ls])
 have hsz : w.heap.size ≤ w9.heap.size := S9.upd.size
 have tx9 := h.ext S9.upd
 let Inv : Nat → World → Prop := fun j W => ∃ r1 r2, St (fun _ => False) w W (Ls r1 r2) ∧ SlOwn W w9.heap.size r1 100 4 (flat c100 (((lnAll A).take j).map lnT)) ∧ SlOwn W w9.heap.size r2 3 1 (nv ((sortsP A).take j)) ∧
  W.heap[ba]? = some (.cells #[.pointer (some (at0 p))] 25 (0, 0)) ∧ W.heap[w9.heap.size]? = some (.deferred (some []))
 obtain ⟨hsl, hal'⟩ := sortsP_len A
 have invE : ∀ j W W', Inv j W → Ext W W' → Inv j W' := by
  rintro j W W' ⟨r1, r2, g1, g2, g3, g4, g5⟩ x
  exact ⟨r1, r2, g1.ext x, g2.ext x, g3.ext x, x.ext_get g4, x.ext_get g5⟩
 have invL : ∀ {j : Nat} {W W' : World}, Inv j W → Upd (fun k => k = w9.heap.size + 1) W W' → (∀ o, W.heap[w9.heap.size + 1]? = some o → ∃ lo, o = .loop lo) → Inv j W' := by
  rintro j W W' ⟨r1, r2, g1, g2, g3, g4, g5⟩ u hlo
  have nt : ∀ t, NoTy W (fun k => k = w9.heap.size + 1) t := by
   rintro t k rfl c fr hc
   obtain ⟨lo, hh⟩ := hlo _ hc
   cases hh
  refine ⟨r1, r2, g1.fresh u (fun k hk => .inr (by omega)) (fun x hx hk => ?_), g2.ty u (nt _), g3.ty u (nt _), u.get g4 (by omega), u.get g5 (by omega)⟩
  have hx9 : x.1 < w9.heap.size := by
   have : x.1 ∈ (Ls ⟨none, 0, 0⟩ ⟨none, 0, 0⟩).map (·.1) := List.mem_map.2 ⟨x, hx, rfl⟩ |> fun h => by simpa [Ls] using h
   obtain ⟨y, hy, he⟩ := List.mem_map.1 this
   rw [← he]; exact lt9 y hy
  omega
 subst hA
 refine all_range (p := p) (e := e) (lim := lim) (na := na) (O := O) (M := M) (b1 := ba) (fun s => rfl) Inv ?_ invE ?_ ?_ ?_
 ·rintro j W ⟨r1, r2, g1, g2, g3, g4, g5⟩
  exact ⟨h.ext g1.upd, g4, g5⟩
 ·intro W x hd _
  exact ⟨_, _, S9.ext x, SlOwn.nil _ _ _ _, SlOwn.nil _ _ _ _, x.ext_get hba, hd⟩
 ·
  rintro rc j l R W hj hl ⟨r1, r2, g1, g2, g3, g4, g5⟩ hlp hR
  have hok := ln_ok hl
  have ft := hok.ft; have tn := hok.tn; have nl := hok.nl
  have hjl : (lnAll (atoms (aOf e M)))[j]? = some l := by rw [lnAll_get hj, hl]; rfl
  have hjs : (sortsP (atoms (aOf e M)))[j]? = some (sortLn (atoms (aOf e M)) l) := by unfold sortsP; rw [List.getElem?_map, hjl]; rfl
  have l1 := SlOwn.lenR (cs := c100) g2 (by decide)
  rw [List.length_map, List.length_take] at l1
  have l2 := g3.len1
  rw [List.length_map, List.length_take] at l2
  refine g1.newO' fun b22 W1 T1 x1 hb22 => T1.aggSt 0 rfl rfl rfl rfl fun W2 T2 u2 => ?_
  have x2 : Ext W W2 := x1.step u2 fun k hk => by omega
  have lp2 := x2.ext_get hlp
  refine ⟨lp2, ?_⟩
  obtain ⟨u3, lp3⟩ := upd_putObj (o' := .loop (rc .busy none)) lp2
  generalize W2.putObj (w9.heap.size + 1) (.loop (rc .busy none)) = W3 at *
  let Ls' : Sl → Sl → List (Nat × Obj) := fun r1 r2 => (b22, .cells (Cells.vals c100 (lnT l)).toArray 100 (0, 0)) :: Ls r1 r2
  have hlW : w9.heap.size + 1 < W.heap.size := lt_of_heap hlp
  have nt3 : ∀ t, NoTy W2 (fun k => k = w9.heap.size + 1) t := by
   rintro t k rfl c fr hc
   rw [lp2] at hc; cases hc
  have T3 : St (fun _ => False) w W3 (Ls' r1 r2) := by
   refine St.fresh (ls := Ls' r1 r2) T2 u3 (fun k hk => .inr (by omega)) (fun x hx hk => ?_)
   rcases List.mem_cons.1 hx with rfl | hx
   ·simp only at hk; omega
   ·have : x.1 ∈ (Ls ⟨none, 0, 0⟩ ⟨none, 0, 0⟩).map (·.1) := List.mem_map.2 ⟨x, hx, rfl⟩ |> fun h => by simpa [Ls] using h
    obtain ⟨y, hy, he⟩ := List.mem_map.1 this
    have := lt9 y hy
    omega
  have o1 : SlOwn W3 w9.heap.size r1 100 4 (flat c100 (((lnAll (atoms (aOf e M))).take j).map lnT)) := (g2.ext x2).ty u3 (nt3 _)
  have o2 : SlOwn W3 w9.heap.size r2 3 1 (nv ((sortsP (atoms (aOf e M))).take j)) := (g3.ext x2).ty u3 (nt3 _)
  have d3 : W3.heap[w9.heap.size]? = some (.deferred (some [])) := u3.get (x2.ext_get g5) (by omega)
  have a3 : W3.heap[ba]? = some (.cells #[.pointer (some (at0 p))] 25 (0, 0)) := u3.get (x2.ext_get g4) (by omega)
  have lt1 : ∀ k, r1.blk k → k < W.heap.size := fun k hk => g2.in.blk_lt hk
  have lt2 : ∀ k, r2.blk k → k < W.heap.size := fun k hk => g3.in.blk_lt hk
  have s3 : W.heap.size ≤ W3.heap.size := by have := x2.size; have := u3.size; omega
  refine join_r (fun x W' => x = (((sortLn (atoms (aOf e M)) l : Nat) : Int), ()) ∧ Ext W3 W') ?_ ?_
  ·refine T3.ld 5 rfl (x := some (at0 p)) rfl (T3.ld 0 rfl (x := (l.from_ : Int)) rfl (T3.ld 0 rfl (x := (l.to_ : Int)) rfl ?_))
   refine atoms_call (h.ext T3.upd) fun s W4 o4 x4 => ?_
   rw [sub_nat] at o4
   refine cells_call (off := 0) o4.in (by rw [List.length_take, List.length_drop]; omega) (by decide) fun s2 W5 o5 x5 _ => ?_
   unfold sortLn
   have hcl := cels_le (((atoms (aOf e M)).drop l.from_).take (l.to_ - l.from_)) 0
   rw [List.length_take, List.length_drop] at hcl
   generalize cels (((atoms (aOf e M)).drop l.from_).take (l.to_ - l.from_)) 0 = C at *
   have hCl := CelIn.lenC o5
   refine sloop_r (fun x W' => ∃ q : Nat, q ≤ C.length ∧ x = (0, (q : Int), ()) ∧ Ext W5 W' ∧ (C.take q).any (fun c => c.kind != 0) = false) (fun x _ => ((C.length : Int) - x.2.1).toNat) ⟨0, Nat.zero_le _, rfl, Ext.refl _, rfl⟩ ?_
   rintro _ W6 ⟨q, hq, rfl, x6, hno⟩
   refine sif_r (fun hc => ?_) (fun hc => ?_)
   ·simp only [decide_eq_true_eq] at hc
    obtain ⟨c, hc'⟩ : ∃ c, C[q]? = some c := ⟨_, List.getElem?_eq_getElem (by omega)⟩
    refine ix_cel (o5.ext x6) hc' fun qq => (St.start W6).newO fun b34 W7 T7 x7 => T7.aggSt 0 rfl rfl rfl rfl fun W8 T8 u8 => T8.ld 0 rfl (x := (c.kind : Int)) rfl (sif_r (fun hk => ?_) (fun hk => ?_))
    ·simp only [bne_iff_ne, ne_eq] at hk
     have hany : C.any (fun c => c.kind != 0) = true := by
      rw [List.any_eq_true]
      exact ⟨c, List.mem_of_getElem? hc', by rw [bne_iff_ne]; omega⟩
     exact ⟨by rw [if_pos hany]; rfl, (x4.trans x5).trans (x6.trans T8.upd)⟩
    ·simp only [bne_eq_false_iff_eq] at hk
     have ew : IntKind.wrap .i64 ((q : Int) + 1) = ((q + 1 : Nat) : Int) := by rw [wrap64 (by omega) (by omega)]; omega
     rw [ew]
     refine ⟨⟨q + 1, by omega, rfl, x6.trans T8.upd, ?_⟩, by dsimp only; omega⟩
     rw [List.take_add_one, hc', List.any_append, hno]
     have : c.kind = 0 := by omega
     simp [this]
   ·simp only [decide_eq_false_iff_not] at hc
    have : q = C.length := by omega
    subst this
    rw [List.take_length] at hno
    exact ⟨by rw [if_neg (by rw [hno]; decide)]; rfl, (x4.trans x5).trans x6⟩
  rintro _ W4 ⟨rfl, x4⟩
  generalize hso : sortLn (atoms (aOf e M)) l = so at *
  refine drew_r fun W5 x5 _ => ?_
  have x35 := x4.trans x5
  have T5 := T3.ext x35
  have st5 : W.heap.size ≤ W5.heap.size := Nat.le_trans s3 x35.size
  have stepL : ∀ {V : World} {r2' : Sl} {b : Nat} {J : Sl → World → Prop}, Ext W5 V → V.heap[b]? = some (.cells (Cells.vals c100 (lnT l)).toArray 100 (0, 0)) → St (fun _ => False) w V (Ls' r1 r2) →
    (∀ r1' V', SlOwn V' w9.heap.size r1' 100 4 (flat c100 (((lnAll (atoms (aOf e M))).take (j + 1)).map lnT)) → Upd r1.blk V V' → St (fun _ => False) w V' (Ls' r1 r2) → J r1' V') →
    rawT Tryz.prog (.one (.one .sl)) (Builtin.append_ #[95, 95] 95 #[.slice r1.a r1.len r1.cap, .slice (some (at0 b)) 1 1]) J V := by
   intro V _ b J xV hb SV hJ
   have hbox : SlX V ⟨some (at0 b), 1, 1⟩ 4 (flat c100 [lnT l]) := (SlIn.of_box hb (n := 1) (sz := 4) rfl).x
   refine append_rx eLines eLines.ts_ (x := ⟨some (at0 b), 1, 1⟩) ((o1.ext x35).ext xV) hbox (ln_one l) (by
    show (r1.len + 1 + (r1.len + 1) / 4 + 512) * 32 ≤ 2 ^ 48
    omega) (by have := xV.size; omega) fun r1' V' ov lv uv kv => hJ r1' V' ?_ uv ?_
   ·have ee : flat c100 (((lnAll (atoms (aOf e M))).take j).map lnT) ++ flat c100 [lnT l] = flat c100 (((lnAll (atoms (aOf e M))).take (j + 1)).map lnT) := by
     rw [List.take_add_one, hjl, List.map_append, flat_append]; rfl
    rw [ee] at ov; exact ov
   ·refine SV.fresh uv (fun k hk => .inr (by have := g2.blk_ge hk; omega)) (fun x hx hk => ?_)
    rcases List.mem_cons.1 hx with rfl | hx
    ·have := lt1 _ hk; simp only at this; omega
    ·have : x.1 ∈ (Ls ⟨none, 0, 0⟩ ⟨none, 0, 0⟩).map (·.1) := List.mem_map.2 ⟨x, hx, rfl⟩ |> fun h => by simpa [Ls] using h
     obtain ⟨y, hy, he⟩ := List.mem_map.1 this
     have h1 := lt9 y hy
     have h2 := g2.blk_ge hk
     omega
  have stepS : ∀ {V : World} {b : Nat} {J : Sl → World → Prop}, SlOwn V w9.heap.size r2 3 1 (nv ((sortsP (atoms (aOf e M))).take j)) → W.heap.size ≤ V.heap.size → V.heap[b]? = some (.cells #[.int .i64 (so : Int)] 3 (0, 0)) → St (fun _ => False) w V (Ls' r1 r2) →
    (∀ r2' V', SlOwn V' w9.heap.size r2' 3 1 (nv ((sortsP (atoms (aOf e M))).take (j + 1))) → Upd r2.blk V V' → St (fun _ => False) w V' (Ls' r1 r2) → J r2' V') →
    rawT Tryz.prog (.one (.one .sl)) (Builtin.append_ #[26, 26] 26 #[.slice r2.a r2.len r2.cap, .slice (some (at0 b)) 1 1]) J V := by
   intro V b J oV sV hb SV hJ
   refine append_rx eInts eInts.ts_ (x := ⟨some (at0 b), 1, 1⟩) oV (iv_box hb) (fun v hv => by rw [List.mem_singleton.1 hv]; rfl) (by
    show (r2.len + 1 + (r2.len + 1) / 4 + 512) * 8 ≤ 2 ^ 48
    omega) (by omega) fun r2' V' ov lv uv kv => hJ r2' V' ?_ uv ?_
   ·have ee : nv ((sortsP (atoms (aOf e M))).take j) ++ [.int .i64 (so : Int)] = nv ((sortsP (atoms (aOf e M))).take (j + 1)) := by
     rw [List.take_add_one, hjs]; simp
    rw [ee] at ov; exact ov
   ·refine SV.fresh uv (fun k hk => .inr (by have := g3.blk_ge hk; omega)) (fun x hx hk => ?_)
    rcases List.mem_cons.1 hx with rfl | hx
    ·have := lt2 _ hk; simp only at this; omega
    ·have : x.1 ∈ (Ls ⟨none, 0, 0⟩ ⟨none, 0, 0⟩).map (·.1) := List.mem_map.2 ⟨x, hx, rfl⟩ |> fun h => by simpa [Ls] using h
     obtain ⟨y, hy, he⟩ := List.mem_map.1 this
     have h1 := lt9 y hy
     have h2 := g3.blk_ge hk
     omega
  have finR : ∀ {V : World} {r1' r2' : Sl}, St (fun _ => False) w V (Ls' r1 r2) → SlOwn V w9.heap.size r1' 100 4 (flat c100 (((lnAll (atoms (aOf e M))).take (j + 1)).map lnT)) → SlOwn V w9.heap.size r2' 3 1 (nv ((sortsP (atoms (aOf e M))).take (j + 1))) →
    V.heap[w9.heap.size]? = some (.deferred (some [])) → V.heap[ba]? = some (.cells #[.pointer (some (at0 p))] 25 (0, 0)) → V.heap[w9.heap.size + 1]? = some (.loop (rc .busy none)) →
    stC (at0 b13) (.slice r1'.a r1'.len r1'.cap) (stC (at0 b14) (.slice r2'.a r2'.len r2'.cap) (endR (w9.heap.size + 1) rc none R)) V := by
   intro V r1' r2' SV q1 q2 q3 q4 q5
   refine SV.stC 2 rfl Nat.one_pos fun V1 SV1 uv1 => SV1.stC 1 rfl Nat.one_pos fun V2 SV2 uv2 => ?_
   have p1 := SlOwn.box (SlOwn.box q1 (SV.at_ 2 rfl) (by decide) uv1) (SV1.at_ 1 rfl) (by decide) uv2
   have p2 := SlOwn.box (SlOwn.box q2 (SV.at_ 2 rfl) (by decide) uv1) (SV1.at_ 1 rfl) (by decide) uv2
   have gg : ∀ {k : Nat} {o : Obj}, k ≠ b13 → k ≠ b14 → V.heap[k]? = some o → V2.heap[k]? = some o := fun h13 h14 ho => uv2.get (uv1.get ho h13) h14
   have p5 := gg (by omega) (by omega) q5
   refine ⟨⟨_, _, p5⟩, ?_⟩
   obtain ⟨uv3, lpv⟩ := upd_putObj (o' := .loop (rc .ready none)) p5
   refine hR _ (invL ⟨r1', r2', SV2.tail, p1, p2, gg (fun hc => by rw [hc] at q4; rw [SV.at_ 2 rfl] at q4; cases q4) (fun hc => by rw [hc] at q4; rw [SV.at_ 1 rfl] at q4; cases q4) q4, gg (by omega) (by omega) q3⟩ uv3 fun o ho => by rw [p5] at ho; cases ho; exact ⟨_, rfl⟩) lpv
  have d5 := x35.ext_get d3
  have a5 := x35.ext_get a3
  have lp5 := x35.ext_get lp3
  have keep1 : ∀ {V V' : World} {k : Nat} {o : Obj}, Upd r1.blk V V' → V.heap[k]? = some o → (∀ c fr, o ≠ .cells c 100 fr) → SlOwn V w9.heap.size r1 100 4 (flat c100 (((lnAll (atoms (aOf e M))).take j).map lnT)) → V'.heap[k]? = some o := by
   intro V V' k o u ho hc ov
   refine u.get ho fun hk => ?_
   obtain ⟨c, fr, hcc⟩ := ov.in.blk_cells hk
   rw [ho] at hcc
   exact hc c fr (Option.some.inj hcc)
  have keep2 : ∀ {V V' : World} {k : Nat} {o : Obj}, Upd r2.blk V V' → V.heap[k]? = some o → (∀ c fr, o ≠ .cells c 3 fr) → SlOwn V w9.heap.size r2 3 1 (nv ((sortsP (atoms (aOf e M))).take j)) → V'.heap[k]? = some o := by
   intro V V' k o u ho hc ov
   refine u.get ho fun hk => ?_
   obtain ⟨c, fr, hcc⟩ := ov.in.blk_cells hk
   rw [ho] at hcc
   exact hc c fr (Option.some.inj hcc)
  refine T5.ld 2 rfl (x := r1) rfl (T5.lds 0 (lnT l) rfl (T5.ld 1 rfl (x := r2) rfl ?_))
  have tail1 : ∀ {V' : World} {r1' : Sl} {b : Nat}, St (fun _ => False) w V' (Ls' r1 r2) → SlOwn V' w9.heap.size r1' 100 4 (flat c100 (((lnAll (atoms (aOf e M))).take (j + 1)).map lnT)) → V'.heap[b]? = some (.cells #[.int .i64 (so : Int)] 3 (0, 0)) → W.heap.size ≤ V'.heap.size →
    SlOwn V' w9.heap.size r2 3 1 (nv ((sortsP (atoms (aOf e M))).take j)) → V'.heap[w9.heap.size]? = some (.deferred (some [])) → V'.heap[ba]? = some (.cells #[.pointer (some (at0 p))] 25 (0, 0)) → V'.heap[w9.heap.size + 1]? = some (.loop (rc .busy none)) →
    rawT Tryz.prog (.one (.one .sl)) (Builtin.append_ #[26, 26] 26 #[.slice r2.a r2.len r2.cap, .slice (some (at0 b)) 1 1]) (fun x42 => stC (at0 b13) (.slice r1'.a r1'.len r1'.cap) (stC (at0 b14) (.slice x42.a x42.len x42.cap) (endR (w9.heap.size + 1) rc none R))) V' := by
   intro V' r1' b SV q1 hb sV q2 q3 q4 q5
   refine stepS q2 sV hb SV fun r2' V2 ov2 u2 SV2 => ?_
   exact finR SV2 (q1.ty u2 (fun k hk c fr hc => by
    obtain ⟨c', fr', hc'⟩ := q2.in.blk_cells hk
    rw [hc'] at hc; cases hc)) ov2 (keep2 u2 q3 (fun _ _ h => by cases h) q2) (keep2 u2 q4 (fun _ _ h => by cases h) q2) (keep2 u2 q5 (fun _ _ h => by cases h) q2)
  have after1 : ∀ {V V' : World}, Ext W5 V → Upd r1.blk V V' → SlOwn V' w9.heap.size r2 3 1 (nv ((sortsP (atoms (aOf e M))).take j)) ∧ V'.heap[w9.heap.size]? = some (.deferred (some [])) ∧ V'.heap[ba]? = some (.cells #[.pointer (some (at0 p))] 25 (0, 0)) ∧ V'.heap[w9.heap.size + 1]? = some (.loop (rc .busy none)) := by
   intro V V' xV uV
   have ov := (o1.ext x35).ext xV
   exact ⟨((o2.ext x35).ext xV).ty uV (fun k hk c fr hc => by
    obtain ⟨c', fr', hc'⟩ := ov.in.blk_cells hk
    rw [hc'] at hc; cases hc), keep1 uV (xV.ext_get d5) (fun _ _ h => by cases h) ov, keep1 uV (xV.ext_get a5) (fun _ _ h => by cases h) ov, keep1 uV (xV.ext_get lp5) (fun _ _ h => by cases h) ov⟩
  refine ⟨?_, ?_⟩
  ·
   refine T5.newO' fun b39 V1 SV1 xv1 hb39 => SV1.keep 2 rfl (v := .slice r2.a r2.len r2.cap) rfl (SV1.keeps 1 (x := lnT l) rfl (SV1.keep 3 rfl (v := .slice r1.a r1.len r1.cap) rfl ?_))
   refine SV1.newO fun b40 V2 SV2 xv2 => SV2.keep 3 rfl (v := .slice r2.a r2.len r2.cap) rfl (SV2.keep 4 rfl (v := .slice r1.a r1.len r1.cap) rfl ?_)
   have xv := xv1.trans xv2
   refine stepL (r2' := r2) xv (SV2.at_ 0 rfl) SV2.tail.tail fun r1' V3 ov3 u3 SV3 => SV3.keep 1 rfl (v := .slice r2.a r2.len r2.cap) rfl ?_
   obtain ⟨z1, z2, z3, z4⟩ := after1 xv u3
   exact tail1 SV3 ov3 (keep1 u3 (SV2.at_ 1 rfl) (fun _ _ h => by cases h) ((o1.ext x35).ext xv)) (by have := xv.size; have := u3.size; omega) z1 z2 z3 z4
  ·refine T5.newO fun b43 V1 SV1 xv1 => SV1.keep 2 rfl (v := .slice r2.a r2.len r2.cap) rfl (SV1.keep 3 rfl (v := .slice r1.a r1.len r1.cap) rfl ⟨?_, ?_⟩)
   ·refine SV1.newO' fun b44 V2 SV2 xv2 hb44 => SV2.keep 3 rfl (v := .slice r2.a r2.len r2.cap) rfl (SV2.keeps 2 (x := lnT l) rfl (SV2.keep 4 rfl (v := .slice r1.a r1.len r1.cap) rfl ?_))
    have xv := xv1.trans xv2
    refine stepL (r2' := r2) xv (SV2.at_ 1 rfl) SV2.tail.tail fun r1' V3 ov3 u3 SV3 => SV3.keep 1 rfl (v := .slice r2.a r2.len r2.cap) rfl ?_
    obtain ⟨z1, z2, z3, z4⟩ := after1 xv u3
    exact tail1 SV3 ov3 (keep1 u3 (SV2.at_ 0 rfl) (fun _ _ h => by cases h) ((o1.ext x35).ext xv)) (by have := xv.size; have := u3.size; omega) z1 z2 z3 z4
   ·refine stepL (r2' := r2) xv1 (SV1.at_ 0 rfl) SV1.tail fun r1' V3 ov3 u3 SV3 => SV3.keep 1 rfl (v := .slice r2.a r2.len r2.cap) rfl ⟨?_, trivial⟩
    obtain ⟨z1, z2, z3, z4⟩ := after1 xv1 u3
    refine SV3.newO fun b48 V4 SV4 xv4 => SV4.keep 2 rfl (v := .slice r2.a r2.len r2.cap) rfl (SV4.keeps 1 (x := lnT l) rfl (SV4.keep 3 rfl (v := .slice r1.a r1.len r1.cap) rfl ?_))
    exact tail1 SV4.tail (ov3.ext xv4) (SV4.at_ 0 rfl) (by have := xv1.size; have := u3.size; have := xv4.size; omega) (z1.ext xv4) (xv4.ext_get z2) (xv4.ext_get z3) (xv4.ext_get z4)
 ·
  intro W W' hI hD uW hlo
  obtain ⟨r1, r2, g1, g2, g3, g4, g5⟩ := invL hI uW hlo
  rw [List.take_of_length_le (by omega)] at g2
  rw [List.take_of_length_le (by omega)] at g3
  have l1 := SlOwn.lenR (cs := c100) g2 (by decide)
  rw [List.length_map] at l1
  show (ld .sl (at0 b13) _) W'
  refine g1.ld 1 rfl (x := r1) rfl (g1.newO fun b70 V1 SV1 xv1 => SV1.aggSt 0 rfl rfl rfl rfl fun V2 SV2 uv2 => ?_)
  have q3 : SlIn V2 r2 3 1 (nv (sortsP (atoms (aOf e M)))) := SlIn.box (g3.in.ext xv1) (SV1.at_ 0 rfl) (by decide) uv2
  have q2 : SlIn V2 r1 100 4 (flat c100 ((lnAll (atoms (aOf e M))).map lnT)) := SlIn.box (g2.in.ext xv1) (SV1.at_ 0 rfl) (by decide) uv2
  have d2 : V2.heap[w9.heap.size]? = some (.deferred (some [])) := uv2.get (xv1.ext_get g5) fun hc => by
   have := SV1.at_ 0 rfl
   rw [← hc, xv1.ext_get g5] at this
   cases this
  have el : ((r1.len : Nat) : Int) = (((sortsP (atoms (aOf e M))).length : Nat) : Int) := by omega
  rw [el] at SV2
  have hf : SortX V2 (.func (.func 60) #[] #[.pointer (some (at0 b14))]) (sortsP (atoms (aOf e M))) := sortX_paras q3 (SV2.at_ 1 rfl)
  let F : Value := .func (.func 60) #[] #[.pointer (some (at0 b14))]
  let R : Value := .agg (Cells.vals c89 (rowT (sortsP (atoms (aOf e M))).length F)).toArray
  refine SV2.lds 0 (rowT (sortsP (atoms (aOf e M))).length F) rfl ?_
  refine join_r (fun x W => x = ((if kind = 70 then (.func (.func 54) #[R] #[] : Value) else .func (.func 53) #[R] #[]), ()) ∧ V2 = W) ?_ ?_
  ·refine SV2.ld 4 rfl (x := kind) rfl (sif_r (fun h => ?_) (fun h => ?_))
   ·simp only [beq_iff_eq] at h
    rw [if_pos h]
    exact SV2.lds 0 (rowT (sortsP (atoms (aOf e M))).length F) rfl ⟨rfl, rfl⟩
   ·simp only [beq_eq_false_iff_ne, ne_eq] at h
    rw [if_neg h]
    exact ⟨rfl, rfl⟩
  rintro _ _ ⟨rfl, rfl⟩
  refine SV2.lds 4 (mvT kind count arg) rfl (times_call hcn fun V3 xv3 => ?_)
  have SV3 := SV2.ext xv3
  have tp := times_pos count
  have tl := times_lt hcn
  have hil : i < (sortsP (atoms (aOf e M))).length := by omega
  have hll : (sortsP (atoms (aOf e M))).length < 2 ^ 60 := by omega
  have fin2 : ∀ V, Ext V3 V → (fun (x78 : Int × Int × Bool × Unit) => sif (!x78.2.2.1) (aggSt (at0 b3) (.agg #[.int .i64 0, .int .i64 0, .int .i64 0]) 3 (endM w9.heap.size (lds c34 (at0 b3) fun x79 => K (x79, 90, ()))))
    (drew (ld .sl (at0 b13) fun x80 => ix x80.a x80.len x78.1 fun p81 => ld (.int .i64) (p81.add (scaled (Int.toNat x78.1) 4)) fun x82 => ld .sl (at0 b13) fun x83 => ix x83.a x83.len (IntKind.wrap .i64 (x78.2.1 - 1)) fun p84 => ld (.int .i64) ((p84.add (scaled (Int.toNat (IntKind.wrap .i64 (x78.2.1 - 1))) 4)).add 2) fun x85 =>
     aggSt (at0 b3) (.agg #[.int .i64 x82, .int .i64 x85, .int .i64 1]) 3 (endM w9.heap.size (lds c34 (at0 b3) fun x86 => K (x86, 0, ())))))) (pickV (pickP (decide (kind = 70)) (sortsP (atoms (aOf e M))) i (times count))) V := by
   intro V xV
   have SV := SV3.ext xV
   have last : ∀ {V : World} {s : Int × Int × Int} {n : Int}, St (fun _ => False) w V [(b70, .cells (Cells.vals c89 (rowT (sortsP (atoms (aOf e M))).length F)).toArray 89 (0, 0)), (b14, B14 r2), (b13, B13 r1), (b3, Z), (b2, Mv), (b1, Pt)] → V.heap[w9.heap.size]? = some (.deferred (some [])) → (∀ w', Ext w w' → K (spT s, n, ()) w') →
     aggSt (at0 b3) (.agg #[.int .i64 s.1, .int .i64 s.2.1, .int .i64 s.2.2]) 3 (endM w9.heap.size (lds c34 (at0 b3) fun x => K (x, n, ()))) V := by
    intro V s n SV hD hk
    refine SV.aggSt 3 rfl rfl rfl rfl fun V1 SV1 uv1 => ?_
    have b3lt := lt9 (b3, Z) (by simp [Ls])
    have hD1 : V1.heap[w9.heap.size]? = some (.deferred (some [])) := uv1.get hD (by simp only at b3lt; omega)
    refine ⟨hD1, ?_⟩
    obtain ⟨uv2, _⟩ := upd_putObj (o' := .deferred none) hD1
    have SV2 := SV1.fresh uv2 (fun k hk => .inr (by omega)) (fun x hx hk => by
     have := (SV1.loc x hx).1
     rw [hk, hD1] at this
     have h2 := Option.some.inj this
     simp only [List.set_cons_succ, List.set_cons_zero, List.mem_cons, List.not_mem_nil, or_false] at hx
     rcases hx with rfl | rfl | rfl | rfl | rfl | rfl <;> cases h2)
    exact SV2.lds 3 (spT s) rfl (hk _ SV2.upd)
   have dV : V.heap[w9.heap.size]? = some (.deferred (some [])) := (xv3.trans xV).ext_get d2
   cases hp : pickP (decide (kind = 70)) (sortsP (atoms (aOf e M))) i (times count) with
   | none =>
    rw [hp] at hK
    exact sif_true (last (s := (0, 0, 0)) SV dV hK)
   | some ft =>
    obtain ⟨f, t⟩ := ft
    rw [hp] at hK
    have hb : f ≤ i ∧ i < t ∧ t ≤ (sortsP (atoms (aOf e M))).length := by
     unfold pickP at hp
     split at hp
     ·exact aroundP_le hp
     ·exact innerP_le hp
    obtain ⟨c, hc⟩ : ∃ c, (lnAll (atoms (aOf e M)))[f]? = some c := ⟨_, List.getElem?_eq_getElem (by omega)⟩
    obtain ⟨d, hd⟩ : ∃ d, (lnAll (atoms (aOf e M)))[t - 1]? = some d := ⟨_, List.getElem?_eq_getElem (by omega)⟩
    dsimp only at hK
    rw [hc, hd] at hK
    simp only [Option.map_some, Option.getD_some] at hK
    have ew : IntKind.wrap .i64 ((t : Int) - 1) = ((t - 1 : Nat) : Int) := by rw [wrap64 (by omega) (by omega)]; omega
    refine sif_false (SV.drew fun V4 SV4 xv4 _ => ?_)
    have q4 := q2.ext ((xv3.trans xV).trans xv4)
    dsimp only [pickV]
    rw [ew]
    refine SV4.ld 2 rfl (x := r1) rfl (ix_ldf0 (cs := c100) (c := .int .i64) q4 (by omega) (x := lnT c) (y := (c.from_ : Int)) (by rw [Int.toNat_natCast, List.getElem?_map, hc]; rfl) rfl fun q1 => SV4.ld 2 rfl (x := r1) rfl (ix_ldf (cs := c100) (c := .int .i64) (j := 2) q4 (by omega) (x := lnT d) (y := (d.next : Int)) (by rw [Int.toNat_natCast, List.getElem?_map, hd]; rfl) rfl fun q2 => ?_))
    exact last (s := (c.from_, d.next, 1)) SV4 (xv4.ext_get dV) hK
  by_cases hk : kind = 70
  ·rw [if_pos hk]
   have fin' := fin2
   rw [decide_eq_true hk] at fin'
   exact func_m (a := R) (by kernel_rfl) (around_call (hf.ext xv3) rfl hil hll tp tl fin')
  ·rw [if_neg hk]
   have fin' := fin2
   rw [decide_eq_false hk] at fin'
   exact func_m (a := R) (by kernel_rfl) (inner_call (hf.ext xv3) rfl hil hll tp tl fin')
end
end Go.Proofs.YtabcpghhfeplaaaGreat
