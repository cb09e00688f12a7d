/- YtabcpghhfeplaaaGreatOTa3: parts of the proof, put together by program. -/
import Derived.Test.YtabcpghhfeplaaaGreatOTa2
set_option linter.unusedVariables false
set_option linter.unusedSimpArgs false
set_option linter.unusedSectionVars false
noncomputable section
set_option maxRecDepth 100000
namespace Go.Proofs.YtabcpghhfeplaaaGreat
open Go Go.Vx
def F23 (a0 : Option Addr) (a1 : Int) (a2 : Int) (K : Sl -> Wp) : Wp := Af (.cells #[(.slice none 0 0)] 26) λ b1 => Ac Tryz.prog 47 #[(.pointer a0), (vI a1), (vI a2), (.func (Fn.func 48) #[] #[(.pointer (some (at0 b1)))])] (.tup []) λ (x2 : (Unit)) => ld (.sl) (at0 b1) λ (x3 : Sl) => K x3
def h23 : Hint := (hS (hR 1) (hS (hR 1) (hS (hR 5) (hS (hR 2) hL))))
theorem A23 {a0 : Option Addr} {a1 : Int} {a2 : Int} {K : Sl -> Wp} {w : World} (h : F23 a0 a1 a2 K w) : Ac Tryz.prog 23 #[(.pointer a0), (vI a1), (vI a2)] rS K w := tied Ai Tryz.func23 h23 _ h
def F34 (a0 : Int) (a1 : Sl) (K : (Sl × Int × Unit) -> Wp) : Wp := cB 61 #[(vI a0)] λ x1 => sif (!x1) ( K (⟨none, 0, 0⟩, 10, ())) ( jS (λ J2 => Gj (S := Sl × Int × Unit) (λ s4 again5 => sif (decide (s4.2.1 < ((a1.len : Nat) : Int))) ( Ac Tryz.prog 62 #[(vI a0), a1.v, (vI s4.2.1)] (.tup [(.one cI), (.one cI)]) λ (x6 : (Int × Int × Unit)) => Af (.cells #[(vI x6.1)] 3) λ b7 => Df Tryz.prog rS (Builtin.append_ #[26, 26] 26 #[s4.1.v, (.slice (some (at0 b7)) 1 1)]) λ (x8 : Sl) => again5 (x8, (W64 (s4.2.1 + x6.2.1)), ())) ( J2 (s4.1, ()))) (⟨none, 0, 0⟩, 0, ())) λ s3 => K (s3.1, 0, ()))
def h34 : Hint := (hS (hR 2) (hS (hR 3) (hS (hS (hR 2) (hC (hS (hR 2) hL) hL)) (hS (hR 1) (hS (hR 1) (hJ (8589903744, [(7, tS)]) (.block (.loop 8589903744 [(7, tS), (8, tI)] (hS (hS (hR 4) (hC hL hL)) (.block (hS (hR 9) (hS (hR 5) (hR 4))))))) (hS (hR 3) hL)))))))
theorem A34 {a0 : Int} {a1 : Sl} {K : (Sl × Int × Unit) -> Wp} {w : World} (h : F34 a0 a1 K w) : Ac Tryz.prog 34 #[(vI a0), a1.v] (.tup [(.one .sl), (.one cI)]) K w := tied Ai Tryz.func34 h34 _ h
def F35 (a0 : Int) (a1 : Sl) (a2 : Int) (K : (Option Addr × Int × Unit) -> Wp) : Wp := jB (λ J1 => sif (decide (a0 < 1)) ( J1 (true, ())) ( J1 ((decide (a0 > 4)), ()))) λ s2 => sif s2.1 ( K (none, 10, ())) ( jB (λ J3 => sif (decide (a2 < 0)) ( J3 (true, ())) ( J3 ((decide (a2 > 65536)), ()))) λ s4 => sif s4.1 ( K (none, 1, ())) ( sif (decide (((a1.len : Nat) : Int) > a2)) ( K (none, 50, ())) ( Df Tryz.prog rS (Instr.makeSlice 22 (vI ((a1.len : Nat) : Int)) (vI ((a1.len : Nat) : Int))) λ (x5 : Sl) => Df Tryz.prog rI (Builtin.copy_ #[22, 22] 3 #[x5.v, a1.v]) λ (x6 : Int) => Af (.cells #[(vI a0), (vI a2), (.pointer none), (.slice none 0 0)] 107) λ b7 => jS (λ J8 => Gj (S := Sl × Int × Unit) (λ s10 again11 => sif (decide (s10.2.1 < ((x5.len : Nat) : Int))) ( jI (λ J12 => sN (λ s14 again15 => jB (λ J16 => sif (decide (s14.1 < ((x5.len : Nat) : Int))) ( J16 ((decide (s14.2.1 < 128)), ())) ( J16 (false, ()))) λ s17 => sif s17.1 ( Ac Tryz.prog 63 #[(vI a0), x5.v, (vI s14.1)] (.tup [(.one cI), (.one cI)]) λ (x18 : (Int × Int × Unit)) => again15 ((W64 (s14.1 + x18.2.1)), (W64 (s14.2.1 + 1)), ())) ( J12 (s14.1, ()))) (s10.2.1, 0, ())) λ s13 => slc x5.a s10.2.1 s13.1 s13.1 x5.cap 1 λ x19 => Ac Tryz.prog 64 #[(vI a0), x19.v, (vI s10.2.1)] (.one (.agg Ag)) λ (x20 : (Sl × Int × Int × Int × Int × Bool × Bool × Unit)) => Af (.cells #[x20.1.v, (vI x20.2.1), (vI x20.2.2.1), (vI x20.2.2.2.1), (vI x20.2.2.2.2.1), (.bool x20.2.2.2.2.2.1), (.bool x20.2.2.2.2.2.2.1)] 112) λ b21 => Df Tryz.prog rS (Builtin.append_ #[108, 108] 108 #[s10.1.v, (.slice (some (at0 b21)) 1 1)]) λ (x22 : Sl) => again11 (x22, s13.1, ())) ( J8 (s10.1, ()))) (⟨none, 0, 0⟩, 0, ())) λ s9 => Ac Tryz.prog 65 #[s9.1.v] (.one (.agg c105)) λ (x23 : (Option Addr × Unit)) => nn (some (at0 b7)) λ p24 => Ad (p24.add 2) (vA c105 x23) 1 <| K ((some (at0 b7)), 0, ()))))
def h35 : Hint := (hS (hR 2) (hS (.block (hJ (8323072, [(16, tB)]) (.region [] (.ops 3 (.split 19 (.skips 2 (hO 2)) (hO 4)))) (hC (hS (hR 2) hL) (hJ (0x3f800000, [(23, tB)]) (.region [] (.ops 3 (.split 26 (.skips 2 (hO 2)) (hO 4)))) (hC (hS (hR 2) hL) (hS (hR 5) (hC (hS (hR 2) hL) hL))))))) (hS (hR 4) (hS (hR 3) (hS (hR 5) (hS (hR 1) (hJ (0x3ffffffffe0000000fc00, [(10, tS)]) (hS (hR 1) (.block (.loop 0x3ffffffffe0000000fc00 [(10, tS), (11, tI)] (hS (hS (hR 4) (hC hL hL)) (.block (hS (hR 3) (hJ (0x3ffffc00000000f000, [(12, tI)]) (.block (.loop 0x3ffffc00000000f000 [(12, tI), (13, tI)] (hS (hJ ((mR [(50, 58)]), [(57, tB)]) (.region [] (.ops 5 (.split 54 (hO 3) (.skips 2 (hO 1))))) (hC hL hL)) (hS (.block (hS (hR 9) (hR 4))) (hR 3))))) (hS (hR 12) (hR 2))))))))) (hS (hR 6) (hS (hR 3) hL)))))))))
theorem A35 {a0 : Int} {a1 : Sl} {a2 : Int} {K : (Option Addr × Int × Unit) -> Wp} {w : World} (h : F35 a0 a1 a2 K w) : Ac Tryz.prog 35 #[(vI a0), a1.v, (vI a2)] (.tup [(.one .ptr), (.one cI)]) K w := tied Ai Tryz.func35 h35 _ h
def F40 (a0 : Option Addr) (K : Int -> Wp) : Wp := nn a0 λ p1 => lds c105 (p1.add 2) λ (x2 : (Option Addr × Unit)) => Ac Tryz.prog 70 #[(vA c105 x2)] (.one (.agg Ap)) λ (x3 : (Int × Int × Int × Bool × Bool × Unit)) => K x3.1
def h40 : Hint := (hS (hR 1) (hS (hR 7) hL))
theorem A40 {a0 : Option Addr} {K : Int -> Wp} {w : World} (h : F40 a0 K w) : Ac Tryz.prog 40 #[(.pointer a0)] rI K w := tied Ai Tryz.func40 h40 _ h
def F47 (a0 : Option Addr) (a1 : Int) (a2 : Int) (a3 : Value) (K : Unit -> Wp) : Wp := Af (.cells #[(.pointer a0)] 25) λ b1 => chk (Tm [a3] = true) <| Af (.cells #[a3] 79) λ b2 => ld (.ptr) (at0 b1) λ (x3 : Option Addr) => cN 40 #[(.pointer x3)] λ x4 => sif (decide ((if 0 > a1 then 0 else a1) >= (if x4 < a2 then x4 else a2))) ( K ()) ( ld (.ptr) (at0 b1) λ (x5 : Option Addr) => Ac Tryz.prog 73 #[(.pointer x5), (vI (if 0 > a1 then 0 else a1))] (.tup [(.one cI), (.one cI)]) λ (x6 : (Int × Int × Unit)) => Af (.cells #[(vI 0)] 3) λ b7 => stC (at0 b7) (vI x6.2.1) <| Af (.cells #[(vI 0)] 3) λ b8 => stC (at0 b8) (vI (W64 ((if x4 < a2 then x4 else a2) - (if 0 > a1 then 0 else a1)))) <| ld (.ptr) (at0 b1) λ (x9 : Option Addr) => nn x9 λ p10 => lds c105 (p10.add 2) λ (x11 : (Option Addr × Unit)) => Ac Tryz.prog 74 #[(vA c105 x11), (vI x6.1)] (.one (.one .any)) λ (x12 : Value) => X6 (S := (Sl × Int × Int × Int × Int × Bool × Bool × Unit) × Unit) Tryz.prog (Slots.vals [(39, (.agg Ag))]) x12 (λ l13 rc14 R15 (s16 : (Sl × Int × Int × Int × Int × Bool × Bool × Unit) × Unit) => Af (.cells #[(.slice none 0 0), (vI 0), (vI 0), (vI 0), (vI 0), (.bool false), (.bool false)] 112) λ b18 => Ad (at0 b18) (vA Ag s16.1) 7 <| Cb8 l13 rc14 <| sI (λ s19 again20 => ld (.sl) (at0 b18) λ (x21 : Sl) => sif (decide (s19.1 < ((x21.len : Nat) : Int))) ( drew <| ld (.ptr) (at0 b1) λ (x22 : Option Addr) => nn x22 λ p23 => lI p23 λ x24 => ld (.sl) (at0 b18) λ (x25 : Sl) => Ac Tryz.prog 63 #[(vI x24), x25.v, (vI s19.1)] (.tup [(.one cI), (.one cI)]) λ (x26 : (Int × Int × Unit)) => jU (λ J27 => lI (at0 b7) λ x29 => sif (decide (x29 > 0)) ( lI (at0 b7) λ x30 => stC (at0 b7) (vI (W64 (x30 - 1))) <| J27 ()) ( jU (λ J31 => lI (ad b18 1) λ x33 => sif (decide (x33 < 0)) ( ld (.any) (at0 b2) λ (x34 : Value) => Bf Tryz.prog (do let d ← Deferred.ofValue x34 #[(vI x26.1), (vI (-1))]; invoke d.target d.args : Sem Next) (.tup []) λ (x35 : (Unit)) => J31 ()) ( ld (.any) (at0 b2) λ (x36 : Value) => lI (ad b18 1) λ x37 => Bf Tryz.prog (do let d ← Deferred.ofValue x36 #[(vI x26.1), (vI (W64 (x37 + s19.1)))]; invoke d.target d.args : Sem Next) (.tup []) λ (x38 : (Unit)) => J31 ())) λ s32 => lI (at0 b8) λ x39 => stC (at0 b8) (vI (W64 (x39 - 1))) <| lI (at0 b8) λ x40 => sif (x40 == 0) ( Ac2 l13 rc14 (some .ret) R15) ( J27 ()))) λ s28 => again20 ((W64 (s19.1 + x26.2.1)), ())) ( Ac2 l13 rc14 none R15)) (0, ())) λ D17 => aft ( O4 D17 <| K ()) (λ i41 => onE i41 0 ( O4 D17 <| K ()) ( λ _ => False)) ( O4 D17 <| K ()))
def h47 : Hint := (hS (hR 2) (hS (hR 8) (hS (hS (hR 3) (hC hL hL)) (hS (hR 9) (hS (hR 5) (hS (hR 6) (.block (.range [(39, (.agg Ag))] (hR 2) (.block (hS (hR 1) (.block (.loop 0xffffffffff0000007000 [(12, tI)] (hS (hS (hR 5) (hC hL hL)) (.block (hS (.region (lR 13) (hO 13)) (hJ ((mR [(56, 77)]), []) (hS (hR 2) (hC (hR 3) (hJ ((mR [(60, 73)]), []) (hS (hR 3) (hC (hR 3) (hR 7))) (hS (hR 3) (hS (hR 2) (hC hL hL)))))) (hR 4)))))))))))))))))
theorem A47 {a0 : Option Addr} {a1 : Int} {a2 : Int} {a3 : Value} {K : Unit -> Wp} {w : World} (h : F47 a0 a1 a2 a3 K w) : Ac Tryz.prog 47 #[(.pointer a0), (vI a1), (vI a2), a3] (.tup []) K w := tied Ai Tryz.func47 h47 _ h
def F48 (a0 : Int) (a1 : Int) (v0 : Addr) (K : Unit -> Wp) : Wp := ld (.sl) v0 λ (x1 : Sl) => Af (.cells #[(vI a0)] 3) λ b2 => Df Tryz.prog rS (Builtin.append_ #[26, 26] 26 #[x1.v, (.slice (some (at0 b2)) 1 1)]) λ (x3 : Sl) => stC v0 x3.v <| K ()
def h48 : Hint := (hR 5)
theorem A48 {a0 : Int} {a1 : Int} {v0 : Addr} {K : Unit -> Wp} {w : World} (h : F48 a0 a1 v0 K w) : Ac Tryz.prog 48 #[(vI a0), (vI a1), (.pointer (some v0))] (.tup []) K w := tied Ai Tryz.func48 h48 _ h
def F50 (a0 : Option Addr) (a1 : Sl) (K : Int -> Wp) : Wp := cN 77 #[(.pointer a0), a1.v] λ x1 => sif (x1 != 0) ( K x1) ( jU (λ J2 => sI (λ s4 again5 => sif (decide (s4.1 >= 0)) ( jU (λ J6 => ixs c83 a1 s4.1 3 λ (x9 : (Int × Int × Sl × Unit)) => Af (.cells #[(vI 0), (vI 0), (.slice none 0 0)] 83) λ b10 => Ad (at0 b10) (vA c83 x9) 3 <| jB (λ J11 => lI (at0 b10) λ x13 => lI (ad b10 1) λ x14 => sif (decide (x13 < x14)) ( J11 (true, ())) ( ld (.sl) (ad b10 2) λ (x15 : Sl) => J11 ((decide (((x15.len : Nat) : Int) > 0)), ()))) λ s12 => sif s12.1 ( lI (at0 b10) λ x16 => lI (ad b10 1) λ x17 => ld (.sl) (ad b10 2) λ (x18 : Sl) => Ac Tryz.prog 78 #[(.pointer a0), (vI x16), (vI x17), x18.v] (.tup []) λ (x19 : (Unit)) => J6 ()) ( J6 ())) λ s7 => again5 ((W64 (s4.1 - 1)), ())) ( J2 ())) ((W64 (((a1.len : Nat) : Int) - 1)), ())) λ s3 => K 0)
def h50 : Hint := (hS (hR 1) (hS (hS (hR 4) (hS (hR 2) (hC (hS (hR 2) hL) hL))) (hJ (0xfffffffc0c0, []) (hS (hR 4) (.block (.loop 0xffffffe00c0 [(6, tI)] (hS (hS (hR 2) (hC hL hL)) (hJ (0xfffffe00080, []) (.block (hS (hR 6) (hJ (0xffe000000, [(35, tB)]) (.region [] (.ops 6 (.split 30 (.skips 4 (hO 1)) (hO 5)))) (hC (hR 8) hL)))) (hR 3)))))) (hS (hR 1) hL))))
theorem A50 {a0 : Option Addr} {a1 : Sl} {K : Int -> Wp} {w : World} (h : F50 a0 a1 K w) : Ac Tryz.prog 50 #[(.pointer a0), a1.v] rI K w := tied Ai Tryz.func50 h50 _ h
def F61 (a0 : Int) (K : Bool -> Wp) : Wp := sif (decide (a0 >= 1)) ( K (decide (a0 <= 4))) ( K false)
def h61 : Hint := (hS (hR 1) (hS (.region [] (.ops 3 (.split 5 (hO 4) (.skips 2 (hO 2))))) hL))
theorem A61 {a0 : Int} {K : Bool -> Wp} {w : World} (h : F61 a0 K w) : Ac Tryz.prog 61 #[(vI a0)] rB K w := tied Ai Tryz.func61 h61 _ h
def F62 (a0 : Int) (a1 : Sl) (a2 : Int) (K : (Int × Int × Unit) -> Wp) : Wp := sif (a0 == 1) ( Ac Tryz.prog 83 #[a1.v, (vI a2)] (.tup [(.one cI), (.one cI)]) λ (x1 : (Int × Int × Unit)) => K (x1.1, x1.2.1, ())) ( sif (a0 == 4) ( ixl (.int .u8) a1 a2 1 λ (x3 : Int) => K ((W64 x3), 1, ())) ( cN 84 #[(vI a0), a1.v, (vI a2)] λ x4 => sif (decide (x4 < 0)) ( ixl (.int .u8) a1 a2 1 λ (x6 : Int) => K ((W64 ((-1) - (W64 x6))), 1, ())) ( cN 84 #[(vI a0), a1.v, (vI (W64 (a2 + 2)))] λ x7 => jB (λ J8 => sif (decide (x4 >= 55296)) ( sif (decide (x4 < 56320)) ( sif (decide (x7 >= 56320)) ( J8 ((decide (x7 < 57344)), ())) ( J8 (false, ()))) ( J8 (false, ()))) ( J8 (false, ()))) λ s9 => sif s9.1 ( K ((W64 ((W64 ((W64 (65536 + (W64 ((W64 (x4 - 55296)) * 1024)))) + x7)) - 56320)), 4, ())) ( K (x4, 2, ())))))
def h62 : Hint := (hS (hR 2) (hS (hS (hR 2) (hC (hS (hR 7) hL) hL)) (hS (hS (hR 2) (hC (hS (hR 7) hL) hL)) (hS (hR 5) (hS (hS (hR 2) (hC (hS (hR 8) hL) hL)) (hS (hR 6) (hS (hJ ((mR [(41, 55)]), [(54, tB)]) (.region [] (.ops 3 (.split 43 (.ops 4 (.split 47 (.ops 4 (.split 51 (hO 3) (.skips 2 (hO 1)))) (.skips 2 (.ops 2 (.skips 2 (hO 1)))))) (.skips 2 (.ops 2 (.skips 2 (.ops 2 (.skips 2 (hO 1))))))))) (hC (hS (hR 9) hL) hL)) (hS (hR 3) hL))))))))
theorem A62 {a0 : Int} {a1 : Sl} {a2 : Int} {K : (Int × Int × Unit) -> Wp} {w : World} (h : F62 a0 a1 a2 K w) : Ac Tryz.prog 62 #[(vI a0), a1.v, (vI a2)] (.tup [(.one cI), (.one cI)]) K w := tied Ai Tryz.func62 h62 _ h
def F63 (a0 : Int) (a1 : Sl) (a2 : Int) (K : (Int × Int × Unit) -> Wp) : Wp := Ac Tryz.prog 85 #[(vI a0)] (.one (.one .any)) λ (x1 : Value) => jB (λ J2 => rdB Tryz.prog (do eqGuard .eql 132 (Operand.tmp 11) (Operand.const Value.nilIface) x1 .nilIface; binOp .eql 132 x1 .nilIface : Sem Value) λ r4 => sif r4 ( J2 (true, ())) ( sif (decide (a2 < 0)) ( J2 (true, ())) ( J2 ((decide (a2 >= ((a1.len : Nat) : Int))), ())))) λ s3 => sif s3.1 ( K (0, 0, ())) ( drew <| slc a1.a a2 ((a1.len : Nat) : Int) ((a1.cap : Nat) : Int) a1.cap 1 λ x5 => chk (Aw9 Tryz.prog x1 "copyist/codec.first") <| Bf Tryz.prog (invoke (.fn (.method "copyist/codec.first") #[]) (#[x1] ++ #[x5.v])) (.tup [(.one cI), (.one cI)]) λ (x6 : (Int × Int × Unit)) => K (x6.1, x6.2.1, ()))
def h63 : Hint := (hS (hR 2) (hS (hR 3) (hS (hJ (8386560, [(22, tB)]) (.region [] (.ops 3 (.split 13 (.skips 2 (.ops 2 (.skips 4 (hO 1)))) (.ops 4 (.split 17 (.skips 4 (hO 1)) (hO 5)))))) (hC (hS (hR 2) hL) hL)) (hS (.region (lR 12) (hO 12)) hL))))
theorem A63 {a0 : Int} {a1 : Sl} {a2 : Int} {K : (Int × Int × Unit) -> Wp} {w : World} (h : F63 a0 a1 a2 K w) : Ac Tryz.prog 63 #[(vI a0), a1.v, (vI a2)] (.tup [(.one cI), (.one cI)]) K w := tied Ai Tryz.func63 h63 _ h
def F64 (a0 : Int) (a1 : Sl) (a2 : Int) (K : (Sl × Int × Int × Int × Int × Bool × Bool × Unit) -> Wp) : Wp := Af (.cells #[(.slice none 0 0), (vI 0), (vI 0), (vI 0), (vI 0), (.bool false), (.bool false)] 112) λ b1 => Af (.cells #[(.slice none 0 0), (vI 0), (vI 0), (vI 0), (vI 0), (.bool false), (.bool false)] 112) λ b2 => Ad (at0 b2) (.agg #[a1.v, (vI a2), (vI 0), (vI 0), (vI 0), (.bool false), (.bool false)]) 7 <| jU (λ J3 => sI (λ s5 again6 => sif (decide (s5.1 < ((a1.len : Nat) : Int))) ( Ac Tryz.prog 63 #[(vI a0), a1.v, (vI s5.1)] (.tup [(.one cI), (.one cI)]) λ (x7 : (Int × Int × Unit)) => drew <| lds Ap (ad b2 2) λ (x8 : (Int × Int × Int × Bool × Bool × Unit)) => Ac Tryz.prog 87 #[(vI x7.1), (vI x7.2.1)] (.one (.agg Ap)) λ (x9 : (Int × Int × Int × Bool × Bool × Unit)) => keep (λ w => Ak w (ad b2 2) 0 (Cells.vals Ap x8)) <| Ac Tryz.prog 86 #[(vA Ap x8), (vA Ap x9)] (.one (.agg Ap)) λ (x10 : (Int × Int × Int × Bool × Bool × Unit)) => Ad (ad b2 2) (vA Ap x10) 5 <| again6 ((W64 (s5.1 + x7.2.1)), ())) ( J3 ())) (0, ())) λ s4 => lds Ag (at0 b2) λ (x11 : (Sl × Int × Int × Int × Int × Bool × Bool × Unit)) => Ad (at0 b1) (vA Ag x11) 7 <| lds Ag (at0 b1) λ (x12 : (Sl × Int × Int × Int × Int × Bool × Bool × Unit)) => K x12
def h64 : Hint := (hS (hR 1) (hS (hR 5) (hJ (0x7ffffc700, []) (hS (hR 1) (.block (.loop 0x7ffffc700 [(8, tI)] (hS (hS (hR 4) (hC hL hL)) (.block (hS (hR 9) (hS (.region (lR 8) (hO 8)) (hR 4)))))))) (hS (hR 2) hL))))
theorem A64 {a0 : Int} {a1 : Sl} {a2 : Int} {K : (Sl × Int × Int × Int × Int × Bool × Bool × Unit) -> Wp} {w : World} (h : F64 a0 a1 a2 K w) : Ac Tryz.prog 64 #[(vI a0), a1.v, (vI a2)] (.one (.agg Ag)) K w := tied Ai Tryz.func64 h64 _ h
def F65 (a0 : Sl) (K : (Option Addr × Unit) -> Wp) : Wp := Af (.cells #[(.pointer none)] 105) λ b1 => Ac Tryz.prog 88 #[a0.v] rP λ (x2 : Option Addr) => Ad (at0 b1) (.agg #[(.pointer x2)]) 1 <| lds c105 (at0 b1) λ (x3 : (Option Addr × Unit)) => K x3
def h65 : Hint := (hS (hR 1) (hS (hR 4) hL))
theorem A65 {a0 : Sl} {K : (Option Addr × Unit) -> Wp} {w : World} (h : F65 a0 K w) : Ac Tryz.prog 65 #[a0.v] (.one (.agg c105)) K w := tied Ai Tryz.func65 h65 _ h
def F66 (a0 : Option Addr) (a1 : Int) (K : Int -> Wp) : Wp := sif (decide (a1 <= 0)) ( K 0) ( cN 40 #[(.pointer a0)] λ x1 => sif (decide (a1 >= x1)) ( nn a0 λ p2 => lds c105 (p2.add 2) λ (x3 : (Option Addr × Unit)) => Ac Tryz.prog 70 #[(vA c105 x3)] (.one (.agg Ap)) λ (x4 : (Int × Int × Int × Bool × Bool × Unit)) => K x4.2.2.1) ( Ac Tryz.prog 89 #[(.pointer a0), (vI a1)] (.one (.agg Ap)) λ (x5 : (Int × Int × Int × Bool × Bool × Unit)) => Af (.cells #[(vI 0), (vI 0), (vI 0), (.bool false), (.bool false)] 110) λ b6 => Ad (at0 b6) (vA Ap x5) 5 <| jB (λ J7 => ld (.bool) (ad b6 4) λ (x9 : Bool) => sif x9 ( cS 23 #[(.pointer a0), (vI a1), (vI (W64 (a1 + 1)))] λ x10 => ixI x10 0 1 λ x12 => J7 ((x12 == 10), ())) ( J7 (false, ()))) λ s8 => sif s8.1 ( lI (ad b6 2) λ x13 => K (W64 (x13 - 1))) ( lI (ad b6 2) λ x14 => K x14)))
def h66 : Hint := (hS (hR 1) (hS (.block (hS (hR 3) (hC (hS (hR 1) hL) (hS (hR 5) (hC (hS (hR 7) hL) hL))))) (hS (hR 5) (hS (hJ (0x7ff800000, [(34, tB)]) (.region [] (.ops 3 (.split 25 (hO 9) (.skips 8 (hO 1))))) (hC (hS (hR 4) hL) hL)) (hS (hR 3) hL)))))
theorem A66 {a0 : Option Addr} {a1 : Int} {K : Int -> Wp} {w : World} (h : F66 a0 a1 K w) : Ac Tryz.prog 66 #[(.pointer a0), (vI a1)] rI K w := tied Ai Tryz.func66 h66 _ h
def F67 (a0 : Option Addr) (a1 : Int) (K : Int -> Wp) : Wp := sif (a1 == 0) ( K 0) ( jB (λ J1 => sif (decide (a1 < 0)) ( J1 (true, ())) ( nn a0 λ p3 => lds c105 (p3.add 2) λ (x4 : (Option Addr × Unit)) => Ac Tryz.prog 70 #[(vA c105 x4)] (.one (.agg Ap)) λ (x5 : (Int × Int × Int × Bool × Bool × Unit)) => J1 ((decide (a1 > x5.2.2.1)), ()))) λ s2 => sif s2.1 ( K (-1)) ( nn a0 λ p6 => lds c105 (p6.add 2) λ (x7 : (Option Addr × Unit)) => cN 90 #[(vA c105 x7), (vI 1), (vI a1)] λ x8 => nn a0 λ p9 => lds c105 (p9.add 2) λ (x10 : (Option Addr × Unit)) => Ac Tryz.prog 91 #[(vA c105 x10), (vI (W64 (x8 - 1)))] (.one (.agg Ap)) λ (x11 : (Int × Int × Int × Bool × Bool × Unit)) => Af (.cells #[(vI 0), (vI 0), (vI 0), (.bool false), (.bool false)] 110) λ b12 => Ad (at0 b12) (vA Ap x11) 5 <| nn a0 λ p13 => lds c105 (p13.add 2) λ (x14 : (Option Addr × Unit)) => Ac Tryz.prog 92 #[(vA c105 x14), (vI (W64 (x8 - 1)))] (.tup [(.agg Ag), (.one .bool)]) λ (x15 : ((Sl × Int × Int × Int × Int × Bool × Bool × Unit) × Bool × Unit)) => Af (.cells #[(.slice none 0 0), (vI 0), (vI 0), (vI 0), (vI 0), (.bool false), (.bool false)] 112) λ b16 => Ad (at0 b16) (vA Ag x15.1) 7 <| jU (λ J17 => sI (λ s19 again20 => jB (λ J21 => ld (.sl) (at0 b16) λ (x23 : Sl) => sif (decide (s19.1 < ((x23.len : Nat) : Int))) ( lI (ad b12 2) λ x24 => J21 ((decide (x24 < a1)), ())) ( J21 (false, ()))) λ s22 => sif s22.1 ( drew <| nn a0 λ p25 => lI p25 λ x26 => ld (.sl) (at0 b16) λ (x27 : Sl) => Ac Tryz.prog 63 #[(vI x26), x27.v, (vI s19.1)] (.tup [(.one cI), (.one cI)]) λ (x28 : (Int × Int × Unit)) => drew <| lds Ap (at0 b12) λ (x29 : (Int × Int × Int × Bool × Bool × Unit)) => Ac Tryz.prog 87 #[(vI x28.1), (vI x28.2.1)] (.one (.agg Ap)) λ (x30 : (Int × Int × Int × Bool × Bool × Unit)) => keep (λ w => Ak w (at0 b12) 0 (Cells.vals Ap x29)) <| Ac Tryz.prog 86 #[(vA Ap x29), (vA Ap x30)] (.one (.agg Ap)) λ (x31 : (Int × Int × Int × Bool × Bool × Unit)) => Ad (at0 b12) (vA Ap x31) 5 <| again20 ((W64 (s19.1 + x28.2.1)), ())) ( J17 ())) (0, ())) λ s18 => lI (at0 b12) λ x32 => lI (at0 b12) λ x33 => cS 23 #[(.pointer a0), (vI x32), (vI (W64 (x33 + 1)))] λ x34 => jB (λ J35 => ld (.bool) (ad b12 4) λ (x37 : Bool) => sif x37 ( sif (((x34.len : Nat) : Int) == 1) ( ixI x34 0 1 λ x39 => J35 ((x39 == 10), ())) ( J35 (false, ()))) ( J35 (false, ()))) λ s36 => sif s36.1 ( lI (at0 b12) λ x40 => K (W64 (x40 + 1))) ( lI (at0 b12) λ x41 => K x41)))
def h67 : Hint := (hS (hR 1) (hS (.block (hS (hR 3) (hC (hS (hR 1) hL) (hJ (536805376, [(16, tB)]) (.region [] (.ops 3 (.split 19 (.skips 8 (hO 2)) (hO 10)))) (hC (hS (hR 1) hL) hL))))) (hS (hR 8) (hS (hR 8) (hS (hR 12) (hJ (0x1fffffff8000000000e00, []) (hS (hR 1) (.block (.loop 0x1fffffff8000000000e00 [(9, tI)] (hS (hJ ((mR [(51, 62)]), [(61, tB)]) (.region [] (.ops 6 (.split 56 (hO 5) (.skips 4 (hO 1))))) (hC hL hL)) (.block (hS (.region (lR 13) (hO 13)) (hS (.region (lR 6) (hO 6)) (hR 4)))))))) (hS (hS (hR 8) (hJ ((mR [(88, 101)]), [(100, tB)]) (.region [] (.ops 3 (.split 90 (.ops 5 (.split 95 (hO 5) (.skips 4 (hO 1)))) (.skips 3 (.ops 2 (.skips 4 (hO 1))))))) (hC (hS (hR 4) hL) hL))) (hS (hR 3) hL))))))))
theorem A67 {a0 : Option Addr} {a1 : Int} {K : Int -> Wp} {w : World} (h : F67 a0 a1 K w) : Ac Tryz.prog 67 #[(.pointer a0), (vI a1)] rI K w := tied Ai Tryz.func67 h67 _ h
def F70 (a0 : (Option Addr × Unit)) (K : (Int × Int × Int × Bool × Bool × Unit) -> Wp) : Wp := Af (.cells #[(.pointer a0.1)] 105) λ b1 => Af (.cells #[(vI 0), (vI 0), (vI 0), (.bool false), (.bool false)] 110) λ b2 => ld (.ptr) (at0 b1) λ (x3 : Option Addr) => sif (Option.isNone x3) ( Af (.cells #[(vI 0), (vI 0), (vI 0), (.bool false), (.bool false)] 110) λ b4 => lds Ap (at0 b4) λ (x5 : (Int × Int × Int × Bool × Bool × Unit)) => Ad (at0 b2) (vA Ap x5) 5 <| lds Ap (at0 b2) λ (x6 : (Int × Int × Int × Bool × Bool × Unit)) => K x6) ( ld (.ptr) (at0 b1) λ (x7 : Option Addr) => nn x7 λ p8 => lds Ap (p8.add 11) λ (x9 : (Int × Int × Int × Bool × Bool × Unit)) => Ad (at0 b2) (vA Ap x9) 5 <| lds Ap (at0 b2) λ (x10 : (Int × Int × Int × Bool × Bool × Unit)) => K x10)
def h70 : Hint := (hS (hR 2) (hS (hS (hR 3) (hC (hS (hR 1) (hS (hR 2) hL)) hL)) (hS (hR 6) hL)))
theorem A70 {a0 : (Option Addr × Unit)} {K : (Int × Int × Int × Bool × Bool × Unit) -> Wp} {w : World} (h : F70 a0 K w) : Ac Tryz.prog 70 #[(vA c105 a0)] (.one (.agg Ap)) K w := tied Ai Tryz.func70 h70 _ h
def F73 (a0 : Option Addr) (a1 : Int) (K : (Int × Int × Unit) -> Wp) : Wp := sif (decide (a1 <= 0)) ( K (0, 0, ())) ( nn a0 λ p1 => lds c105 (p1.add 2) λ (x2 : (Option Addr × Unit)) => cN 90 #[(vA c105 x2), (vI 0), (vI a1)] λ x3 => nn a0 λ p4 => lds c105 (p4.add 2) λ (x5 : (Option Addr × Unit)) => Ac Tryz.prog 91 #[(vA c105 x5), (vI (W64 (x3 - 1)))] (.one (.agg Ap)) λ (x6 : (Int × Int × Int × Bool × Bool × Unit)) => K ((W64 (x3 - 1)), (W64 (a1 - x6.1)), ()))
def h73 : Hint := (hS (hR 2) (hS (hS (hR 2) (hC (hS (hR 2) hL) hL)) (hS (hR 8) (hS (hR 12) hL))))
theorem A73 {a0 : Option Addr} {a1 : Int} {K : (Int × Int × Unit) -> Wp} {w : World} (h : F73 a0 a1 K w) : Ac Tryz.prog 73 #[(.pointer a0), (vI a1)] (.tup [(.one cI), (.one cI)]) K w := tied Ai Tryz.func73 h73 _ h
def F74 (a0 : (Option Addr × Unit)) (a1 : Int) (K : Value -> Wp) : Wp := Af (.cells #[(.pointer a0.1)] 105) λ b1 => Af (.cells #[(vI a1)] 3) λ b2 => K (.func (Fn.func 100) #[] #[(.pointer (some (at0 b1))), (.pointer (some (at0 b2)))])
def h74 : Hint := (hS (hR 3) (hS (hR 2) hL))
theorem A74 {a0 : (Option Addr × Unit)} {a1 : Int} {K : Value -> Wp} {w : World} (h : F74 a0 a1 K w) : Ac Tryz.prog 74 #[(vA c105 a0), (vI a1)] (.one (.one .any)) K w := tied Ai Tryz.func74 h74 _ h
def F77 (a0 : Option Addr) (a1 : Sl) (K : Int -> Wp) : Wp := sif (decide (((a1.len : Nat) : Int) > 70000)) ( K 3) ( cN 40 #[(.pointer a0)] λ x1 => jU (λ J2 => sN (λ s4 again5 => sif (decide (s4.2.1 < ((a1.len : Nat) : Int))) ( ixs c83 a1 s4.2.1 3 λ (x7 : (Int × Int × Sl × Unit)) => Af (.cells #[(vI 0), (vI 0), (.slice none 0 0)] 83) λ b8 => Ad (at0 b8) (vA c83 x7) 3 <| jB (λ J9 => lI (at0 b8) λ x11 => sif (decide (x11 < s4.1)) ( J9 (true, ())) ( lI (ad b8 1) λ x12 => lI (at0 b8) λ x13 => sif (decide (x12 < x13)) ( J9 (true, ())) ( lI (ad b8 1) λ x14 => J9 ((decide (x14 > x1)), ())))) λ s10 => sif s10.1 ( K 2) ( lI (ad b8 1) λ x15 => again5 (x15, (W64 (s4.2.1 + 1)), ()))) ( J2 ())) (0, 0, ())) λ s3 => cN 110 #[(.pointer a0)] λ x16 => jI (λ J17 => sN (λ s19 again20 => sif (decide (s19.2.1 < ((a1.len : Nat) : Int))) ( jI (λ J21 => ixs c83 a1 s19.2.1 3 λ (x24 : (Int × Int × Sl × Unit)) => Af (.cells #[(vI 0), (vI 0), (.slice none 0 0)] 83) λ b25 => Ad (at0 b25) (vA c83 x24) 3 <| ld (.sl) (ad b25 2) λ (x26 : Sl) => sN (λ s27 again28 => sif (decide (s27.2.1 < ((x26.len : Nat) : Int))) ( ixI x26 s27.2.1 1 λ x30 => nn a0 λ p31 => lI p31 λ x32 => cN 111 #[(vI x32), (vI x30)] λ x33 => sif (x33 == 0) ( K 11) ( again28 ((W64 (s27.1 + x33)), (W64 (s27.2.1 + 1)), ()))) ( J21 (s27.1, ()))) (s19.1, 0, ())) λ s22 => again20 (s22.1, (W64 (s19.2.1 + 1)), ())) ( J17 (s19.1, ()))) (x16, 0, ())) λ s18 => jI (λ J34 => sN (λ s36 again37 => sif (decide (s36.2.1 < ((a1.len : Nat) : Int))) ( jI (λ J38 => ixs c83 a1 s36.2.1 3 λ (x41 : (Int × Int × Sl × Unit)) => Af (.cells #[(vI 0), (vI 0), (.slice none 0 0)] 83) λ b42 => Ad (at0 b42) (vA c83 x41) 3 <| lI (ad b42 1) λ x43 => lI (at0 b42) λ x44 => sif (decide (x43 > x44)) ( drew <| lI (ad b42 1) λ x45 => lI (at0 b42) λ x46 => Ac Tryz.prog 89 #[(.pointer a0), (vI x45)] (.one (.agg Ap)) λ (x47 : (Int × Int × Int × Bool × Bool × Unit)) => keep (λ w => w.cell? (at0 b42) = some (Cell.val cI x46)) <| Ac Tryz.prog 89 #[(.pointer a0), (vI x46)] (.one (.agg Ap)) λ (x48 : (Int × Int × Int × Bool × Bool × Unit)) => J38 ((W64 (s36.1 - (W64 (x47.2.1 - x48.2.1)))), ())) ( J38 (s36.1, ()))) λ s39 => again37 (s39.1, (W64 (s36.2.1 + 1)), ())) ( J34 (s36.1, ()))) (s18.1, 0, ())) λ s35 => nn a0 λ p49 => ld cI (p49.add 1) λ (x50 : Int) => sif (decide (s35.1 > x50)) ( K 50) ( K 0))
def h77 : Hint := (hS (hR 1) (hS (hS (hR 3) (hC (hS (hR 1) hL) hL)) (hS (hR 4) (hJ (0xffffffc00130, []) (hS (hR 3) (.block (.loop 0xffffff000130 [(5, tI), (24, tI)] (hS (hR 1) (hS (hC hL hL) (hS (.block (hS (hR 4) (hS (hJ (0x1ffff0000000, [(44, tB)]) (.region [] (.ops 5 (.split 32 (.skips 5 (.ops 2 (.skips 4 (hO 1)))) (.ops 7 (.split 39 (.skips 4 (hO 1)) (hO 5)))))) (hC (hS (hR 1) hL) hL)) (hR 3)))) (hR 2))))))) (hS (hR 3) (hJ (0xffffffc000000006a10, [(9, tI)]) (hS (hR 3) (.block (.loop 0xffffff0000000006a10 [(9, tI), (52, tI)] (hS (hR 1) (hS (hC hL hL) (hJ (0x7ffffc0000000006a10, [(9, tI)]) (.block (hS (hR 4) (hS (hR 4) (.block (.loop 0x7fff800000000006210 [(9, tI), (59, tI)] (hS (hR 1) (hS (hC hL hL) (hS (.block (hS (hR 3) (hS (hR 7) (hS (hS (hR 2) (hC (hS (hR 1) hL) hL)) (hR 4))))) (hR 2))))))))) (hR 2))))))) (hJ (0x1ffffff0000000000000010200, [(9, tI)]) (hS (hR 3) (.block (.loop 0x1fffffc0000000000000010200 [(9, tI), (78, tI)] (hS (hR 1) (hS (hC hL hL) (hJ (0xfffff00000000000000010200, [(9, tI)]) (.block (hS (hR 4) (hS (hR 5) (hC (.region [0, 1, 2, 3, 6, 7, 8, 4, 5, 9, 10, 11, 12, 13] (hO 14)) hL)))) (hR 2))))))) (hS (hS (hR 6) (hC (hS (hR 1) hL) hL)) (hS (hR 1) hL)))))))))
theorem A77 {a0 : Option Addr} {a1 : Sl} {K : Int -> Wp} {w : World} (h : F77 a0 a1 K w) : Ac Tryz.prog 77 #[(.pointer a0), a1.v] rI K w := tied Ai Tryz.func77 h77 _ h
def F78 (a0 : Option Addr) (a1 : Int) (a2 : Int) (a3 : Sl) (K : Unit -> Wp) : Wp := Ac Tryz.prog 73 #[(.pointer a0), (vI a1)] (.tup [(.one cI), (.one cI)]) λ (x1 : (Int × Int × Unit)) => Ac Tryz.prog 73 #[(.pointer a0), (vI a2)] (.tup [(.one cI), (.one cI)]) λ (x2 : (Int × Int × Unit)) => jS (λ J3 => nn a0 λ p5 => lds c105 (p5.add 2) λ (x6 : (Option Addr × Unit)) => Ac Tryz.prog 92 #[(vA c105 x6), (vI x1.1)] (.tup [(.agg Ag), (.one .bool)]) λ (x7 : ((Sl × Int × Int × Int × Int × Bool × Bool × Unit) × Bool × Unit)) => Af (.cells #[(.slice none 0 0), (vI 0), (vI 0), (vI 0), (vI 0), (.bool false), (.bool false)] 112) λ b8 => Ad (at0 b8) (vA Ag x7.1) 7 <| jB (λ J9 => sif x7.2.1 ( J9 ((decide (x1.2.1 > 0)), ())) ( J9 (false, ()))) λ s10 => sif s10.1 ( join (S := Addr × Unit) (λ J11 => drew <| lds Ag (at0 b8) λ (x13 : (Sl × Int × Int × Int × Int × Bool × Bool × Unit)) => nn a0 λ p14 => lI p14 λ x15 => both ( Af (.cells #[(.slice none 0 0), (vI 0), (vI 0), (vI 0), (vI 0), (.bool false), (.bool false)] 112) λ b16 => keep (λ w => w.cell? p14 = some (Cell.val cI x15)) <| keep (λ w => Ak w (at0 b8) 0 (Cells.vals Ag x13)) <| both ( Af (.cells #[(.slice none 0 0), (vI 0), (vI 0), (vI 0), (vI 0), (.bool false), (.bool false)] 112) λ b17 => keep (λ w => w.cell? p14 = some (Cell.val cI x15)) <| keep (λ w => Ak w (at0 b8) 0 (Cells.vals Ag x13)) <| Ac Tryz.prog 112 #[(vA Ag x13), (vI x15), (vI x1.2.1)] (.tup [(.agg Ag), (.agg Ag)]) λ (x18 : ((Sl × Int × Int × Int × Int × Bool × Bool × Unit) × (Sl × Int × Int × Int × Int × Bool × Bool × Unit) × Unit)) => Ad (at0 b16) (vA Ag x18.1) 7 <| Ad (at0 b17) (vA Ag x18.2.1) 7 <| J11 ((at0 b16), ())) <| Ac Tryz.prog 112 #[(vA Ag x13), (vI x15), (vI x1.2.1)] (.tup [(.agg Ag), (.agg Ag)]) λ (x19 : ((Sl × Int × Int × Int × Int × Bool × Bool × Unit) × (Sl × Int × Int × Int × Int × Bool × Bool × Unit) × Unit)) => both ( Af (.cells #[(.slice none 0 0), (vI 0), (vI 0), (vI 0), (vI 0), (.bool false), (.bool false)] 112) λ b20 => keep (λ w => w.cell? p14 = some (Cell.val cI x15)) <| keep (λ w => Ak w (at0 b8) 0 (Cells.vals Ag x13)) <| Ad (at0 b16) (vA Ag x19.1) 7 <| Ad (at0 b20) (vA Ag x19.2.1) 7 <| J11 ((at0 b16), ())) <| nothing) <| both ( Af (.cells #[(.slice none 0 0), (vI 0), (vI 0), (vI 0), (vI 0), (.bool false), (.bool false)] 112) λ b21 => keep (λ w => w.cell? p14 = some (Cell.val cI x15)) <| keep (λ w => Ak w (at0 b8) 0 (Cells.vals Ag x13)) <| both ( Af (.cells #[(.slice none 0 0), (vI 0), (vI 0), (vI 0), (vI 0), (.bool false), (.bool false)] 112) λ b22 => keep (λ w => w.cell? p14 = some (Cell.val cI x15)) <| keep (λ w => Ak w (at0 b8) 0 (Cells.vals Ag x13)) <| Ac Tryz.prog 112 #[(vA Ag x13), (vI x15), (vI x1.2.1)] (.tup [(.agg Ag), (.agg Ag)]) λ (x23 : ((Sl × Int × Int × Int × Int × Bool × Bool × Unit) × (Sl × Int × Int × Int × Int × Bool × Bool × Unit) × Unit)) => Ad (at0 b22) (vA Ag x23.1) 7 <| Ad (at0 b21) (vA Ag x23.2.1) 7 <| J11 ((at0 b22), ())) <| Ac Tryz.prog 112 #[(vA Ag x13), (vI x15), (vI x1.2.1)] (.tup [(.agg Ag), (.agg Ag)]) λ (x24 : ((Sl × Int × Int × Int × Int × Bool × Bool × Unit) × (Sl × Int × Int × Int × Int × Bool × Bool × Unit) × Unit)) => both ( Af (.cells #[(.slice none 0 0), (vI 0), (vI 0), (vI 0), (vI 0), (.bool false), (.bool false)] 112) λ b25 => keep (λ w => w.cell? p14 = some (Cell.val cI x15)) <| keep (λ w => Ak w (at0 b8) 0 (Cells.vals Ag x13)) <| Ad (at0 b25) (vA Ag x24.1) 7 <| Ad (at0 b21) (vA Ag x24.2.1) 7 <| J11 ((at0 b25), ())) <| nothing) <| Ac Tryz.prog 112 #[(vA Ag x13), (vI x15), (vI x1.2.1)] (.tup [(.agg Ag), (.agg Ag)]) λ (x26 : ((Sl × Int × Int × Int × Int × Bool × Bool × Unit) × (Sl × Int × Int × Int × Int × Bool × Bool × Unit) × Unit)) => both ( Af (.cells #[(.slice none 0 0), (vI 0), (vI 0), (vI 0), (vI 0), (.bool false), (.bool false)] 112) λ b27 => keep (λ w => w.cell? p14 = some (Cell.val cI x15)) <| keep (λ w => Ak w (at0 b8) 0 (Cells.vals Ag x13)) <| both ( Af (.cells #[(.slice none 0 0), (vI 0), (vI 0), (vI 0), (vI 0), (.bool false), (.bool false)] 112) λ b28 => keep (λ w => w.cell? p14 = some (Cell.val cI x15)) <| keep (λ w => Ak w (at0 b8) 0 (Cells.vals Ag x13)) <| Ad (at0 b27) (vA Ag x26.1) 7 <| Ad (at0 b28) (vA Ag x26.2.1) 7 <| J11 ((at0 b27), ())) <| nothing) <| both ( Af (.cells #[(.slice none 0 0), (vI 0), (vI 0), (vI 0), (vI 0), (.bool false), (.bool false)] 112) λ b29 => keep (λ w => w.cell? p14 = some (Cell.val cI x15)) <| keep (λ w => Ak w (at0 b8) 0 (Cells.vals Ag x13)) <| both ( Af (.cells #[(.slice none 0 0), (vI 0), (vI 0), (vI 0), (vI 0), (.bool false), (.bool false)] 112) λ b30 => keep (λ w => w.cell? p14 = some (Cell.val cI x15)) <| keep (λ w => Ak w (at0 b8) 0 (Cells.vals Ag x13)) <| Ad (at0 b30) (vA Ag x26.1) 7 <| Ad (at0 b29) (vA Ag x26.2.1) 7 <| J11 ((at0 b30), ())) <| nothing) <| nothing) λ s12 => lds Ag s12.1 λ (x31 : (Sl × Int × Int × Int × Int × Bool × Bool × Unit)) => Af (.cells #[x31.1.v, (vI x31.2.1), (vI x31.2.2.1), (vI x31.2.2.2.1), (vI x31.2.2.2.2.1), (.bool x31.2.2.2.2.2.1), (.bool x31.2.2.2.2.2.2.1)] 112) λ b32 => Df Tryz.prog rS (Builtin.append_ #[108, 108] 108 #[(.slice none 0 0), (.slice (some (at0 b32)) 1 1)]) λ (x33 : Sl) => J3 (x33, ())) ( J3 (⟨none, 0, 0⟩, ()))) λ s4 => cS 113 #[(.pointer a0), a3.v] λ x34 => Df Tryz.prog rS (Builtin.append_ #[108, 108] 108 #[s4.1.v, x34.v]) λ (x35 : Sl) => jS (λ J36 => nn a0 λ p38 => lds c105 (p38.add 2) λ (x39 : (Option Addr × Unit)) => Ac Tryz.prog 92 #[(vA c105 x39), (vI x2.1)] (.tup [(.agg Ag), (.one .bool)]) λ (x40 : ((Sl × Int × Int × Int × Int × Bool × Bool × Unit) × Bool × Unit)) => Af (.cells #[(.slice none 0 0), (vI 0), (vI 0), (vI 0), (vI 0), (.bool false), (.bool false)] 112) λ b41 => Ad (at0 b41) (vA Ag x40.1) 7 <| sif x40.2.1 ( join (S := Addr × Unit) (λ J42 => drew <| lds Ag (at0 b41) λ (x44 : (Sl × Int × Int × Int × Int × Bool × Bool × Unit)) => nn a0 λ p45 => lI p45 λ x46 => both ( Af (.cells #[(.slice none 0 0), (vI 0), (vI 0), (vI 0), (vI 0), (.bool false), (.bool false)] 112) λ b47 => keep (λ w => w.cell? p45 = some (Cell.val cI x46)) <| keep (λ w => Ak w (at0 b41) 0 (Cells.vals Ag x44)) <| both ( Af (.cells #[(.slice none 0 0), (vI 0), (vI 0), (vI 0), (vI 0), (.bool false), (.bool false)] 112) λ b48 => keep (λ w => w.cell? p45 = some (Cell.val cI x46)) <| keep (λ w => Ak w (at0 b41) 0 (Cells.vals Ag x44)) <| Ac Tryz.prog 112 #[(vA Ag x44), (vI x46), (vI x2.2.1)] (.tup [(.agg Ag), (.agg Ag)]) λ (x49 : ((Sl × Int × Int × Int × Int × Bool × Bool × Unit) × (Sl × Int × Int × Int × Int × Bool × Bool × Unit) × Unit)) => Ad (at0 b47) (vA Ag x49.1) 7 <| Ad (at0 b48) (vA Ag x49.2.1) 7 <| J42 ((at0 b48), ())) <| Ac Tryz.prog 112 #[(vA Ag x44), (vI x46), (vI x2.2.1)] (.tup [(.agg Ag), (.agg Ag)]) λ (x50 : ((Sl × Int × Int × Int × Int × Bool × Bool × Unit) × (Sl × Int × Int × Int × Int × Bool × Bool × Unit) × Unit)) => both ( Af (.cells #[(.slice none 0 0), (vI 0), (vI 0), (vI 0), (vI 0), (.bool false), (.bool false)] 112) λ b51 => keep (λ w => w.cell? p45 = some (Cell.val cI x46)) <| keep (λ w => Ak w (at0 b41) 0 (Cells.vals Ag x44)) <| Ad (at0 b47) (vA Ag x50.1) 7 <| Ad (at0 b51) (vA Ag x50.2.1) 7 <| J42 ((at0 b51), ())) <| nothing) <| both ( Af (.cells #[(.slice none 0 0), (vI 0), (vI 0), (vI 0), (vI 0), (.bool false), (.bool false)] 112) λ b52 => keep (λ w => w.cell? p45 = some (Cell.val cI x46)) <| keep (λ w => Ak w (at0 b41) 0 (Cells.vals Ag x44)) <| both ( Af (.cells #[(.slice none 0 0), (vI 0), (vI 0), (vI 0), (vI 0), (.bool false), (.bool false)] 112) λ b53 => keep (λ w => w.cell? p45 = some (Cell.val cI x46)) <| keep (λ w => Ak w (at0 b41) 0 (Cells.vals Ag x44)) <| Ac Tryz.prog 112 #[(vA Ag x44), (vI x46), (vI x2.2.1)] (.tup [(.agg Ag), (.agg Ag)]) λ (x54 : ((Sl × Int × Int × Int × Int × Bool × Bool × Unit) × (Sl × Int × Int × Int × Int × Bool × Bool × Unit) × Unit)) => Ad (at0 b53) (vA Ag x54.1) 7 <| Ad (at0 b52) (vA Ag x54.2.1) 7 <| J42 ((at0 b52), ())) <| Ac Tryz.prog 112 #[(vA Ag x44), (vI x46), (vI x2.2.1)] (.tup [(.agg Ag), (.agg Ag)]) λ (x55 : ((Sl × Int × Int × Int × Int × Bool × Bool × Unit) × (Sl × Int × Int × Int × Int × Bool × Bool × Unit) × Unit)) => both ( Af (.cells #[(.slice none 0 0), (vI 0), (vI 0), (vI 0), (vI 0), (.bool false), (.bool false)] 112) λ b56 => keep (λ w => w.cell? p45 = some (Cell.val cI x46)) <| keep (λ w => Ak w (at0 b41) 0 (Cells.vals Ag x44)) <| Ad (at0 b56) (vA Ag x55.1) 7 <| Ad (at0 b52) (vA Ag x55.2.1) 7 <| J42 ((at0 b52), ())) <| nothing) <| Ac Tryz.prog 112 #[(vA Ag x44), (vI x46), (vI x2.2.1)] (.tup [(.agg Ag), (.agg Ag)]) λ (x57 : ((Sl × Int × Int × Int × Int × Bool × Bool × Unit) × (Sl × Int × Int × Int × Int × Bool × Bool × Unit) × Unit)) => both ( Af (.cells #[(.slice none 0 0), (vI 0), (vI 0), (vI 0), (vI 0), (.bool false), (.bool false)] 112) λ b58 => keep (λ w => w.cell? p45 = some (Cell.val cI x46)) <| keep (λ w => Ak w (at0 b41) 0 (Cells.vals Ag x44)) <| both ( Af (.cells #[(.slice none 0 0), (vI 0), (vI 0), (vI 0), (vI 0), (.bool false), (.bool false)] 112) λ b59 => keep (λ w => w.cell? p45 = some (Cell.val cI x46)) <| keep (λ w => Ak w (at0 b41) 0 (Cells.vals Ag x44)) <| Ad (at0 b58) (vA Ag x57.1) 7 <| Ad (at0 b59) (vA Ag x57.2.1) 7 <| J42 ((at0 b59), ())) <| nothing) <| both ( Af (.cells #[(.slice none 0 0), (vI 0), (vI 0), (vI 0), (vI 0), (.bool false), (.bool false)] 112) λ b60 => keep (λ w => w.cell? p45 = some (Cell.val cI x46)) <| keep (λ w => Ak w (at0 b41) 0 (Cells.vals Ag x44)) <| both ( Af (.cells #[(.slice none 0 0), (vI 0), (vI 0), (vI 0), (vI 0), (.bool false), (.bool false)] 112) λ b61 => keep (λ w => w.cell? p45 = some (Cell.val cI x46)) <| keep (λ w => Ak w (at0 b41) 0 (Cells.vals Ag x44)) <| Ad (at0 b61) (vA Ag x57.1) 7 <| Ad (at0 b60) (vA Ag x57.2.1) 7 <| J42 ((at0 b60), ())) <| nothing) <| nothing) λ s43 => ld cI (s43.1.add 2) λ (x62 : Int) => sif (decide (x62 > 0)) ( lds Ag s43.1 λ (x63 : (Sl × Int × Int × Int × Int × Bool × Bool × Unit)) => Af (.cells #[x63.1.v, (vI x63.2.1), (vI x63.2.2.1), (vI x63.2.2.2.1), (vI x63.2.2.2.2.1), (.bool x63.2.2.2.2.2.1), (.bool x63.2.2.2.2.2.2.1)] 112) λ b64 => Df Tryz.prog rS (Builtin.append_ #[108, 108] 108 #[x35.v, (.slice (some (at0 b64)) 1 1)]) λ (x65 : Sl) => J36 (x65, ())) ( J36 (x35, ()))) ( J36 (x35, ()))) λ s37 => drew <| nn a0 λ p66 => lds c105 (p66.add 2) λ (x67 : (Option Addr × Unit)) => nn a0 λ p68 => lds c105 (p68.add 2) λ (x69 : (Option Addr × Unit)) => cN 115 #[(vA c105 x69)] λ x70 => keep (λ w => Ak w (p66.add 2) 0 (Cells.vals c105 x67)) <| Ac Tryz.prog 114 #[(vA c105 x67), (vI x1.1), (vI (if x70 < (W64 (x2.1 + 1)) then x70 else (W64 (x2.1 + 1)))), s37.1.v] (.tup [(.agg c105), (.one cI)]) λ (x71 : ((Option Addr × Unit) × Int × Unit)) => nn a0 λ p72 => Ad (p72.add 2) (vA c105 x71.1) 1 <| K ()
def h78 : Hint := (hS (hR 8) (hS (hR 8) (hS (hR 1) (hJ (0x1ffffffe0001f000, [(12, tS)]) (hS (hR 12) (hJ (0x7c0000000000, [(46, tB)]) (.region [] (.ops 2 (.split 43 (hO 3) (.skips 2 (hO 1))))) (hC (hJ (0x1ff800000018000, [(15, (.one .addr))]) (.region [0, 1, 2, 3, 4, 5, 6, 7, 8, 9, 12, 13] (.float [10, 11] (.ops 6 (.alt none (.alt none (.plain (hO 6)) (.ops 4 (.alt none (.plain (hO 2)) .stop))) (.alt none (.alt none (.plain (hO 6)) (.ops 4 (.alt none (.plain (hO 2)) .stop))) (.ops 4 (.alt none (.alt none (.plain (hO 2)) .stop) (.alt none (.alt none (.plain (hO 2)) .stop) .stop)))))))) (hR 5)) hL))) (hS (hR 6) (hJ (0x3ffffffc00000000001e1000, [(12, tS)]) (hS (hR 12) (hS (hR 1) (hC (hJ (0x3ff0000000000000180000, [(20, (.one .addr))]) (.region [0, 1, 2, 3, 4, 5, 6, 7, 8, 9, 12, 13] (.float [10, 11] (.ops 6 (.alt none (.alt none (.plain (hO 6)) (.ops 4 (.alt none (.plain (hO 2)) .stop))) (.alt none (.alt none (.plain (hO 6)) (.ops 4 (.alt none (.plain (hO 2)) .stop))) (.ops 4 (.alt none (.alt none (.plain (hO 2)) .stop) (.alt none (.alt none (.plain (hO 2)) .stop) .stop)))))))) (hS (hR 4) (hC (hR 5) hL))) hL))) (.region [0, 1, 2, 3, 4, 5, 6, 7, 8, 9, 10, 11, 14, 12, 13, 15, 16, 17, 18, 19, 20, 21] (hO 22))))))))
theorem A78 {a0 : Option Addr} {a1 : Int} {a2 : Int} {a3 : Sl} {K : Unit -> Wp} {w : World} (h : F78 a0 a1 a2 a3 K w) : Ac Tryz.prog 78 #[(.pointer a0), (vI a1), (vI a2), a3.v] (.tup []) K w := tied Ai Tryz.func78 h78 _ h
def F83 (a0 : Sl) (a1 : Int) (K : (Int × Int × Unit) -> Wp) : Wp := jU (λ J1 => sI (λ s3 again4 => jB (λ J5 => sif (decide (s3.1 <= 4)) ( J5 ((decide ((W64 (a1 + s3.1)) <= ((a0.len : Nat) : Int))), ())) ( J5 (false, ()))) λ s6 => sif s6.1 ( jU (λ J7 => cN 116 #[a0.v, (vI a1), (vI s3.1)] λ x9 => cB 117 #[(vI x9)] λ x10 => sif (!x10) ( J7 ()) ( cS 118 #[(vI x9)] λ x11 => cB 119 #[a0.v, (vI a1), x11.v] λ x12 => jB (λ J13 => sif (((x11.len : Nat) : Int) == s3.1) ( J13 (x12, ())) ( J13 (false, ()))) λ s14 => sif s14.1 ( K (x9, s3.1, ())) ( J7 ()))) λ s8 => again4 ((W64 (s3.1 + 1)), ())) ( J1 ())) (1, ())) λ s2 => ixl (.int .u8) a0 a1 1 λ (x16 : Int) => K ((W64 ((-1) - (W64 x16))), 1, ())
def h83 : Hint := (hS (hR 2) (hJ ((mR [(4, 46)]), []) (hS (hR 1) (.block (.loop (mR [(4, 46)]) [(6, tI)] (hS (hJ (2095104, [(20, tB)]) (.region [] (.ops 3 (.split 13 (hO 7) (.skips 6 (hO 1))))) (hC hL hL)) (hJ (0x3fffff8007b0, []) (.block (hS (hR 5) (hS (hR 3) (hS (hS (hR 2) (hC hL hL)) (hS (hR 3) (hS (hR 5) (hJ (0xfe000000000, [(43, tB)]) (.region [] (.ops 5 (.split 41 (hO 2) (.skips 1 (hO 1))))) (hC (hS (hR 4) hL) hL)))))))) (hR 3)))))) (hS (hR 8) hL)))
theorem A83 {a0 : Sl} {a1 : Int} {K : (Int × Int × Unit) -> Wp} {w : World} (h : F83 a0 a1 K w) : Ac Tryz.prog 83 #[a0.v, (vI a1)] (.tup [(.one cI), (.one cI)]) K w := tied Ai Tryz.func83 h83 _ h
def F84 (a0 : Int) (a1 : Sl) (a2 : Int) (K : Int -> Wp) : Wp := sif (decide ((W64 (a2 + 2)) > ((a1.len : Nat) : Int))) ( K (-1)) ( sif (a0 == 2) ( drew <| ixl (.int .u8) a1 a2 1 λ (x2 : Int) => ixl (.int .u8) a1 (W64 (a2 + 1)) 1 λ (x4 : Int) => K (W64 ((W64 x2) + (W64 (256 * (W64 x4)))))) ( drew <| ixl (.int .u8) a1 a2 1 λ (x6 : Int) => ixl (.int .u8) a1 (W64 (a2 + 1)) 1 λ (x8 : Int) => K (W64 ((W64 (256 * (W64 x6))) + (W64 x8)))))
def h84 : Hint := (hS (hR 1) (hS (hS (hR 5) (hC (hS (hR 1) hL) hL)) (hS (hS (hR 2) (hC (hS (.region (lR 14) (hO 14)) hL) hL)) (hS (.region (lR 14) (hO 14)) hL))))
theorem A84 {a0 : Int} {a1 : Sl} {a2 : Int} {K : Int -> Wp} {w : World} (h : F84 a0 a1 a2 K w) : Ac Tryz.prog 84 #[(vI a0), a1.v, (vI a2)] rI K w := tied Ai Tryz.func84 h84 _ h
def F85 (a0 : Int) (K : Value -> Wp) : Wp := sif (a0 == 1) ( K (.iface 163 (.agg #[]))) ( sif (a0 == 2) ( K (.iface 165 (.agg #[(vI 0)]))) ( sif (a0 == 3) ( K (.iface 165 (.agg #[(vI 1)]))) ( sif (a0 == 4) ( K (.iface 166 (.agg #[]))) ( K .nilIface))))
def h85 : Hint := (hS (hR 1) (hS (hS (hR 1) (.block (hS (hR 2) (hC (hS (hR 3) hL) (hS (hR 2) (hC (hS (hR 3) hL) (hS (hR 2) (hC (hS (hR 3) hL) (hS (hR 2) (hC (hS (hR 3) hL) hL)))))))))) (hS (hR 1) hL)))
theorem A85 {a0 : Int} {K : Value -> Wp} {w : World} (h : F85 a0 K w) : Ac Tryz.prog 85 #[(vI a0)] (.one (.one .any)) K w := tied Ai Tryz.func85 h85 _ h
def F86 (a0 : (Int × Int × Int × Bool × Bool × Unit)) (a1 : (Int × Int × Int × Bool × Bool × Unit)) (K : (Int × Int × Int × Bool × Bool × Unit) -> Wp) : Wp := Af (.cells #[(vI a0.1), (vI a0.2.1), (vI a0.2.2.1), (.bool a0.2.2.2.1), (.bool a0.2.2.2.2.1)] 110) λ b1 => Af (.cells #[(vI a1.1), (vI a1.2.1), (vI a1.2.2.1), (.bool a1.2.2.2.1), (.bool a1.2.2.2.2.1)] 110) λ b2 => Af (.cells #[(vI 0), (vI 0), (vI 0), (.bool false), (.bool false)] 110) λ b3 => lI (at0 b1) λ x4 => sif (x4 == 0) ( lds Ap (at0 b2) λ (x5 : (Int × Int × Int × Bool × Bool × Unit)) => Ad (at0 b3) (vA Ap x5) 5 <| lds Ap (at0 b3) λ (x6 : (Int × Int × Int × Bool × Bool × Unit)) => K x6) ( lI (at0 b2) λ x7 => sif (x7 == 0) ( lds Ap (at0 b1) λ (x8 : (Int × Int × Int × Bool × Bool × Unit)) => Ad (at0 b3) (vA Ap x8) 5 <| lds Ap (at0 b3) λ (x9 : (Int × Int × Int × Bool × Bool × Unit)) => K x9) ( lI (at0 b1) λ x10 => lI (at0 b2) λ x11 => lI (ad b1 1) λ x12 => lI (ad b2 1) λ x13 => lI (ad b1 2) λ x14 => lI (ad b2 2) λ x15 => ld (.bool) (ad b1 3) λ (x16 : Bool) => ld (.bool) (ad b2 4) λ (x17 : Bool) => Af (.cells #[(vI 0), (vI 0), (vI 0), (.bool false), (.bool false)] 110) λ b18 => Ad (at0 b18) (.agg #[(vI (W64 (x10 + x11))), (vI (W64 (x12 + x13))), (vI (W64 (x14 + x15))), (.bool x16), (.bool x17)]) 5 <| jU (λ J19 => jB (λ J21 => ld (.bool) (ad b1 4) λ (x23 : Bool) => sif x23 ( ld (.bool) (ad b2 3) λ (x24 : Bool) => J21 (x24, ())) ( J21 (false, ()))) λ s22 => sif s22.1 ( lI (ad b18 2) λ x25 => stC (ad b18 2) (vI (W64 (x25 - 1))) <| J19 ()) ( J19 ())) λ s20 => lds Ap (at0 b18) λ (x26 : (Int × Int × Int × Bool × Bool × Unit)) => Ad (at0 b3) (vA Ap x26) 5 <| lds Ap (at0 b3) λ (x27 : (Int × Int × Int × Bool × Bool × Unit)) => K x27))
def h86 : Hint := (hS (hR 3) (hS (hS (hR 3) (hC (hS (hR 2) hL) hL)) (hS (hS (hR 3) (hC (hS (hR 2) hL) hL)) (hS (hR 22) (hJ (0xffc00000000, []) (hJ (0xfc00000000, [(39, tB)]) (.region [] (.ops 3 (.split 36 (hO 3) (.skips 2 (hO 1))))) (hC (hR 5) hL)) (hS (hR 2) hL))))))
theorem A86 {a0 : (Int × Int × Int × Bool × Bool × Unit)} {a1 : (Int × Int × Int × Bool × Bool × Unit)} {K : (Int × Int × Int × Bool × Bool × Unit) -> Wp} {w : World} (h : F86 a0 a1 K w) : Ac Tryz.prog 86 #[(vA Ap a0), (vA Ap a1)] (.one (.agg Ap)) K w := tied Ai Tryz.func86 h86 _ h
def F87 (a0 : Int) (a1 : Int) (K : (Int × Int × Int × Bool × Bool × Unit) -> Wp) : Wp := Af (.cells #[(vI 0), (vI 0), (vI 0), (.bool false), (.bool false)] 110) λ b1 => Af (.cells #[(vI 0), (vI 0), (vI 0), (.bool false), (.bool false)] 110) λ b2 => Ad (at0 b2) (.agg #[(vI 1), (vI a1), (vI 0), (.bool (a0 == 10)), (.bool (a0 == 13))]) 5 <| jU (λ J3 => jB (λ J5 => ld (.bool) (ad b2 3) λ (x7 : Bool) => sif x7 ( J5 (true, ())) ( ld (.bool) (ad b2 4) λ (x8 : Bool) => J5 (x8, ()))) λ s6 => sif s6.1 ( stC (ad b2 2) (vI 1) <| J3 ()) ( J3 ())) λ s4 => lds Ap (at0 b2) λ (x9 : (Int × Int × Int × Bool × Bool × Unit)) => Ad (at0 b1) (vA Ap x9) 5 <| lds Ap (at0 b1) λ (x10 : (Int × Int × Int × Bool × Bool × Unit)) => K x10
def h87 : Hint := (hS (hR 1) (hS (hR 8) (hJ (520192, []) (hJ (258048, [(17, tB)]) (.region [] (.ops 3 (.split 14 (.skips 2 (hO 1)) (hO 3)))) (hC (hR 2) hL)) (hS (hR 2) hL))))
theorem A87 {a0 : Int} {a1 : Int} {K : (Int × Int × Int × Bool × Bool × Unit) -> Wp} {w : World} (h : F87 a0 a1 K w) : Ac Tryz.prog 87 #[(vI a0), (vI a1)] (.one (.agg Ap)) K w := tied Ai Tryz.func87 h87 _ h
def F88 (a0 : Sl) (K : Option Addr -> Wp) : Wp := sif (((a0.len : Nat) : Int) == 0) ( K none) ( chk ((2 : Int) ≠ 0) <| drew <| slc a0.a 0 (W64 (Int.tdiv ((a0.len : Nat) : Int) 2)) ((a0.cap : Nat) : Int) a0.cap 7 λ x1 => ix a0.a a0.len (W64 (Int.tdiv ((a0.len : Nat) : Int) 2)) λ p2 => lds Ag (p2.add (scaled (Int.toNat (W64 (Int.tdiv ((a0.len : Nat) : Int) 2))) 7)) λ (x3 : (Sl × Int × Int × Int × Int × Bool × Bool × Unit)) => slc a0.a (W64 ((W64 (Int.tdiv ((a0.len : Nat) : Int) 2)) + 1)) ((a0.len : Nat) : Int) ((a0.cap : Nat) : Int) a0.cap 7 λ x4 => Ac Tryz.prog 88 #[x1.v] rP λ (x5 : Option Addr) => keep (λ w => Ak w (p2.add (scaled (Int.toNat (W64 (Int.tdiv ((a0.len : Nat) : Int) 2))) 7)) 0 (Cells.vals Ag x3)) <| Ac Tryz.prog 88 #[x4.v] rP λ (x6 : Option Addr) => keep (λ w => Ak w (p2.add (scaled (Int.toNat (W64 (Int.tdiv ((a0.len : Nat) : Int) 2))) 7)) 0 (Cells.vals Ag x3)) <| Ac Tryz.prog 120 #[(.pointer x5), (vA Ag x3), (.pointer x6)] rP λ (x7 : Option Addr) => K x7)
def h88 : Hint := (hS (hR 1) (hS (hS (hR 3) (hC (hS (hR 1) hL) hL)) (hS (hR 4) (hS (.region [0, 1, 2, 4, 5, 6, 7, 8, 9, 10, 11, 3, 12, 13, 14] (hO 15)) hL))))
theorem A88 {a0 : Sl} {K : Option Addr -> Wp} {w : World} (h : F88 a0 K w) : Ac Tryz.prog 88 #[a0.v] rP K w := tied Ai Tryz.func88 h88 _ h
def F89 (a0 : Option Addr) (a1 : Int) (K : (Int × Int × Int × Bool × Bool × Unit) -> Wp) : Wp := Af (.cells #[(vI 0), (vI 0), (vI 0), (.bool false), (.bool false)] 110) λ b1 => Ac Tryz.prog 73 #[(.pointer a0), (vI a1)] (.tup [(.one cI), (.one cI)]) λ (x2 : (Int × Int × Unit)) => nn a0 λ p3 => lds c105 (p3.add 2) λ (x4 : (Option Addr × Unit)) => Ac Tryz.prog 91 #[(vA c105 x4), (vI x2.1)] (.one (.agg Ap)) λ (x5 : (Int × Int × Int × Bool × Bool × Unit)) => Af (.cells #[(vI 0), (vI 0), (vI 0), (.bool false), (.bool false)] 110) λ b6 => Ad (at0 b6) (vA Ap x5) 5 <| jU (λ J7 => nn a0 λ p9 => lds c105 (p9.add 2) λ (x10 : (Option Addr × Unit)) => Ac Tryz.prog 92 #[(vA c105 x10), (vI x2.1)] (.tup [(.agg Ag), (.one .bool)]) λ (x11 : ((Sl × Int × Int × Int × Int × Bool × Bool × Unit) × Bool × Unit)) => Af (.cells #[(.slice none 0 0), (vI 0), (vI 0), (vI 0), (vI 0), (.bool false), (.bool false)] 112) λ b12 => Ad (at0 b12) (vA Ag x11.1) 7 <| sif x11.2.1 ( join (S := Addr × Unit) (λ J13 => drew <| lds Ag (at0 b12) λ (x15 : (Sl × Int × Int × Int × Int × Bool × Bool × Unit)) => nn a0 λ p16 => lI p16 λ x17 => both ( Af (.cells #[(.slice none 0 0), (vI 0), (vI 0), (vI 0), (vI 0), (.bool false), (.bool false)] 112) λ b18 => keep (λ w => w.cell? p16 = some (Cell.val cI x17)) <| keep (λ w => Ak w (at0 b12) 0 (Cells.vals Ag x15)) <| both ( Af (.cells #[(.slice none 0 0), (vI 0), (vI 0), (vI 0), (vI 0), (.bool false), (.bool false)] 112) λ b19 => keep (λ w => w.cell? p16 = some (Cell.val cI x17)) <| keep (λ w => Ak w (at0 b12) 0 (Cells.vals Ag x15)) <| Ac Tryz.prog 112 #[(vA Ag x15), (vI x17), (vI x2.2.1)] (.tup [(.agg Ag), (.agg Ag)]) λ (x20 : ((Sl × Int × Int × Int × Int × Bool × Bool × Unit) × (Sl × Int × Int × Int × Int × Bool × Bool × Unit) × Unit)) => Ad (at0 b18) (vA Ag x20.1) 7 <| Ad (at0 b19) (vA Ag x20.2.1) 7 <| J13 ((at0 b18), ())) <| Ac Tryz.prog 112 #[(vA Ag x15), (vI x17), (vI x2.2.1)] (.tup [(.agg Ag), (.agg Ag)]) λ (x21 : ((Sl × Int × Int × Int × Int × Bool × Bool × Unit) × (Sl × Int × Int × Int × Int × Bool × Bool × Unit) × Unit)) => both ( Af (.cells #[(.slice none 0 0), (vI 0), (vI 0), (vI 0), (vI 0), (.bool false), (.bool false)] 112) λ b22 => keep (λ w => w.cell? p16 = some (Cell.val cI x17)) <| keep (λ w => Ak w (at0 b12) 0 (Cells.vals Ag x15)) <| Ad (at0 b18) (vA Ag x21.1) 7 <| Ad (at0 b22) (vA Ag x21.2.1) 7 <| J13 ((at0 b18), ())) <| nothing) <| both ( Af (.cells #[(.slice none 0 0), (vI 0), (vI 0), (vI 0), (vI 0), (.bool false), (.bool false)] 112) λ b23 => keep (λ w => w.cell? p16 = some (Cell.val cI x17)) <| keep (λ w => Ak w (at0 b12) 0 (Cells.vals Ag x15)) <| both ( Af (.cells #[(.slice none 0 0), (vI 0), (vI 0), (vI 0), (vI 0), (.bool false), (.bool false)] 112) λ b24 => keep (λ w => w.cell? p16 = some (Cell.val cI x17)) <| keep (λ w => Ak w (at0 b12) 0 (Cells.vals Ag x15)) <| Ac Tryz.prog 112 #[(vA Ag x15), (vI x17), (vI x2.2.1)] (.tup [(.agg Ag), (.agg Ag)]) λ (x25 : ((Sl × Int × Int × Int × Int × Bool × Bool × Unit) × (Sl × Int × Int × Int × Int × Bool × Bool × Unit) × Unit)) => Ad (at0 b24) (vA Ag x25.1) 7 <| Ad (at0 b23) (vA Ag x25.2.1) 7 <| J13 ((at0 b24), ())) <| Ac Tryz.prog 112 #[(vA Ag x15), (vI x17), (vI x2.2.1)] (.tup [(.agg Ag), (.agg Ag)]) λ (x26 : ((Sl × Int × Int × Int × Int × Bool × Bool × Unit) × (Sl × Int × Int × Int × Int × Bool × Bool × Unit) × Unit)) => both ( Af (.cells #[(.slice none 0 0), (vI 0), (vI 0), (vI 0), (vI 0), (.bool false), (.bool false)] 112) λ b27 => keep (λ w => w.cell? p16 = some (Cell.val cI x17)) <| keep (λ w => Ak w (at0 b12) 0 (Cells.vals Ag x15)) <| Ad (at0 b27) (vA Ag x26.1) 7 <| Ad (at0 b23) (vA Ag x26.2.1) 7 <| J13 ((at0 b27), ())) <| nothing) <| Ac Tryz.prog 112 #[(vA Ag x15), (vI x17), (vI x2.2.1)] (.tup [(.agg Ag), (.agg Ag)]) λ (x28 : ((Sl × Int × Int × Int × Int × Bool × Bool × Unit) × (Sl × Int × Int × Int × Int × Bool × Bool × Unit) × Unit)) => both ( Af (.cells #[(.slice none 0 0), (vI 0), (vI 0), (vI 0), (vI 0), (.bool false), (.bool false)] 112) λ b29 => keep (λ w => w.cell? p16 = some (Cell.val cI x17)) <| keep (λ w => Ak w (at0 b12) 0 (Cells.vals Ag x15)) <| both ( Af (.cells #[(.slice none 0 0), (vI 0), (vI 0), (vI 0), (vI 0), (.bool false), (.bool false)] 112) λ b30 => keep (λ w => w.cell? p16 = some (Cell.val cI x17)) <| keep (λ w => Ak w (at0 b12) 0 (Cells.vals Ag x15)) <| Ad (at0 b29) (vA Ag x28.1) 7 <| Ad (at0 b30) (vA Ag x28.2.1) 7 <| J13 ((at0 b29), ())) <| nothing) <| both ( Af (.cells #[(.slice none 0 0), (vI 0), (vI 0), (vI 0), (vI 0), (.bool false), (.bool false)] 112) λ b31 => keep (λ w => w.cell? p16 = some (Cell.val cI x17)) <| keep (λ w => Ak w (at0 b12) 0 (Cells.vals Ag x15)) <| both ( Af (.cells #[(.slice none 0 0), (vI 0), (vI 0), (vI 0), (vI 0), (.bool false), (.bool false)] 112) λ b32 => keep (λ w => w.cell? p16 = some (Cell.val cI x17)) <| keep (λ w => Ak w (at0 b12) 0 (Cells.vals Ag x15)) <| Ad (at0 b32) (vA Ag x28.1) 7 <| Ad (at0 b31) (vA Ag x28.2.1) 7 <| J13 ((at0 b32), ())) <| nothing) <| nothing) λ s14 => lds Ap (at0 b6) λ (x33 : (Int × Int × Int × Bool × Bool × Unit)) => lds Ap (s14.1.add 2) λ (x34 : (Int × Int × Int × Bool × Bool × Unit)) => Ac Tryz.prog 86 #[(vA Ap x33), (vA Ap x34)] (.one (.agg Ap)) λ (x35 : (Int × Int × Int × Bool × Bool × Unit)) => Ad (at0 b6) (vA Ap x35) 5 <| J7 ()) ( J7 ())) λ s8 => lds Ap (at0 b6) λ (x36 : (Int × Int × Int × Bool × Bool × Unit)) => Ad (at0 b1) (vA Ap x36) 5 <| lds Ap (at0 b1) λ (x37 : (Int × Int × Int × Bool × Bool × Unit)) => K x37
def h89 : Hint := (hS (hR 1) (hS (hR 8) (hS (hR 8) (hJ (0xffffff000f00, []) (hS (hR 12) (hS (hR 1) (hC (hJ (0xffc00000c00, [(10, (.one .addr))]) (.region [0, 1, 2, 3, 4, 5, 6, 7, 8, 9, 12, 13] (.float [10, 11] (.ops 6 (.alt none (.alt none (.plain (hO 6)) (.ops 4 (.alt none (.plain (hO 2)) .stop))) (.alt none (.alt none (.plain (hO 6)) (.ops 4 (.alt none (.plain (hO 2)) .stop))) (.ops 4 (.alt none (.alt none (.plain (hO 2)) .stop) (.alt none (.alt none (.plain (hO 2)) .stop) .stop)))))))) (hR 5)) hL))) (hS (hR 2) hL)))))
theorem A89 {a0 : Option Addr} {a1 : Int} {K : (Int × Int × Int × Bool × Bool × Unit) -> Wp} {w : World} (h : F89 a0 a1 K w) : Ac Tryz.prog 89 #[(.pointer a0), (vI a1)] (.one (.agg Ap)) K w := tied Ai Tryz.func89 h89 _ h
def F90 (a0 : (Option Addr × Unit)) (a1 : Int) (a2 : Int) (K : Int -> Wp) : Wp := Af (.cells #[(.pointer a0.1)] 105) λ b1 => sif (decide (a2 <= 0)) ( K 0) ( Af (.cells #[(vI 0), (vI 0), (vI 0), (.bool false), (.bool false)] 110) λ b2 => jI (λ J3 => ld (.ptr) (at0 b1) λ (x5 : Option Addr) => Gj (S := Int × Option Addr × Unit) (λ s6 again7 => sif (!(Option.isNone s6.2.1)) ( lds Ap (at0 b2) λ (x8 : (Int × Int × Int × Bool × Bool × Unit)) => Af (.cells #[(vI 0), (vI 0), (vI 0), (.bool false), (.bool false)] 110) λ b9 => Ad (at0 b9) (vA Ap x8) 5 <| jU (λ J10 => nn s6.2.1 λ p12 => ld (.ptr) p12 λ (x13 : Option Addr) => sif (!(Option.isNone x13)) ( drew <| lds Ap (at0 b2) λ (x14 : (Int × Int × Int × Bool × Bool × Unit)) => nn s6.2.1 λ p15 => ld (.ptr) p15 λ (x16 : Option Addr) => nn x16 λ p17 => lds Ap (p17.add 11) λ (x18 : (Int × Int × Int × Bool × Bool × Unit)) => Bf Tryz.prog (invoke (.fn (.method "Add") #[]) (#[(.iface 110 (vA Ap x14))] ++ #[(vA Ap x18)])) (.one (.agg Ap)) λ (x19 : (Int × Int × Int × Bool × Bool × Unit)) => Ad (at0 b9) (vA Ap x19) 5 <| J10 ()) ( J10 ())) λ s11 => lds Ap (at0 b9) λ (x20 : (Int × Int × Int × Bool × Bool × Unit)) => Bf Tryz.prog (invoke (.fn (.method "Key") #[]) (#[(.iface 110 (vA Ap x20))] ++ #[(vI a1)])) rI λ (x21 : Int) => sif (decide (x21 >= a2)) ( nn s6.2.1 λ p22 => ld (.ptr) p22 λ (x23 : Option Addr) => again7 (s6.1, x23, ())) ( nn s6.2.1 λ p24 => ld (.ptr) p24 λ (x25 : Option Addr) => cN 102 #[(.pointer x25)] λ x26 => drew <| lds Ap (at0 b9) λ (x27 : (Int × Int × Int × Bool × Bool × Unit)) => nn s6.2.1 λ p28 => lds Ag (p28.add 2) λ (x29 : (Sl × Int × Int × Int × Int × Bool × Bool × Unit)) => Bf Tryz.prog (invoke (.fn (.method "Measure") #[]) (#[(.iface 112 (vA Ag x29))] ++ #[])) (.one (.agg Ap)) λ (x30 : (Int × Int × Int × Bool × Bool × Unit)) => keep (λ w => Ak w (at0 b9) 0 (Cells.vals Ap x27)) <| Bf Tryz.prog (invoke (.fn (.method "Add") #[]) (#[(.iface 110 (vA Ap x27))] ++ #[(vA Ap x30)])) (.one (.agg Ap)) λ (x31 : (Int × Int × Int × Bool × Bool × Unit)) => Ad (at0 b2) (vA Ap x31) 5 <| lds Ap (at0 b2) λ (x32 : (Int × Int × Int × Bool × Bool × Unit)) => Bf Tryz.prog (invoke (.fn (.method "Key") #[]) (#[(.iface 110 (vA Ap x32))] ++ #[(vI a1)])) rI λ (x33 : Int) => sif (decide (x33 >= a2)) ( K (W64 (s6.1 + (W64 (x26 + 1))))) ( nn s6.2.1 λ p34 => ld (.ptr) (p34.add 1) λ (x35 : Option Addr) => again7 ((W64 (s6.1 + (W64 (x26 + 1)))), x35, ())))) ( J3 (s6.1, ()))) (0, x5, ())) λ s4 => K (W64 (s4.1 + 1)))
def h90 : Hint := (hS (hR 2) (hS (hS (hR 2) (hC (hS (hR 1) hL) hL)) (hS (hR 1) (hS (hR 1) (hJ (0x7fffffffffffffe740, [(8, tI)]) (hS (hR 3) (.block (.loop 0x7fffffffffffff8740 [(8, tI), (9, tP)] (hS (hS (hR 2) (hC hL hL)) (.block (hS (hR 3) (hJ (8589672448, []) (hS (hR 5) (hC (.region (lR 11) (hO 11)) hL)) (hS (hS (hR 6) (hC (hS (hR 5) hL) hL)) (hS (hR 9) (hS (.region (lR 10) (hO 10)) (hS (hS (hR 6) (hC (hS (hR 2) hL) hL)) (hR 5)))))))))))) (hS (hR 3) hL))))))
theorem A90 {a0 : (Option Addr × Unit)} {a1 : Int} {a2 : Int} {K : Int -> Wp} {w : World} (h : F90 a0 a1 a2 K w) : Ac Tryz.prog 90 #[(vA c105 a0), (vI a1), (vI a2)] rI K w := tied Ai Tryz.func90 h90 _ h
def F91 (a0 : (Option Addr × Unit)) (a1 : Int) (K : (Int × Int × Int × Bool × Bool × Unit) -> Wp) : Wp := Af (.cells #[(.pointer a0.1)] 105) λ b1 => Af (.cells #[(vI 0), (vI 0), (vI 0), (.bool false), (.bool false)] 110) λ b2 => Af (.cells #[(vI 0), (vI 0), (vI 0), (.bool false), (.bool false)] 110) λ b3 => lds c105 (at0 b1) λ (x4 : (Option Addr × Unit)) => cN 115 #[(vA c105 x4)] λ x5 => jU (λ J6 => ld (.ptr) (at0 b1) λ (x8 : Option Addr) => Gj (S := Int × Option Addr × Unit) (λ s9 again10 => jB (λ J11 => sif (!(Option.isNone s9.2.1)) ( J11 ((decide (s9.1 > 0)), ())) ( J11 (false, ()))) λ s12 => sif s12.1 ( nn s9.2.1 λ p13 => ld (.ptr) p13 λ (x14 : Option Addr) => cN 102 #[(.pointer x14)] λ x15 => sif (decide (s9.1 <= x15)) ( nn s9.2.1 λ p16 => ld (.ptr) p16 λ (x17 : Option Addr) => again10 (s9.1, x17, ())) ( jU (λ J18 => nn s9.2.1 λ p20 => ld (.ptr) p20 λ (x21 : Option Addr) => sif (!(Option.isNone x21)) ( drew <| lds Ap (at0 b3) λ (x22 : (Int × Int × Int × Bool × Bool × Unit)) => nn s9.2.1 λ p23 => ld (.ptr) p23 λ (x24 : Option Addr) => nn x24 λ p25 => lds Ap (p25.add 11) λ (x26 : (Int × Int × Int × Bool × Bool × Unit)) => Bf Tryz.prog (invoke (.fn (.method "Add") #[]) (#[(.iface 110 (vA Ap x22))] ++ #[(vA Ap x26)])) (.one (.agg Ap)) λ (x27 : (Int × Int × Int × Bool × Bool × Unit)) => Ad (at0 b3) (vA Ap x27) 5 <| J18 ()) ( J18 ())) λ s19 => drew <| lds Ap (at0 b3) λ (x28 : (Int × Int × Int × Bool × Bool × Unit)) => nn s9.2.1 λ p29 => lds Ag (p29.add 2) λ (x30 : (Sl × Int × Int × Int × Int × Bool × Bool × Unit)) => Bf Tryz.prog (invoke (.fn (.method "Measure") #[]) (#[(.iface 112 (vA Ag x30))] ++ #[])) (.one (.agg Ap)) λ (x31 : (Int × Int × Int × Bool × Bool × Unit)) => keep (λ w => Ak w (at0 b3) 0 (Cells.vals Ap x28)) <| Bf Tryz.prog (invoke (.fn (.method "Add") #[]) (#[(.iface 110 (vA Ap x28))] ++ #[(vA Ap x31)])) (.one (.agg Ap)) λ (x32 : (Int × Int × Int × Bool × Bool × Unit)) => Ad (at0 b3) (vA Ap x32) 5 <| nn s9.2.1 λ p33 => ld (.ptr) (p33.add 1) λ (x34 : Option Addr) => again10 ((W64 ((W64 (s9.1 - x15)) - 1)), x34, ()))) ( J6 ())) ((if x5 < a1 then x5 else a1), x8, ())) λ s7 => lds Ap (at0 b3) λ (x35 : (Int × Int × Int × Bool × Bool × Unit)) => Ad (at0 b2) (vA Ap x35) 5 <| lds Ap (at0 b2) λ (x36 : (Int × Int × Int × Bool × Bool × Unit)) => K x36
def h91 : Hint := (hS (hR 2) (hS (hR 1) (hS (hR 5) (hJ (0xfffffffffffff0c2, []) (hS (hR 3) (.block (.loop 0xffffffffffffc0c2 [(1, tI), (6, tP)] (hS (hJ (0xfc000, [(19, tB)]) (.region [] (.ops 3 (.split 16 (hO 3) (.skips 2 (hO 1))))) (hC hL hL)) (.block (hS (hR 6) (hS (hS (hR 3) (hC (hS (hR 5) hL) hL)) (hJ (0x7fff00000000, []) (hS (hR 5) (hC (.region (lR 11) (hO 11)) hL)) (hS (.region (lR 10) (hO 10)) (hR 10)))))))))) (hS (hR 2) hL)))))
theorem A91 {a0 : (Option Addr × Unit)} {a1 : Int} {K : (Int × Int × Int × Bool × Bool × Unit) -> Wp} {w : World} (h : F91 a0 a1 K w) : Ac Tryz.prog 91 #[(vA c105 a0), (vI a1)] (.one (.agg Ap)) K w := tied Ai Tryz.func91 h91 _ h
def F92 (a0 : (Option Addr × Unit)) (a1 : Int) (K : ((Sl × Int × Int × Int × Int × Bool × Bool × Unit) × Bool × Unit) -> Wp) : Wp := Af (.cells #[(.pointer a0.1)] 105) λ b1 => Af (.cells #[(.slice none 0 0), (vI 0), (vI 0), (vI 0), (vI 0), (.bool false), (.bool false)] 112) λ b2 => jU (λ J3 => ld (.ptr) (at0 b1) λ (x5 : Option Addr) => Gj (S := Int × Option Addr × Unit) (λ s6 again7 => jB (λ J8 => sif (!(Option.isNone s6.2.1)) ( J8 ((decide (s6.1 >= 0)), ())) ( J8 (false, ()))) λ s9 => sif s9.1 ( nn s6.2.1 λ p10 => ld (.ptr) p10 λ (x11 : Option Addr) => cN 102 #[(.pointer x11)] λ x12 => sif (s6.1 == x12) ( nn s6.2.1 λ p13 => lds Ag (p13.add 2) λ (x14 : (Sl × Int × Int × Int × Int × Bool × Bool × Unit)) => Ad (at0 b2) (vA Ag x14) 7 <| lds Ag (at0 b2) λ (x15 : (Sl × Int × Int × Int × Int × Bool × Bool × Unit)) => K (x15, true, ())) ( sif (decide (s6.1 < x12)) ( nn s6.2.1 λ p16 => ld (.ptr) p16 λ (x17 : Option Addr) => again7 (s6.1, x17, ())) ( nn s6.2.1 λ p18 => ld (.ptr) (p18.add 1) λ (x19 : Option Addr) => again7 ((W64 ((W64 (s6.1 - x12)) - 1)), x19, ())))) ( J3 ())) (a1, x5, ())) λ s4 => Af (.cells #[(.slice none 0 0), (vI 0), (vI 0), (vI 0), (vI 0), (.bool false), (.bool false)] 112) λ b20 => lds Ag (at0 b20) λ (x21 : (Sl × Int × Int × Int × Int × Bool × Bool × Unit)) => Ad (at0 b2) (vA Ag x21) 7 <| lds Ag (at0 b2) λ (x22 : (Sl × Int × Int × Int × Int × Bool × Bool × Unit)) => K (x22, false, ())
def h92 : Hint := (hS (hR 3) (hJ (0x3ffffffffee2, []) (hS (hR 3) (.block (.loop 0x3ffffffff8e2 [(1, tI), (6, tP)] (hS (hJ (129024, [(16, tB)]) (.region [] (.ops 3 (.split 13 (hO 3) (.skips 2 (hO 1))))) (hC hL hL)) (.block (hS (hR 6) (.block (hS (hR 4) (hC (hS (hR 6) hL) (hS (hR 4) (hC (hR 5) (hR 10)))))))))))) (hS (hR 1) (hS (hR 3) hL))))
theorem A92 {a0 : (Option Addr × Unit)} {a1 : Int} {K : ((Sl × Int × Int × Int × Int × Bool × Bool × Unit) × Bool × Unit) -> Wp} {w : World} (h : F92 a0 a1 K w) : Ac Tryz.prog 92 #[(vA c105 a0), (vI a1)] (.tup [(.agg Ag), (.one .bool)]) K w := tied Ai Tryz.func92 h92 _ h
def F100 (a0 : Value) (v0 : Addr) (v1 : Addr) (K : Unit -> Wp) : Wp := chk (Tm [a0] = true) <| Af (.cells #[a0] 146) λ b1 => Af (.cells #[.nilFunc] 147) λ b2 => chk (Dx (.func (Fn.func 101) #[] #[(.pointer (some (at0 b2))), (.pointer (some (at0 b1)))]) = true) <| stC (at0 b2) (.func (Fn.func 101) #[] #[(.pointer (some (at0 b2))), (.pointer (some (at0 b1)))]) <| ld (.any) (at0 b2) λ (x3 : Value) => ld (.ptr) v0 λ (x4 : Option Addr) => lI v1 λ x5 => Bf Tryz.prog (do let d ← Deferred.ofValue x3 #[(.pointer x4), (vI (if x5 > 0 then x5 else 0))]; invoke d.target d.args : Sem Next) rB λ (x6 : Bool) => K ()
def Co9 : Hint := (hS (hR 1) (hS (hR 1) (hS (hR 2) (hR 6))))
theorem Da4 {a0 : Value} {v0 : Addr} {v1 : Addr} {K : Unit -> Wp} {w : World} (h : F100 a0 v0 v1 K w) : Ac Tryz.prog 100 #[a0, (.pointer (some v0)), (.pointer (some v1))] (.tup []) K w := tied Ai Tryz.func100 Co9 _ h
def F101 (a0 : Option Addr) (a1 : Int) (v0 : Addr) (v1 : Addr) (K : Bool -> Wp) : Wp := jB (λ J1 => sif (Option.isNone a0) ( J1 (true, ())) ( nn a0 λ p3 => ld cI (p3.add 9) λ (x4 : Int) => J1 ((decide (a1 >= x4)), ()))) λ s2 => sif s2.1 ( K true) ( nn a0 λ p5 => ld (.ptr) p5 λ (x6 : Option Addr) => cN 102 #[(.pointer x6)] λ x7 => jB (λ J8 => drew <| sif (decide (a1 < x7)) ( ld (.any) v0 λ (x10 : Value) => nn a0 λ p11 => ld (.ptr) p11 λ (x12 : Option Addr) => Bf Tryz.prog (do let d ← Deferred.ofValue x10 #[(.pointer x12), (vI a1)]; invoke d.target d.args : Sem Next) rB λ (x13 : Bool) => J8 ((!x13), ())) ( J8 (false, ()))) λ s9 => sif s9.1 ( K false) ( jB (λ J14 => drew <| sif (decide (a1 <= x7)) ( ld (.any) v1 λ (x16 : Value) => nn a0 λ p17 => lds Ag (p17.add 2) λ (x18 : (Sl × Int × Int × Int × Int × Bool × Bool × Unit)) => Bf Tryz.prog (do let d ← Deferred.ofValue x16 #[(vA Ag x18)]; invoke d.target d.args : Sem Next) rB λ (x19 : Bool) => J14 ((!x19), ())) ( J14 (false, ()))) λ s15 => sif s15.1 ( K false) ( drew <| ld (.any) v0 λ (x20 : Value) => nn a0 λ p21 => ld (.ptr) (p21.add 1) λ (x22 : Option Addr) => Bf Tryz.prog (do let d ← Deferred.ofValue x20 #[(.pointer x22), (vI (if (W64 ((W64 (a1 - x7)) - 1)) > 0 then (W64 ((W64 (a1 - x7)) - 1)) else 0))]; invoke d.target d.args : Sem Next) rB λ (x23 : Bool) => K x23)))
def Co8 : Hint := (hS (hR 1) (hS (hJ (261888, [(17, tB)]) (.region [] (.ops 3 (.split 10 (.skips 6 (hO 1)) (hO 7)))) (hC (hS (hR 1) hL) hL)) (hS (hR 6) (hS (hJ (0xfff800000, [(35, tB)]) (.region (lR 13) (.ops 4 (.split 26 (hO 9) (.skips 8 (hO 1))))) (hC (hS (hR 1) hL) hL)) (hS (hJ (0xfff000000000, [(47, tB)]) (.region (lR 12) (.ops 4 (.split 39 (hO 8) (.skips 7 (hO 1))))) (hC (hS (hR 1) hL) hL)) (hS (.region (lR 12) (hO 12)) hL))))))
theorem Cg3 {a0 : Option Addr} {a1 : Int} {v0 : Addr} {v1 : Addr} {K : Bool -> Wp} {w : World} (h : F101 a0 a1 v0 v1 K w) : Ac Tryz.prog 101 #[(.pointer a0), (vI a1), (.pointer (some v0)), (.pointer (some v1))] rB K w := tied Ai Tryz.func101 Co8 _ h
def F102 (a0 : Option Addr) (K : Int -> Wp) : Wp := sif (Option.isNone a0) ( K 0) ( nn a0 λ p1 => ld cI (p1.add 9) λ (x2 : Int) => K x2)
def Co7 : Hint := (hS (hR 1) (hS (hS (hR 2) (hC (hS (hR 1) hL) hL)) (hS (hR 5) hL)))
theorem Da3 {a0 : Option Addr} {K : Int -> Wp} {w : World} (h : F102 a0 K w) : Ac Tryz.prog 102 #[(.pointer a0)] rI K w := tied Ai Tryz.func102 Co7 _ h
def F110 (a0 : Option Addr) (K : Int -> Wp) : Wp := nn a0 λ p1 => lds c105 (p1.add 2) λ (x2 : (Option Addr × Unit)) => Ac Tryz.prog 70 #[(vA c105 x2)] (.one (.agg Ap)) λ (x3 : (Int × Int × Int × Bool × Bool × Unit)) => K x3.2.1
def Cn9 : Hint := (hS (hR 1) (hS (hR 7) hL))
theorem Cz5 {a0 : Option Addr} {K : Int -> Wp} {w : World} (h : F110 a0 K w) : Ac Tryz.prog 110 #[(.pointer a0)] rI K w := tied Ai Tryz.func110 Cn9 _ h
def F111 (a0 : Int) (a1 : Int) (K : Int -> Wp) : Wp := Ac Tryz.prog 85 #[(vI a0)] (.one (.one .any)) λ (x1 : Value) => rdB Tryz.prog (do eqGuard .eql 132 (Operand.tmp 8) (Operand.const Value.nilIface) x1 .nilIface; binOp .eql 132 x1 .nilIface : Sem Value) λ r2 => sif r2 ( K 0) ( Bf Tryz.prog (invoke (.fn (.method "copyist/codec.size") #[]) (#[x1] ++ #[(vI a1)])) rI λ (x3 : Int) => K x3)
def Cn8 : Hint := (hS (hR 1) (hS (hR 3) (hS (hS (hR 2) (hC (hS (hR 1) hL) hL)) (hS (hR 4) hL))))
theorem Cz4 {a0 : Int} {a1 : Int} {K : Int -> Wp} {w : World} (h : F111 a0 a1 K w) : Ac Tryz.prog 111 #[(vI a0), (vI a1)] rI K w := tied Ai Tryz.func111 Cn8 _ h
def F112 (a0 : (Sl × Int × Int × Int × Int × Bool × Bool × Unit)) (a1 : Int) (a2 : Int) (K : ((Sl × Int × Int × Int × Int × Bool × Bool × Unit) × (Sl × Int × Int × Int × Int × Bool × Bool × Unit) × Unit) -> Wp) : Wp := Af (.cells #[a0.1.v, (vI a0.2.1), (vI a0.2.2.1), (vI a0.2.2.2.1), (vI a0.2.2.2.2.1), (.bool a0.2.2.2.2.2.1), (.bool a0.2.2.2.2.2.2.1)] 112) λ b1 => Af (.cells #[(.slice none 0 0), (vI 0), (vI 0), (vI 0), (vI 0), (.bool false), (.bool false)] 112) λ b2 => Af (.cells #[(.slice none 0 0), (vI 0), (vI 0), (vI 0), (vI 0), (.bool false), (.bool false)] 112) λ b3 => jI (λ J4 => sN (λ s6 again7 => jB (λ J8 => sif (decide (s6.1 > 0)) ( ld (.sl) (at0 b1) λ (x10 : Sl) => J8 ((decide (s6.2.1 < ((x10.len : Nat) : Int))), ())) ( J8 (false, ()))) λ s9 => sif s9.1 ( ld (.sl) (at0 b1) λ (x11 : Sl) => Ac Tryz.prog 63 #[(vI a1), x11.v, (vI s6.2.1)] (.tup [(.one cI), (.one cI)]) λ (x12 : (Int × Int × Unit)) => again7 ((W64 (s6.1 - 1)), (W64 (s6.2.1 + x12.2.1)), ())) ( J4 (s6.2.1, ()))) (a2, 0, ())) λ s5 => lI (ad b1 1) λ x13 => jI (λ J14 => sif (decide (x13 >= 0)) ( J14 ((W64 (x13 + s5.1)), ())) ( J14 (x13, ()))) λ s15 => drew <| ld (.sl) (at0 b1) λ (x16 : Sl) => slc x16.a 0 s5.1 s5.1 x16.cap 1 λ x17 => lI (ad b1 1) λ x18 => ld (.sl) (at0 b1) λ (x19 : Sl) => slc x19.a s5.1 ((x19.len : Nat) : Int) ((x19.cap : Nat) : Int) x19.cap 1 λ x20 => Ac Tryz.prog 64 #[(vI a1), x17.v, (vI x18)] (.one (.agg Ag)) λ (x21 : (Sl × Int × Int × Int × Int × Bool × Bool × Unit)) => keep (λ w => w.cell? (at0 b1) = some (Cell.val (.sl) x19)) <| Ac Tryz.prog 64 #[(vI a1), x20.v, (vI s15.1)] (.one (.agg Ag)) λ (x22 : (Sl × Int × Int × Int × Int × Bool × Bool × Unit)) => Ad (at0 b2) (vA Ag x21) 7 <| Ad (at0 b3) (vA Ag x22) 7 <| lds Ag (at0 b2) λ (x23 : (Sl × Int × Int × Int × Int × Bool × Bool × Unit)) => lds Ag (at0 b3) λ (x24 : (Sl × Int × Int × Int × Int × Bool × Bool × Unit)) => K (x23, x24, ())
def h112 : Hint := (hS (hR 3) (hS (hR 1) (hJ (0x3fffff704, [(8, tI)]) (.block (.loop 0x3fffff704 [(2, tI), (8, tI)] (hS (hJ (2093056, [(20, tB)]) (.region [] (.ops 3 (.split 14 (hO 6) (.skips 5 (hO 1))))) (hC hL hL)) (hS (.block (hS (hR 10) (hR 4))) (hR 3))))) (hS (hR 3) (hJ (0x1f000000800, [(11, tI)]) (hS (hR 2) (hC (hR 4) hL)) (hS (.region [0, 1, 2, 3, 4, 5, 6, 7, 9, 10, 11, 12, 13, 14, 8, 15, 16, 17] (hO 18)) hL))))))
theorem Cz3 {a0 : (Sl × Int × Int × Int × Int × Bool × Bool × Unit)} {a1 : Int} {a2 : Int} {K : ((Sl × Int × Int × Int × Int × Bool × Bool × Unit) × (Sl × Int × Int × Int × Int × Bool × Bool × Unit) × Unit) -> Wp} {w : World} (h : F112 a0 a1 a2 K w) : Ac Tryz.prog 112 #[(vA Ag a0), (vI a1), (vI a2)] (.tup [(.agg Ag), (.agg Ag)]) K w := tied Ai Tryz.func112 h112 _ h
def F113 (a0 : Option Addr) (a1 : Sl) (K : Sl -> Wp) : Wp := Af (.cells #[(.pointer a0)] 25) λ b1 => Af (.cells #[(.slice none 0 0)] 108) λ b2 => ld (.ptr) (at0 b1) λ (x3 : Option Addr) => nn x3 λ p4 => ld (.sl) (p4.add 3) λ (x5 : Sl) => Af (.cells #[(vI 0)] 3) λ b6 => stC (at0 b6) (vI ((x5.len : Nat) : Int)) <| Af (.cells #[(vI 0)] 3) λ b7 => stC (at0 b7) (vI 0) <| jU (λ J8 => sI (λ s10 again11 => sif (decide (s10.1 < ((a1.len : Nat) : Int))) ( jU (λ J12 => ixI a1 s10.1 1 λ x15 => jB (λ J16 => sif (decide (x15 >= 0)) ( sif (decide (x15 < 55296)) ( J16 (true, ())) ( J16 ((decide (x15 > 57343)), ()))) ( J16 (false, ()))) λ s17 => jU (λ J18 => jB (λ J20 => sif (!s17.1) ( J20 (true, ())) ( lI (at0 b7) λ x22 => J20 ((x22 == 128), ()))) λ s21 => sif s21.1 ( Bf Tryz.prog (do let d ← Deferred.ofValue (.func (Fn.func 141) #[] #[(.pointer (some (at0 b1))), (.pointer (some (at0 b6))), (.pointer (some (at0 b2))), (.pointer (some (at0 b7)))]) #[]; invoke d.target d.args : Sem Next) (.tup []) λ (x23 : (Unit)) => J18 ()) ( J18 ())) λ s19 => ld (.ptr) (at0 b1) λ (x24 : Option Addr) => nn x24 λ p25 => lI p25 λ x26 => Af (.cells #[(vI x15)] 3) λ b27 => Ac Tryz.prog 142 #[(vI x26), (.slice (some (at0 b27)) 1 1)] (.tup [(.one .sl), (.one cI), (.one cI)]) λ (x28 : (Sl × Int × Int × Unit)) => drew <| ld (.ptr) (at0 b1) λ (x29 : Option Addr) => ld (.ptr) (at0 b1) λ (x30 : Option Addr) => nn x30 λ p31 => ld (.sl) (p31.add 3) λ (x32 : Sl) => Df Tryz.prog rS (Builtin.append_ #[22, 22] 22 #[x32.v, x28.1.v]) λ (x33 : Sl) => keep (λ w => w.cell? (at0 b1) = some (Cell.val (.ptr) x29)) <| nn x29 λ p34 => stC (p34.add 3) x33.v <| lI (at0 b7) λ x35 => stC (at0 b7) (vI (W64 (x35 + 1))) <| sif (!s17.1) ( Bf Tryz.prog (do let d ← Deferred.ofValue (.func (Fn.func 141) #[] #[(.pointer (some (at0 b1))), (.pointer (some (at0 b6))), (.pointer (some (at0 b2))), (.pointer (some (at0 b7)))]) #[]; invoke d.target d.args : Sem Next) (.tup []) λ (x36 : (Unit)) => J12 ()) ( J12 ())) λ s13 => again11 ((W64 (s10.1 + 1)), ())) ( J8 ())) (0, ())) λ s9 => Bf Tryz.prog (do let d ← Deferred.ofValue (.func (Fn.func 141) #[] #[(.pointer (some (at0 b1))), (.pointer (some (at0 b6))), (.pointer (some (at0 b2))), (.pointer (some (at0 b7)))]) #[]; invoke d.target d.args : Sem Next) (.tup []) λ (x37 : (Unit)) => ld (.sl) (at0 b2) λ (x38 : Sl) => K x38
def Cn7 : Hint := (hS (hR 2) (hS (hR 1) (hS (hR 7) (hS (hR 2) (hS (hR 2) (hJ (0xffffffffffffe07c00, []) (hS (hR 3) (.block (.loop 0xffffffffffff807c00 [(23, tI)] (hS (hR 1) (hS (hC hL hL) (hJ (0x7ffffffffffe007c00, []) (.block (hS (hR 3) (hJ (0x1ff8000800, [(11, tB)]) (.region [] (.ops 3 (.split 29 (.ops 3 (.split 32 (.skips 2 (hO 3)) (hO 5))) (.skips 6 (hO 2))))) (hJ (0x1fe000000000, []) (hJ (0x7e000000000, [(42, tB)]) (.region [] (.ops 3 (.split 39 (.skips 2 (hO 1)) (hO 3)))) (hC (hR 2) hL)) (hS (hR 14) (hS (.region (lR 10) (hO 10)) (hS (hR 3) (hS (hR 2) (hC (hR 2) hL))))))))) (hR 2))))))) (hS (hR 2) (hS (hR 2) hL))))))))
theorem Cz2 {a0 : Option Addr} {a1 : Sl} {K : Sl -> Wp} {w : World} (h : F113 a0 a1 K w) : Ac Tryz.prog 113 #[(.pointer a0), a1.v] rS K w := tied Ai Tryz.func113 Cn7 _ h
def F114 (a0 : (Option Addr × Unit)) (a1 : Int) (a2 : Int) (a3 : Sl) (K : ((Option Addr × Unit) × Int × Unit) -> Wp) : Wp := Af (.cells #[(.pointer a0.1)] 105) λ b1 => Af (.cells #[(.pointer none)] 105) λ b2 => jB (λ J3 => sif (decide (a1 < 0)) ( J3 (true, ())) ( sif (decide (a1 > a2)) ( J3 (true, ())) ( lds c105 (at0 b1) λ (x5 : (Option Addr × Unit)) => cN 115 #[(vA c105 x5)] λ x6 => J3 ((decide (a2 > x6)), ())))) λ s4 => sif s4.1 ( Ad (at0 b2) (.agg #[(.pointer none)]) 1 <| lds c105 (at0 b2) λ (x7 : (Option Addr × Unit)) => K (x7, 1, ())) ( ld (.ptr) (at0 b1) λ (x8 : Option Addr) => Ac Tryz.prog 143 #[(.pointer x8), (vI a1)] (.tup [(.one .ptr), (.one .ptr)]) λ (x9 : (Option Addr × Option Addr × Unit)) => ld (.ptr) (at0 b1) λ (x10 : Option Addr) => Ac Tryz.prog 143 #[(.pointer x10), (vI a2)] (.tup [(.one .ptr), (.one .ptr)]) λ (x11 : (Option Addr × Option Addr × Unit)) => Ac Tryz.prog 88 #[a3.v] rP λ (x12 : Option Addr) => Ac Tryz.prog 144 #[(.pointer x9.1), (.pointer x12)] rP λ (x13 : Option Addr) => Ac Tryz.prog 144 #[(.pointer x13), (.pointer x11.2.1)] rP λ (x14 : Option Addr) => Ad (at0 b2) (.agg #[(.pointer x14)]) 1 <| lds c105 (at0 b2) λ (x15 : (Option Addr × Unit)) => K (x15, 0, ()))
def Cn6 : Hint := (hS (hR 3) (hS (hJ (0x7ffc000, [(26, tB)]) (.region [] (.ops 3 (.split 16 (.skips 3 (.ops 2 (.skips 4 (hO 1)))) (.ops 5 (.split 21 (.skips 4 (hO 1)) (hO 5)))))) (hC (hS (hR 3) hL) hL)) (hS (hR 9) (hS (hR 9) (hS (hR 9) hL)))))
theorem Cz1 {a0 : (Option Addr × Unit)} {a1 : Int} {a2 : Int} {a3 : Sl} {K : ((Option Addr × Unit) × Int × Unit) -> Wp} {w : World} (h : F114 a0 a1 a2 a3 K w) : Ac Tryz.prog 114 #[(vA c105 a0), (vI a1), (vI a2), a3.v] (.tup [(.agg c105), (.one cI)]) K w := tied Ai Tryz.func114 Cn6 _ h
def F115 (a0 : (Option Addr × Unit)) (K : Int -> Wp) : Wp := Af (.cells #[(.pointer a0.1)] 105) λ b1 => ld (.ptr) (at0 b1) λ (x2 : Option Addr) => cN 102 #[(.pointer x2)] λ x3 => K x3
def Cn5 : Hint := (hS (hR 2) (hS (hR 4) hL))
theorem Cz0 {a0 : (Option Addr × Unit)} {K : Int -> Wp} {w : World} (h : F115 a0 K w) : Ac Tryz.prog 115 #[(vA c105 a0)] rI K w := tied Ai Tryz.func115 Cn5 _ h
def F116 (a0 : Sl) (a1 : Int) (a2 : Int) (K : Int -> Wp) : Wp := Af (.cells #[(vI 0), (vI 0), (vI 0), (vI 0), (vI 0)] 192) λ b1 => Ad (at0 b1) (.agg #[(vI 0), (vI 0), (vI 192), (vI 224), (vI 240)]) 5 <| drew <| ixl (.int .u8) a0 a1 1 λ (x3 : Int) => chk (0 <= a2 /\ a2 < ((5 : Nat) : Int)) <| ld cI ((at0 b1).add (scaled (Int.toNat a2) 1)) λ (x4 : Int) => jI (λ J5 => sN (λ s7 again8 => sif (decide (s7.2.1 < a2)) ( ixl (.int .u8) a0 (W64 (a1 + s7.2.1)) 1 λ (x10 : Int) => again8 ((W64 ((W64 ((W64 (s7.1 * 64)) + (W64 x10))) - 128)), (W64 (s7.2.1 + 1)), ())) ( J5 (s7.1, ()))) ((W64 ((W64 x3) - x4)), 1, ())) λ s6 => K s6.1
def h116 : Hint := (hS (hR 1) (hS (hR 3) (hS (.region (lR 10) (hO 10)) (hJ (0xffff00300, [(8, tI)]) (hS (hR 1) (.block (.loop 0xffff00300 [(8, tI), (9, tI)] (hS (hS (hR 3) (hC hL hL)) (hS (.block (hR 12)) (hR 3)))))) (hS (hR 2) hL)))))
theorem Cy9 {a0 : Sl} {a1 : Int} {a2 : Int} {K : Int -> Wp} {w : World} (h : F116 a0 a1 a2 K w) : Ac Tryz.prog 116 #[a0.v, (vI a1), (vI a2)] rI K w := tied Ai Tryz.func116 h116 _ h
def F117 (a0 : Int) (K : Bool -> Wp) : Wp := sif (decide (a0 >= 0)) ( sif (decide (a0 < 55296)) ( K true) ( sif (decide (a0 > 57343)) ( K (decide (a0 <= 1114111))) ( K false))) ( sif (decide (a0 > 57343)) ( K (decide (a0 <= 1114111))) ( K false))
def Cn4 : Hint := (hS (hR 1) (hS (.region [] (.ops 3 (.split 5 (.ops 4 (.split 9 (.skips 6 (hO 2)) (.ops 3 (.split 12 (hO 5) (.skips 2 (hO 3)))))) (.skips 2 (.ops 5 (.split 12 (hO 5) (.skips 2 (hO 3)))))))) hL))
theorem Cy8 {a0 : Int} {K : Bool -> Wp} {w : World} (h : F117 a0 K w) : Ac Tryz.prog 117 #[(vI a0)] rB K w := tied Ai Tryz.func117 Cn4 _ h
def F118 (a0 : Int) (K : Sl -> Wp) : Wp := sif (decide (a0 < 128)) ( Af (.cells #[(.int .u8 (IntKind.wrap .u8 a0))] 5) λ b1 => K ⟨(some (at0 b1)), 1, 1⟩) ( sif (decide (a0 < 2048)) ( chk ((64 : Int) ≠ 0) <| chk ((64 : Int) ≠ 0) <| Af (.cells #[(.int .u8 (IntKind.wrap .u8 (W64 (192 + (W64 (Int.tdiv a0 64)))))), (.int .u8 (IntKind.wrap .u8 (W64 (128 + (Int.tmod a0 64)))))] 5) λ b2 => K ⟨(some (at0 b2)), 2, 2⟩) ( sif (decide (a0 < 65536)) ( chk ((4096 : Int) ≠ 0) <| chk ((64 : Int) ≠ 0) <| chk ((64 : Int) ≠ 0) <| chk ((64 : Int) ≠ 0) <| Af (.cells #[(.int .u8 (IntKind.wrap .u8 (W64 (224 + (W64 (Int.tdiv a0 4096)))))), (.int .u8 (IntKind.wrap .u8 (W64 (128 + (Int.tmod (W64 (Int.tdiv a0 64)) 64))))), (.int .u8 (IntKind.wrap .u8 (W64 (128 + (Int.tmod a0 64)))))] 5) λ b3 => K ⟨(some (at0 b3)), 3, 3⟩) ( chk ((262144 : Int) ≠ 0) <| chk ((4096 : Int) ≠ 0) <| chk ((64 : Int) ≠ 0) <| chk ((64 : Int) ≠ 0) <| chk ((64 : Int) ≠ 0) <| chk ((64 : Int) ≠ 0) <| Af (.cells #[(.int .u8 (IntKind.wrap .u8 (W64 (240 + (W64 (Int.tdiv a0 262144)))))), (.int .u8 (IntKind.wrap .u8 (W64 (128 + (Int.tmod (W64 (Int.tdiv a0 4096)) 64))))), (.int .u8 (IntKind.wrap .u8 (W64 (128 + (Int.tmod (W64 (Int.tdiv a0 64)) 64))))), (.int .u8 (IntKind.wrap .u8 (W64 (128 + (Int.tmod a0 64)))))] 5) λ b4 => K ⟨(some (at0 b4)), 4, 4⟩)))
def Cn3 : Hint := (hS (hR 1) (hS (.block (hS (hR 3) (hC (hS (hR 4) hL) (hS (hR 3) (hC (hS (hR 10) hL) (hS (hR 3) (hC (hS (hR 15) hL) hL))))))) (hS (hR 20) hL)))
theorem Cy7 {a0 : Int} {K : Sl -> Wp} {w : World} (h : F118 a0 K w) : Ac Tryz.prog 118 #[(vI a0)] rS K w := tied Ai Tryz.func118 Cn3 _ h
def F119 (a0 : Sl) (a1 : Int) (a2 : Sl) (K : Bool -> Wp) : Wp := sif (decide ((W64 (a1 + ((a2.len : Nat) : Int))) > ((a0.len : Nat) : Int))) ( K false) ( jU (λ J1 => sI (λ s3 again4 => sif (decide (s3.1 < ((a2.len : Nat) : Int))) ( drew <| ixl (.int .u8) a0 (W64 (a1 + s3.1)) 1 λ (x6 : Int) => ixl (.int .u8) a2 s3.1 1 λ (x8 : Int) => sif (x6 != x8) ( K false) ( again4 ((W64 (s3.1 + 1)), ()))) ( J1 ())) (0, ())) λ s2 => K true)
def h119 : Hint := (hS (hR 1) (hS (hS (hR 7) (hC (hS (hR 1) hL) hL)) (hJ (0xffff80c0, []) (hS (hR 1) (.block (.loop 0xffff80c0 [(7, tI)] (hS (hS (hR 4) (hC hL hL)) (hS (.block (hS (.region (lR 11) (hO 11)) (hC (hS (hR 1) hL) hL))) (hR 3)))))) (hS (hR 1) hL))))
theorem Cy6 {a0 : Sl} {a1 : Int} {a2 : Sl} {K : Bool -> Wp} {w : World} (h : F119 a0 a1 a2 K w) : Ac Tryz.prog 119 #[a0.v, (vI a1), a2.v] rB K w := tied Ai Tryz.func119 h119 _ h
def F120 (a0 : Option Addr) (a1 : (Sl × Int × Int × Int × Int × Bool × Bool × Unit)) (a2 : Option Addr) (K : Option Addr -> Wp) : Wp := Af (.cells #[a1.1.v, (vI a1.2.1), (vI a1.2.2.1), (vI a1.2.2.2.1), (vI a1.2.2.2.2.1), (.bool a1.2.2.2.2.2.1), (.bool a1.2.2.2.2.2.2.1)] 112) λ b1 => drew <| lds Ag (at0 b1) λ (x2 : (Sl × Int × Int × Int × Int × Bool × Bool × Unit)) => cN 102 #[(.pointer a0)] λ x3 => keep (λ w => Ak w (at0 b1) 0 (Cells.vals Ag x2)) <| cN 102 #[(.pointer a2)] λ x4 => keep (λ w => Ak w (at0 b1) 0 (Cells.vals Ag x2)) <| cN 145 #[(.pointer a0)] λ x5 => keep (λ w => Ak w (at0 b1) 0 (Cells.vals Ag x2)) <| cN 145 #[(.pointer a2)] λ x6 => keep (λ w => Ak w (at0 b1) 0 (Cells.vals Ag x2)) <| Af (.cells (Value.cells (.agg #[(.pointer a0), (.pointer a2), x2.1.v, (vI x2.2.1), (vI x2.2.2.1), (vI x2.2.2.2.1), (vI x2.2.2.2.2.1), (.bool x2.2.2.2.2.2.1), (.bool x2.2.2.2.2.2.2.1), (vI (W64 ((W64 (x3 + 1)) + x4))), (vI (W64 ((if x6 > x5 then x6 else x5) + 1))), (vI 0), (vI 0), (vI 0), (.bool false), (.bool false)])) 144) λ b7 => lds Ag (at0 b1) λ (x8 : (Sl × Int × Int × Int × Int × Bool × Bool × Unit)) => Bf Tryz.prog (invoke (.fn (.method "Measure") #[]) (#[(.iface 112 (vA Ag x8))] ++ #[])) (.one (.agg Ap)) λ (x9 : (Int × Int × Int × Bool × Bool × Unit)) => nn (some (at0 b7)) λ p10 => Ad (p10.add 11) (vA Ap x9) 5 <| jU (λ J11 => sif (!(Option.isNone a0)) ( drew <| nn a0 λ p13 => lds Ap (p13.add 11) λ (x14 : (Int × Int × Int × Bool × Bool × Unit)) => nn (some (at0 b7)) λ p15 => lds Ap (p15.add 11) λ (x16 : (Int × Int × Int × Bool × Bool × Unit)) => Bf Tryz.prog (invoke (.fn (.method "Add") #[]) (#[(.iface 110 (vA Ap x14))] ++ #[(vA Ap x16)])) (.one (.agg Ap)) λ (x17 : (Int × Int × Int × Bool × Bool × Unit)) => nn (some (at0 b7)) λ p18 => Ad (p18.add 11) (vA Ap x17) 5 <| J11 ()) ( J11 ())) λ s12 => jU (λ J19 => sif (!(Option.isNone a2)) ( drew <| nn (some (at0 b7)) λ p21 => lds Ap (p21.add 11) λ (x22 : (Int × Int × Int × Bool × Bool × Unit)) => nn a2 λ p23 => lds Ap (p23.add 11) λ (x24 : (Int × Int × Int × Bool × Bool × Unit)) => Bf Tryz.prog (invoke (.fn (.method "Add") #[]) (#[(.iface 110 (vA Ap x22))] ++ #[(vA Ap x24)])) (.one (.agg Ap)) λ (x25 : (Int × Int × Int × Bool × Bool × Unit)) => nn (some (at0 b7)) λ p26 => Ad (p26.add 11) (vA Ap x25) 5 <| J19 ()) ( J19 ())) λ s20 => K (some (at0 b7))
def Cn2 : Hint := (hS (hR 2) (hS (.region [0, 1, 2, 3, 6, 9, 11, 4, 5, 7, 8, 10, 12, 13, 14, 15, 16, 17] (hO 18)) (hS (hR 7) (hJ (0x3fff80000000, []) (hS (hR 2) (hC (.region (lR 14) (hO 14)) hL)) (hJ ((mR [(46, 61)]), []) (hS (hR 2) (hC (.region (lR 14) (hO 14)) hL)) (hS (hR 2) hL))))))
theorem Cy5 {a0 : Option Addr} {a1 : (Sl × Int × Int × Int × Int × Bool × Bool × Unit)} {a2 : Option Addr} {K : Option Addr -> Wp} {w : World} (h : F120 a0 a1 a2 K w) : Ac Tryz.prog 120 #[(.pointer a0), (vA Ag a1), (.pointer a2)] rP K w := tied Ai Tryz.func120 Cn2 _ h
def F141 (v0 : Addr) (v1 : Addr) (v2 : Addr) (v3 : Addr) (K : Unit -> Wp) : Wp := ld (.ptr) v0 λ (x1 : Option Addr) => nn x1 λ p2 => ld (.sl) (p2.add 3) λ (x3 : Sl) => lI v1 λ x4 => sif (decide (((x3.len : Nat) : Int) > x4)) ( drew <| ld (.sl) v2 λ (x5 : Sl) => ld (.ptr) v0 λ (x6 : Option Addr) => nn x6 λ p7 => lI p7 λ x8 => ld (.ptr) v0 λ (x9 : Option Addr) => nn x9 λ p10 => ld (.sl) (p10.add 3) λ (x11 : Sl) => lI v1 λ x12 => slc x11.a x12 ((x3.len : Nat) : Int) ((x3.len : Nat) : Int) x11.cap 1 λ x13 => Ac Tryz.prog 64 #[(vI x8), x13.v, (vI (-1))] (.one (.agg Ag)) λ (x14 : (Sl × Int × Int × Int × Int × Bool × Bool × Unit)) => keep (λ w => w.cell? v2 = some (Cell.val (.sl) x5)) <| Af (.cells #[x14.1.v, (vI x14.2.1), (vI x14.2.2.1), (vI x14.2.2.2.1), (vI x14.2.2.2.2.1), (.bool x14.2.2.2.2.2.1), (.bool x14.2.2.2.2.2.2.1)] 112) λ b15 => keep (λ w => w.cell? v2 = some (Cell.val (.sl) x5)) <| Df Tryz.prog rS (Builtin.append_ #[108, 108] 108 #[x5.v, (.slice (some (at0 b15)) 1 1)]) λ (x16 : Sl) => stC v2 x16.v <| stC v1 (vI ((x3.len : Nat) : Int)) <| stC v3 (vI 0) <| K ()) ( K ())
def Cl4 : Hint := (hS (hR 6) (hS (hR 3) (hC (hS (.region (lR 17) (hO 17)) (hR 3)) hL)))
theorem Cw4 {v0 : Addr} {v1 : Addr} {v2 : Addr} {v3 : Addr} {K : Unit -> Wp} {w : World} (h : F141 v0 v1 v2 v3 K w) : Ac Tryz.prog 141 #[(.pointer (some v0)), (.pointer (some v1)), (.pointer (some v2)), (.pointer (some v3))] (.tup []) K w := tied Ai Tryz.func141 Cl4 _ h
def F142 (a0 : Int) (a1 : Sl) (K : (Sl × Int × Int × Unit) -> Wp) : Wp := Ac Tryz.prog 85 #[(vI a0)] (.one (.one .any)) λ (x1 : Value) => rdB Tryz.prog (do eqGuard .eql 132 (Operand.tmp 13) (Operand.const Value.nilIface) x1 .nilIface; binOp .eql 132 x1 .nilIface : Sem Value) λ r2 => sif r2 ( K (⟨none, 0, 0⟩, 0, 10, ())) ( jS (λ J3 => Gj (S := Sl × Int × Unit) (λ s5 again6 => sif (decide (s5.2.1 < ((a1.len : Nat) : Int))) ( ixI a1 s5.2.1 1 λ x8 => Bf Tryz.prog (invoke (.fn (.method "copyist/codec.size") #[]) (#[x1] ++ #[(vI x8)])) rI λ (x9 : Int) => sif (x9 == 0) ( K (⟨none, 0, 0⟩, s5.2.1, 11, ())) ( Bf Tryz.prog (invoke (.fn (.method "copyist/codec.put") #[]) (#[x1] ++ #[s5.1.v, (vI x8)])) rS λ (x10 : Sl) => again6 (x10, (W64 (s5.2.1 + 1)), ()))) ( J3 (s5.1, ()))) (⟨none, 0, 0⟩, 0, ())) λ s4 => K (s4.1, 0, 0, ()))
def Cl3 : Hint := (hS (hR 3) (hS (hR 3) (hS (hS (hR 2) (hC (hS (hR 3) hL) hL)) (hS (hR 1) (hJ (0xffff8770, [(8, tS)]) (hS (hR 3) (.block (.loop 0xfffe0770 [(8, tS), (17, tI)] (hS (hR 1) (hS (hC hL hL) (hS (.block (hS (hR 5) (hS (hS (hR 4) (hC (hS (hR 4) hL) hL)) (hR 5)))) (hR 2))))))) (hS (hR 4) hL))))))
theorem Cw3 {a0 : Int} {a1 : Sl} {K : (Sl × Int × Int × Unit) -> Wp} {w : World} (h : F142 a0 a1 K w) : Ac Tryz.prog 142 #[(vI a0), a1.v] (.tup [(.one .sl), (.one cI), (.one cI)]) K w := tied Ai Tryz.func142 Cl3 _ h
def F143 (a0 : Option Addr) (a1 : Int) (K : (Option Addr × Option Addr × Unit) -> Wp) : Wp := sif (Option.isNone a0) ( K (none, none, ())) ( nn a0 λ p1 => ld (.ptr) p1 λ (x2 : Option Addr) => cN 102 #[(.pointer x2)] λ x3 => sif (decide (a1 <= x3)) ( nn a0 λ p4 => ld (.ptr) p4 λ (x5 : Option Addr) => Ac Tryz.prog 143 #[(.pointer x5), (vI a1)] (.tup [(.one .ptr), (.one .ptr)]) λ (x6 : (Option Addr × Option Addr × Unit)) => drew <| nn a0 λ p7 => lds Ag (p7.add 2) λ (x8 : (Sl × Int × Int × Int × Int × Bool × Bool × Unit)) => nn a0 λ p9 => ld (.ptr) (p9.add 1) λ (x10 : Option Addr) => Ac Tryz.prog 156 #[(.pointer x6.2.1), (vA Ag x8), (.pointer x10)] rP λ (x11 : Option Addr) => K (x6.1, x11, ())) ( nn a0 λ p12 => ld (.ptr) (p12.add 1) λ (x13 : Option Addr) => Ac Tryz.prog 143 #[(.pointer x13), (vI (W64 ((W64 (a1 - x3)) - 1)))] (.tup [(.one .ptr), (.one .ptr)]) λ (x14 : (Option Addr × Option Addr × Unit)) => drew <| nn a0 λ p15 => ld (.ptr) p15 λ (x16 : Option Addr) => nn a0 λ p17 => lds Ag (p17.add 2) λ (x18 : (Sl × Int × Int × Int × Int × Bool × Bool × Unit)) => Ac Tryz.prog 156 #[(.pointer x16), (vA Ag x18), (.pointer x14.1)] rP λ (x19 : Option Addr) => K (x19, x14.2.1, ())))
def Cl2 : Hint := (hS (hR 2) (hS (hS (hR 2) (hC (hS (hR 2) hL) hL)) (hS (hR 6) (hS (hR 3) (hC (hS (hR 11) (hS (.region (lR 13) (hO 13)) hL)) (hS (hR 14) (hS (.region [0, 1, 2, 3, 4, 5, 6, 7, 8, 10, 9, 11, 12] (hO 13)) hL)))))))
theorem Cg2 {a0 : Option Addr} {a1 : Int} {K : (Option Addr × Option Addr × Unit) -> Wp} {w : World} (h : F143 a0 a1 K w) : Ac Tryz.prog 143 #[(.pointer a0), (vI a1)] (.tup [(.one .ptr), (.one .ptr)]) K w := tied Ai Tryz.func143 Cl2 _ h
def F144 (a0 : Option Addr) (a1 : Option Addr) (K : Option Addr -> Wp) : Wp := sif (Option.isNone a1) ( K a0) ( Ac Tryz.prog 157 #[(.pointer a1)] (.tup [(.agg Ag), (.one .ptr)]) λ (x1 : ((Sl × Int × Int × Int × Int × Bool × Bool × Unit) × Option Addr × Unit)) => Af (.cells #[(.slice none 0 0), (vI 0), (vI 0), (vI 0), (vI 0), (.bool false), (.bool false)] 112) λ b2 => Ad (at0 b2) (vA Ag x1.1) 7 <| lds Ag (at0 b2) λ (x3 : (Sl × Int × Int × Int × Int × Bool × Bool × Unit)) => Ac Tryz.prog 156 #[(.pointer a0), (vA Ag x3), (.pointer x1.2.1)] rP λ (x4 : Option Addr) => K x4)
def Cl1 : Hint := (hS (hR 1) (hS (hS (hR 2) (hC (hS (hR 2) hL) hL)) (hS (hR 8) (hS (hR 5) hL))))
theorem Cw2 {a0 : Option Addr} {a1 : Option Addr} {K : Option Addr -> Wp} {w : World} (h : F144 a0 a1 K w) : Ac Tryz.prog 144 #[(.pointer a0), (.pointer a1)] rP K w := tied Ai Tryz.func144 Cl1 _ h
def F145 (a0 : Option Addr) (K : Int -> Wp) : Wp := sif (Option.isNone a0) ( K 0) ( nn a0 λ p1 => ld cI (p1.add 10) λ (x2 : Int) => K x2)
def Cl0 : Hint := (hS (hR 1) (hS (hS (hR 2) (hC (hS (hR 1) hL) hL)) (hS (hR 5) hL)))
theorem Cw1 {a0 : Option Addr} {K : Int -> Wp} {w : World} (h : F145 a0 K w) : Ac Tryz.prog 145 #[(.pointer a0)] rI K w := tied Ai Tryz.func145 Cl0 _ h
def F156 (a0 : Option Addr) (a1 : (Sl × Int × Int × Int × Int × Bool × Bool × Unit)) (a2 : Option Addr) (K : Option Addr -> Wp) : Wp := Af (.cells #[a1.1.v, (vI a1.2.1), (vI a1.2.2.1), (vI a1.2.2.2.1), (vI a1.2.2.2.2.1), (.bool a1.2.2.2.2.2.1), (.bool a1.2.2.2.2.2.2.1)] 112) λ b1 => cN 145 #[(.pointer a0)] λ x2 => cN 145 #[(.pointer a2)] λ x3 => sif (decide (x2 > (W64 (x3 + 1)))) ( drew <| nn a0 λ p4 => ld (.ptr) p4 λ (x5 : Option Addr) => nn a0 λ p6 => lds Ag (p6.add 2) λ (x7 : (Sl × Int × Int × Int × Int × Bool × Bool × Unit)) => nn a0 λ p8 => ld (.ptr) (p8.add 1) λ (x9 : Option Addr) => lds Ag (at0 b1) λ (x10 : (Sl × Int × Int × Int × Int × Bool × Bool × Unit)) => Ac Tryz.prog 156 #[(.pointer x9), (vA Ag x10), (.pointer a2)] rP λ (x11 : Option Addr) => keep (λ w => Ak w (p6.add 2) 0 (Cells.vals Ag x7)) <| keep (λ w => w.cell? p4 = some (Cell.val (.ptr) x5)) <| Ac Tryz.prog 164 #[(.pointer x5), (vA Ag x7), (.pointer x11)] rP λ (x12 : Option Addr) => K x12) ( cN 145 #[(.pointer a2)] λ x13 => cN 145 #[(.pointer a0)] λ x14 => sif (decide (x13 > (W64 (x14 + 1)))) ( drew <| lds Ag (at0 b1) λ (x15 : (Sl × Int × Int × Int × Int × Bool × Bool × Unit)) => nn a2 λ p16 => ld (.ptr) p16 λ (x17 : Option Addr) => nn a2 λ p18 => lds Ag (p18.add 2) λ (x19 : (Sl × Int × Int × Int × Int × Bool × Bool × Unit)) => nn a2 λ p20 => ld (.ptr) (p20.add 1) λ (x21 : Option Addr) => Ac Tryz.prog 156 #[(.pointer a0), (vA Ag x15), (.pointer x17)] rP λ (x22 : Option Addr) => keep (λ w => w.cell? (p20.add 1) = some (Cell.val (.ptr) x21)) <| keep (λ w => Ak w (p18.add 2) 0 (Cells.vals Ag x19)) <| Ac Tryz.prog 164 #[(.pointer x22), (vA Ag x19), (.pointer x21)] rP λ (x23 : Option Addr) => K x23) ( lds Ag (at0 b1) λ (x24 : (Sl × Int × Int × Int × Int × Bool × Bool × Unit)) => Ac Tryz.prog 120 #[(.pointer a0), (vA Ag x24), (.pointer a2)] rP λ (x25 : Option Addr) => K x25))
def Cj9 : Hint := (hS (hR 2) (hS (.block (hS (hR 7) (hC (hS (.region (lR 17) (hO 17)) hL) (hS (hR 7) (hC (hS (.region [0, 1, 2, 3, 4, 5, 7, 8, 9, 10, 11, 12, 13, 14, 6, 15, 16] (hO 17)) hL) hL))))) (hS (hR 5) hL)))
theorem Cg1 {a0 : Option Addr} {a1 : (Sl × Int × Int × Int × Int × Bool × Bool × Unit)} {a2 : Option Addr} {K : Option Addr -> Wp} {w : World} (h : F156 a0 a1 a2 K w) : Ac Tryz.prog 156 #[(.pointer a0), (vA Ag a1), (.pointer a2)] rP K w := tied Ai Tryz.func156 Cj9 _ h
def F157 (a0 : Option Addr) (K : ((Sl × Int × Int × Int × Int × Bool × Bool × Unit) × Option Addr × Unit) -> Wp) : Wp := Af (.cells #[(.slice none 0 0), (vI 0), (vI 0), (vI 0), (vI 0), (.bool false), (.bool false)] 112) λ b1 => nn a0 λ p2 => ld (.ptr) p2 λ (x3 : Option Addr) => sif (Option.isNone x3) ( drew <| nn a0 λ p4 => lds Ag (p4.add 2) λ (x5 : (Sl × Int × Int × Int × Int × Bool × Bool × Unit)) => nn a0 λ p6 => ld (.ptr) (p6.add 1) λ (x7 : Option Addr) => Ad (at0 b1) (vA Ag x5) 7 <| keep (λ w => w.cell? (p6.add 1) = some (Cell.val (.ptr) x7)) <| lds Ag (at0 b1) λ (x8 : (Sl × Int × Int × Int × Int × Bool × Bool × Unit)) => K (x8, x7, ())) ( nn a0 λ p9 => ld (.ptr) p9 λ (x10 : Option Addr) => Ac Tryz.prog 157 #[(.pointer x10)] (.tup [(.agg Ag), (.one .ptr)]) λ (x11 : ((Sl × Int × Int × Int × Int × Bool × Bool × Unit) × Option Addr × Unit)) => Af (.cells #[(.slice none 0 0), (vI 0), (vI 0), (vI 0), (vI 0), (.bool false), (.bool false)] 112) λ b12 => Ad (at0 b12) (vA Ag x11.1) 7 <| drew <| lds Ag (at0 b12) λ (x13 : (Sl × Int × Int × Int × Int × Bool × Bool × Unit)) => nn a0 λ p14 => lds Ag (p14.add 2) λ (x15 : (Sl × Int × Int × Int × Int × Bool × Bool × Unit)) => nn a0 λ p16 => ld (.ptr) (p16.add 1) λ (x17 : Option Addr) => Ac Tryz.prog 164 #[(.pointer x11.2.1), (vA Ag x15), (.pointer x17)] rP λ (x18 : Option Addr) => keep (λ w => Ak w (at0 b12) 0 (Cells.vals Ag x13)) <| Ad (at0 b1) (vA Ag x13) 7 <| lds Ag (at0 b1) λ (x19 : (Sl × Int × Int × Int × Int × Bool × Bool × Unit)) => K (x19, x18, ()))
def Cj8 : Hint := (hS (hR 2) (hS (hS (hR 5) (hC (hS (.region (lR 10) (hO 10)) hL) hL)) (hS (hR 11) (hS (.region (lR 13) (hO 13)) hL))))
theorem Cg0 {a0 : Option Addr} {K : ((Sl × Int × Int × Int × Int × Bool × Bool × Unit) × Option Addr × Unit) -> Wp} {w : World} (h : F157 a0 K w) : Ac Tryz.prog 157 #[(.pointer a0)] (.tup [(.agg Ag), (.one .ptr)]) K w := tied Ai Tryz.func157 Cj8 _ h
def F164 (a0 : Option Addr) (a1 : (Sl × Int × Int × Int × Int × Bool × Bool × Unit)) (a2 : Option Addr) (K : Option Addr -> Wp) : Wp := Af (.cells #[a1.1.v, (vI a1.2.1), (vI a1.2.2.1), (vI a1.2.2.2.1), (vI a1.2.2.2.2.1), (.bool a1.2.2.2.2.2.1), (.bool a1.2.2.2.2.2.2.1)] 112) λ b1 => cN 145 #[(.pointer a0)] λ x2 => cN 145 #[(.pointer a2)] λ x3 => sif (decide (x2 > (W64 (x3 + 1)))) ( drew <| nn a0 λ p4 => ld (.ptr) p4 λ (x5 : Option Addr) => nn a0 λ p6 => ld (.ptr) (p6.add 1) λ (x7 : Option Addr) => cN 145 #[(.pointer x5)] λ x8 => keep (λ w => w.cell? (p6.add 1) = some (Cell.val (.ptr) x7)) <| cN 145 #[(.pointer x7)] λ x9 => sif (decide (x8 >= x9)) ( drew <| nn a0 λ p10 => ld (.ptr) p10 λ (x11 : Option Addr) => nn a0 λ p12 => lds Ag (p12.add 2) λ (x13 : (Sl × Int × Int × Int × Int × Bool × Bool × Unit)) => nn a0 λ p14 => ld (.ptr) (p14.add 1) λ (x15 : Option Addr) => lds Ag (at0 b1) λ (x16 : (Sl × Int × Int × Int × Int × Bool × Bool × Unit)) => Ac Tryz.prog 120 #[(.pointer x15), (vA Ag x16), (.pointer a2)] rP λ (x17 : Option Addr) => keep (λ w => Ak w (p12.add 2) 0 (Cells.vals Ag x13)) <| keep (λ w => w.cell? p10 = some (Cell.val (.ptr) x11)) <| Ac Tryz.prog 120 #[(.pointer x11), (vA Ag x13), (.pointer x17)] rP λ (x18 : Option Addr) => K x18) ( nn a0 λ p19 => ld (.ptr) (p19.add 1) λ (x20 : Option Addr) => drew <| nn a0 λ p21 => ld (.ptr) p21 λ (x22 : Option Addr) => nn a0 λ p23 => lds Ag (p23.add 2) λ (x24 : (Sl × Int × Int × Int × Int × Bool × Bool × Unit)) => nn x20 λ p25 => ld (.ptr) p25 λ (x26 : Option Addr) => nn x20 λ p27 => lds Ag (p27.add 2) λ (x28 : (Sl × Int × Int × Int × Int × Bool × Bool × Unit)) => nn x20 λ p29 => ld (.ptr) (p29.add 1) λ (x30 : Option Addr) => lds Ag (at0 b1) λ (x31 : (Sl × Int × Int × Int × Int × Bool × Bool × Unit)) => Ac Tryz.prog 120 #[(.pointer x22), (vA Ag x24), (.pointer x26)] rP λ (x32 : Option Addr) => keep (λ w => Ak w (at0 b1) 0 (Cells.vals Ag x31)) <| keep (λ w => w.cell? (p29.add 1) = some (Cell.val (.ptr) x30)) <| keep (λ w => Ak w (p27.add 2) 0 (Cells.vals Ag x28)) <| Ac Tryz.prog 120 #[(.pointer x30), (vA Ag x31), (.pointer a2)] rP λ (x33 : Option Addr) => keep (λ w => Ak w (p27.add 2) 0 (Cells.vals Ag x28)) <| Ac Tryz.prog 120 #[(.pointer x32), (vA Ag x28), (.pointer x33)] rP λ (x34 : Option Addr) => K x34)) ( cN 145 #[(.pointer a2)] λ x35 => cN 145 #[(.pointer a0)] λ x36 => sif (decide (x35 > (W64 (x36 + 1)))) ( drew <| nn a2 λ p37 => ld (.ptr) (p37.add 1) λ (x38 : Option Addr) => nn a2 λ p39 => ld (.ptr) p39 λ (x40 : Option Addr) => cN 145 #[(.pointer x38)] λ x41 => keep (λ w => w.cell? p39 = some (Cell.val (.ptr) x40)) <| cN 145 #[(.pointer x40)] λ x42 => sif (decide (x41 >= x42)) ( drew <| lds Ag (at0 b1) λ (x43 : (Sl × Int × Int × Int × Int × Bool × Bool × Unit)) => nn a2 λ p44 => ld (.ptr) p44 λ (x45 : Option Addr) => nn a2 λ p46 => lds Ag (p46.add 2) λ (x47 : (Sl × Int × Int × Int × Int × Bool × Bool × Unit)) => nn a2 λ p48 => ld (.ptr) (p48.add 1) λ (x49 : Option Addr) => Ac Tryz.prog 120 #[(.pointer a0), (vA Ag x43), (.pointer x45)] rP λ (x50 : Option Addr) => keep (λ w => w.cell? (p48.add 1) = some (Cell.val (.ptr) x49)) <| keep (λ w => Ak w (p46.add 2) 0 (Cells.vals Ag x47)) <| Ac Tryz.prog 120 #[(.pointer x50), (vA Ag x47), (.pointer x49)] rP λ (x51 : Option Addr) => K x51) ( nn a2 λ p52 => ld (.ptr) p52 λ (x53 : Option Addr) => drew <| lds Ag (at0 b1) λ (x54 : (Sl × Int × Int × Int × Int × Bool × Bool × Unit)) => nn x53 λ p55 => ld (.ptr) p55 λ (x56 : Option Addr) => nn x53 λ p57 => lds Ag (p57.add 2) λ (x58 : (Sl × Int × Int × Int × Int × Bool × Bool × Unit)) => nn x53 λ p59 => ld (.ptr) (p59.add 1) λ (x60 : Option Addr) => nn a2 λ p61 => lds Ag (p61.add 2) λ (x62 : (Sl × Int × Int × Int × Int × Bool × Bool × Unit)) => nn a2 λ p63 => ld (.ptr) (p63.add 1) λ (x64 : Option Addr) => Ac Tryz.prog 120 #[(.pointer a0), (vA Ag x54), (.pointer x56)] rP λ (x65 : Option Addr) => keep (λ w => w.cell? (p63.add 1) = some (Cell.val (.ptr) x64)) <| keep (λ w => Ak w (p61.add 2) 0 (Cells.vals Ag x62)) <| keep (λ w => w.cell? (p59.add 1) = some (Cell.val (.ptr) x60)) <| keep (λ w => Ak w (p57.add 2) 0 (Cells.vals Ag x58)) <| Ac Tryz.prog 120 #[(.pointer x60), (vA Ag x62), (.pointer x64)] rP λ (x66 : Option Addr) => keep (λ w => Ak w (p57.add 2) 0 (Cells.vals Ag x58)) <| Ac Tryz.prog 120 #[(.pointer x65), (vA Ag x58), (.pointer x66)] rP λ (x67 : Option Addr) => K x67)) ( lds Ag (at0 b1) λ (x68 : (Sl × Int × Int × Int × Int × Bool × Bool × Unit)) => Ac Tryz.prog 120 #[(.pointer a0), (vA Ag x68), (.pointer a2)] rP λ (x69 : Option Addr) => K x69))
def Cj1 : Hint := (hS (hR 2) (hS (.block (hS (hR 7) (hC (hS (hS (.region [0, 1, 2, 3, 5, 6, 7, 8, 4, 9, 10] (hO 11)) (hC (hS (.region (lR 17) (hO 17)) hL) hL)) (hS (hR 5) (hS (.region [0, 1, 2, 3, 4, 5, 6, 7, 8, 9, 10, 11, 13, 14, 15, 16, 17, 18, 19, 20, 21, 22, 12, 23, 24, 25] (hO 26)) hL))) (hS (hR 7) (hC (hS (hS (.region [0, 1, 2, 3, 5, 6, 7, 8, 4, 9, 10] (hO 11)) (hC (hS (.region [0, 1, 2, 3, 4, 5, 7, 8, 9, 10, 11, 12, 13, 14, 6, 15, 16] (hO 17)) hL) hL)) (hS (hR 5) (hS (.region [0, 1, 2, 3, 4, 5, 7, 8, 9, 10, 11, 12, 13, 14, 15, 16, 17, 18, 19, 20, 21, 22, 6, 23, 24, 25] (hO 26)) hL))) hL))))) (hS (hR 5) hL)))
theorem Cu4 {a0 : Option Addr} {a1 : (Sl × Int × Int × Int × Int × Bool × Bool × Unit)} {a2 : Option Addr} {K : Option Addr -> Wp} {w : World} (h : F164 a0 a1 a2 K w) : Ac Tryz.prog 164 #[(.pointer a0), (vA Ag a1), (.pointer a2)] rP K w := tied Ai Tryz.func164 Cj1 _ h
def F192 (a0 : (Int × Int × Int × Bool × Bool × Unit)) (a1 : Int) (K : Int -> Wp) : Wp := Af (.cells #[(vI a0.1), (vI a0.2.1), (vI a0.2.2.1), (.bool a0.2.2.2.1), (.bool a0.2.2.2.2.1)] 110) λ b1 => sif (a1 == 0) ( lI (at0 b1) λ x2 => K x2) ( sif (a1 == 1) ( lI (ad b1 2) λ x3 => K x3) ( K 0))
def Ci8 : Hint := (hS (hR 2) (hS (hS (hR 1) (.block (hS (hR 2) (hC (hS (hR 3) hL) (hS (hR 2) (hC (hS (hR 3) hL) hL)))))) (hS (hR 1) hL)))
theorem Cu1 {a0 : (Int × Int × Int × Bool × Bool × Unit)} {a1 : Int} {K : Int -> Wp} {w : World} (h : F192 a0 a1 K w) : Ac Tryz.prog 192 #[(vA Ap a0), (vI a1)] rI K w := tied Ai Tryz.func192 Ci8 _ h
def F193 (a0 : (Sl × Int × Int × Int × Int × Bool × Bool × Unit)) (K : (Int × Int × Int × Bool × Bool × Unit) -> Wp) : Wp := Af (.cells #[a0.1.v, (vI a0.2.1), (vI a0.2.2.1), (vI a0.2.2.2.1), (vI a0.2.2.2.2.1), (.bool a0.2.2.2.2.2.1), (.bool a0.2.2.2.2.2.2.1)] 112) λ b1 => Af (.cells #[(vI 0), (vI 0), (vI 0), (.bool false), (.bool false)] 110) λ b2 => lds Ap (ad b1 2) λ (x3 : (Int × Int × Int × Bool × Bool × Unit)) => Ad (at0 b2) (vA Ap x3) 5 <| lds Ap (at0 b2) λ (x4 : (Int × Int × Int × Bool × Bool × Unit)) => K x4
def Ci7 : Hint := (hS (hR 2) (hS (hR 3) hL))
theorem Cu0 {a0 : (Sl × Int × Int × Int × Int × Bool × Bool × Unit)} {K : (Int × Int × Int × Bool × Bool × Unit) -> Wp} {w : World} (h : F193 a0 K w) : Ac Tryz.prog 193 #[(vA Ag a0)] (.one (.agg Ap)) K w := tied Ai Tryz.func193 Ci7 _ h
def F194 (a0 : (Unit)) (a1 : Sl) (K : (Int × Int × Unit) -> Wp) : Wp := Af (.cells #[] 163) λ b1 => Ac Tryz.prog 199 #[a1.v] (.tup [(.one cI), (.one cI)]) λ (x2 : (Int × Int × Unit)) => jB (λ J3 => sif (x2.2.1 == 0) ( J3 (true, ())) ( J3 ((decide (x2.1 < x2.2.1)), ()))) λ s4 => sif s4.1 ( ixl (.int .u8) a1 0 1 λ (x6 : Int) => K ((W64 ((-1) - (W64 x6))), 1, ())) ( ixl (.int .u8) a1 0 1 λ (x8 : Int) => jI (λ J9 => sif (x2.2.1 == 2) ( J9 ((W64 ((BitVec.toNat (BitVec.ofInt (IntKind.bits .i64) (W64 x8) &&& BitVec.ofInt (IntKind.bits .i64) 31) : Nat) : Int)), ())) ( sif (x2.2.1 == 3) ( J9 ((W64 ((BitVec.toNat (BitVec.ofInt (IntKind.bits .i64) (W64 x8) &&& BitVec.ofInt (IntKind.bits .i64) 15) : Nat) : Int)), ())) ( sif (x2.2.1 == 4) ( J9 ((W64 ((BitVec.toNat (BitVec.ofInt (IntKind.bits .i64) (W64 x8) &&& BitVec.ofInt (IntKind.bits .i64) 7) : Nat) : Int)), ())) ( J9 ((W64 x8), ()))))) λ s10 => jI (λ J11 => slc a1.a 1 x2.2.1 ((a1.cap : Nat) : Int) a1.cap 1 λ x13 => sN (λ s14 again15 => sif (decide (s14.2.1 < ((x13.len : Nat) : Int))) ( ixl (.int .u8) x13 s14.2.1 1 λ (x17 : Int) => chk (0 <= (6 : Int)) <| again15 ((W64 ((BitVec.toNat (BitVec.ofInt (IntKind.bits .i64) (W64 (s14.1 * 2 ^ (min (Int.toNat 6) (IntKind.bits .i64)))) ||| BitVec.ofInt (IntKind.bits .i64) (W64 (IntKind.wrap .u8 ((BitVec.toNat (BitVec.ofInt (IntKind.bits .u8) x17 &&& BitVec.ofInt (IntKind.bits .u8) 63) : Nat) : Int)))) : Nat) : Int)), (W64 (s14.2.1 + 1)), ())) ( J11 (s14.1, ()))) (s10.1, 0, ())) λ s12 => K (s12.1, x2.2.1, ()))
def Ci6 : Hint := (hS (hR 3) (hS (hR 7) (hS (hJ (8323072, [(22, tB)]) (.region [] (.ops 3 (.split 18 (.skips 3 (hO 1)) (hO 4)))) (hC (hS (hR 7) hL) hL)) (hS (hR 5) (hJ (0x1fff00000100, [(8, tI)]) (hS (hR 1) (.block (hS (hR 2) (hC (hR 3) (hS (hR 2) (hC (hR 3) (hS (hR 2) (hC (hR 3) hL)))))))) (hJ (0xfffe00000000500, [(8, tI)]) (hS (hR 5) (.block (.loop 0xffe000000000500 [(8, tI), (49, tI)] (hS (hR 1) (hS (hC hL hL) (hS (.block (hS (hR 3) (hR 7))) (hR 2))))))) (hS (hR 4) hL)))))))
theorem Ct9 {a0 : (Unit)} {a1 : Sl} {K : (Int × Int × Unit) -> Wp} {w : World} (h : F194 a0 a1 K w) : Ac Tryz.prog 194 #[(vA Az3 a0), a1.v] (.tup [(.one cI), (.one cI)]) K w := tied Ai Tryz.func194 Ci6 _ h
def F197 (a0 : (Unit)) (a1 : Sl) (a2 : Int) (K : Sl -> Wp) : Wp := Af (.cells #[] 163) λ b1 => lds Az3 (at0 b1) λ (x2 : (Unit)) => cN 198 #[(vA Az3 x2), (vI a2)] λ x3 => sif (decide (a2 < 0)) ( Af (.cells #[(.int .u8 (IntKind.wrap .u8 (W64 ((-1) - a2))))] 5) λ b4 => Df Tryz.prog rS (Builtin.append_ #[22, 22] 22 #[a1.v, (.slice (some (at0 b4)) 1 1)]) λ (x5 : Sl) => K x5) ( sif (x3 == 1) ( Af (.cells #[(.int .u8 (IntKind.wrap .u8 a2))] 5) λ b6 => Df Tryz.prog rS (Builtin.append_ #[22, 22] 22 #[a1.v, (.slice (some (at0 b6)) 1 1)]) λ (x7 : Sl) => K x7) ( Af (.cells #[(.int .u8 0), (.int .u8 0), (.int .u8 0), (.int .u8 0), (.int .u8 0)] 224) λ b8 => Ad (at0 b8) (.agg #[(.int .u8 0), (.int .u8 0), (.int .u8 192), (.int .u8 224), (.int .u8 240)]) 5 <| drew <| chk (0 <= x3 /\ x3 < ((5 : Nat) : Int)) <| ld (.int .u8) ((at0 b8).add (scaled (Int.toNat x3) 1)) λ (x9 : Int) => chk (0 <= (W64 (6 * (W64 (x3 - 1))))) <| Af (.cells #[(.int .u8 (IntKind.wrap .u8 ((BitVec.toNat (BitVec.ofInt (IntKind.bits .u8) x9 ||| BitVec.ofInt (IntKind.bits .u8) (IntKind.wrap .u8 (Int.fdiv a2 (2 ^ (min (Int.toNat (W64 (6 * (W64 (x3 - 1))))) (IntKind.bits .i64)))))) : Nat) : Int)))] 5) λ b10 => Df Tryz.prog rS (Builtin.append_ #[22, 22] 22 #[a1.v, (.slice (some (at0 b10)) 1 1)]) λ (x11 : Sl) => jS (λ J12 => Gj (S := Sl × Int × Unit) (λ s14 again15 => sif (decide (s14.2.1 >= 0)) ( chk (0 <= (W64 (6 * s14.2.1))) <| Af (.cells #[(.int .u8 (IntKind.wrap .u8 ((BitVec.toNat (BitVec.ofInt (IntKind.bits .u8) 128 ||| BitVec.ofInt (IntKind.bits .u8) (IntKind.wrap .u8 ((BitVec.toNat (BitVec.ofInt (IntKind.bits .u8) (IntKind.wrap .u8 (Int.fdiv a2 (2 ^ (min (Int.toNat (W64 (6 * s14.2.1))) (IntKind.bits .i64))))) &&& BitVec.ofInt (IntKind.bits .u8) 63) : Nat) : Int))) : Nat) : Int)))] 5) λ b16 => Df Tryz.prog rS (Builtin.append_ #[22, 22] 22 #[s14.1.v, (.slice (some (at0 b16)) 1 1)]) λ (x17 : Sl) => again15 (x17, (W64 (s14.2.1 - 1)), ())) ( J12 (s14.1, ()))) (x11, (W64 (x3 - 2)), ())) λ s13 => K s13.1))
def Ci5 : Hint := (hS (hR 2) (hS (hR 4) (hS (hS (hR 2) (hC (hS (hR 7) hL) hL)) (hS (hS (hR 2) (hC (hS (hR 6) hL) hL)) (hS (hR 3) (hS (.region (lR 14) (hO 14)) (hJ (0x3fffc0000000202, [(1, tS)]) (hS (hR 3) (.block (.loop 0x3fff00000000202 [(1, tS), (9, tI)] (hS (hS (hR 2) (hC hL hL)) (hS (.block (hR 11)) (hR 3)))))) (hS (hR 2) hL))))))))
theorem Ct8 {a0 : (Unit)} {a1 : Sl} {a2 : Int} {K : Sl -> Wp} {w : World} (h : F197 a0 a1 a2 K w) : Ac Tryz.prog 197 #[(vA Az3 a0), a1.v, (vI a2)] rS K w := tied Ai Tryz.func197 Ci5 _ h
def F198 (a0 : (Unit)) (a1 : Int) (K : Int -> Wp) : Wp := Af (.cells #[] 163) λ b1 => jB (λ J2 => sif (decide (a1 < (-256))) ( J2 (true, ())) ( sif (decide (a1 > (-129))) ( sif (decide (a1 < 0)) ( J2 (true, ())) ( sif (decide (a1 > 1114111)) ( J2 (true, ())) ( sif (decide (a1 >= 55296)) ( J2 ((decide (a1 <= 57343)), ())) ( J2 (false, ()))))) ( sif (decide (a1 > 1114111)) ( J2 (true, ())) ( sif (decide (a1 >= 55296)) ( J2 ((decide (a1 <= 57343)), ())) ( J2 (false, ())))))) λ s3 => sif s3.1 ( K 0) ( sif (decide (a1 < 128)) ( K 1) ( sif (decide (a1 < 2048)) ( K 2) ( sif (decide (a1 < 65536)) ( K 3) ( K 4))))
def Ci4 : Hint := (hS (hR 2) (hS (.block (hJ (0xfffffe0, [(5, tB)]) (.region [] (.ops 3 (.split 8 (.skips 6 (.ops 2 (.skips 2 (.ops 2 (.skips 6 (hO 2)))))) (.ops 3 (.split 11 (.ops 5 (.split 16 (.skips 2 (.ops 2 (.skips 6 (hO 2)))) (.ops 4 (.split 20 (.skips 6 (hO 2)) (.ops 3 (.split 23 (hO 5) (.skips 2 (hO 3)))))))) (.skips 2 (.ops 7 (.split 20 (.skips 6 (hO 2)) (.ops 3 (.split 23 (hO 5) (.skips 2 (hO 3)))))))))))) (hC (hS (hR 1) hL) (hS (hR 3) (hC (hS (hR 1) hL) (hS (hR 3) (hC (hS (hR 1) hL) (hS (hR 3) (hC (hS (hR 1) hL) hL))))))))) (hS (hR 1) hL)))
theorem Ct7 {a0 : (Unit)} {a1 : Int} {K : Int -> Wp} {w : World} (h : F198 a0 a1 K w) : Ac Tryz.prog 198 #[(vA Az3 a0), (vI a1)] rI K w := tied Ai Tryz.func198 Ci4 _ h
def F199 (a0 : Sl) (K : (Int × Int × Unit) -> Wp) : Wp := ixl (.int .u8) a0 0 1 λ (x2 : Int) => Ac Tryz.prog 200 #[(.int .u8 x2)] (.tup [(.one cI), (.one (.int .u8)), (.one (.int .u8))]) λ (x3 : I3) => sif (decide (x3.1 < 2)) ( K (x3.1, x3.1, ())) ( jB (λ J4 => sif (decide (((a0.len : Nat) : Int) < 2)) ( J4 (true, ())) ( ixl (.int .u8) a0 1 1 λ (x7 : Int) => sif (decide (x7 < x3.2.1)) ( J4 (true, ())) ( ixl (.int .u8) a0 1 1 λ (x9 : Int) => J4 ((decide (x9 > x3.2.2.1)), ())))) λ s5 => sif s5.1 ( K (1, x3.1, ())) ( jI (λ J10 => sI (λ s12 again13 => jB (λ J14 => sif (decide (s12.1 < x3.1)) ( sif (decide (s12.1 < ((a0.len : Nat) : Int))) ( ixl (.int .u8) a0 s12.1 1 λ (x17 : Int) => J14 (((IntKind.wrap .u8 ((BitVec.toNat (BitVec.ofInt (IntKind.bits .u8) x17 &&& BitVec.ofInt (IntKind.bits .u8) 192) : Nat) : Int)) == 128), ())) ( J14 (false, ()))) ( J14 (false, ()))) λ s15 => sif s15.1 ( again13 ((W64 (s12.1 + 1)), ())) ( J10 (s12.1, ()))) (2, ())) λ s11 => K (s11.1, x3.1, ())))
def Ci3 : Hint := (hS (hR 2) (hS (hR 11) (hS (hS (hR 2) (hC (hS (hR 4) hL) hL)) (hS (hJ (0x1ffff00000, [(36, tB)]) (.region [] (.ops 4 (.split 23 (.skips 5 (.ops 2 (.skips 5 (hO 1)))) (.ops 7 (.split 30 (.skips 5 (hO 1)) (hO 6)))))) (hC (hS (hR 3) hL) hL)) (hS (hR 1) (hJ (0x1ffffc000000080, [(7, tI)]) (.block (.loop 0x1ffffc000000080 [(7, tI)] (hS (hJ ((mR [(38, 55)]), [(54, tB)]) (.region [] (.ops 4 (.split 41 (.ops 6 (.split 47 (hO 7) (.skips 6 (hO 1)))) (.skips 4 (.ops 2 (.skips 6 (hO 1))))))) (hC hL hL)) (.block (hR 3))))) (hS (hR 4) hL)))))))
theorem Ct6 {a0 : Sl} {K : (Int × Int × Unit) -> Wp} {w : World} (h : F199 a0 K w) : Ac Tryz.prog 199 #[a0.v] (.tup [(.one cI), (.one cI)]) K w := tied Ai Tryz.func199 Ci3 _ h
def F200 (a0 : Int) (K : I3 -> Wp) : Wp := sif (decide (a0 < 128)) ( K (1, 0, 0, ())) ( sif (decide (a0 < 194)) ( K (0, 0, 0, ())) ( sif (decide (a0 < 224)) ( K (2, 128, 191, ())) ( sif (a0 == 224) ( K (3, 160, 191, ())) ( sif (a0 == 237) ( K (3, 128, 159, ())) ( sif (decide (a0 < 240)) ( K (3, 128, 191, ())) ( sif (a0 == 240) ( K (4, 144, 191, ())) ( sif (decide (a0 < 244)) ( K (4, 128, 191, ())) ( sif (a0 == 244) ( K (4, 128, 143, ())) ( K (0, 0, 0, ()))))))))))
def Ci2 : Hint := (hS (hR 3) (hS (.block (hS (hR 3) (hC (hS (hR 3) hL) (hS (hR 3) (hC (hS (hR 3) hL) (hS (hR 3) (hC (hS (hR 3) hL) (hS (hR 3) (hC (hS (hR 3) hL) (hS (hR 3) (hC (hS (hR 3) hL) (hS (hR 3) (hC (hS (hR 3) hL) (hS (hR 3) (hC (hS (hR 3) hL) (hS (hR 3) (hC (hS (hR 3) hL) (hS (hR 3) (hC (hS (hR 3) hL) hL))))))))))))))))))) (hS (hR 3) hL)))
theorem Ct5 {a0 : Int} {K : I3 -> Wp} {w : World} (h : F200 a0 K w) : Ac Tryz.prog 200 #[(.int .u8 a0)] (.tup [(.one cI), (.one (.int .u8)), (.one (.int .u8))]) K w := tied Ai Tryz.func200 Ci2 _ h
def F201 (a0 : (Int × Unit)) (a1 : Sl) (K : (Int × Int × Unit) -> Wp) : Wp := Af (.cells #[(vI a0.1)] 165) λ b1 => sif (((a1.len : Nat) : Int) == 1) ( ixl (.int .u8) a1 0 1 λ (x3 : Int) => K ((W64 ((-1) - (W64 x3))), 1, ())) ( lds Sj (at0 b1) λ (x4 : (Int × Unit)) => cN 206 #[(vA Sj x4), a1.v] λ x5 => jU (λ J6 => jB (λ J8 => cB 207 #[(vI x5)] λ x10 => sif x10 ( J8 ((decide (((a1.len : Nat) : Int) >= 4)), ())) ( J8 (false, ()))) λ s9 => sif s9.1 ( drew <| lds Sj (at0 b1) λ (x11 : (Int × Unit)) => slc a1.a 2 ((a1.len : Nat) : Int) ((a1.cap : Nat) : Int) a1.cap 1 λ x12 => cN 206 #[(vA Sj x11), x12.v] λ x13 => cB 208 #[(vI x13)] λ x14 => sif x14 ( chk (0 <= (10 : Int)) <| K ((W64 ((W64 (65536 + (W64 ((W64 ((BitVec.toNat (BitVec.ofInt (IntKind.bits .i64) x5 &&& BitVec.ofInt (IntKind.bits .i64) 1023) : Nat) : Int)) * 2 ^ (min (Int.toNat 10) (IntKind.bits .i64)))))) + (W64 ((BitVec.toNat (BitVec.ofInt (IntKind.bits .i64) x13 &&& BitVec.ofInt (IntKind.bits .i64) 1023) : Nat) : Int)))), 4, ())) ( J6 ())) ( J6 ())) λ s7 => K (x5, 2, ()))
def Ci1 : Hint := (hS (hR 3) (hS (hS (hR 3) (hC (hS (hR 7) hL) hL)) (hS (hR 4) (hJ (0x7ffff800b0, []) (hJ (66584576, [(25, tB)]) (.region [] (.ops 3 (.split 21 (hO 4) (.skips 3 (hO 1))))) (hC (hS (.region (lR 5) (hO 5)) (hS (hR 2) (hC (hS (hR 9) hL) hL))) hL)) (hS (hR 3) hL)))))
theorem Ct4 {a0 : (Int × Unit)} {a1 : Sl} {K : (Int × Int × Unit) -> Wp} {w : World} (h : F201 a0 a1 K w) : Ac Tryz.prog 201 #[(vA Sj a0), a1.v] (.tup [(.one cI), (.one cI)]) K w := tied Ai Tryz.func201 Ci1 _ h
def F204 (a0 : (Int × Unit)) (a1 : Sl) (a2 : Int) (K : Sl -> Wp) : Wp := Af (.cells #[(vI a0.1)] 165) λ b1 => sif (decide (a2 < 0)) ( Af (.cells #[(.int .u8 (IntKind.wrap .u8 (W64 ((-1) - a2))))] 5) λ b2 => Df Tryz.prog rS (Builtin.append_ #[22, 22] 22 #[a1.v, (.slice (some (at0 b2)) 1 1)]) λ (x3 : Sl) => K x3) ( sif (decide (a2 < 65536)) ( lds Sj (at0 b1) λ (x4 : (Int × Unit)) => cS 209 #[(vA Sj x4), a1.v, (vI a2)] λ x5 => K x5) ( drew <| lds Sj (at0 b1) λ (x6 : (Int × Unit)) => lds Sj (at0 b1) λ (x7 : (Int × Unit)) => chk (0 <= (10 : Int)) <| cS 209 #[(vA Sj x7), a1.v, (vI (W64 ((BitVec.toNat (BitVec.ofInt (IntKind.bits .i64) 55296 ||| BitVec.ofInt (IntKind.bits .i64) (Int.fdiv (W64 (a2 - 65536)) (2 ^ (min (Int.toNat 10) (IntKind.bits .i64))))) : Nat) : Int)))] λ x8 => keep (λ w => Ak w (at0 b1) 0 (Cells.vals Sj x6)) <| cS 209 #[(vA Sj x6), x8.v, (vI (W64 ((BitVec.toNat (BitVec.ofInt (IntKind.bits .i64) 56320 ||| BitVec.ofInt (IntKind.bits .i64) (W64 ((BitVec.toNat (BitVec.ofInt (IntKind.bits .i64) a2 &&& BitVec.ofInt (IntKind.bits .i64) 1023) : Nat) : Int))) : Nat) : Int)))] λ x9 => K x9))
def Ci0 : Hint := (hS (hR 2) (hS (.block (hS (hR 3) (hC (hS (hR 7) hL) (hS (hR 3) (hC (hS (hR 5) hL) hL))))) (hS (.region [0, 1, 2, 3, 4, 5, 6, 8, 9, 10, 7, 11, 12] (hO 13)) hL)))
theorem Ct3 {a0 : (Int × Unit)} {a1 : Sl} {a2 : Int} {K : Sl -> Wp} {w : World} (h : F204 a0 a1 a2 K w) : Ac Tryz.prog 204 #[(vA Sj a0), a1.v, (vI a2)] rS K w := tied Ai Tryz.func204 Ci0 _ h
def F205 (a0 : (Int × Unit)) (a1 : Int) (K : Int -> Wp) : Wp := Af (.cells #[(vI a0.1)] 165) λ b1 => jB (λ J2 => sif (decide (a1 < (-256))) ( J2 (true, ())) ( J2 ((decide (a1 > 1114111)), ()))) λ s3 => sif s3.1 ( K 0) ( sif (decide (a1 < 0)) ( K 1) ( sif (decide (a1 < 65536)) ( K 2) ( K 4)))
def Ch9 : Hint := (hS (hR 2) (hS (.block (hJ (4064, [(5, tB)]) (.region [] (.ops 3 (.split 8 (.skips 2 (hO 2)) (hO 4)))) (hC (hS (hR 1) hL) (hS (hR 3) (hC (hS (hR 1) hL) (hS (hR 3) (hC (hS (hR 1) hL) hL))))))) (hS (hR 1) hL)))
theorem Ct2 {a0 : (Int × Unit)} {a1 : Int} {K : Int -> Wp} {w : World} (h : F205 a0 a1 K w) : Ac Tryz.prog 205 #[(vA Sj a0), (vI a1)] rI K w := tied Ai Tryz.func205 Ch9 _ h
def F206 (a0 : (Int × Unit)) (a1 : Sl) (K : Int -> Wp) : Wp := Af (.cells #[(vI a0.1)] 165) λ b1 => drew <| lI (at0 b1) λ x2 => ixl (.int .u8) a1 x2 1 λ (x4 : Int) => lI (at0 b1) λ x5 => ixl (.int .u8) a1 (W64 (1 - x5)) 1 λ (x7 : Int) => chk (0 <= (8 : Int)) <| K (W64 ((BitVec.toNat (BitVec.ofInt (IntKind.bits .i64) (W64 x4) ||| BitVec.ofInt (IntKind.bits .i64) (W64 ((W64 x7) * 2 ^ (min (Int.toNat 8) (IntKind.bits .i64))))) : Nat) : Int))
def Ch8 : Hint := (hS (hR 2) (hS (.region (lR 16) (hO 16)) hL))
theorem Ct1 {a0 : (Int × Unit)} {a1 : Sl} {K : Int -> Wp} {w : World} (h : F206 a0 a1 K w) : Ac Tryz.prog 206 #[(vA Sj a0), a1.v] rI K w := tied Ai Tryz.func206 Ch8 _ h
def F207 (a0 : Int) (K : Bool -> Wp) : Wp := K ((W64 ((BitVec.toNat (BitVec.ofInt (IntKind.bits .i64) a0 &&& ~~~(BitVec.ofInt (IntKind.bits .i64) 1023)) : Nat) : Int)) == 55296)
def Ch0 : Hint := (hS (hR 1) (hS (hR 4) hL))
theorem Ct0 {a0 : Int} {K : Bool -> Wp} {w : World} (h : F207 a0 K w) : Ac Tryz.prog 207 #[(vI a0)] rB K w := tied Ai Tryz.func207 Ch0 _ h
def F208 (a0 : Int) (K : Bool -> Wp) : Wp := K ((W64 ((BitVec.toNat (BitVec.ofInt (IntKind.bits .i64) a0 &&& ~~~(BitVec.ofInt (IntKind.bits .i64) 1023)) : Nat) : Int)) == 56320)
def Cg9 : Hint := (hS (hR 1) (hS (hR 4) hL))
theorem Cs9 {a0 : Int} {K : Bool -> Wp} {w : World} (h : F208 a0 K w) : Ac Tryz.prog 208 #[(vI a0)] rB K w := tied Ai Tryz.func208 Cg9 _ h
def F209 (a0 : (Int × Unit)) (a1 : Sl) (a2 : Int) (K : Sl -> Wp) : Wp := Af (.cells #[(vI a0.1)] 165) λ b1 => Af (.cells #[(.int .u8 0), (.int .u8 0)] 227) λ b2 => drew <| lI (at0 b1) λ x3 => lI (at0 b1) λ x4 => chk (0 <= (8 : Int)) <| chk (0 <= x3 /\ x3 < ((2 : Nat) : Int)) <| stC ((at0 b2).add (scaled (Int.toNat x3) 1)) (.int .u8 (IntKind.wrap .u8 a2)) <| keep (λ w => w.cell? (at0 b1) = some (Cell.val cI x4)) <| chk (0 <= (W64 (1 - x4)) /\ (W64 (1 - x4)) < ((2 : Nat) : Int)) <| stC ((at0 b2).add (scaled (Int.toNat (W64 (1 - x4))) 1)) (.int .u8 (IntKind.wrap .u8 (Int.fdiv a2 (2 ^ (min (Int.toNat 8) (IntKind.bits .i64)))))) <| slc (some (at0 b2)) 0 ((2 : Nat) : Int) ((2 : Nat) : Int) 2 1 λ x5 => Df Tryz.prog rS (Builtin.append_ #[22, 22] 22 #[a1.v, x5.v]) λ (x6 : Sl) => K x6
def Cg8 : Hint := (hS (hR 2) (hS (hR 1) (hS (.region (lR 14) (hO 14)) (hS (hR 4) hL))))
theorem Cs8 {a0 : (Int × Unit)} {a1 : Sl} {a2 : Int} {K : Sl -> Wp} {w : World} (h : F209 a0 a1 a2 K w) : Ac Tryz.prog 209 #[(vA Sj a0), a1.v, (vI a2)] rS K w := tied Ai Tryz.func209 Cg8 _ h
def F210 (a0 : (Unit)) (a1 : Sl) (K : (Int × Int × Unit) -> Wp) : Wp := Af (.cells #[] 166) λ b1 => ixl (.int .u8) a1 0 1 λ (x3 : Int) => K ((W64 x3), 1, ())
def Cg7 : Hint := (hS (hR 3) (hS (hR 6) hL))
theorem Cs7 {a0 : (Unit)} {a1 : Sl} {K : (Int × Int × Unit) -> Wp} {w : World} (h : F210 a0 a1 K w) : Ac Tryz.prog 210 #[(vA Bq8 a0), a1.v] (.tup [(.one cI), (.one cI)]) K w := tied Ai Tryz.func210 Cg7 _ h
def F213 (a0 : (Unit)) (a1 : Sl) (a2 : Int) (K : Sl -> Wp) : Wp := Af (.cells #[] 166) λ b1 => Af (.cells #[(.int .u8 (IntKind.wrap .u8 a2))] 5) λ b2 => Df Tryz.prog rS (Builtin.append_ #[22, 22] 22 #[a1.v, (.slice (some (at0 b2)) 1 1)]) λ (x3 : Sl) => K x3
def Cg6 : Hint := (hS (hR 2) (hS (hR 6) hL))
theorem Cs6 {a0 : (Unit)} {a1 : Sl} {a2 : Int} {K : Sl -> Wp} {w : World} (h : F213 a0 a1 a2 K w) : Ac Tryz.prog 213 #[(vA Bq8 a0), a1.v, (vI a2)] rS K w := tied Ai Tryz.func213 Cg6 _ h
def F214 (a0 : (Unit)) (a1 : Int) (K : Int -> Wp) : Wp := Af (.cells #[] 166) λ b1 => jB (λ J2 => sif (decide (a1 < 0)) ( J2 (true, ())) ( J2 ((decide (a1 > 255)), ()))) λ s3 => sif s3.1 ( K 0) ( K 1)
def Cg5 : Hint := (hS (hR 2) (hS (hJ (2016, [(10, tB)]) (.region [] (.ops 3 (.split 7 (.skips 2 (hO 1)) (hO 3)))) (hC (hS (hR 1) hL) hL)) (hS (hR 1) hL)))
theorem Cs5 {a0 : (Unit)} {a1 : Int} {K : Int -> Wp} {w : World} (h : F214 a0 a1 K w) : Ac Tryz.prog 214 #[(vA Bq8 a0), (vI a1)] rI K w := tied Ai Tryz.func214 Cg5 _ h
end Go.Proofs.YtabcpghhfeplaaaGreat
namespace Go.Proofs.YtabcpghhfeplaaaGreat
open Go Go.Vx Cdc
section
variable {w w' : World}
theorem func_x {g : FuncId} {caps args : Array Value} {t : RTy} {K : t.T -> Wp} (hf : ((Tryz.prog.funcs[g]?).map λ fn => (fn.body.isNone, fn.name == "runtime.NumGoroutine")) = some (false, false)) (h : Ac Tryz.prog g (args ++ caps) t K w) :
  Bf Tryz.prog (do let d ← Deferred.ofValue (.func (.func g) #[] caps) args; invoke d.target d.args : Sem Next) t K w := by
 refine .inl ⟨g, args ++ caps, ?_, h⟩
 have := Fv (P := Tryz.prog) (f := g) (args := args ++ caps) hf w
 simp only [Deferred.ofValue, pure_bind, invoke]
 have e : (#[] ++ args ++ caps : Array Value) = args ++ caps := by simp
 first
  | exact this
  | (rw [e]; exact this)
theorem Ph {ty : TypeId} {v v' : Value} {name : String} {f : FuncId} {a : Value} {t : RTy} {K : t.T -> Wp} (hm : ∀ w, (Go.method (Tryz.prog.types.size + Made.depth) ty v name).run Tryz.prog w = .ok (f, v') w)
  (hf : ((Tryz.prog.funcs[f]?).map λ fn => (fn.body.isNone, fn.name == "runtime.NumGoroutine")) = some (false, false)) (h : Ac Tryz.prog f #[v', a] t K w) :
  Bf Tryz.prog (invoke (.fn (.method name) #[]) (#[.iface ty v] ++ #[a])) t K w := by
 refine .inl ⟨f, #[v', a], ?_, h⟩
 have h := Fv (P := Tryz.prog) (f := f) (args := #[v', a]) hf w
 have e : invoke (.fn (.method name) #[]) (#[.iface ty v] ++ #[a]) = callMethod (.iface ty v) name #[a] := rfl
 rw [e]
 simp only [callMethod, Sem.run_bind, program, Sem.run, Result.andThen_ok, hm]
 exact h
theorem P7 {ty : TypeId} {v v' : Value} {name : String} {f : FuncId} {a b : Value} {t : RTy} {K : t.T -> Wp} (hm : ∀ w, (Go.method (Tryz.prog.types.size + Made.depth) ty v name).run Tryz.prog w = .ok (f, v') w)
  (hf : ((Tryz.prog.funcs[f]?).map λ fn => (fn.body.isNone, fn.name == "runtime.NumGoroutine")) = some (false, false)) (h : Ac Tryz.prog f #[v', a, b] t K w) :
  Bf Tryz.prog (invoke (.fn (.method name) #[]) (#[.iface ty v] ++ #[a, b])) t K w := by
 refine .inl ⟨f, #[v', a, b], ?_, h⟩
 have h := Fv (P := Tryz.prog) (f := f) (args := #[v', a, b]) hf w
 have e : invoke (.fn (.method name) #[]) (#[.iface ty v] ++ #[a, b]) = callMethod (.iface ty v) name #[a, b] := rfl
 rw [e]
 simp only [callMethod, Sem.run_bind, program, Sem.run, Result.andThen_ok, hm]
 exact h
abbrev By (w : World) (s : Sl) (l : Bs) : Prop := Aq w s 5 1 (bv l)
theorem By.len {s : Sl} {l : Bs} (h : By w s l) : l.length = s.len := by have := h.len1; rwa [List.length_map] at this
theorem Br0 (l : Bs) : bv l = (l.map λ b => (b.toNat : Int)).map (Cell.int .u8).val := by
 rw [List.map_map]; rfl
theorem Hg {s : Sl} {l : Bs} {n : Int} {K : Addr -> Int -> Wp} (h : By w s l) (h0 : 0 <= n) {b : UInt8} (hb : l[n.toNat]? = some b) (hK : ∀ p, K p (b.toNat : Int) w) :
  ix s.a s.len n (λ p => ld (.int .u8) (p.add (scaled (Int.toNat n) 1)) (K p)) w := by
 have h' : Aq w s 5 1 ((l.map λ b => (b.toNat : Int)).map (Cell.int .u8).val) := by rw [← Br0]; exact h
 exact Iu h' h0 (x := (b.toNat : Int)) (by rw [List.getElem?_map, hb]; rfl) hK
theorem Bv9 (l : Bs) (n : Nat) : (bv l).drop n = bv (l.drop n) := by simp [bv]
theorem Bv8 (l : Bs) (n : Nat) : (bv l).take n = bv (l.take n) := by simp [bv]
theorem Ah8 {s : Sl} {l : Bs} {a b m : Int} {K : Sl -> Wp} (hs : By w s l) (h0 : 0 <= a) (h1 : a <= b) (h2 : b <= s.len) (h3 : b <= m) (h4 : m <= s.cap)
  (hK : ∀ s', By w s' ((l.drop a.toNat).take (b.toNat - a.toNat)) -> s'.len = b.toNat - a.toNat -> (∀ k, s'.blk k -> s.blk k) -> K s' w) : slc s.a a b m s.cap 1 K w :=
 Xl hs h0 h1 h2 h3 h4 λ s' hs' hl _ hb => hK s' (by
  rw [Nat.mul_one, Nat.mul_one, Bv9, Bv8] at hs'; exact hs') hl hb
theorem Ar7 {c : UInt8} {K : Int × Int × Int × Unit -> Wp} (hK : K (((Eo c.toNat).1 : Nat), ((Eo c.toNat).2.1 : Nat), ((Eo c.toNat).2.2 : Nat), ()) w) :
  Ac Tryz.prog 200 #[.int .u8 (c.toNat : Int)] (.tup [(.one (.int .i64)), (.one (.int .u8)), (.one (.int .u8))]) K w := by
 refine Ct5 ?_
 unfold F200
 have hlt := c.toNat_lt
 unfold Eo at hK
 repeat' refine Aa (λ h => ?_) (λ h => ?_)
 all_goals simp only [decide_eq_true_eq, decide_eq_false_iff_not, beq_iff_eq, beq_eq_false_iff_ne] at *
 all_goals
  repeat rw [if_pos (by omega)] at hK
  repeat rw [if_neg (by omega)] at hK
  repeat rw [if_pos (by omega)] at hK
  exact hK
theorem Ae9 {c : UInt8} : ∀ {m : Nat} {r : Bs} {j : Nat}, j <= more m r -> (j < m /\ r[j]? = some c /\ cont c = true -> j < more m r)
 | 0, r, j, _ => λ h => absurd h.1 (by omega)
 | m + 1, [], j, _ => λ h => by simp at h
 | m + 1, b :: r, 0, _ => λ h => by
  simp at h
  simp [more, h]
 | m + 1, b :: r, j + 1, hj => λ h => by
  simp only [more] at hj ⊢
  split at hj
  ·rename_i hb
   rw [if_pos hb]
   have := Ae9 (c := c) (m := m) (r := r) (j := j) (by omega) ⟨by omega, by simpa using h.2.1, h.2.2⟩
   omega
  ·omega
theorem Af0 : ∀ {m : Nat} {r : Bs} {j : Nat}, j < more m r -> ∃ c, r[j]? = some c /\ cont c = true
 | 0, r, j, h => by cases r <;> simp [more] at h
 | m + 1, [], j, h => by simp [more] at h
 | m + 1, b :: r, 0, h => by
  simp only [more] at h
  split at h
  ·rename_i hb; exact ⟨b, rfl, hb⟩
  ·omega
 | m + 1, b :: r, j + 1, h => by
  simp only [more] at h
  split at h
  ·obtain ⟨c, hc⟩ := Af0 (m := m) (r := r) (j := j) (by omega)
   exact ⟨c, by simpa using hc⟩
  ·omega
theorem Bj1 : ∀ c : UInt8, ((IntKind.wrap .u8 ((BitVec.toNat (BitVec.ofInt (IntKind.bits .u8) (c.toNat : Int) &&& BitVec.ofInt (IntKind.bits .u8) (192 : Int)) : Nat) : Int)) == (128 : Int)) = cont c := by
 intro c
 have h : ∀ n : Fin 256, ((IntKind.wrap .u8 ((BitVec.toNat (BitVec.ofInt (IntKind.bits .u8) (n.val : Int) &&& BitVec.ofInt (IntKind.bits .u8) (192 : Int)) : Nat) : Int)) == (128 : Int)) = (n.val / 64 == 2) := by decide +kernel
 exact h ⟨c.toNat, c.toNat_lt⟩
theorem Bm3 {s : Sl} {b : UInt8} {r : Bs} (hB : By w s (b :: r)) {K : Int × Int × Unit -> Wp} (hK : K (((rowOf (b :: r)).1 : Nat), ((rowOf (b :: r)).2 : Nat), ()) w) :
  Ac Tryz.prog 199 #[s.v] (.tup [(.one (.int .i64)), (.one (.int .i64))]) K w := by
 refine Ct6 ?_
 unfold F199
 have hlen : r.length + 1 = s.len := hB.len
 refine Hg hB (by decide) (b := b) rfl λ p => Ar7 ?_
 have h4 := Al0 b.toNat
 have hbr := Jy b r
 refine Aa (λ h => ?_) (λ h => ?_)
 ·simp only [decide_eq_true_eq] at h
  have h2 : (Eo b.toNat).1 < 2 := by omega
  simp only [rowOf, if_pos h2] at hK
  exact hK
 simp only [decide_eq_false_iff_not] at h
 have h2 : ¬ (Eo b.toNat).1 < 2 := by omega
 cases r with
 | nil =>
  simp only [rowOf, if_neg h2] at hK
  have : s.len = 1 := by simpa using hlen.symm
  refine Ae (λ x w' => x = (true, ()) /\ w = w') (Aa (λ _ => ⟨rfl, rfl⟩) (λ h => ?_)) ?_
  ·simp only [decide_eq_false_iff_not] at h; omega
  ·rintro _ w' ⟨rfl, rfl⟩
   exact Cm hK
 | cons c r =>
  have hl2 : r.length + 2 = s.len := by simpa using hlen
  refine Ae (λ x w' => x = (decide (c.toNat < (Eo b.toNat).2.1 \/ (Eo b.toNat).2.2 < c.toNat), ()) /\ w = w') (Aa (λ h => ?_) (λ _ => ?_)) ?_
  ·simp only [decide_eq_true_eq] at h; omega
  ·refine Hg hB (by decide) (b := c) rfl λ p => Aa (λ h => ?_) (λ h => Hg hB (by decide) (b := c) rfl λ p => ?_)
   ·simp only [decide_eq_true_eq] at h
    exact ⟨by rw [decide_eq_true (by omega)], rfl⟩
   ·simp only [decide_eq_false_iff_not] at h
    refine ⟨Aj ?_, rfl⟩
    simp only [decide_eq_true_eq]
    omega
  ·rintro _ w' ⟨rfl, rfl⟩
   refine Aa (λ h => ?_) (λ h => ?_)
   ·simp only [decide_eq_true_eq] at h
    simp only [rowOf, if_neg h2, if_pos h] at hK
    exact hK
   ·simp only [decide_eq_false_iff_not] at h
    simp only [rowOf, if_neg h2, if_neg h] at hK
    generalize hm : (Eo b.toNat).1 - 2 = m at hK
    have hn : (Eo b.toNat).1 = m + 2 := by omega
    rw [hn] at hK ⊢
    refine Ae (λ x w' => x = (((2 + more m r : Nat) : Int), ()) /\ w = w') ?_ ?_
    ·refine Am (λ x w' => (∃ j : Nat, x = (((2 + j : Nat) : Int), ()) /\ j <= more m r) /\ w = w') (λ x _ => (m + 2 - x.1.toNat)) ⟨⟨0, rfl, Nat.zero_le _⟩, rfl⟩ ?_
     rintro _ w' ⟨⟨j, rfl, hj⟩, rfl⟩
     have hmo := Aj6 m r
     refine Ae (λ x w' => x = (decide (j < more m r), ()) /\ w = w') ?_ ?_
     ·refine Aa (λ h => ?_) (λ h => ?_)
      ·simp only [decide_eq_true_eq] at h
       refine Aa (λ h' => ?_) (λ h' => ?_)
       ·simp only [decide_eq_true_eq] at h'
        have hjl : j < r.length := by omega
        have hx : (b :: c :: r)[((2 + j : Nat) : Int).toNat]? = some r[j] := by
         have : ((2 + j : Nat) : Int).toNat = j + 2 := by omega
         rw [this]; simp [hjl]
        refine Hg hB (by omega) hx λ p => ⟨?_, rfl⟩
        rw [Bj1]
        refine Aj ?_
        simp only [decide_eq_true_eq]
        refine ⟨λ hc => Ae9 (c := r[j]) hj ⟨by omega, by simp [hjl], hc⟩, λ hc => ?_⟩
        obtain ⟨c', h1, h2⟩ := Af0 hc
        rw [List.getElem?_eq_getElem hjl] at h1
        cases h1; exact h2
       ·simp only [decide_eq_false_iff_not] at h'
        exact ⟨by rw [decide_eq_false (by omega)], rfl⟩
      ·simp only [decide_eq_false_iff_not] at h
       exact ⟨by rw [decide_eq_false (by omega)], rfl⟩
     ·rintro _ w' ⟨rfl, rfl⟩
      refine Aa (λ h => ?_) (λ h => ?_)
      ·simp only [decide_eq_true_eq] at h
       have e : W64 (((2 + j : Nat) : Int) + 1) = ((2 + (j + 1) : Nat) : Int) := by rw [wrap64 (by omega) (by omega)]; omega
       rw [e]
       exact ⟨⟨⟨j + 1, rfl, h⟩, rfl⟩, by simp only; omega⟩
      ·simp only [decide_eq_false_iff_not] at h
       have : j = more m r := by omega
       exact ⟨by rw [this], rfl⟩
    ·rintro _ w' ⟨rfl, rfl⟩
     exact hK
theorem Bf7 (a : Nat) (l : Bs) (c : UInt8) : rest a (l ++ [c]) = rest a l * 64 + c.toNat % 64 := by simp [rest]
theorem Bb2 : ∀ (l : Bs) (a : Nat), rest a l < (a + 1) * 64 ^ l.length
 | [], a => by simp [rest]
 | c :: l, a => by
  have := Bb2 l (a * 64 + c.toNat % 64)
  have e : rest a (c :: l) = rest (a * 64 + c.toNat % 64) l := rfl
  rw [e, List.length_cons, Nat.pow_succ]
  refine Nat.lt_of_lt_of_le this ?_
  have h : a * 64 + c.toNat % 64 + 1 <= (a + 1) * 64 := by omega
  calc (a * 64 + c.toNat % 64 + 1) * 64 ^ l.length <= (a + 1) * 64 * 64 ^ l.length := Nat.mul_le_mul_right _ h
   _ = (a + 1) * (64 ^ l.length * 64) := by rw [Nat.mul_assoc, Nat.mul_comm 64]
theorem Zi (c : UInt8) (k : Nat) (hk : k <= 8) : W64 ((BitVec.toNat (BitVec.ofInt (IntKind.bits .i64) (W64 (c.toNat : Int)) &&& BitVec.ofInt (IntKind.bits .i64) (2 ^ k - 1)) : Nat) : Int) = ((c.toNat % 2 ^ k : Nat) : Int) := by
 have hc := c.toNat_lt
 rw [wrap64 (a := (c.toNat : Int)) (by omega) (by omega)]
 have h := Zu (b := IntKind.bits .i64) (k := k) (a := (c.toNat : Int)) (m := 2 ^ k - 1) (by omega) (by show (c.toNat : Int) < 2 ^ 64; omega) rfl (by show k <= 64; omega)
 rw [h, Int.natCast_emod]
 have e : ((2 ^ k : Nat) : Int) = (2 : Int) ^ k := by simp
 rw [e]
 have h0 : (0 : Int) < 2 ^ k := Int.pow_pos (by decide)
 have h1 : (c.toNat : Int) % 2 ^ k <= (c.toNat : Int) := by
  rw [← e, ← Int.natCast_emod]
  exact_mod_cast Nat.mod_le _ _
 have h2 := Int.emod_nonneg (c.toNat : Int) (Int.ne_of_gt h0)
 exact wrap64 (by omega) (by omega)
theorem Cd6 (c : UInt8) : W64 ((BitVec.toNat (BitVec.ofInt (IntKind.bits .i64) (W64 (c.toNat : Int)) &&& BitVec.ofInt (IntKind.bits .i64) (31 : Int)) : Nat) : Int) = ((c.toNat % 32 : Nat) : Int) := Zi c 5 (by decide)
theorem Cd7 (c : UInt8) : W64 ((BitVec.toNat (BitVec.ofInt (IntKind.bits .i64) (W64 (c.toNat : Int)) &&& BitVec.ofInt (IntKind.bits .i64) (15 : Int)) : Nat) : Int) = ((c.toNat % 16 : Nat) : Int) := Zi c 4 (by decide)
theorem Cd8 (c : UInt8) : W64 ((BitVec.toNat (BitVec.ofInt (IntKind.bits .i64) (W64 (c.toNat : Int)) &&& BitVec.ofInt (IntKind.bits .i64) (7 : Int)) : Nat) : Int) = ((c.toNat % 8 : Nat) : Int) := Zi c 3 (by decide)
theorem go_bits (a : Nat) (c : UInt8) (ha : a < 2 ^ 40) : W64 ((BitVec.toNat (BitVec.ofInt (IntKind.bits .i64) (W64 ((a : Int) * 2 ^ (min (Int.toNat (6 : Int)) (IntKind.bits .i64)))) ||| BitVec.ofInt (IntKind.bits .i64) (W64 (IntKind.wrap .u8 ((BitVec.toNat (BitVec.ofInt (IntKind.bits .u8) (c.toNat : Int) &&& BitVec.ofInt (IntKind.bits .u8) (63 : Int)) : Nat) : Int)))) : Nat) : Int) = ((a * 64 + c.toNat % 64 : Nat) : Int) := by
 have hc := c.toNat_lt
 have h1 := Zu (b := IntKind.bits .u8) (k := 6) (a := (c.toNat : Int)) (m := 63) (by omega) (by show (c.toNat : Int) < 2 ^ 8; omega) rfl (by decide)
 rw [h1, Vj (by omega) (by omega), wrap64 (a := (c.toNat : Int) % 2 ^ 6) (by omega) (by omega)]
 have e : ((2 : Int) ^ (min (Int.toNat (6 : Int)) (IntKind.bits .i64))) = 2 ^ 6 := rfl
 rw [e, wrap64 (a := (a : Int) * 2 ^ 6) (by omega) (by omega)]
 have h2 := Qd (b := IntKind.bits .i64) (k := 6) (a := (a : Int)) (c := (c.toNat : Int) % 2 ^ 6) (by omega) (by omega) (by omega) (by show _ < (2 : Int) ^ 64; omega)
 rw [h2, wrap64 (by omega) (by omega)]
 omega
theorem Aq1 {s : Sl} {b : UInt8} {r : Bs} (hB : By w s (b :: r)) {K : Int × Int × Unit -> Wp} (hK : ∀ w', Ext w w' -> K ((nx8 (b :: r)).1, ((nx8 (b :: r)).2 : Nat), ()) w') :
  Ac Tryz.prog 194 #[.agg #[], s.v] (.tup [(.one (.int .i64)), (.one (.int .i64))]) K w := by
 refine Ct9 (a0 := ()) ?_
 unfold F194
 have hlen : r.length + 1 = s.len := hB.len
 have hb := b.toNat_lt
 refine Bo λ _ w1 e1 _ _ _ => ?_
 have hB1 : By w1 s (b :: r) := hB.ext e1
 refine Bm3 hB1 ?_
 have hro := X3 b r
 have hrb := Jy b r
 have h4 := Al0 b.toNat
 have hcap := hB.le
 replace hK := hK w1 e1
 simp only [nx8] at hK
 generalize hn : (rowOf (b :: r)).2 = n at *
 generalize hh : (rowOf (b :: r)).1 = h at *
 refine Ae (λ x w' => x = (decide (n = 0 \/ h < n), ()) /\ w1 = w') (Aa (λ hc => ?_) (λ hc => ?_)) ?_
 ·simp only [beq_iff_eq] at hc
  exact ⟨by rw [decide_eq_true (by omega)], rfl⟩
 ·simp only [beq_eq_false_iff_ne] at hc
  refine ⟨Aj ?_, rfl⟩
  simp only [decide_eq_true_eq]; omega
 rintro _ w' ⟨rfl, rfl⟩
 refine Aa (λ hc => ?_) (λ hc => ?_)
 ·simp only [decide_eq_true_eq] at hc
  rw [if_pos hc] at hK
  refine Hg hB1 (by decide) (b := b) rfl λ p => ?_
  rw [wrap64 (a := (b.toNat : Int)) (by omega) (by omega), wrap64 (by omega) (by omega)]
  exact hK
 simp only [decide_eq_false_iff_not] at hc
 rw [if_neg hc] at hK
 refine Hg hB1 (by decide) (b := b) rfl λ p => ?_
 have hlt : lead n b.toNat < 256 := by unfold lead; (repeat' split) <;> omega
 refine Ae (λ x w' => x = (((lead n b.toNat : Nat) : Int), ()) /\ w1 = w') ?_ ?_
 ·unfold lead
  refine Aa (λ hc => ?_) (λ hc => Aa (λ hc => ?_) (λ hc => Aa (λ hc => ?_) (λ hc => ?_)))
  all_goals simp only [beq_iff_eq, beq_eq_false_iff_ne] at *
  ·rw [Cd6, if_pos (by omega)]; exact ⟨rfl, trivial⟩
  ·rw [Cd7, if_neg (by omega), if_pos (by omega)]; exact ⟨rfl, trivial⟩
  ·rw [Cd8, if_neg (by omega), if_neg (by omega), if_pos (by omega)]; exact ⟨rfl, trivial⟩
  ·rw [if_neg (by omega), if_neg (by omega), if_neg (by omega), wrap64 (by omega) (by omega)]; exact ⟨rfl, trivial⟩
 rintro _ w' ⟨rfl, rfl⟩
 simp only
 generalize hld : lead n b.toNat = ld at *
 refine Ae (λ x w' => x = (((rest ld (r.take (n - 1)) : Nat) : Int), ()) /\ w1 = w') ?_ ?_
 ·simp only [List.length_cons] at hro
  refine Ah8 hB1 (by decide) (by omega) (by omega) (by omega) (by omega) λ s' hs' hl' _ => ?_
  have hR : ((b :: r).drop (Int.toNat 1)).take (((n : Nat) : Int).toNat - Int.toNat 1) = r.take (n - 1) := by
   have : ((n : Nat) : Int).toNat - Int.toNat 1 = n - 1 := by omega
   rw [this]; rfl
  rw [hR] at hs'
  generalize hRR : r.take (n - 1) = R at *
  have hRl : R.length = s'.len := hs'.len
  have hR3 : R.length <= 3 := by rw [← hRR, List.length_take]; omega
  refine Am (λ x w' => (∃ i : Nat, x = (((rest ld (R.take i) : Nat) : Int), (i : Int), ()) /\ i <= R.length) /\ w1 = w') (λ x _ => R.length - x.2.1.toNat) ⟨⟨0, by simp [rest], Nat.zero_le _⟩, rfl⟩ ?_
  rintro _ w' ⟨⟨i, rfl, hi⟩, rfl⟩
  refine Aa (λ hc => ?_) (λ hc => ?_)
  ·simp only [decide_eq_true_eq] at hc
   have hiR : i < R.length := by omega
   refine Hg hs' (by simp only; omega) (b := R[i]) (by simp [hiR]) λ p => Ci (by decide) ?_
   have hlt2 := Bb2 (R.take i) ld
   have hb2 : rest ld (R.take i) < 2 ^ 40 := by
    refine Nat.lt_of_lt_of_le hlt2 ?_
    have h1 : 64 ^ (R.take i).length <= 64 ^ 3 := Nat.pow_le_pow_right (by decide) (by rw [List.length_take]; omega)
    calc (ld + 1) * 64 ^ (R.take i).length <= 256 * 64 ^ 3 := Nat.mul_le_mul (by omega) h1
     _ <= 2 ^ 40 := by decide
   dsimp only
   rw [go_bits _ _ hb2]
   have e : rest ld (R.take i) * 64 + R[i].toNat % 64 = rest ld (R.take (i + 1)) := by
    rw [← Bf7, List.take_append_getElem]
   rw [e, wrap64 (by omega) (by omega)]
   exact ⟨⟨⟨i + 1, rfl, hiR⟩, rfl⟩, by omega⟩
  ·simp only [decide_eq_false_iff_not] at hc
   have : i = R.length := by omega
   subst this
   rw [List.take_length]
   exact ⟨rfl, rfl⟩
 rintro _ w' ⟨rfl, rfl⟩
 exact hK
end
end Go.Proofs.YtabcpghhfeplaaaGreat
namespace Go.Proofs.YtabcpghhfeplaaaGreat
open Go Go.Vx Trx
section
variable {w w' : World}
def smT (s : Ce) : Cells.T Ap := ((s.atoms : Int), (s.bytes : Int), (s.breaks : Int), s.lf, s.cr, ())
def pcT (x : Pc) : Cells.T Ag := (x.bytes, x.tag, (x.sm.atoms : Int), (x.sm.bytes : Int), (x.sm.breaks : Int), x.sm.lf, x.sm.cr, ())
abbrev smV (s : Ce) : Value := .agg (Cells.vals Ap (smT s)).toArray
abbrev pcV (x : Pc) : Value := .agg (Cells.vals Ag (pcT x)).toArray
theorem Bt9 {ty : TypeId} {v v' : Value} {name : String} {f : FuncId} {t : RTy} {K : t.T -> Wp} (hm : ∀ w, (Go.method (Tryz.prog.types.size + Made.depth) ty v name).run Tryz.prog w = .ok (f, v') w)
  (hf : ((Tryz.prog.funcs[f]?).map λ fn => (fn.body.isNone, fn.name == "runtime.NumGoroutine")) = some (false, false)) (h : Ac Tryz.prog f #[v'] t K w) :
  Bf Tryz.prog (invoke (.fn (.method name) #[]) (#[.iface ty v] ++ #[])) t K w := by
 refine .inl ⟨f, #[v'], ?_, h⟩
 have h := Fv (P := Tryz.prog) (f := f) (args := #[v']) hf w
 have e : invoke (.fn (.method name) #[]) (#[.iface ty v] ++ #[]) = callMethod (.iface ty v) name #[] := rfl
 rw [e]
 simp only [callMethod, Sem.run_bind, program, Sem.run, Result.andThen_ok, hm]
 exact h
theorem Yu {s o : Ce} (hs : s.Ok) (ho : o.Ok) (hb : s.bytes + o.bytes < 2 ^ 60) {K : Cells.T Ap -> Wp} (hK : ∀ w', Ext w w' -> K (smT (s.add o)) w') :
  Ac Tryz.prog 86 #[smV s, smV o] (.one (.agg Ap)) K w := by
 have h1 := hs.byt; have h2 := hs.brk; have h3 := ho.byt; have h4 := ho.brk
 refine A86 (a0 := smT s) (a1 := smT o) ?_
 unfold F86
 refine (St.start w).Af λ b1 w1 S1 e1 => S1.Af λ b2 w2 S2 e2 => S2.Af λ b3 w3 S3 e3 => ?_
 refine S3.ld 2 rfl (x := ((s.atoms : Nat) : Int)) rfl ?_
 refine Aa (λ h => ?_) (λ h => ?_)
 ·have h0 : s.atoms = 0 := by simp only [beq_iff_eq] at h; omega
  refine S3.lds 1 (smT o) rfl (S3.Ad 0 rfl rfl rfl rfl λ w4 S4 u4 => S4.lds 0 (smT o) rfl ?_)
  have := hK w4 S4.upd
  rwa [show s.add o = o by unfold Ce.add; rw [if_pos h0]] at this
 have h0 : ¬ s.atoms = 0 := by simp only [beq_eq_false_iff_ne] at h; omega
 refine S3.ld 1 rfl (x := ((o.atoms : Nat) : Int)) rfl (Aa (λ h => ?_) (λ h => ?_))
 ·have h0' : o.atoms = 0 := by simp only [beq_iff_eq] at h; omega
  refine S3.lds 2 (smT s) rfl (S3.Ad 0 rfl rfl rfl rfl λ w4 S4 u4 => S4.lds 0 (smT s) rfl ?_)
  have := hK w4 S4.upd
  rwa [show s.add o = s by unfold Ce.add; rw [if_neg h0, if_pos h0']] at this
 have h0' : ¬ o.atoms = 0 := by simp only [beq_eq_false_iff_ne] at h; omega
 refine S3.ld 2 rfl (x := ((s.atoms : Nat) : Int)) rfl (S3.ld 1 rfl (x := ((o.atoms : Nat) : Int)) rfl (S3.ld 2 rfl (x := ((s.bytes : Nat) : Int)) rfl (S3.ld 1 rfl (x := ((o.bytes : Nat) : Int)) rfl
  (S3.ld 2 rfl (x := ((s.breaks : Nat) : Int)) rfl (S3.ld 1 rfl (x := ((o.breaks : Nat) : Int)) rfl (S3.ld 2 rfl (x := s.lf) rfl (S3.ld 1 rfl (x := o.cr) rfl ?_)))))))
 rw [wrap64 (a := ((s.atoms : Nat) : Int) + ((o.atoms : Nat) : Int)) (by omega) (by omega), wrap64 (a := ((s.bytes : Nat) : Int) + ((o.bytes : Nat) : Int)) (by omega) (by omega), wrap64 (a := ((s.breaks : Nat) : Int) + ((o.breaks : Nat) : Int)) (by omega) (by omega)]
 refine S3.Wy rfl rfl rfl λ b4 w4 S4 e4 => ?_
 refine Ae (λ _ w' => St (λ _ => False) w w' [(b4, .cells (Cells.vals Ap (smT (s.add o))).toArray 110 (0, 0)), (b3, .cells #[(.int .i64 0), (.int .i64 0), (.int .i64 0), (.bool false), (.bool false)] 110 (0, 0))]) ?_ ?_
 ·refine Ae (λ x w' => x = (s.cr && o.lf, ()) /\ w4 = w') (S4.ld 3 rfl (x := s.cr) rfl (Aa (λ h => S4.ld 2 rfl (x := o.lf) rfl ⟨by rw [h]; rfl, rfl⟩) (λ h => ⟨by rw [h]; rfl, rfl⟩))) ?_
  rintro _ w' ⟨rfl, rfl⟩
  have lf := hs.cr; have lf' := ho.lf
  refine Aa (λ h => ?_) (λ h => ?_)
  ·have h' : (s.cr && o.lf) = true := h
   simp only [Bool.and_eq_true] at h'
   have := lf h'.1; have := lf' h'.2
   refine S4.ld 0 rfl (x := ((s.breaks : Nat) : Int) + ((o.breaks : Nat) : Int)) rfl ?_
   rw [wrap64 (by omega) (by omega)]
   refine S4.stC 0 rfl (by simp) λ w5 S5 u5 => ?_
   have e : s.add o = ⟨s.atoms + o.atoms, s.bytes + o.bytes, s.breaks + o.breaks - 1, s.lf, o.cr⟩ := by unfold Ce.add; rw [if_neg h0, if_neg h0', if_pos h]
   rw [e]
   have e2 : ((s.breaks : Nat) : Int) + ((o.breaks : Nat) : Int) - 1 = ((s.breaks + o.breaks - 1 : Nat) : Int) := by omega
   rw [e2] at S5
   exact ⟨S5.upd, S5.old, λ x hx => S5.loc x (by
    rcases List.mem_cons.1 hx with rfl | hx
    ·exact List.mem_cons_self
    ·rw [List.mem_singleton.1 hx]; exact List.mem_cons_of_mem _ List.mem_cons_self), by
    have := S5.nd
    simp at this ⊢
    exact this.1.1⟩
  ·have e : s.add o = ⟨s.atoms + o.atoms, s.bytes + o.bytes, s.breaks + o.breaks, s.lf, o.cr⟩ := by
    have h' : ¬ (s.cr && o.lf) = true := λ hh => by
     have hf : (s.cr && o.lf) = false := h
     rw [hh] at hf; cases hf
    unfold Ce.add; rw [if_neg h0, if_neg h0', if_neg h']; rfl
   rw [e]
   exact ⟨S4.upd, S4.old, λ x hx => S4.loc x (by
    rcases List.mem_cons.1 hx with rfl | hx
    ·exact List.mem_cons_self
    ·rw [List.mem_singleton.1 hx]; exact List.mem_cons_of_mem _ List.mem_cons_self), by
    have := S4.nd
    simp at this ⊢
    exact this.1.1⟩
 ·intro _ w5 S5
  exact S5.lds 0 (smT (s.add o)) rfl (S5.Ad 1 rfl rfl rfl rfl λ w6 S6 u6 => S6.lds 1 (smT (s.add o)) rfl (hK w6 S6.upd))
theorem Ag6 {s o : Ce} (hs : s.Ok) (ho : o.Ok) (hb : s.bytes + o.bytes < 2 ^ 60) {K : Cells.T Ap -> Wp} (hK : ∀ w', Ext w w' -> K (smT (s.add o)) w') :
  Bf Tryz.prog (invoke (.fn (.method "Add") #[]) (#[.iface 110 (smV s)] ++ #[smV o])) (.one (.agg Ap)) K w :=
 Ph (f := 86) (v' := smV s) (λ w => by kernel_rfl) (by kernel_rfl) (Yu hs ho hb hK)
theorem Zf {x : Pc} {K : Cells.T Ap -> Wp} (hK : ∀ w', Ext w w' -> K (smT x.sm) w') :
  Bf Tryz.prog (invoke (.fn (.method "Measure") #[]) (#[.iface 112 (pcV x)] ++ #[])) (.one (.agg Ap)) K w := by
 refine Bt9 (f := 193) (v' := pcV x) (λ w => by kernel_rfl) (by kernel_rfl) ?_
 refine Cu0 (a0 := pcT x) ?_
 unfold F193
 refine (St.start w).Af λ b1 w1 S1 e1 => S1.Af λ b2 w2 S2 e2 => ?_
 refine Tt (S2.at_ 1 rfl) (x := smT x.sm) (λ i v hv => ?_) (S2.Ad 0 rfl rfl rfl rfl λ w3 S3 u3 => S3.lds 0 (smT x.sm) rfl (hK w3 S3.upd))
 match i, hv with
 | 0, hv => exact hv
 | 1, hv => exact hv
 | 2, hv => exact hv
 | 3, hv => exact hv
 | 4, hv => exact hv
 | i + 5, hv => cases hv
theorem Ce0 {s : Ce} {k : Nat} (hk : k < 2) {K : Int -> Wp} (hK : ∀ w', Ext w w' -> K (if k = 0 then (s.atoms : Int) else (s.breaks : Int)) w') :
  Bf Tryz.prog (invoke (.fn (.method "Key") #[]) (#[.iface 110 (smV s)] ++ #[.int .i64 (k : Int)])) (.one (.one (.int .i64))) K w := by
 refine Ph (f := 192) (v' := smV s) (λ w => by kernel_rfl) (by kernel_rfl) ?_
 refine Cu1 (a0 := smT s) ?_
 unfold F192
 refine (St.start w).Af λ b1 w1 S1 e1 => ?_
 have := hK w1 e1
 match k, hk with
 | 0, _ => exact Aa (λ _ => S1.ld 0 rfl (x := ((s.atoms : Nat) : Int)) rfl this) (λ h => by cases h)
 | 1, _ => exact Aa (λ h => by cases h) (λ _ => Aa (λ _ => S1.ld 0 rfl (x := ((s.breaks : Nat) : Int)) rfl this) (λ h => by cases h))
end
section
variable {w w' : World} {S : Nat -> Prop}
theorem _root_.Go.Vx.St.Bx9 {M : Nat -> Prop} {w0 : World} {ls : List (Nat × Obj)} (S : St M w0 w ls) (i : Nat) {b off n : Nat} {vs : Array Value} {K : World -> Prop} {c : Array Value} {t : TypeId} (hi : ls[i]? = some (b, .cells c t (0, 0))) (hn : vs.size = n) (h1 : vs.toList.all Dx = true) (ho : off + n <= c.size)
  (h : ∀ w1, St M w0 w1 (ls.set i (b, .cells (setRow c off vs.toList) t (0, 0))) -> K w1) : Go.Vx.Ad ⟨b, off, none⟩ (.agg vs) n K w :=
 Yt (S.at_ i hi) hn h1 ho λ w1 u hb _ => h w1 (P5 S hi u hb)
def Oa (l r : Option Addr) (x : Pc) (n h : Nat) (s : Ce) : Array Value :=
 #[.pointer l, .pointer r, .slice x.bytes.a x.bytes.len x.bytes.cap, .int .i64 x.tag, .int .i64 (x.sm.atoms : Int), .int .i64 (x.sm.bytes : Int), .int .i64 (x.sm.breaks : Int), .bool x.sm.lf, .bool x.sm.cr,
  .int .i64 (n : Int), .int .i64 (h : Int), .int .i64 (s.atoms : Int), .int .i64 (s.bytes : Int), .int .i64 (s.breaks : Int), .bool s.lf, .bool s.cr]
def Trx.Tr.In (w : World) : Tr -> Prop
 | .nil => True
 | .node b l x r => w.heap[b]? = some (.cells (Oa l.ptr r.ptr x (Tr.node b l x r).size (Tr.node b l x r).Fp (tot (Tr.node b l x r).items)) 144 (0, 0)) /\ l.In w /\ r.In w
theorem Trx.Tr.In.ext : ∀ {t : Tr}, t.In w -> Ext w w' -> t.In w'
 | .nil, _, _ => trivial
 | .node _ _ _ _, h, e => ⟨e.ext_get h.1, h.2.1.ext e, h.2.2.ext e⟩
theorem Trx.Tr.In.ty : ∀ {t : Tr}, t.In w -> Upd S w w' -> Eh w S 144 -> t.In w'
 | .nil, _, _, _ => trivial
 | .node _ _ _ _, h, u, hS => ⟨u.get h.1 λ hk => hS _ hk _ _ h.1, h.2.1.ty u hS, h.2.2.ty u hS⟩
theorem Om {b : Nat} {l r : Tr} {x : Pc} (h : (Tr.node b l x r).In w) {j : Nat} {v : Value} (hv : (Oa l.ptr r.ptr x (Tr.node b l x r).size (Tr.node b l x r).Fp (tot (Tr.node b l x r).items))[j]? = some v) : w.cell? ((at0 b).add j) = some v := by
 rw [addr_add, Nat.zero_add]; exact cell_of h.1 hv
theorem Y6 {b : Nat} {l r : Tr} {x : Pc} (h : (Tr.node b l x r).In w) : w.cell? (at0 b) = some (.pointer l.ptr) := cell_of h.1 rfl
theorem Cj {b : Nat} {l r : Tr} {x : Pc} (h : (Tr.node b l x r).In w) {K : Addr -> Option Addr -> Wp} (hK : K (at0 b) l.ptr w) : nn (Tr.node b l x r).ptr (λ p => ld .ptr p (K p)) w :=
 Dv (Dt h.1 (x := l.ptr) rfl hK)
theorem Dz {b : Nat} {l r : Tr} {x : Pc} (h : (Tr.node b l x r).In w) {K : Addr -> Option Addr -> Wp} (hK : K (at0 b) r.ptr w) : nn (Tr.node b l x r).ptr (λ p => ld .ptr (p.add 1) (K p)) w :=
 Dv (by rw [addr_add]; exact Dt h.1 (x := r.ptr) rfl hK)
theorem Kw {b : Nat} {l r : Tr} {x : Pc} (h : (Tr.node b l x r).In w) : Ak w ((at0 b).add 2) 0 (Cells.vals Ag (pcT x)) := by
 rw [addr_add]
 refine Fa _ 0 λ j v hv => cell_of h.1 ?_
 match j, hv with
 | 0, hv => exact hv
 | 1, hv => exact hv
 | 2, hv => exact hv
 | 3, hv => exact hv
 | 4, hv => exact hv
 | 5, hv => exact hv
 | 6, hv => exact hv
 | j + 7, hv => cases hv
theorem By2 {b : Nat} {l r : Tr} {x : Pc} (h : (Tr.node b l x r).In w) : Ak w ((at0 b).add 11) 0 (Cells.vals Ap (smT (tot (Tr.node b l x r).items))) := by
 rw [addr_add]
 refine Fa _ 0 λ j v hv => cell_of h.1 ?_
 match j, hv with
 | 0, hv => exact hv
 | 1, hv => exact hv
 | 2, hv => exact hv
 | 3, hv => exact hv
 | 4, hv => exact hv
 | j + 5, hv => cases hv
theorem Gh {b : Nat} {l r : Tr} {x : Pc} (h : (Tr.node b l x r).In w) {K : Addr -> Cells.T Ag -> Wp} (hK : K (at0 b) (pcT x) w) : nn (Tr.node b l x r).ptr (λ p => lds Ag (p.add 2) (K p)) w :=
 Dv ⟨pcT x, Kw h, hK⟩
theorem Y5 {b : Nat} {l r : Tr} {x : Pc} (h : (Tr.node b l x r).In w) {K : Addr -> Cells.T Ap -> Wp} (hK : K (at0 b) (smT (tot (Tr.node b l x r).items)) w) : nn (Tr.node b l x r).ptr (λ p => lds Ap (p.add 11) (K p)) w :=
 Dv ⟨_, By2 h, hK⟩
theorem Hw {t : Tr} (h : t.In w) {K : Int -> Wp} (hK : K (t.size : Int) w) : Ac Tryz.prog 102 #[.pointer t.ptr] rI K w := by
 refine Da3 ?_
 unfold F102
 cases t with
 | nil => exact Aa (λ _ => hK) (λ h => by cases h)
 | node b l x r => exact Aa (λ h => by cases h) (λ _ => Dv (by rw [addr_add]; exact Dt h.1 (x := ((Tr.node b l x r).size : Int)) rfl hK))
theorem Dl {t : Tr} (h : t.In w) {K : Int -> Wp} (hK : K (t.Fp : Int) w) : Ac Tryz.prog 145 #[.pointer t.ptr] rI K w := by
 refine Cw1 ?_
 unfold F145
 cases t with
 | nil => exact Aa (λ _ => hK) (λ h => by cases h)
 | node b l x r => exact Aa (λ h => by cases h) (λ _ => Dv (by rw [addr_add]; exact Dt h.1 (x := ((Tr.node b l x r).Fp : Int)) rfl hK))
structure Fine (l : List Pc) : Prop where
 ok : Cb l
 few : l.length < 2 ^ 60
 small : (tot l).bytes < 2 ^ 60
theorem Dc {l m : List Pc} (h : Cb l) (h' : Cb m) : (tot (l ++ m)).bytes = (tot l).bytes + (tot m).bytes := by
 rw [Gu h h']; exact (Ce.Nr _ _ (Gy h) (Gy h')).1
theorem Fine.left {l m : List Pc} (h : Fine (l ++ m)) : Fine l := ⟨h.ok.left, by have := h.few; rw [List.length_append] at this; omega, by
 have := h.small; rw [Dc h.ok.left h.ok.right] at this; omega⟩
theorem Fine.right {l m : List Pc} (h : Fine (l ++ m)) : Fine m := ⟨h.ok.right, by have := h.few; rw [List.length_append] at this; omega, by
 have := h.small; rw [Dc h.ok.left h.ok.right] at this; omega⟩
theorem Bt0 (l r : Option Addr) (x : Pc) (n h : Nat) (s s' : Ce) : setRow (Oa l r x n h s) 11 (Cells.vals Ap (smT s')).toArray.toList = Oa l r x n h s' := rfl
theorem Al1 {M : Nat -> Prop} {w0 : World} {ls : List (Nat × Obj)} {b : Nat} {l r : Option Addr} {x : Pc} {n h : Nat} {s s' : Ce} {K : World -> Prop} (S : St M w0 w ((b, .cells (Oa l r x n h s) 144 (0, 0)) :: ls))
  (hK : ∀ w1, St M w0 w1 ((b, .cells (Oa l r x n h s') 144 (0, 0)) :: ls) -> K w1) : Ad ((at0 b).add 11) (.agg (Cells.vals Ap (smT s')).toArray) 5 K w := by
 rw [addr_add]
 refine S.Bx9 0 (c := Oa l r x n h s) rfl rfl rfl (by show 0 + 11 + 5 <= 16; decide) λ w1 S1 => hK w1 ?_
 rw [Nat.zero_add, Bt0] at S1
 exact S1
theorem Bh0 {l r : Tr} {x : Pc} (hl : l.In w) (hr : r.In w) (hf : Fine (l.items ++ x :: r.items)) {K : Option Addr -> Wp} (hK : ∀ b w', (Tr.node b l x r).In w' -> Ext w w' -> K (some (at0 b)) w') :
  Ac Tryz.prog 120 #[.pointer l.ptr, pcV x, .pointer r.ptr] rP K w := by
 refine Cy5 (a1 := pcT x) ?_
 unfold F120
 have okl := hf.ok.left
 have okx := hf.ok.right.head
 have okr := hf.ok.right.tail
 have sl := Dk l; have sr := Dk r
 have tl := Oj l; have tr := Oj r
 have few := hf.few
 rw [List.length_append, List.length_cons] at few
 have small := hf.small
 have ex : x :: r.items = [x] ++ r.items := rfl
 rw [ex, Dc okl (Cb.append (Cb.one okx) okr), Dc (Cb.one okx) okr, Uj okx] at small
 refine (St.start w).Af λ b1 w1 S1 e1 => S1.drew λ w2 S2 e2 _ => S2.lds 0 (pcT x) rfl ?_
 have e12 := e1.trans e2
 have hl2 := hl.ext e12; have hr2 := hr.ext e12
 refine Hw hl2 (S2.keeps 0 rfl (Hw hr2 (S2.keeps 0 rfl (Dl hl2 (S2.keeps 0 rfl (Dl hr2 (S2.keeps 0 rfl ?_)))))))
 have es : W64 (W64 ((l.size : Int) + 1) + (r.size : Int)) = (((l.size + 1 + r.size : Nat)) : Int) := by
  rw [wrap64 (a := (l.size : Int) + 1) (by omega) (by omega), wrap64 (by omega) (by omega)]; omega
 have et : W64 ((if (r.Fp : Int) > (l.Fp : Int) then (r.Fp : Int) else (l.Fp : Int)) + 1) = ((max l.Fp r.Fp + 1 : Nat) : Int) := by
  have e : (if (r.Fp : Int) > (l.Fp : Int) then (r.Fp : Int) else (l.Fp : Int)) = ((max l.Fp r.Fp : Nat) : Int) := by split <;> omega
  rw [e, wrap64 (by omega) (by omega)]; omega
 rw [es, et]
 refine S2.Af λ b7 w3 S3 e3 => S3.lds 1 (pcT x) rfl (Zf λ w4 e4 => Dv ?_)
 have S4 := S3.ext e4
 have e14 := (e12.trans e3).trans e4
 have S4' : St (λ _ => False) w w4 [(b7, .cells (Oa l.ptr r.ptr x (l.size + 1 + r.size) (max l.Fp r.Fp + 1) .zero) 144 (0, 0)), (b1, .cells (Cells.vals Ag (pcT x)).toArray 112 (0, 0))] := S4
 refine Al1 (s' := x.sm) S4' λ w5 S5 => ?_
 have J0 : ∀ (w' : World) (s : Ce), St (λ _ => False) w w' [(b7, .cells (Oa l.ptr r.ptr x (l.size + 1 + r.size) (max l.Fp r.Fp + 1) s) 144 (0, 0)), (b1, .cells (Cells.vals Ag (pcT x)).toArray 112 (0, 0))] ->
   Ak w' ((at0 b7).add 11) 0 (Cells.vals Ap (smT s)) := by
  intro w' s S'
  rw [addr_add]
  refine Fa _ 0 λ j v hv => cell_of (S'.at_ 0 rfl) ?_
  match j, hv with
  | 0, hv => exact hv
  | 1, hv => exact hv
  | 2, hv => exact hv
  | 3, hv => exact hv
  | 4, hv => exact hv
  | j + 5, hv => cases hv
 have okt := Gy okl; have okt' := Gy okr
 refine Ae (λ _ w' => St (λ _ => False) w w' [(b7, .cells (Oa l.ptr r.ptr x (l.size + 1 + r.size) (max l.Fp r.Fp + 1) ((tot l.items).add x.sm)) 144 (0, 0)), (b1, .cells (Cells.vals Ag (pcT x)).toArray 112 (0, 0))]) ?_ ?_
 ·cases l with
  | nil => exact Aa (λ h => by cases h) (λ _ => S5)
  | node bl ll xl rl =>
   refine Aa (λ _ => S5.drew λ w6 S6 e6 _ => ?_) (λ h => by cases h)
   refine Y5 (hl.ext S6.upd) (Dv ⟨_, J0 w6 x.sm S6, ?_⟩)
   exact Ag6 okt okx (by omega) λ w7 e7 => Dv (Al1 (S6.ext e7) λ w8 S8 => S8)
 intro _ w6 S6
 have okm := Ce.Zw okt okx
 have bm := (Ce.Nr _ _ okt okx).1
 have fin : (tot (l.items ++ x :: r.items)) = ((tot l.items).add x.sm).add (tot r.items) := by
  rw [ex, Gu okl (Cb.append (Cb.one okx) okr), Gu (Cb.one okx) okr, Uj okx, Ce.add_assoc okt okx okt']
 refine Ae (λ _ w' => St (λ _ => False) w w' [(b7, .cells (Oa l.ptr r.ptr x (l.size + 1 + r.size) (max l.Fp r.Fp + 1) (((tot l.items).add x.sm).add (tot r.items))) 144 (0, 0)), (b1, .cells (Cells.vals Ag (pcT x)).toArray 112 (0, 0))]) ?_ ?_
 ·cases r with
  | nil =>
   have e : ((tot l.items).add x.sm).add (tot (Tr.nil).items) = (tot l.items).add x.sm := Ce.add_zero okm
   rw [e]
   exact Aa (λ h => by cases h) (λ _ => S6)
  | node br lr xr rr =>
   refine Aa (λ _ => S6.drew λ w7 S7 e7 _ => ?_) (λ h => by cases h)
   refine Dv ⟨_, J0 w7 _ S7, Y5 (hr.ext S7.upd) ?_⟩
   exact Ag6 okm okt' (by omega) λ w8 e8 => Dv (Al1 (S7.ext e8) λ w9 S9 => S9)
 intro _ w7 S7
 refine hK b7 w7 ⟨?_, hl.ext S7.upd, hr.ext S7.upd⟩ S7.upd
 have := S7.at_ 0 rfl
 rw [← fin] at this
 exact this
end
section
variable {w w' : World} {S : Nat -> Prop}
abbrev Uh (w : World) (l : List Pc) (K : Option Addr -> Wp) : Prop := ∀ (t : Tr) (w' : World), t.In w' -> t.items = l -> Ext w w' -> K t.ptr w'
theorem Uh.ext {l : List Pc} {K : Option Addr -> Wp} (h : Uh w l K) (e : Ext w w') : Uh w' l K := λ t w2 h1 h2 e2 => h t w2 h1 h2 (e.trans e2)
theorem Fine.mid {a l b : List Pc} (h : Fine (a ++ (l ++ b))) : Fine l := h.right.left
theorem Dw {l r : Tr} {x : Pc} {L : List Pc} (hl : l.In w) (hr : r.In w) (hf : Fine L) (hL : l.items ++ x :: r.items = L) {K : Option Addr -> Wp} (hK : Uh w L K) :
  Ac Tryz.prog 120 #[.pointer l.ptr, pcV x, .pointer r.ptr] rP K w :=
 Bh0 hl hr (hL ▸ hf) λ b w' h1 e1 => hK _ _ h1 hL e1
theorem Uk {a b : Tr} (h : decide ((a.Fp : Int) > W64 ((b.Fp : Int) + 1)) = true) (hb : b.Fp < 2 ^ 60) : b.Fp + 1 < a.Fp := by
 rw [wrap64 (by omega) (by omega)] at h
 simp only [decide_eq_true_eq] at h
 omega
theorem Zo {l r : Tr} {x : Pc} (hl : l.In w) (hr : r.In w) (hf : Fine (l.items ++ x :: r.items)) {K : Option Addr -> Wp} (hK : Uh w (l.items ++ x :: r.items) K) :
  Ac Tryz.prog 164 #[.pointer l.ptr, pcV x, .pointer r.ptr] rP K w := by
 refine Cu4 (a1 := pcT x) ?_
 unfold F164
 have few := hf.few
 rw [List.length_append, List.length_cons, Dk, Dk] at few
 have tl := Oj l; have tr := Oj r
 refine (St.start w).Af λ b1 w1 S1 e1 => ?_
 have hl1 := hl.ext e1; have hr1 := hr.ext e1
 refine Dl hl1 (Dl hr1 (Aa (λ h => ?_) (λ h => ?_)))
 ·have hgt := Uk h (by omega)
  obtain ⟨bl, ll, lx, lr, rfl⟩ := Pv (t := l) (by omega)
  refine S1.drew λ w2 S2 e2 _ => ?_
  have hl2 := hl1.ext e2; have hr2 := hr1.ext e2
  refine Cj hl2 (Dz hl2 (Dl hl2.2.1 (Ar (Om hl2 rfl) (Dl hl2.2.2 (Aa (λ h2 => ?_) (λ h2 => ?_))))))
  ·refine S2.drew λ w3 S3 e3 _ => ?_
   have hl3 := hl2.ext e3; have hr3 := hr2.ext e3
   refine Cj hl3 (Gh hl3 (Dz hl3 (S3.lds 0 (pcT x) rfl ?_)))
   have e03 := (e1.trans e2).trans e3
   have eq : (Tr.node bl ll lx lr).items ++ x :: r.items = (ll.items ++ [lx]) ++ (lr.items ++ x :: r.items) := by simp [Tr.items]
   refine Dw hl3.2.2 hr3 (L := lr.items ++ x :: r.items) ((eq ▸ hf).right) rfl λ t w4 ht hti e4 => ?_
   refine Ar (Kw (hl3.ext e4)) (Ar (Y6 (hl3.ext e4)) ?_)
   exact Dw (hl3.ext e4).2.1 ht hf (by rw [hti, eq]; simp) (hK.ext (e03.trans e4))
  ·simp only [decide_eq_false_iff_not, ge_iff_le] at h2
   obtain ⟨bm, ml, mx, mr, rfl⟩ := Pv (t := lr) (by omega)
   refine Dz hl2 (S2.drew λ w3 S3 e3 _ => ?_)
   have hl3 := hl2.ext e3; have hr3 := hr2.ext e3
   have hm3 := hl3.2.2
   refine Cj hl3 (Gh hl3 (Cj hm3 (Gh hm3 (Dz hm3 (S3.lds 0 (pcT x) rfl ?_)))))
   have e03 := (e1.trans e2).trans e3
   have eq : (Tr.node bl ll lx (Tr.node bm ml mx mr)).items ++ x :: r.items = (ll.items ++ lx :: ml.items) ++ ([mx] ++ (mr.items ++ x :: r.items)) := by simp [Tr.items]
   have hf' := eq ▸ hf
   refine Dw hl3.2.1 hm3.2.1 (L := ll.items ++ lx :: ml.items) hf'.left rfl λ t w4 ht hti e4 => ?_
   have S4 := S3.ext e4
   have hm4 := hm3.ext e4
   refine S4.keeps 0 rfl (Ar (Om hm4 rfl) (Ar (Kw hm4) ?_))
   refine Dw hm4.2.2 (hr3.ext e4) (L := mr.items ++ x :: r.items) hf'.right.right rfl λ t2 w5 ht2 hti2 e5 => ?_
   refine Ar (Kw (hm4.ext e5)) ?_
   exact Dw (ht.ext e5) ht2 hf (by rw [hti, hti2, eq]; simp) (hK.ext ((e03.trans e4).trans e5))
 refine Dl hr1 (Dl hl1 (Aa (λ h => ?_) (λ h => ?_)))
 ·have hgt := Uk h (by omega)
  obtain ⟨br, rl, rx, rr, rfl⟩ := Pv (t := r) (by omega)
  refine S1.drew λ w2 S2 e2 _ => ?_
  have hl2 := hl1.ext e2; have hr2 := hr1.ext e2
  refine Dz hr2 (Cj hr2 (Dl hr2.2.2 (Ar (Y6 hr2) (Dl hr2.2.1 (Aa (λ h2 => ?_) (λ h2 => ?_))))))
  ·refine S2.drew λ w3 S3 e3 _ => ?_
   have hl3 := hl2.ext e3; have hr3 := hr2.ext e3
   refine S3.lds 0 (pcT x) rfl (Cj hr3 (Gh hr3 (Dz hr3 ?_)))
   have e03 := (e1.trans e2).trans e3
   have eq : l.items ++ x :: (Tr.node br rl rx rr).items = (l.items ++ x :: rl.items) ++ (rx :: rr.items) := by simp [Tr.items]
   refine Dw hl3 hr3.2.1 (L := l.items ++ x :: rl.items) ((eq ▸ hf).left) rfl λ t w4 ht hti e4 => ?_
   refine Ar (Om (hr3.ext e4) rfl) (Ar (Kw (hr3.ext e4)) ?_)
   exact Dw ht (hr3.ext e4).2.2 hf (by rw [hti, eq]) (hK.ext (e03.trans e4))
  ·simp only [decide_eq_false_iff_not, ge_iff_le] at h2
   obtain ⟨bm, ml, mx, mr, rfl⟩ := Pv (t := rl) (by omega)
   refine Cj hr2 (S2.drew λ w3 S3 e3 _ => ?_)
   have hl3 := hl2.ext e3; have hr3 := hr2.ext e3
   have hm3 := hr3.2.1
   refine S3.lds 0 (pcT x) rfl (Cj hm3 (Gh hm3 (Dz hm3 (Gh hr3 (Dz hr3 ?_)))))
   have e03 := (e1.trans e2).trans e3
   have eq : l.items ++ x :: (Tr.node br (Tr.node bm ml mx mr) rx rr).items = (l.items ++ x :: ml.items) ++ ([mx] ++ (mr.items ++ rx :: rr.items)) := by simp [Tr.items]
   have hf' := eq ▸ hf
   refine Dw hl3 hm3.2.1 (L := l.items ++ x :: ml.items) hf'.left rfl λ t w4 ht hti e4 => ?_
   have hm4 := hm3.ext e4; have hr4 := hr3.ext e4
   refine Ar (Om hr4 rfl) (Ar (Kw hr4) (Ar (Om hm4 rfl) (Ar (Kw hm4) ?_)))
   refine Dw hm4.2.2 hr4.2.2 (L := mr.items ++ rx :: rr.items) hf'.right.right rfl λ t2 w5 ht2 hti2 e5 => ?_
   refine Ar (Kw (hm4.ext e5)) ?_
   exact Dw (ht.ext e5) ht2 hf (by rw [hti, hti2, eq]; simp) (hK.ext ((e03.trans e4).trans e5))
 exact S1.lds 0 (pcT x) rfl (Dw hl1 hr1 hf rfl (hK.ext e1))
theorem Zj : ∀ (n : Nat) {l r : Tr} {w : World} {x : Pc}, l.Fp + r.Fp <= n -> l.In w -> r.In w -> Fine (l.items ++ x :: r.items) -> ∀ {K : Option Addr -> Wp}, Uh w (l.items ++ x :: r.items) K ->
  Ac Tryz.prog 156 #[.pointer l.ptr, pcV x, .pointer r.ptr] rP K w := by
 intro n
 induction n with
 | zero =>
  intro l r w x hn hl hr hf K hK
  refine Cg1 (a1 := pcT x) ?_
  unfold F156
  have h0 : l.Fp = 0 := by omega
  have h1 : r.Fp = 0 := by omega
  refine (St.start w).Af λ b1 w1 S1 e1 => ?_
  have hl1 := hl.ext e1; have hr1 := hr.ext e1
  refine Dl hl1 (Dl hr1 (Aa (λ h => ?_) (λ _ => Dl hr1 (Dl hl1 (Aa (λ h => ?_) (λ _ => ?_))))))
  ·have := Uk h (by omega); omega
  ·have := Uk h (by omega); omega
  ·exact S1.lds 0 (pcT x) rfl (Dw hl1 hr1 hf rfl (hK.ext e1))
 | succ n ih =>
  intro l r w x hn hl hr hf K hK
  refine Cg1 (a1 := pcT x) ?_
  unfold F156
  have few := hf.few
  rw [List.length_append, List.length_cons, Dk, Dk] at few
  have tl := Oj l; have tr := Oj r
  refine (St.start w).Af λ b1 w1 S1 e1 => ?_
  have hl1 := hl.ext e1; have hr1 := hr.ext e1
  refine Dl hl1 (Dl hr1 (Aa (λ h => ?_) (λ _ => Dl hr1 (Dl hl1 (Aa (λ h => ?_) (λ _ => ?_))))))
  ·have hgt := Uk h (by omega)
   obtain ⟨bl, ll, lx, lr, rfl⟩ := Pv (t := l) (by omega)
   refine S1.drew λ w2 S2 e2 _ => ?_
   have hl2 := hl1.ext e2; have hr2 := hr1.ext e2
   refine Cj hl2 (Gh hl2 (Dz hl2 (S2.lds 0 (pcT x) rfl ?_)))
   have eq : (Tr.node bl ll lx lr).items ++ x :: r.items = (ll.items ++ [lx]) ++ (lr.items ++ x :: r.items) := by simp [Tr.items]
   have ht : (Tr.node bl ll lx lr).Fp = max ll.Fp lr.Fp + 1 := rfl
   refine ih (l := lr) (r := r) (by omega) hl2.2.2 hr2 ((eq ▸ hf).right) λ t w3 ht3 hti e3 => ?_
   refine Ar (Kw (hl2.ext e3)) (Ar (Y6 (hl2.ext e3)) ?_)
   have eq2 : ll.items ++ lx :: t.items = (Tr.node bl ll lx lr).items ++ x :: r.items := by rw [hti, eq]; simp
   exact Zo (hl2.ext e3).2.1 ht3 (eq2 ▸ hf) (eq2 ▸ hK.ext ((e1.trans e2).trans e3))
  ·have hgt := Uk h (by omega)
   obtain ⟨br, rl, rx, rr, rfl⟩ := Pv (t := r) (by omega)
   refine S1.drew λ w2 S2 e2 _ => ?_
   have hl2 := hl1.ext e2; have hr2 := hr1.ext e2
   refine S2.lds 0 (pcT x) rfl (Cj hr2 (Gh hr2 (Dz hr2 ?_)))
   have eq : l.items ++ x :: (Tr.node br rl rx rr).items = (l.items ++ x :: rl.items) ++ (rx :: rr.items) := by simp [Tr.items]
   have ht : (Tr.node br rl rx rr).Fp = max rl.Fp rr.Fp + 1 := rfl
   refine ih (l := l) (r := rl) (by omega) hl2 hr2.2.1 ((eq ▸ hf).left) λ t w3 ht3 hti e3 => ?_
   refine Ar (Om (hr2.ext e3) rfl) (Ar (Kw (hr2.ext e3)) ?_)
   have eq2 : t.items ++ rx :: rr.items = l.items ++ x :: (Tr.node br rl rx rr).items := by rw [hti, eq]
   exact Zo ht3 (hr2.ext e3).2.2 (eq2 ▸ hf) (eq2 ▸ hK.ext ((e1.trans e2).trans e3))
  ·exact S1.lds 0 (pcT x) rfl (Dw hl1 hr1 hf rfl (hK.ext e1))
end
section
variable {w w' : World} {S : Nat -> Prop}
theorem Ar1 : ∀ (t : Tr) (w : World) (n : Nat), t.In w -> Fine t.items -> n < 2 ^ 61 -> ∀ {K : Option Addr × Option Addr × Unit -> Wp},
  (∀ (a b : Tr) (w' : World), a.In w' -> b.In w' -> a.items = t.items.take n -> b.items = t.items.drop n -> Ext w w' -> K (a.ptr, b.ptr, ()) w') ->
  Ac Tryz.prog 143 #[.pointer t.ptr, .int .i64 (n : Int)] (.tup [(.one .ptr), (.one .ptr)]) K w := by
 intro t
 induction t with
 | nil =>
  intro w n ht hf hn K hK
  refine Cg2 ?_
  unfold F143
  exact Aa (λ _ => hK .nil .nil w trivial trivial (by simp [Tr.items]) (by simp [Tr.items]) (Ext.refl w)) (λ h => by cases h)
 | node b l x r ihl ihr =>
  intro w n ht hf hn K hK
  refine Cg2 ?_
  unfold F143
  have hfl : Fine l.items := hf.left
  have hfr : Fine r.items := Fine.right (l := [x]) hf.right
  have sl := Dk l
  have few := hfl.few
  refine Aa (λ h => by cases h) (λ _ => Cj ht (Hw ht.2.1 (Aa (λ h => ?_) (λ h => ?_))))
  ·simp only [decide_eq_true_eq] at h
   refine Cj ht (ihl w n ht.2.1 hfl hn λ p q w1 hp hq hpi hqi e1 => Fg λ w2 e2 _ => ?_)
   have ht2 := (ht.ext e1).ext e2
   refine Gh ht2 (Dz ht2 ?_)
   have hle : n <= l.items.length := by omega
   have eq : q.items ++ x :: r.items = (Tr.node b l x r).items.drop n := by
    show _ = (l.items ++ x :: r.items).drop n
    rw [List.drop_append_of_le_length hle, hqi]
   have hfq : Fine (q.items ++ x :: r.items) := by
    rw [eq]
    have e := List.take_append_drop n (Tr.node b l x r).items
    exact Fine.right (l := (Tr.node b l x r).items.take n) (e.symm ▸ hf)
   refine Zj _ (Nat.le_refl _) (hq.ext e2) ht2.2.2 hfq λ t3 w3 h3 h3i e3 => ?_
   refine hK p t3 w3 ((hp.ext e2).ext e3) h3 ?_ (by rw [h3i, eq]) ((e1.trans e2).trans e3)
   show _ = (l.items ++ x :: r.items).take n
   rw [List.take_append_of_le_length hle, hpi]
  ·simp only [decide_eq_false_iff_not] at h
   obtain ⟨m, rfl⟩ : ∃ m, n = l.items.length + 1 + m := ⟨n - l.items.length - 1, by omega⟩
   have ew : W64 (W64 (((l.items.length + 1 + m : Nat) : Int) - (l.size : Int)) - 1) = (m : Int) := by
    rw [wrap64 (a := ((l.items.length + 1 + m : Nat) : Int) - (l.size : Int)) (by omega) (by omega), wrap64 (by omega) (by omega)]; omega
   rw [ew]
   refine Dz ht (ihr w m ht.2.2 hfr (by omega) λ p q w1 hp hq hpi hqi e1 => Fg λ w2 e2 _ => ?_)
   have ht2 := (ht.ext e1).ext e2
   refine Cj ht2 (Gh ht2 ?_)
   have tk : (l.items ++ x :: r.items).take (l.items.length + 1 + m) = l.items ++ x :: r.items.take m := by
    rw [Nat.add_assoc, List.take_length_add_append, Nat.add_comm 1 m, List.take_succ_cons]
   have dr : (l.items ++ x :: r.items).drop (l.items.length + 1 + m) = r.items.drop m := by
    rw [Nat.add_assoc, List.drop_length_add_append, Nat.add_comm 1 m, List.drop_succ_cons]
   have eq : l.items ++ x :: p.items = (Tr.node b l x r).items.take (l.items.length + 1 + m) := by
    show _ = (l.items ++ x :: r.items).take _
    rw [tk, hpi]
   have hfq : Fine (l.items ++ x :: p.items) := by
    rw [eq]
    have e := List.take_append_drop (l.items.length + 1 + m) (Tr.node b l x r).items
    exact Fine.left (m := (Tr.node b l x r).items.drop (l.items.length + 1 + m)) (e.symm ▸ hf)
   refine Zj _ (Nat.le_refl _) ht2.2.1 (hp.ext e2) hfq λ t3 w3 h3 h3i e3 => ?_
   refine hK t3 q w3 h3 ((hq.ext e2).ext e3) (by rw [h3i, eq]) ?_ ((e1.trans e2).trans e3)
   show _ = (l.items ++ x :: r.items).drop _
   rw [dr, hqi]
theorem Ay3 : ∀ (l : Tr) (b : Nat) (x : Pc) (r : Tr) (w : World), (Tr.node b l x r).In w -> Fine (Tr.node b l x r).items -> ∀ {K : Cells.T Ag × Option Addr × Unit -> Wp},
  (∀ (y : Pc) (t : Tr) (w' : World), t.In w' -> y :: t.items = (Tr.node b l x r).items -> Ext w w' -> K (pcT y, t.ptr, ()) w') ->
  Ac Tryz.prog 157 #[.pointer (Tr.node b l x r).ptr] (.tup [(.agg Ag), (.one .ptr)]) K w := by
 intro l
 induction l with
 | nil =>
  intro b x r w ht hf K hK
  refine Cg0 ?_
  unfold F157
  refine (St.start w).Af λ b1 w1 S1 e1 => Cj (ht.ext e1) (Aa (λ _ => S1.drew λ w2 S2 e2 _ => ?_) (λ h => by cases h))
  have ht2 := (ht.ext e1).ext e2
  refine Gh ht2 (Dz ht2 (S2.Ad 0 rfl rfl rfl rfl λ w3 S3 u3 => ?_))
  exact Ar (Om (ht.ext S3.upd) rfl) (S3.lds 0 (pcT x) rfl (hK x r w3 (ht.ext S3.upd).2.2 rfl S3.upd))
 | node bl ll lx lr ih _ =>
  intro b x r w ht hf K hK
  refine Cg0 ?_
  unfold F157
  have hfl : Fine (Tr.node bl ll lx lr).items := hf.left
  refine (St.start w).Af λ b1 w1 S1 e1 => Cj (ht.ext e1) (Aa (λ h => by cases h) (λ _ => Cj (ht.ext e1) ?_))
  refine ih bl lx lr w1 (ht.ext e1).2.1 hfl λ y t w2 h2 h2i e2 => ?_
  refine (S1.ext e2).Wy rfl rfl rfl λ b2 w3 S3 e3 => S3.drew λ w4 S4 e4 _ => S4.lds 0 (pcT y) rfl ?_
  have e14 := ((e1.trans e2).trans e3).trans e4
  have ht4 := ht.ext e14
  have eq : (Tr.node b (Tr.node bl ll lx lr) x r).items = [y] ++ (t.items ++ x :: r.items) := by
   show (Tr.node bl ll lx lr).items ++ x :: r.items = _
   rw [← h2i]; rfl
  refine Gh ht4 (Dz ht4 (Zo ((h2.ext e3).ext e4) ht4.2.2 ((eq ▸ hf).right) λ t5 w5 h5 h5i e5 => ?_))
  have S5 := S4.ext e5
  refine S5.keeps 0 rfl (S5.Ad 1 rfl rfl rfl rfl λ w6 S6 u6 => S6.lds 1 (pcT y) rfl ?_)
  refine hK y t5 w6 (h5.ty u6 ?_) (by rw [h5i, eq]; rfl) S6.upd
  rintro k rfl c fr hc
  have := S5.at_ 1 rfl
  rw [hc] at this; cases this
theorem Ag3 {l r : Tr} (hl : l.In w) (hr : r.In w) (hf : Fine (l.items ++ r.items)) {K : Option Addr -> Wp} (hK : Uh w (l.items ++ r.items) K) :
  Ac Tryz.prog 144 #[.pointer l.ptr, .pointer r.ptr] rP K w := by
 refine Cw2 ?_
 unfold F144
 cases r with
 | nil => exact Aa (λ _ => hK l w hl (by simp [Tr.items]) (Ext.refl w)) (λ h => by cases h)
 | node b rl rx rr =>
  refine Aa (λ h => by cases h) (λ _ => Ay3 rl b rx rr w hr hf.right λ y t w1 h1 h1i e1 => ?_)
  refine (St.start w1).Wy rfl rfl rfl λ b2 w2 S2 e2 => S2.lds 0 (pcT y) rfl ?_
  have eq : l.items ++ y :: t.items = l.items ++ (Tr.node b rl rx rr).items := by rw [h1i]
  exact Zj _ (Nat.le_refl _) (hl.ext (e1.trans e2)) (h1.ext e2) (eq ▸ hf) (eq ▸ hK.ext (e1.trans e2))
end
section
variable {w w' : World} {S : Nat -> Prop}
theorem Af8 (cs : List Cell) : ∀ (xs : List (Cells.T cs)) (n : Nat), (flat cs xs).drop (n * cs.length) = flat cs (xs.drop n)
 | xs, 0 => by simp
 | [], n + 1 => by simp [flat]
 | x :: xs, n + 1 => by
  have e : flat cs (x :: xs) = Cells.vals cs x ++ flat cs xs := rfl
  rw [e, Nat.add_mul, Nat.one_mul, Nat.add_comm, ← List.drop_drop, ← Fj cs x, List.drop_left, List.drop_succ_cons, Fj cs x]
  exact Af8 cs xs n
theorem Af7 (cs : List Cell) : ∀ (xs : List (Cells.T cs)) (n : Nat), (flat cs xs).take (n * cs.length) = flat cs (xs.take n)
 | xs, 0 => by simp [flat]
 | [], n + 1 => by simp [flat]
 | x :: xs, n + 1 => by
  have e : flat cs (x :: xs) = Cells.vals cs x ++ flat cs xs := rfl
  have e2 : flat cs ((x :: xs).take (n + 1)) = Cells.vals cs x ++ flat cs (xs.take n) := rfl
  rw [e, e2, Nat.add_mul, Nat.one_mul, Nat.add_comm, ← Fj cs x, List.take_length_add_append, Fj cs x, Af7 cs xs n]
abbrev Ps (w : World) (s : Sl) (l : List Pc) : Prop := Aq w s 112 7 (flat Ag (l.map pcT))
theorem Ps.len {s : Sl} {l : List Pc} (h : Ps w s l) : l.length = s.len := by
 have := Aq.Jq (cs := Ag) h (by decide)
 rwa [List.length_map] at this
theorem Bl7 {s : Sl} {l : List Pc} {a b m : Int} {K : Sl -> Wp} (hs : Ps w s l) (h0 : 0 <= a) (h1 : a <= b) (h2 : b <= s.len) (h3 : b <= m) (h4 : m <= s.cap)
  (hK : ∀ s', Ps w s' ((l.drop a.toNat).take (b.toNat - a.toNat)) -> K s' w) : slc s.a a b m s.cap 7 K w :=
 Xl hs h0 h1 h2 h3 h4 λ s' hs' _ _ _ => hK s' (by
  have e1 := Af8 Ag (l.map pcT) a.toNat
  have e2 := Af7 Ag ((l.map pcT).drop a.toNat) (b.toNat - a.toNat)
  rw [show Ag.length = 7 from rfl] at e1 e2
  rw [e1, e2, ← List.map_drop, ← List.map_take] at hs'
  exact hs')
theorem Bu2 {cs : List Cell} {s : Sl} {t : TypeId} {xs : List (Cells.T cs)} {n : Int} {K : Addr -> Cells.T cs -> Wp} (h : Aq w s t cs.length (flat cs xs)) (hc : 0 < cs.length) (h0 : 0 <= n) {x : Cells.T cs} (hx : xs[n.toNat]? = some x)
  (hK : ∀ p, (∀ w', Ext w w' -> Ak w' (p.add (scaled (Int.toNat n) cs.length)) 0 (Cells.vals cs x)) -> K p x w) :
  ix s.a s.len n (λ p => lds cs (p.add (scaled (Int.toNat n) cs.length)) (K p)) w := by
 have hlt := (List.getElem?_eq_some_iff.1 hx).1
 have hl := h.Jq hc
 have key : ∀ {w' : World}, Aq w' s t cs.length (flat cs xs) -> ∀ b off, s.a = some ⟨b, off, none⟩ -> Ak w' ((⟨b, off, none⟩ : Addr).add (scaled (Int.toNat n) cs.length)) 0 (Cells.vals cs x) := by
  intro w' h' b off ha
  rcases h'.at_ with ⟨hn, _⟩ | ⟨b', off', c, fr, ha', hb, _, hv⟩
  ·rw [hn] at ha; cases ha
  ·rw [ha'] at ha; cases ha
   rw [addr_add]
   refine Fa _ 0 λ j v hj => ?_
   have hjl : j < cs.length := by
    have := (List.getElem?_eq_some_iff.1 hj).1
    rwa [Fj] at this
   have h2 := hv (n.toNat * cs.length + j) v (by rw [flat_get cs xs _ j x hx hjl]; exact hj)
   refine cell_of hb ?_
   rw [Ei, show off + n.toNat * cs.length + (0 + j) = off + (n.toNat * cs.length + j) by omega]
   exact h2
 refine h.ix h0 (by omega) hc λ b off ha hv => ⟨x, key h b off ha, hK _ λ w' e => key (h.ext e) b off ha⟩
theorem Aa9 : ∀ (n : Nat) (l : List Pc) (s : Sl) (w : World), l.length <= n -> Ps w s l -> Fine l -> ∀ {K : Option Addr -> Wp}, Uh w l K -> Ac Tryz.prog 88 #[s.v] rP K w := by
 intro n
 induction n with
 | zero =>
  intro l s w hn hs hf K hK
  obtain rfl : l = [] := List.length_eq_zero_iff.1 (by omega)
  have hl := hs.len
  refine A88 ?_
  unfold F88
  exact Aa (λ _ => hK .nil w trivial rfl (Ext.refl w)) (λ h => by simp at hl; simp [← hl] at h)
 | succ n ih =>
  intro l s w hn hs hf K hK
  have hl := hs.len
  have hcap := hs.le
  have few := hf.few
  refine A88 ?_
  unfold F88
  refine Aa (λ h => ?_) (λ h => Ci (by decide) (Fg λ w1 e1 _ => ?_))
  ·simp only [beq_iff_eq] at h
   obtain rfl : l = [] := List.length_eq_zero_iff.1 (by omega)
   exact hK .nil w trivial rfl (Ext.refl w)
  simp only [beq_eq_false_iff_ne] at h
  have hs1 : Ps w1 s l := hs.ext e1
  obtain ⟨k, hk⟩ : ∃ k, k = l.length / 2 := ⟨_, rfl⟩
  have ek : W64 (Int.tdiv ((s.len : Nat) : Int) 2) = (k : Int) := by
   rw [Int.tdiv_eq_ediv_of_nonneg (by omega), wrap64 (by omega) (by omega)]; omega
  have ek1 : W64 ((k : Int) + 1) = ((k + 1 : Nat) : Int) := by rw [wrap64 (by omega) (by omega)]; omega
  rw [ek, ek1]
  have hkl : k < l.length := by omega
  refine Bl7 hs1 (by decide) (by omega) (by omega) (by omega) (by omega) λ s1 h1 => ?_
  refine Bu2 (cs := Ag) (xs := l.map pcT) hs1 (by decide) (by omega) (x := pcT l[k]) (by rw [Int.toNat_natCast, List.getElem?_map, List.getElem?_eq_getElem hkl]; rfl) λ p hp => ?_
  refine Bl7 hs1 (by omega) (by omega) (by omega) (by omega) (by omega) λ s2 h2 => ?_
  have t1 : (l.drop (0 : Int).toNat).take ((k : Int).toNat - (0 : Int).toNat) = l.take k := by simp
  have t2 : (l.drop ((k + 1 : Nat) : Int).toNat).take (((s.len : Nat) : Int).toNat - ((k + 1 : Nat) : Int).toNat) = l.drop (k + 1) := by
   rw [Int.toNat_natCast, Int.toNat_natCast]
   have : s.len - (k + 1) = (l.drop (k + 1)).length := by rw [List.length_drop]; omega
   rw [this, List.take_length]
  rw [t1] at h1
  rw [t2] at h2
  have eq : l.take k ++ l[k] :: l.drop (k + 1) = l := by rw [← List.drop_eq_getElem_cons hkl, List.take_append_drop]
  have hf' := eq.symm ▸ hf
  refine ih (l.take k) s1 w1 (by rw [List.length_take]; omega) h1 hf'.left λ a w2 ha hai e2 => Ar (hp w2 e2) ?_
  refine ih (l.drop (k + 1)) s2 w2 (by rw [List.length_drop]; omega) (Aq.ext h2 e2) (Fine.right (l := [l[k]]) hf'.right) λ b w3 hb hbi e3 => Ar (hp w3 (e2.trans e3)) ?_
  exact Dw (ha.ext e3) hb hf (by rw [hai, hbi, eq]) (hK.ext ((e1.trans e2).trans e3))
abbrev trV (t : Tr) : Value := .agg (Cells.vals c105 (t.ptr, ())).toArray
theorem Al9 {l : List Pc} {s : Sl} (hs : Ps w s l) (hf : Fine l) {K : Cells.T c105 -> Wp} (hK : ∀ (t : Tr) (w' : World), t.In w' -> t.items = l -> Ext w w' -> K (t.ptr, ()) w') :
  Ac Tryz.prog 65 #[s.v] (.one (.agg c105)) K w := by
 refine A65 ?_
 unfold F65
 refine (St.start w).Af λ b1 w1 S1 e1 => Aa9 _ l s w1 (Nat.le_refl _) (Aq.ext hs e1) hf λ t w2 ht hti e2 => ?_
 refine (S1.ext e2).Ad 0 rfl rfl rfl rfl λ w3 S3 u3 => S3.lds 0 (t.ptr, ()) rfl (hK t w3 (ht.ty u3 ?_) hti S3.upd)
 rintro k rfl c fr hc
 have := (S1.ext e2).at_ 0 rfl
 rw [hc] at this; cases this
theorem Wj {t : Tr} (ht : t.In w) {K : Int -> Wp} (hK : ∀ w', Ext w w' -> K (t.items.length : Int) w') : Ac Tryz.prog 115 #[trV t] rI K w := by
 refine Cz0 (a0 := (t.ptr, ())) ?_
 unfold F115
 refine (St.start w).Af λ b1 w1 S1 e1 => S1.ld 0 rfl (x := t.ptr) rfl (Hw (ht.ext e1) ?_)
 rw [← Dk]
 exact hK w1 e1
theorem Ui {t : Tr} (ht : t.In w) {K : Cells.T Ap -> Wp} (hK : ∀ w', Ext w w' -> K (smT (tot t.items)) w') : Ac Tryz.prog 70 #[trV t] (.one (.agg Ap)) K w := by
 refine A70 (a0 := (t.ptr, ())) ?_
 unfold F70
 refine (St.start w).Af λ b1 w1 S1 e1 => S1.Af λ b2 w2 S2 e2 => S2.ld 1 rfl (x := t.ptr) rfl ?_
 cases t with
 | nil =>
  refine Aa (λ _ => S2.Af λ b3 w3 S3 e3 => S3.lds 0 (smT .zero) rfl (S3.Ad 1 rfl rfl rfl rfl λ w4 S4 u4 => S4.lds 1 (smT .zero) rfl (hK w4 S4.upd))) (λ h => by cases h)
 | node b l x r =>
  refine Aa (λ h => by cases h) (λ _ => S2.ld 1 rfl (x := (Tr.node b l x r).ptr) rfl (Y5 (ht.ext S2.upd) ?_))
  exact S2.Ad 0 rfl rfl rfl rfl λ w3 S3 u3 => S3.lds 0 (smT (tot (Tr.node b l x r).items)) rfl (hK w3 S3.upd)
theorem Ai7 {t : Tr} {n m : Nat} {l : List Pc} {s : Sl} (ht : t.In w) (hs : Ps w s l) (hf : Fine t.items) (hfl : Fine l) (hnm : n <= m) (hm : m <= t.items.length) (hF : Fine (t.items.take n ++ l ++ t.items.drop m))
  {K : Cells.T c105 × Int × Unit -> Wp} (hK : ∀ (t' : Tr) (w' : World), t'.In w' -> t'.items = t.items.take n ++ l ++ t.items.drop m -> Ext w w' -> K ((t'.ptr, ()), 0, ()) w') :
  Ac Tryz.prog 114 #[trV t, .int .i64 (n : Int), .int .i64 (m : Int), s.v] (.tup [(.agg c105), (.one (.int .i64))]) K w := by
 refine Cz1 (a0 := (t.ptr, ())) ?_
 unfold F114
 have few := hf.few
 refine (St.start w).Af λ b1 w1 S1 e1 => S1.Af λ b2 w2 S2 e2 => ?_
 refine Ae (λ x w' => x = (false, ()) /\ Ext w2 w') (Aa (λ h => ?_) (λ _ => Aa (λ h => ?_) (λ _ => S2.lds 1 (t.ptr, ()) rfl (Wj (ht.ext S2.upd) λ w3 e3 => ⟨?_, e3⟩)))) ?_
 ·simp only [decide_eq_true_eq] at h; omega
 ·simp only [decide_eq_true_eq, gt_iff_lt] at h; omega
 ·rw [decide_eq_false (by omega)]
 rintro _ w3 ⟨rfl, e3⟩
 have S3 := S2.ext e3
 refine Aa (λ h => by cases h) (λ _ => S3.ld 1 rfl (x := t.ptr) rfl ?_)
 refine Ar1 t w3 n (ht.ext S3.upd) hf (by omega) λ a a' w4 ha _ hai _ e4 => ?_
 have S4 := S3.ext e4
 refine S4.ld 1 rfl (x := t.ptr) rfl (Ar1 t w4 m (ht.ext S4.upd) hf (by omega) λ c' c w5 _ hc _ hci e5 => ?_)
 have S5 := S4.ext e5
 refine Aa9 _ l s w5 (Nat.le_refl _) (Aq.ext hs S5.upd) hfl λ p w6 hp hpi e6 => ?_
 refine Ag3 ((ha.ext e5).ext e6) hp (by rw [hai, hpi]; exact hF.left) λ q w7 hq hqi e7 => ?_
 refine Ag3 hq ((hc.ext e6).ext e7) (by rw [hqi, hai, hpi, hci]; exact hF) λ t' w8 ht' hti e8 => ?_
 have S8 := S5.ext ((e6.trans e7).trans e8)
 refine S8.Ad 0 rfl rfl rfl rfl λ w9 S9 u9 => S9.lds 0 (t'.ptr, ()) rfl (hK t' w9 (ht'.ty u9 ?_) (by rw [hti, hqi, hai, hpi, hci]) S9.upd)
 rintro k rfl c fr hc
 have := S8.at_ 0 rfl
 rw [hc] at this; cases this
end
section
variable {w w' : World} {S : Nat -> Prop}
def Bs7 (w : World) : Option Addr -> Nat
 | none => 0
 | some a => match w.cell? (a.add 9) with
  | some (.int _ n) => n.toNat
  | _ => 0
theorem Ja {t : Tr} (h : t.In w) : Bs7 w t.ptr = t.size := by
 cases t with
 | nil => rfl
 | node b l x r =>
  have := Om h (j := 9) (v := .int .i64 ((Tr.node b l x r).size : Int)) rfl
  show (match w.cell? ((at0 b).add 9) with | some (.int _ n) => n.toNat | _ => 0) = _
  rw [this]
  exact Int.toNat_natCast _
theorem Fine.part {a l b : List Pc} {L : List Pc} (h : Fine L) (e : L = a ++ (l ++ b)) : Fine l := (e ▸ h).mid
theorem Yw {t : Tr} {n : Nat} (ht : t.In w) (hf : Fine t.items) (hn : n < 2 ^ 62) {K : Cells.T Ap -> Wp} (hK : ∀ w', Ext w w' -> K (smT (tot (t.items.take n))) w') :
  Ac Tryz.prog 91 #[trV t, .int .i64 (n : Int)] (.one (.agg Ap)) K w := by
 refine A91 (a0 := (t.ptr, ())) ?_
 unfold F91
 have few := hf.few
 refine (St.start w).Af λ b1 w1 S1 e1 => S1.Af λ b2 w2 S2 e2 => S2.Af λ b3 w3 S3 e3 => S3.lds 2 (t.ptr, ()) rfl (Wj (ht.ext S3.upd) λ w4 e4 => ?_)
 have S4 := S3.ext e4
 have e0 : (if ((t.items.length : Nat) : Int) < (n : Int) then ((t.items.length : Nat) : Int) else (n : Int)) = ((min n t.items.length : Nat) : Int) := by split <;> omega
 rw [e0]
 have tk : t.items.take n = t.items.take (min n t.items.length) := List.take_eq_take_iff.2 (by omega)
 rw [tk] at hK
 generalize hm : min n t.items.length = m at *
 have hml : m <= t.items.length := by omega
 let z2 : Nat × Obj := (b2, .cells #[(.int .i64 (0 : Int)), (.int .i64 (0 : Int)), (.int .i64 (0 : Int)), (.bool false), (.bool false)] 110 (0, 0))
 let z1 : Nat × Obj := (b1, .cells (Cells.vals c105 (t.ptr, ())).toArray 105 (0, 0))
 refine Ae (λ _ w' => St (λ _ => False) w w' [(b3, .cells (Cells.vals Ap (smT (tot (t.items.take m)))).toArray 110 (0, 0)), z2, z1]) ?_ ?_
 ·refine S4.ld 2 rfl (x := t.ptr) rfl ?_
  refine Am (λ x w' => ∃ (i : Nat) (t' : Tr) (a : List Pc) (r : List Pc), x = ((i : Int), t'.ptr, ()) /\ t'.In w /\ t.items = a ++ (t'.items ++ r) /\ i <= t'.items.length /\ t.items.take m = a ++ t'.items.take i /\
   St (λ _ => False) w w' [(b3, .cells (Cells.vals Ap (smT (tot a))).toArray 110 (0, 0)), z2, z1]) (λ x w' => Bs7 w' x.2.1) ⟨m, t, [], [], rfl, ht, by simp, hml, by simp, S4⟩ ?_
  rintro _ w5 ⟨i, t', a, r, rfl, htw, eq, hi, etk, S5⟩
  have ht' := htw.ext S5.upd
  have hfa := (eq ▸ hf.ok).left
  have hft : Fine t'.items := Fine.part hf eq
  have small := hf.small
  rw [eq, Dc hfa (eq ▸ hf.ok).right, Dc (eq ▸ hf.ok).right.left (eq ▸ hf.ok).right.right] at small
  refine Ae (λ x w' => x = (decide (0 < i), ()) /\ w5 = w') ?_ ?_
  ·cases t' with
   | nil =>
    have : i = 0 := by simpa [Tr.items] using hi
    exact Aa (λ h => by cases h) (λ _ => ⟨by rw [decide_eq_false (by omega)], rfl⟩)
   | node b l x rr =>
    refine Aa (λ _ => ⟨Aj ?_, rfl⟩) (λ h => by cases h)
    simp only [decide_eq_true_eq, gt_iff_lt]; omega
  rintro _ w' ⟨rfl, rfl⟩
  refine Aa (λ h => ?_) (λ h => ?_)
  ·simp only [decide_eq_true_eq] at h
   obtain ⟨b, l, x, rr, rfl⟩ : ∃ b l x rr, t' = .node b l x rr := by
    cases t' with
    | nil => simp [Tr.items] at hi; omega
    | node b l x rr => exact ⟨b, l, x, rr, rfl⟩
   have sl := Dk l
   have srr := Dk rr
   have hti : (Tr.node b l x rr).items = l.items ++ x :: rr.items := rfl
   have hlen : (Tr.node b l x rr).items.length = l.items.length + 1 + rr.items.length := by rw [hti]; simp; omega
   have few' := hft.few
   have okl : Cb l.items := hft.ok.left
   have okx : x.sm.Ok := hft.ok.right.head
   have okr : Cb rr.items := hft.ok.right.tail
   have sm2 : (tot (Tr.node b l x rr).items).bytes = (tot l.items).bytes + (x.sm.bytes + (tot rr.items).bytes) := by
    rw [hti, Dc okl (Cb.cons okx okr)]
    have ex : x :: rr.items = [x] ++ rr.items := rfl
    rw [ex, Dc (Cb.one okx) okr, Uj okx]
   have okta := Gy hfa
   refine Cj ht' (Hw ht'.2.1 (Aa (λ h2 => ?_) (λ h2 => ?_)))
   ·simp only [decide_eq_true_eq] at h2
    refine Cj ht' ⟨⟨i, l, a, x :: rr.items ++ r, rfl, htw.2.1, by rw [eq, hti]; simp, by omega, ?_, S5⟩, ?_⟩
    ·rw [etk, hti, List.take_append_of_le_length (by omega)]
    ·dsimp only
     rw [Ja ht', Ja ht'.2.1]
     show l.size < l.size + 1 + rr.size
     omega
   ·simp only [decide_eq_false_iff_not] at h2
    refine Ae (λ _ w' => St (λ _ => False) w w' [(b3, .cells (Cells.vals Ap (smT ((tot a).add (tot l.items)))).toArray 110 (0, 0)), z2, z1]) ?_ ?_
    ·refine Cj ht' ?_
     cases l with
     | nil =>
      have e : (tot a).add (tot (Tr.nil).items) = tot a := Ce.add_zero okta
      rw [e]
      exact Aa (λ h => by cases h) (λ _ => S5)
     | node bl ll lx lr =>
      refine Aa (λ _ => S5.drew λ w6 S6 e6 _ => S6.lds 0 (smT (tot a)) rfl ?_) (λ h => by cases h)
      have ht6 := ht'.ext e6
      refine Cj ht6 (Y5 ht6.2.1 (Ag6 okta (Gy okl) (by omega) λ w7 e7 => ?_))
      exact (S6.ext e7).Ad 0 rfl rfl rfl rfl λ w8 S8 u8 => S8
    ·intro _ w6 S6
     have okm := Ce.Zw okta (Gy okl)
     have bm := (Ce.Nr _ _ okta (Gy okl)).1
     refine S6.drew λ w7 S7 e7 _ => S7.lds 0 (smT _) rfl (Gh (htw.ext S7.upd) (Zf λ w8 e8 => ?_))
     have S8 := S7.ext e8
     refine S8.keeps 0 rfl (Ag6 okm okx (by omega) λ w9 e9 => (S8.ext e9).Ad 0 rfl rfl rfl rfl λ w10 S10 u10 => Dz (htw.ext S10.upd) ?_)
     have ew : W64 (W64 ((i : Int) - (l.size : Int)) - 1) = ((i - l.items.length - 1 : Nat) : Int) := by
      rw [wrap64 (a := (i : Int) - (l.size : Int)) (by omega) (by omega), wrap64 (by omega) (by omega)]; omega
     rw [ew]
     have es : ((tot a).add (tot l.items)).add x.sm = tot (a ++ (l.items ++ [x])) := by
      rw [Gu hfa (Cb.append okl (Cb.one okx)), Gu okl (Cb.one okx), Uj okx, Ce.add_assoc okta (Gy okl) okx]
     rw [es] at S10
     refine ⟨⟨i - l.items.length - 1, rr, a ++ (l.items ++ [x]), r, rfl, htw.2.2, by rw [eq, hti]; simp, by omega, ?_, S10⟩, ?_⟩
     ·rw [etk, hti]
      obtain ⟨j, hj⟩ : ∃ j, i = l.items.length + (1 + j) := ⟨i - l.items.length - 1, by omega⟩
      have ej : i - l.items.length - 1 = j := by omega
      rw [ej, hj, List.take_length_add_append, Nat.add_comm 1 j, List.take_succ_cons]
      simp
     ·dsimp only
      rw [Ja (htw.ext S10.upd).2.2, Ja ht']
      show rr.size < l.size + 1 + rr.size
      omega
  ·simp only [decide_eq_false_iff_not] at h
   have : i = 0 := by omega
   subst this
   rw [etk]
   simpa using S5
 ·intro _ w5 S5
  exact S5.lds 0 (smT _) rfl (S5.Ad 1 rfl rfl rfl rfl λ w6 S6 u6 => S6.lds 1 (smT _) rfl (hK w6 S6.upd))
def atI (l : List Pc) (n : Nat) : Pc × Bool := match l[n]? with | some x => (x, true) | none => (Pc.zero, false)
theorem U1 {t : Tr} {n : Nat} (ht : t.In w) (hf : Fine t.items) (hn : n < 2 ^ 62) {K : Cells.T Ag × Bool × Unit -> Wp} (hK : ∀ w', Ext w w' -> K (pcT (atI t.items n).1, (atI t.items n).2, ()) w') :
  Ac Tryz.prog 92 #[trV t, .int .i64 (n : Int)] (.tup [(.agg Ag), (.one .bool)]) K w := by
 refine A92 (a0 := (t.ptr, ())) ?_
 unfold F92
 refine (St.start w).Af λ b1 w1 S1 e1 => S1.Af λ b2 w2 S2 e2 => ?_
 let z2 : Nat × Obj := (b2, .cells (Cells.vals Ag (pcT Pc.zero)).toArray 112 (0, 0))
 let z1 : Nat × Obj := (b1, .cells (Cells.vals c105 (t.ptr, ())).toArray 105 (0, 0))
 refine Ae (λ _ w' => St (λ _ => False) w w' [z2, z1] /\ t.items.length <= n) ?_ ?_
 ·refine S2.ld 1 rfl (x := t.ptr) rfl ?_
  refine Am (λ x w' => ∃ (i : Nat) (t' : Tr) (a r : List Pc), x = ((i : Int), t'.ptr, ()) /\ t'.In w /\ Fine t'.items /\ t.items = a ++ (t'.items ++ r) /\ n = a.length + i /\ (t'.items.length <= i -> r = []) /\
   St (λ _ => False) w w' [z2, z1]) (λ x w' => Bs7 w' x.2.1) ⟨n, t, [], [], rfl, ht, hf, by simp, by simp, λ _ => rfl, S2⟩ ?_
  rintro _ w5 ⟨i, t', a, r, rfl, htw, hft, eq, hi, hr, S5⟩
  have ht' := htw.ext S5.upd
  cases t' with
  | nil =>
   refine Ae (λ x w' => x = (false, ()) /\ w5 = w') (Aa (λ h => by cases h) (λ _ => ⟨rfl, rfl⟩)) ?_
   rintro _ w' ⟨rfl, rfl⟩
   refine Aa (λ h => by cases h) (λ _ => ⟨S5, ?_⟩)
   have := hr (Nat.zero_le _)
   rw [eq, this]
   simp [Tr.items]; omega
  | node b l x rr =>
   refine Ae (λ x w' => x = (true, ()) /\ w5 = w') (Aa (λ _ => ⟨by rw [decide_eq_true (by omega)], rfl⟩) (λ h => by cases h)) ?_
   rintro _ w' ⟨rfl, rfl⟩
   have hti : (Tr.node b l x rr).items = l.items ++ x :: rr.items := rfl
   have sl := Dk l
   have few' := hft.few
   have hlen : (Tr.node b l x rr).items.length = l.items.length + 1 + rr.items.length := by rw [hti]; simp; omega
   have hfl : Fine l.items := hft.left
   have hfr : Fine rr.items := Fine.right (l := [x]) hft.right
   refine Aa (λ _ => Cj ht' (Hw ht'.2.1 (Aa (λ h2 => ?_) (λ h2 => Aa (λ h3 => ?_) (λ h3 => ?_))))) (λ h => by cases h)
   ·simp only [beq_iff_eq] at h2
    have hil : i = l.items.length := by omega
    refine Gh ht' (S5.Ad 0 rfl rfl rfl rfl λ w6 S6 u6 => S6.lds 0 (pcT x) rfl ?_)
    have e : atI t.items n = (x, true) := by
     unfold atI
     rw [eq, hi, hil, hti]
     have : (a ++ (l.items ++ x :: rr.items ++ r))[a.length + l.items.length]? = some x := by
      rw [List.getElem?_append_right (by omega), Nat.add_sub_cancel_left, List.append_assoc, List.getElem?_append_right (by omega), Nat.sub_self]; rfl
     rw [this]
    have := hK w6 S6.upd
    rw [e] at this
    exact this
   ·simp only [beq_eq_false_iff_ne] at h2
    simp only [decide_eq_true_eq] at h3
    refine Cj ht' ⟨⟨i, l, a, x :: rr.items ++ r, rfl, htw.2.1, hfl, by rw [eq, hti]; simp, hi, λ h => by omega, S5⟩, ?_⟩
    dsimp only
    rw [Ja ht', Ja ht'.2.1]
    show l.size < l.size + 1 + rr.size
    omega
   ·simp only [beq_eq_false_iff_ne] at h2
    simp only [decide_eq_false_iff_not] at h3
    have ew : W64 (W64 ((i : Int) - (l.size : Int)) - 1) = ((i - l.items.length - 1 : Nat) : Int) := by
     rw [wrap64 (a := (i : Int) - (l.size : Int)) (by omega) (by omega), wrap64 (by omega) (by omega)]; omega
    rw [ew]
    refine Dz ht' ⟨⟨i - l.items.length - 1, rr, a ++ (l.items ++ [x]), r, rfl, htw.2.2, hfr, by rw [eq, hti]; simp, by simp; omega, λ h => hr (by omega), S5⟩, ?_⟩
    dsimp only
    rw [Ja ht', Ja ht'.2.2]
    show rr.size < l.size + 1 + rr.size
    omega
 ·rintro _ w5 ⟨S5, hle⟩
  refine S5.Af λ b6 w6 S6 e6 => S6.lds 0 (pcT Pc.zero) rfl (S6.Ad 1 rfl rfl rfl rfl λ w7 S7 u7 => S7.lds 1 (pcT Pc.zero) rfl ?_)
  have e : atI t.items n = (Pc.zero, false) := by unfold atI; rw [List.getElem?_eq_none hle]
  have := hK w7 S7.upd
  rw [e] at this
  exact this
def keyOf (k : Nat) (s : Ce) : Nat := if k = 0 then s.atoms else s.breaks
def Yg (k n : Nat) (l : List Pc) : Nat := ((List.range (l.length + 1)).find? λ i => decide (n <= keyOf k (tot (l.take i)))).getD (l.length + 1)
theorem Bo5 {s : Ce} {k : Nat} (hk : k < 2) {K : Int -> Wp} (hK : ∀ w', Ext w w' -> K ((keyOf k s : Nat) : Int) w') :
  Bf Tryz.prog (invoke (.fn (.method "Key") #[]) (#[.iface 110 (smV s)] ++ #[.int .i64 (k : Int)])) (.one (.one (.int .i64))) K w :=
 Ce0 hk λ w' e => by
  have := hK w' e
  unfold keyOf at this
  split at this
  ·rename_i h; rw [if_pos h]; exact this
  ·rename_i h; rw [if_neg h]; exact this
theorem Y8 {k : Nat} {a b : Ce} (ha : a.Ok) (hb : b.Ok) : keyOf k a <= keyOf k (a.add b) := by
 unfold keyOf Ce.add
 have h1 := ha.nil
 have h2 := hb.lf
 split
 ·split
  ·rename_i h; omega
  ·split
   ·exact Nat.le_refl _
   ·show a.atoms <= a.atoms + b.atoms; omega
 ·split
  ·rename_i h; rw [h1 h]; exact Nat.zero_le _
  ·split
   ·exact Nat.le_refl _
   ·show a.breaks <= a.breaks + b.breaks - _
    split
    ·rename_i h
     simp only [Bool.and_eq_true] at h
     have := h2 h.2; omega
    ·omega
theorem Aa2 {k n : Nat} {l : List Pc} {j : Nat} (hj : j <= l.length) (h1 : n <= keyOf k (tot (l.take j))) (h0 : ∀ i, i < j -> keyOf k (tot (l.take i)) < n) : Yg k n l = j := by
 unfold Yg
 have : (List.range (l.length + 1)).find? (λ i => decide (n <= keyOf k (tot (l.take i)))) = some j := by
  rw [List.find?_range_eq_some]
  refine ⟨by simpa using h1, by simp; omega, λ i hi => ?_⟩
  have := h0 i hi
  simp; omega
 rw [this]; rfl
theorem Ay4 {k n : Nat} {l : List Pc} (h0 : ∀ i, i <= l.length -> keyOf k (tot (l.take i)) < n) : Yg k n l = l.length + 1 := by
 unfold Yg
 have : (List.range (l.length + 1)).find? (λ i => decide (n <= keyOf k (tot (l.take i)))) = none := by
  rw [List.find?_range_eq_none]
  intro i hi
  have := h0 i (by omega)
  simp; omega
 rw [this]; rfl
end
end Go.Proofs.YtabcpghhfeplaaaGreat
