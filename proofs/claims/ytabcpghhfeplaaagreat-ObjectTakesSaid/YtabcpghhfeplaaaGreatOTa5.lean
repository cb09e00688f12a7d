/- YtabcpghhfeplaaaGreatOTa5: parts of the proof, put together by program. -/
import Derived.Test.YtabcpghhfeplaaaGreatOTa4
set_option linter.unusedVariables false
set_option linter.unusedSimpArgs false
set_option linter.unusedSectionVars false
noncomputable section
set_option maxRecDepth 100000
namespace Go.Proofs.YtabcpghhfeplaaaGreat
open Go Go.Vx
def F19 (a0 : Option Addr) (a1 : Int) (a2 : I3) (K : (I3 × Int × Unit) -> Wp) : Wp := Af (.cells #[(vI a2.1), (vI a2.2.1), (vI a2.2.2.1)] 39) λ b1 => Af (.cells #[(vI 0), (vI 0), (vI 0)] 34) λ b2 => lds c39 (at0 b1) λ (x3 : I3) => cN 37 #[(.pointer a0), (vI a1), (vA c39 x3), (vI 67), (vI 68)] λ x4 => lI (ad b1 2) λ x5 => Ac Tryz.prog 38 #[(vI x5)] (.tup [(.one cI), (.one .bool)]) λ (x6 : (Int × Bool × Unit)) => jB (λ J7 => sif (x4 == 1) ( J7 (true, ())) ( J7 ((!x6.2.1), ()))) λ s8 => sif s8.1 ( Ad (at0 b2) (.agg #[(vI 0), (vI 0), (vI 0)]) 3 <| lds c34 (at0 b2) λ (x9 : I3) => K (x9, 1, ())) ( sif (x4 != 0) ( Ad (at0 b2) (.agg #[(vI 0), (vI 0), (vI 0)]) 3 <| lds c34 (at0 b2) λ (x10 : I3) => K (x10, x4, ())) ( cN 40 #[(.pointer a0)] λ x11 => cS 23 #[(.pointer a0), (vI 0), (vI x11)] λ x12 => cS 39 #[x12.v, (vI 0)] λ x13 => jI (λ J14 => sI (λ s16 again17 => jB (λ J18 => sif (decide (s16.1 < ((x13.len : Nat) : Int))) ( ixf cI x13 s16.1 5 1 λ (x21 : Int) => J18 ((decide (a1 >= x21)), ())) ( J18 (false, ()))) λ s19 => sif s19.1 ( again17 ((W64 (s16.1 + 1)), ())) ( J14 (s16.1, ()))) (0, ())) λ s15 => jB (λ J22 => sif (s15.1 == ((x13.len : Nat) : Int)) ( J22 (true, ())) ( lds c39 (at0 b1) λ (x24 : I3) => cN 41 #[(vA c39 x24)] λ x25 => J22 ((decide (x25 > ((x13.len : Nat) : Int))), ()))) λ s23 => sif s23.1 ( Ad (at0 b2) (.agg #[(vI 0), (vI 0), (vI 0)]) 3 <| lds c34 (at0 b2) λ (x26 : I3) => K (x26, 90, ())) ( jN (λ J27 => drew <| ixs c72 x13 s15.1 5 λ (x30 : (Int × Int × Int × Bool × Int × Unit)) => lI (ad b1 2) λ x31 => cB 42 #[(vA c72 x30), (vI x31)] λ x32 => sif x32 ( J27 (s15.1, (W64 (s15.1 + 1)), ())) ( J27 ((W64 (s15.1 - 1)), s15.1, ()))) λ s28 => drew <| lI (ad b1 2) λ x33 => lds c39 (at0 b1) λ (x34 : I3) => cN 41 #[(vA c39 x34)] λ x35 => keep (λ w => w.cell? (ad b1 2) = some (Cell.val cI x33)) <| cN 43 #[x13.v, (vI s28.1), (vI (-1)), (vI x33), (vI x6.1), (vI x35)] λ x36 => drew <| lI (ad b1 2) λ x37 => lds c39 (at0 b1) λ (x38 : I3) => cN 41 #[(vA c39 x38)] λ x39 => keep (λ w => w.cell? (ad b1 2) = some (Cell.val cI x37)) <| cN 43 #[x13.v, (vI s28.2.1), (vI 1), (vI x6.1), (vI x37), (vI x39)] λ x40 => jB (λ J41 => sif (decide (x36 < 0)) ( J41 (true, ())) ( J41 ((decide (x40 < 0)), ()))) λ s42 => sif s42.1 ( Ad (at0 b2) (.agg #[(vI 0), (vI 0), (vI 0)]) 3 <| lds c34 (at0 b2) λ (x43 : I3) => K (x43, 90, ())) ( lI (at0 b1) λ x44 => sif (x44 == 67) ( drew <| ixs c72 x13 x36 5 λ (x46 : (Int × Int × Int × Bool × Int × Unit)) => ixs c72 x13 x40 5 λ (x48 : (Int × Int × Int × Bool × Int × Unit)) => Ac Tryz.prog 44 #[(.pointer a0), (vA c72 x46), (vA c72 x48)] (.one (.agg c34)) λ (x49 : I3) => Ad (at0 b2) (vA c34 x49) 3 <| lds c34 (at0 b2) λ (x50 : I3) => K (x50, 0, ())) ( drew <| ixI x13 x36 5 λ x52 => ixf cI x13 x40 5 1 λ (x54 : Int) => Ad (at0 b2) (.agg #[(vI x52), (vI x54), (vI 0)]) 3 <| lds c34 (at0 b2) λ (x55 : I3) => K (x55, 0, ()))))))
def h19 : Hint := (hS (hR 3) (hS (hR 5) (hS (hR 8) (hS (hJ (8455716864, [(32, tB)]) (.region [] (.ops 3 (.split 29 (.skips 2 (hO 1)) (hO 3)))) (hC (hS (hR 3) hL) hL)) (hS (hS (hR 2) (hC (hS (hR 4) hL) hL)) (hS (hR 6) (hS (hR 1) (hJ (0x3fff80000001000, [(12, tI)]) (.block (.loop 0x3fff80000001000 [(12, tI)] (hS (hJ ((mR [(43, 56)]), [(55, tB)]) (.region [] (.ops 5 (.split 47 (hO 8) (.skips 7 (hO 1))))) (hC hL hL)) (.block (hR 3))))) (hS (hJ ((mR [(58, 69)]), [(68, tB)]) (.region [] (.ops 5 (.split 62 (.skips 5 (hO 1)) (hO 6)))) (hC (hS (hR 3) hL) hL)) (hS (hR 6) (hJ (0x7fc000000000000006000, [(13, tI), (14, tI)]) (hS (.region (lR 7) (hO 7)) (hC (hR 2) (hR 2))) (hS (.region (lR 9) (hO 9)) (hS (.region (lR 9) (hO 9)) (hS (.block (hJ ((mR [(99, 106)]), [(99, tB)]) (.region [] (.ops 3 (.split 102 (.skips 2 (hO 2)) (hO 4)))) (hC (hS (hR 3) hL) (hS (hR 4) (hC (hS (.region (lR 12) (hO 12)) hL) hL))))) (hS (.region (lR 13) (hO 13)) hL)))))))))))))))
theorem A19 {a0 : Option Addr} {a1 : Int} {a2 : I3} {K : (I3 × Int × Unit) -> Wp} {w : World} (h : F19 a0 a1 a2 K w) : Ac Tryz.prog 19 #[(.pointer a0), (vI a1), (vA c39 a2)] (.tup [(.agg c34), (.one cI)]) K w := tied Ai Tryz.func19 h19 _ h
def F20 (a0 : Option Addr) (a1 : Int) (a2 : I3) (K : (I3 × Int × Unit) -> Wp) : Wp := Af (.cells #[(vI a2.1), (vI a2.2.1), (vI a2.2.2.1)] 39) λ b1 => Af (.cells #[(vI 0), (vI 0), (vI 0)] 34) λ b2 => lI (at0 b1) λ x3 => sif (decide (x3 <= 64)) ( lds c39 (at0 b1) λ (x4 : I3) => Ac Tryz.prog 29 #[(.pointer a0), (vI a1), (vA c39 x4)] (.tup [(.agg c34), (.one cI)]) λ (x5 : (I3 × Int × Unit)) => Ad (at0 b2) (vA c34 x5.1) 3 <| lds c34 (at0 b2) λ (x6 : I3) => K (x6, x5.2.1, ())) ( lI (at0 b1) λ x7 => sif (decide (x7 <= 66)) ( lds c39 (at0 b1) λ (x8 : I3) => Ac Tryz.prog 31 #[(.pointer a0), (vI a1), (vA c39 x8)] (.tup [(.agg c34), (.one cI)]) λ (x9 : (I3 × Int × Unit)) => Ad (at0 b2) (vA c34 x9.1) 3 <| lds c34 (at0 b2) λ (x10 : I3) => K (x10, x9.2.1, ())) ( lI (at0 b1) λ x11 => sif (decide (x11 <= 68)) ( lds c39 (at0 b1) λ (x12 : I3) => Ac Tryz.prog 19 #[(.pointer a0), (vI a1), (vA c39 x12)] (.tup [(.agg c34), (.one cI)]) λ (x13 : (I3 × Int × Unit)) => Ad (at0 b2) (vA c34 x13.1) 3 <| lds c34 (at0 b2) λ (x14 : I3) => K (x14, x13.2.1, ())) ( lds c39 (at0 b1) λ (x15 : I3) => Ac Tryz.prog 33 #[(.pointer a0), (vI a1), (vA c39 x15)] (.tup [(.agg c34), (.one cI)]) λ (x16 : (I3 × Int × Unit)) => Ad (at0 b2) (vA c34 x16.1) 3 <| lds c34 (at0 b2) λ (x17 : I3) => K (x17, x16.2.1, ()))))
def h20 : Hint := (hS (hR 3) (hS (.block (hS (hR 4) (hC (hS (hR 8) hL) (hS (hR 4) (hC (hS (hR 8) hL) (hS (hR 4) (hC (hS (hR 8) hL) hL))))))) (hS (hR 8) hL)))
theorem A20 {a0 : Option Addr} {a1 : Int} {a2 : I3} {K : (I3 × Int × Unit) -> Wp} {w : World} (h : F20 a0 a1 a2 K w) : Ac Tryz.prog 20 #[(.pointer a0), (vI a1), (vA c39 a2)] (.tup [(.agg c34), (.one cI)]) K w := tied Ai Tryz.func20 h20 _ h
def F29 (a0 : Option Addr) (a1 : Int) (a2 : I3) (K : (I3 × Int × Unit) -> Wp) : Wp := Af (.cells #[(vI a2.1), (vI a2.2.1), (vI a2.2.2.1)] 39) λ b1 => Af (.cells #[(vI 0), (vI 0), (vI 0)] 34) λ b2 => lds c39 (at0 b1) λ (x3 : I3) => cN 37 #[(.pointer a0), (vI a1), (vA c39 x3), (vI 61), (vI 64)] λ x4 => sif (x4 != 0) ( Ad (at0 b2) (.agg #[(vI 0), (vI 0), (vI 0)]) 3 <| lds c34 (at0 b2) λ (x5 : I3) => K (x5, x4, ())) ( Ac Tryz.prog 51 #[(.pointer a0), (vI a1)] (.tup [(.one .sl), (.one cI)]) λ (x6 : (Sl × Int × Unit)) => Af (.cells #[(.slice none 0 0)] 68) λ b7 => stC (at0 b7) x6.1.v <| sif (decide (x6.2.1 < 0)) ( Ad (at0 b2) (.agg #[(vI 0), (vI 0), (vI 0)]) 3 <| lds c34 (at0 b2) λ (x8 : I3) => K (x8, 90, ())) ( join (S := Addr × Unit) (λ J9 => lI (at0 b1) λ x11 => sif (x11 == 63) ( Af (.cells #[(.bool false)] 4) λ b12 => stC (at0 b12) (.bool true) <| J9 ((at0 b12), ())) ( lI (at0 b1) λ x13 => Af (.cells #[(.bool false)] 4) λ b14 => stC (at0 b14) (.bool (x13 == 64)) <| J9 ((at0 b14), ()))) λ s10 => ld (.sl) (at0 b7) λ (x15 : Sl) => Af (.cells #[(vI 0), .nilFunc] 89) λ b16 => Ad (at0 b16) (.agg #[(vI ((x15.len : Nat) : Int)), (.func (Fn.func 52) #[] #[(.pointer (some s10.1)), (.pointer (some (at0 b7)))])]) 2 <| lds c89 (at0 b16) λ (x17 : (Int × Value × Unit)) => join (S := Value × Unit) (λ J18 => jB (λ J20 => lI (at0 b1) λ x22 => sif (x22 == 62) ( J20 (true, ())) ( lI (at0 b1) λ x23 => J20 ((x23 == 64), ()))) λ s21 => sif s21.1 ( lds c89 (at0 b16) λ (x24 : (Int × Value × Unit)) => J18 ((.func (Fn.func 54) #[(vA c89 x24)] #[]), ())) ( J18 ((.func (Fn.func 53) #[(vA c89 x17)] #[]), ()))) λ s19 => lds c39 (at0 b1) λ (x25 : I3) => cN 41 #[(vA c39 x25)] λ x26 => Bf Tryz.prog (do let d ← Deferred.ofValue s19.1 #[(vI x6.2.1), (vI x26)]; invoke d.target d.args : Sem Next) (.tup [(.one cI), (.one cI), (.one .bool)]) λ (x27 : (Int × Int × Bool × Unit)) => sif (!x27.2.2.1) ( Ad (at0 b2) (.agg #[(vI 0), (vI 0), (vI 0)]) 3 <| lds c34 (at0 b2) λ (x28 : I3) => K (x28, 90, ())) ( drew <| ld (.sl) (at0 b7) λ (x29 : Sl) => ixI x29 x27.1 5 λ x31 => ld (.sl) (at0 b7) λ (x32 : Sl) => ixf cI x32 (W64 (x27.2.1 - 1)) 5 1 λ (x34 : Int) => Ad (at0 b2) (.agg #[(vI x31), (vI x34), (vI 0)]) 3 <| lds c34 (at0 b2) λ (x35 : I3) => K (x35, 0, ()))))
def h29 : Hint := (hS (hR 3) (hS (hS (hR 5) (hS (hR 2) (hC (hS (hR 4) hL) hL))) (hS (hR 9) (hS (hS (hR 2) (hC (hS (hR 3) hL) hL)) (hJ (0x3fc00000800, [(11, (.one .addr))]) (.region [] (.ops 4 (.split 37 (.skips 3 (hO 3)) (hO 6)))) (hS (hR 6) (hS (hR 3) (hJ (0x3ff000000002000, [(13, (.one .any))]) (hJ ((mR [(48, 56)]), [(55, tB)]) (.region [] (.ops 4 (.split 51 (.skips 3 (hO 1)) (hO 4)))) (hC (hR 3) hL)) (hS (hR 12) (hS (hS (hR 2) (hC (hS (hR 3) hL) hL)) (hS (.region (lR 14) (hO 14)) hL)))))))))))
theorem A29 {a0 : Option Addr} {a1 : Int} {a2 : I3} {K : (I3 × Int × Unit) -> Wp} {w : World} (h : F29 a0 a1 a2 K w) : Ac Tryz.prog 29 #[(.pointer a0), (vI a1), (vA c39 a2)] (.tup [(.agg c34), (.one cI)]) K w := tied Ai Tryz.func29 h29 _ h
def F31 (a0 : Option Addr) (a1 : Int) (a2 : I3) (K : (I3 × Int × Unit) -> Wp) : Wp := Af (.cells #[(vI a2.1), (vI a2.2.1), (vI a2.2.2.1)] 39) λ b1 => Af (.cells #[(vI 0), (vI 0), (vI 0)] 34) λ b2 => lds c39 (at0 b1) λ (x3 : I3) => cN 37 #[(.pointer a0), (vI a1), (vA c39 x3), (vI 65), (vI 66)] λ x4 => jB (λ J5 => sif (x4 == 1) ( J5 (true, ())) ( lI (ad b1 2) λ x7 => sif (x7 != 34) ( lI (ad b1 2) λ x8 => sif (x8 != 39) ( lI (ad b1 2) λ x9 => J5 ((x9 != 96), ())) ( J5 (false, ()))) ( J5 (false, ())))) λ s6 => sif s6.1 ( Ad (at0 b2) (.agg #[(vI 0), (vI 0), (vI 0)]) 3 <| lds c34 (at0 b2) λ (x10 : I3) => K (x10, 1, ())) ( sif (x4 != 0) ( Ad (at0 b2) (.agg #[(vI 0), (vI 0), (vI 0)]) 3 <| lds c34 (at0 b2) λ (x11 : I3) => K (x11, x4, ())) ( Ac Tryz.prog 51 #[(.pointer a0), (vI a1)] (.tup [(.one .sl), (.one cI)]) λ (x12 : (Sl × Int × Unit)) => Af (.cells #[(.slice none 0 0)] 68) λ b13 => stC (at0 b13) x12.1.v <| ld (.sl) (at0 b13) λ (x14 : Sl) => lI (ad b1 2) λ x15 => Ac Tryz.prog 55 #[x14.v, (vI x12.2.1), (vI x15)] (.tup [(.one cI), (.one cI), (.one .bool)]) λ (x16 : (Int × Int × Bool × Unit)) => sif (!x16.2.2.1) ( Ad (at0 b2) (.agg #[(vI 0), (vI 0), (vI 0)]) 3 <| lds c34 (at0 b2) λ (x17 : I3) => K (x17, 90, ())) ( jB (λ J18 => lI (at0 b1) λ x20 => sif (x20 == 65) ( lI (ad b1 1) λ x21 => J18 ((decide (x21 < 2)), ())) ( J18 (false, ()))) λ s19 => sif s19.1 ( drew <| ld (.sl) (at0 b13) λ (x22 : Sl) => ixf cI x22 x16.1 5 1 λ (x24 : Int) => ld (.sl) (at0 b13) λ (x25 : Sl) => ixI x25 x16.2.1 5 λ x27 => Ad (at0 b2) (.agg #[(vI x24), (vI x27), (vI 0)]) 3 <| lds c34 (at0 b2) λ (x28 : I3) => K (x28, 0, ())) ( jN (λ J29 => lI (at0 b1) λ x31 => sif (x31 == 66) ( jI (λ J32 => sI (λ s34 again35 => Bf Tryz.prog (do let d ← Deferred.ofValue (.func (Fn.func 56) #[] #[(.pointer (some (at0 b13)))]) #[(vI s34.1)]; invoke d.target d.args : Sem Next) rB λ (x36 : Bool) => sif x36 ( again35 ((W64 (s34.1 + 1)), ())) ( J32 (s34.1, ()))) ((W64 (x16.2.1 + 1)), ())) λ s33 => sI (λ s37 again38 => jB (λ J39 => sif (s33.1 == (W64 (x16.2.1 + 1))) ( Bf Tryz.prog (do let d ← Deferred.ofValue (.func (Fn.func 56) #[] #[(.pointer (some (at0 b13)))]) #[(vI (W64 (s37.1 - 1)))]; invoke d.target d.args : Sem Next) rB λ (x41 : Bool) => J39 (x41, ())) ( J39 (false, ()))) λ s40 => sif s40.1 ( again38 ((W64 (s37.1 - 1)), ())) ( J29 (s37.1, s33.1, ()))) (x16.1, ())) ( J29 (x16.1, (W64 (x16.2.1 + 1)), ()))) λ s30 => drew <| ld (.sl) (at0 b13) λ (x42 : Sl) => ixI x42 s30.1 5 λ x44 => ld (.sl) (at0 b13) λ (x45 : Sl) => ixf cI x45 (W64 (s30.2.1 - 1)) 5 1 λ (x47 : Int) => Ad (at0 b2) (.agg #[(vI x44), (vI x47), (vI 0)]) 3 <| lds c34 (at0 b2) λ (x48 : I3) => K (x48, 0, ())))))
def h31 : Hint := (hS (hR 3) (hS (hR 5) (hS (hJ (0x3fffe00000, [(37, tB)]) (.region [] (.ops 3 (.split 23 (.skips 13 (hO 1)) (.ops 4 (.split 27 (.ops 5 (.split 32 (hO 5) (.skips 3 (hO 2)))) (.skips 3 (.ops 2 (.skips 3 (hO 2))))))))) (hC (hS (hR 3) hL) hL)) (hS (hS (hR 2) (hC (hS (hR 4) hL) hL)) (hS (hR 9) (hS (hR 12) (hS (hS (hR 2) (hC (hS (hR 3) hL) hL)) (hS (hJ ((mR [(61, 69)]), [(68, tB)]) (.region [] (.ops 4 (.split 64 (hO 4) (.skips 3 (hO 1))))) (hC (hS (.region (lR 13) (hO 13)) hL) hL)) (hS (hR 5) (hJ ((mR [(14, 17), (83, 104)]), [(14, tI), (15, tI)]) (hS (hR 3) (hC (hS (hR 2) (hJ ((mR [(15, 16), (87, 92)]), [(15, tI)]) (.block (.loop (mR [(15, 16), (87, 92)]) [(15, tI)] (hS (hS (hR 3) (hC hL hL)) (.block (hR 3))))) (.block (.loop (mR [(14, 15), (92, 104)]) [(14, tI)] (hS (hJ ((mR [(92, 102)]), [(101, tB)]) (.region [] (.ops 5 (.split 96 (hO 5) (.skips 4 (hO 1))))) (hC hL hL)) (.block (hR 3))))))) hL)) (hS (.region (lR 14) (hO 14)) hL)))))))))))
theorem A31 {a0 : Option Addr} {a1 : Int} {a2 : I3} {K : (I3 × Int × Unit) -> Wp} {w : World} (h : F31 a0 a1 a2 K w) : Ac Tryz.prog 31 #[(.pointer a0), (vI a1), (vA c39 a2)] (.tup [(.agg c34), (.one cI)]) K w := tied Ai Tryz.func31 h31 _ h
def F33 (a0 : Option Addr) (a1 : Int) (a2 : I3) (K : (I3 × Int × Unit) -> Wp) : Wp := Af (.cells #[(.pointer a0)] 25) λ b1 => Af (.cells #[(vI a2.1), (vI a2.2.1), (vI a2.2.2.1)] 39) λ b2 => Af (.cells #[(vI 0), (vI 0), (vI 0)] 34) λ b3 => ld (.ptr) (at0 b1) λ (x4 : Option Addr) => lds c39 (at0 b2) λ (x5 : I3) => cN 37 #[(.pointer x4), (vI a1), (vA c39 x5), (vI 69), (vI 70)] λ x6 => sif (x6 != 0) ( Ad (at0 b3) (.agg #[(vI 0), (vI 0), (vI 0)]) 3 <| lds c34 (at0 b3) λ (x7 : I3) => K (x7, x6, ())) ( ld (.ptr) (at0 b1) λ (x8 : Option Addr) => cN 57 #[(.pointer x8), (vI a1)] λ x9 => ld (.ptr) (at0 b1) λ (x10 : Option Addr) => cN 58 #[(.pointer x10)] λ x11 => sif (decide (x9 >= x11)) ( Ad (at0 b3) (.agg #[(vI 0), (vI 0), (vI 0)]) 3 <| lds c34 (at0 b3) λ (x12 : I3) => K (x12, 90, ())) ( Af (.cells #[(.slice none 0 0)] 95) λ b13 => Af (.cells #[(.slice none 0 0)] 26) λ b14 => ld (.ptr) (at0 b1) λ (x15 : Option Addr) => Ac Tryz.prog 59 #[(.pointer x15)] (.one (.one .any)) λ (x16 : Value) => X6 (S := Int × I4 × Unit) Tryz.prog (Slots.vals [(40, (.one cI)), (41, (.agg Bj))]) x16 (λ l17 rc18 R19 (s20 : Int × I4 × Unit) => Af (.cells #[(vI 0), (vI 0), (vI 0), (vI 0)] 100) λ b22 => Ad (at0 b22) (vA Bj s20.2.1) 4 <| Cb8 l17 rc18 <| jI (λ J23 => ld (.ptr) (at0 b1) λ (x25 : Option Addr) => lI (at0 b22) λ x26 => lI (ad b22 1) λ x27 => cS 23 #[(.pointer x25), (vI x26), (vI x27)] λ x28 => cS 39 #[x28.v, (vI 0)] λ x29 => sN (λ s30 again31 => sif (decide (s30.2.1 < ((x29.len : Nat) : Int))) ( ixs c72 x29 s30.2.1 5 λ (x33 : (Int × Int × Int × Bool × Int × Unit)) => Af (.cells #[(vI 0), (vI 0), (vI 0), (.bool false), (vI 0)] 72) λ b34 => Ad (at0 b34) (vA c72 x33) 5 <| lI (ad b34 2) λ x35 => sif (x35 != 0) ( J23 (1, ())) ( again31 (s30.1, (W64 (s30.2.1 + 1)), ()))) ( J23 (s30.1, ()))) (0, 0, ())) λ s24 => drew <| ld (.sl) (at0 b13) λ (x36 : Sl) => lds Bj (at0 b22) λ (x37 : I4) => ld (.sl) (at0 b14) λ (x38 : Sl) => both ( Af (.cells #[(vI s24.1)] 3) λ b39 => keep (λ w => w.cell? (at0 b14) = some (Cell.val (.sl) x38)) <| keep (λ w => Ak w (at0 b22) 0 (Cells.vals Bj x37)) <| keep (λ w => w.cell? (at0 b13) = some (Cell.val (.sl) x36)) <| Af (.cells #[(vI x37.1), (vI x37.2.1), (vI x37.2.2.1), (vI x37.2.2.2.1)] 100) λ b40 => keep (λ w => w.cell? (at0 b14) = some (Cell.val (.sl) x38)) <| keep (λ w => w.cell? (at0 b13) = some (Cell.val (.sl) x36)) <| Df Tryz.prog rS (Builtin.append_ #[95, 95] 95 #[x36.v, (.slice (some (at0 b40)) 1 1)]) λ (x41 : Sl) => keep (λ w => w.cell? (at0 b14) = some (Cell.val (.sl) x38)) <| Df Tryz.prog rS (Builtin.append_ #[26, 26] 26 #[x38.v, (.slice (some (at0 b39)) 1 1)]) λ (x42 : Sl) => stC (at0 b13) x41.v <| stC (at0 b14) x42.v <| Ac2 l17 rc18 none R19) <| Af (.cells #[(vI x37.1), (vI x37.2.1), (vI x37.2.2.1), (vI x37.2.2.2.1)] 100) λ b43 => keep (λ w => w.cell? (at0 b14) = some (Cell.val (.sl) x38)) <| keep (λ w => w.cell? (at0 b13) = some (Cell.val (.sl) x36)) <| both ( Af (.cells #[(vI s24.1)] 3) λ b44 => keep (λ w => w.cell? (at0 b14) = some (Cell.val (.sl) x38)) <| keep (λ w => Ak w (at0 b22) 0 (Cells.vals Bj x37)) <| keep (λ w => w.cell? (at0 b13) = some (Cell.val (.sl) x36)) <| Df Tryz.prog rS (Builtin.append_ #[95, 95] 95 #[x36.v, (.slice (some (at0 b43)) 1 1)]) λ (x45 : Sl) => keep (λ w => w.cell? (at0 b14) = some (Cell.val (.sl) x38)) <| Df Tryz.prog rS (Builtin.append_ #[26, 26] 26 #[x38.v, (.slice (some (at0 b44)) 1 1)]) λ (x46 : Sl) => stC (at0 b13) x45.v <| stC (at0 b14) x46.v <| Ac2 l17 rc18 none R19) <| Df Tryz.prog rS (Builtin.append_ #[95, 95] 95 #[x36.v, (.slice (some (at0 b43)) 1 1)]) λ (x47 : Sl) => keep (λ w => w.cell? (at0 b14) = some (Cell.val (.sl) x38)) <| both ( Af (.cells #[(vI s24.1)] 3) λ b48 => keep (λ w => w.cell? (at0 b14) = some (Cell.val (.sl) x38)) <| keep (λ w => Ak w (at0 b22) 0 (Cells.vals Bj x37)) <| keep (λ w => w.cell? (at0 b13) = some (Cell.val (.sl) x36)) <| Df Tryz.prog rS (Builtin.append_ #[26, 26] 26 #[x38.v, (.slice (some (at0 b48)) 1 1)]) λ (x49 : Sl) => stC (at0 b13) x47.v <| stC (at0 b14) x49.v <| Ac2 l17 rc18 none R19) <| nothing) λ D21 => aft ( ld (.sl) (at0 b13) λ (x69 : Sl) => Af (.cells #[(vI 0), .nilFunc] 89) λ b70 => Ad (at0 b70) (.agg #[(vI ((x69.len : Nat) : Int)), (.func (Fn.func 60) #[] #[(.pointer (some (at0 b14)))])]) 2 <| lds c89 (at0 b70) λ (x71 : (Int × Value × Unit)) => join (S := Value × Unit) (λ J72 => lI (at0 b2) λ x74 => sif (x74 == 70) ( lds c89 (at0 b70) λ (x75 : (Int × Value × Unit)) => J72 ((.func (Fn.func 54) #[(vA c89 x75)] #[]), ())) ( J72 ((.func (Fn.func 53) #[(vA c89 x71)] #[]), ()))) λ s73 => lds c39 (at0 b2) λ (x76 : I3) => cN 41 #[(vA c39 x76)] λ x77 => Bf Tryz.prog (do let d ← Deferred.ofValue s73.1 #[(vI x9), (vI x77)]; invoke d.target d.args : Sem Next) (.tup [(.one cI), (.one cI), (.one .bool)]) λ (x78 : (Int × Int × Bool × Unit)) => sif (!x78.2.2.1) ( Ad (at0 b3) (.agg #[(vI 0), (vI 0), (vI 0)]) 3 <| O4 D21 <| lds c34 (at0 b3) λ (x79 : I3) => K (x79, 90, ())) ( drew <| ld (.sl) (at0 b13) λ (x80 : Sl) => ixI x80 x78.1 4 λ x82 => ld (.sl) (at0 b13) λ (x83 : Sl) => ixf cI x83 (W64 (x78.2.1 - 1)) 4 2 λ (x85 : Int) => Ad (at0 b3) (.agg #[(vI x82), (vI x85), (vI 1)]) 3 <| O4 D21 <| lds c34 (at0 b3) λ (x86 : I3) => K (x86, 0, ()))) (λ i50 => onE i50 0 ( ld (.sl) (at0 b13) λ (x51 : Sl) => Af (.cells #[(vI 0), .nilFunc] 89) λ b52 => Ad (at0 b52) (.agg #[(vI ((x51.len : Nat) : Int)), (.func (Fn.func 60) #[] #[(.pointer (some (at0 b14)))])]) 2 <| lds c89 (at0 b52) λ (x53 : (Int × Value × Unit)) => join (S := Value × Unit) (λ J54 => lI (at0 b2) λ x56 => sif (x56 == 70) ( lds c89 (at0 b52) λ (x57 : (Int × Value × Unit)) => J54 ((.func (Fn.func 54) #[(vA c89 x57)] #[]), ())) ( J54 ((.func (Fn.func 53) #[(vA c89 x53)] #[]), ()))) λ s55 => lds c39 (at0 b2) λ (x58 : I3) => cN 41 #[(vA c39 x58)] λ x59 => Bf Tryz.prog (do let d ← Deferred.ofValue s55.1 #[(vI x9), (vI x59)]; invoke d.target d.args : Sem Next) (.tup [(.one cI), (.one cI), (.one .bool)]) λ (x60 : (Int × Int × Bool × Unit)) => sif (!x60.2.2.1) ( Ad (at0 b3) (.agg #[(vI 0), (vI 0), (vI 0)]) 3 <| O4 D21 <| lds c34 (at0 b3) λ (x61 : I3) => K (x61, 90, ())) ( drew <| ld (.sl) (at0 b13) λ (x62 : Sl) => ixI x62 x60.1 4 λ x64 => ld (.sl) (at0 b13) λ (x65 : Sl) => ixf cI x65 (W64 (x60.2.1 - 1)) 4 2 λ (x67 : Int) => Ad (at0 b3) (.agg #[(vI x64), (vI x67), (vI 1)]) 3 <| O4 D21 <| lds c34 (at0 b3) λ (x68 : I3) => K (x68, 0, ()))) ( λ _ => False)) ( O4 D21 <| lds c34 (at0 b3) λ (x87 : I3) => K (x87, 0, ()))))
def h33 : Hint := (hS (hR 4) (hS (hS (hR 5) (hS (hR 2) (hC (hS (hR 4) hL) hL))) (hS (hR 4) (hS (hS (hR 4) (hC (hS (hR 3) hL) hL)) (hS (hR 1) (hS (hR 1) (hS (hS (hR 2) (.block (.range [(40, tI), (41, (.agg Bj))] (hR 2) (.block (hS (hR 1) (hJ (0x3fffc0000014000, [(14, tI)]) (hS (hR 9) (.block (.loop 0x3fc000000014000 [(14, tI), (50, tI)] (hS (hR 1) (hS (hC hL hL) (hS (.block (hS (hR 4) (hS (hR 3) (hC (hS (hR 1) hL) hL)))) (hR 2))))))) (.region [0, 1, 4, 5, 2, 3, 7, 8, 9] (.float [6] (.ops 4 (.alt none (.plain (hO 5)) (.ops 1 (.alt none (.plain (hO 4)) (.ops 1 (.alt none (.plain (hO 3)) .stop)))))))))))))) (hS (hR 6) (hS (hR 3) (hJ (0x1f000000000000040000, [(18, (.one .any))]) (hS (hR 3) (hC (hR 3) hL)) (hS (hR 12) (hS (hS (hR 2) (hC (hS (hR 3) hL) hL)) (hS (.region (lR 14) (hO 14)) hL)))))))))))))
theorem A33 {a0 : Option Addr} {a1 : Int} {a2 : I3} {K : (I3 × Int × Unit) -> Wp} {w : World} (h : F33 a0 a1 a2 K w) : Ac Tryz.prog 33 #[(.pointer a0), (vI a1), (vA c39 a2)] (.tup [(.agg c34), (.one cI)]) K w := tied Ai Tryz.func33 h33 _ h
def F37 (a0 : Option Addr) (a1 : Int) (a2 : I3) (a3 : Int) (a4 : Int) (K : Int -> Wp) : Wp := Af (.cells #[(vI a2.1), (vI a2.2.1), (vI a2.2.2.1)] 39) λ b1 => jB (λ J2 => lI (at0 b1) λ x4 => sif (decide (x4 < a3)) ( J2 (true, ())) ( lI (at0 b1) λ x5 => sif (decide (x5 > a4)) ( J2 (true, ())) ( lI (ad b1 1) λ x6 => J2 ((decide (x6 < 0)), ())))) λ s3 => sif s3.1 ( K 1) ( jB (λ J7 => sif (decide (a1 < 0)) ( J7 (true, ())) ( cN 40 #[(.pointer a0)] λ x9 => J7 ((decide (a1 > x9)), ()))) λ s8 => sif s8.1 ( K 2) ( K 0))
def h37 : Hint := (hS (hR 2) (hS (.block (hJ (0x7fff800, [(11, tB)]) (.region [] (.ops 5 (.split 16 (.skips 4 (.ops 2 (.skips 3 (hO 2)))) (.ops 6 (.split 22 (.skips 3 (hO 2)) (hO 5)))))) (hC (hS (hR 1) hL) (hJ (0xff8000000, [(27, tB)]) (.region [] (.ops 3 (.split 30 (.skips 4 (hO 2)) (hO 6)))) (hC (hS (hR 1) hL) hL))))) (hS (hR 1) hL)))
theorem A37 {a0 : Option Addr} {a1 : Int} {a2 : I3} {a3 : Int} {a4 : Int} {K : Int -> Wp} {w : World} (h : F37 a0 a1 a2 a3 a4 K w) : Ac Tryz.prog 37 #[(.pointer a0), (vI a1), (vA c39 a2), (vI a3), (vI a4)] rI K w := tied Ai Tryz.func37 h37 _ h
def F38 (a0 : Int) (K : (Int × Bool × Unit) -> Wp) : Wp := Af (.map #[] 0) λ b1 => An2 Tryz.prog (Instr.mapUpdate 115 (.map (some b1)) (vI 40) (vI 41)) <| An2 Tryz.prog (Instr.mapUpdate 115 (.map (some b1)) (vI 91) (vI 93)) <| An2 Tryz.prog (Instr.mapUpdate 115 (.map (some b1)) (vI 123) (vI 125)) <| An2 Tryz.prog (Instr.mapUpdate 115 (.map (some b1)) (vI 60) (vI 62)) <| rdT Tryz.prog (.tup [(.one cI), (.one .bool)]) (Instr.lookup 115 (.map (some b1)) (vI a0) true) λ (x2 : (Int × Bool × Unit)) => K (x2.1, x2.2.1, ())
def h38 : Hint := (hS (hR 2) (hS (hR 13) (hS (hR 4) hL)))
theorem A38 {a0 : Int} {K : (Int × Bool × Unit) -> Wp} {w : World} (h : F38 a0 K w) : Ac Tryz.prog 38 #[(vI a0)] (.tup [(.one cI), (.one .bool)]) K w := tied Ai Tryz.func38 h38 _ h
def F39 (a0 : Sl) (a1 : Int) (K : Sl -> Wp) : Wp := cS 68 #[a0.v] λ x1 => jS (λ J2 => Gj (S := Sl × Int × Unit) (λ s4 again5 => sif (decide (s4.2.1 < (W64 (((x1.len : Nat) : Int) - 1)))) ( ixI x1 s4.2.1 1 λ x7 => ixI a0 x7 1 λ x9 => drew <| ix x1.a x1.len s4.2.1 λ p10 => ld cI (p10.add (scaled (Int.toNat s4.2.1) 1)) λ (x11 : Int) => ix x1.a x1.len (W64 (s4.2.1 + 1)) λ p12 => ld cI (p12.add (scaled (Int.toNat (W64 (s4.2.1 + 1))) 1)) λ (x13 : Int) => ix x1.a x1.len (W64 (s4.2.1 + 1)) λ p14 => ld cI (p14.add (scaled (Int.toNat (W64 (s4.2.1 + 1))) 1)) λ (x15 : Int) => ix x1.a x1.len s4.2.1 λ p16 => ld cI (p16.add (scaled (Int.toNat s4.2.1) 1)) λ (x17 : Int) => cN 69 #[(vI x9)] λ x18 => keep (λ w => w.cell? (p16.add (scaled (Int.toNat s4.2.1) 1)) = some (Cell.val cI x17)) <| keep (λ w => w.cell? (p14.add (scaled (Int.toNat (W64 (s4.2.1 + 1))) 1)) = some (Cell.val cI x15)) <| keep (λ w => w.cell? (p12.add (scaled (Int.toNat (W64 (s4.2.1 + 1))) 1)) = some (Cell.val cI x13)) <| keep (λ w => w.cell? (p10.add (scaled (Int.toNat s4.2.1) 1)) = some (Cell.val cI x11)) <| Af (.cells #[(vI (W64 (a1 + x11))), (vI (W64 (a1 + x13))), (vI x18), (.bool (x15 == (W64 (x17 + 1)))), (vI x9)] 72) λ b19 => Df Tryz.prog rS (Builtin.append_ #[68, 68] 68 #[s4.1.v, (.slice (some (at0 b19)) 1 1)]) λ (x20 : Sl) => again5 (x20, (W64 (s4.2.1 + 1)), ())) ( J2 (s4.1, ()))) (⟨none, 0, 0⟩, 0, ())) λ s3 => K s3.1
def h39 : Hint := (hS (hR 1) (hS (hR 1) (hS (hR 3) (hJ (0xfffffffffff9a0, [(5, tS)]) (hS (hR 4) (.block (.loop 0xffffffffffc1a0 [(5, tS), (14, tI)] (hS (hR 1) (hS (hC hL hL) (hS (.block (hS (hR 2) (hS (hR 8) (.region [0, 1, 2, 3, 4, 5, 6, 7, 8, 9, 10, 11, 12, 13, 14, 16, 17, 18, 19, 20, 21, 22, 23, 24, 25, 26, 27, 15, 28, 29, 30, 31] (hO 32))))) (hR 2))))))) (hS (hR 2) hL)))))
theorem A39 {a0 : Sl} {a1 : Int} {K : Sl -> Wp} {w : World} (h : F39 a0 a1 K w) : Ac Tryz.prog 39 #[a0.v, (vI a1)] rS K w := tied Ai Tryz.func39 h39 _ h
def F41 (a0 : I3) (K : Int -> Wp) : Wp := Af (.cells #[(vI a0.1), (vI a0.2.1), (vI a0.2.2.1)] 39) λ b1 => lI (ad b1 1) λ x2 => K (if 1 > x2 then 1 else x2)
def h41 : Hint := (hS (hR 2) (hS (hR 4) hL))
theorem A41 {a0 : I3} {K : Int -> Wp} {w : World} (h : F41 a0 K w) : Ac Tryz.prog 41 #[(vA c39 a0)] rI K w := tied Ai Tryz.func41 h41 _ h
def F42 (a0 : (Int × Int × Int × Bool × Int × Unit)) (a1 : Int) (K : Bool -> Wp) : Wp := Af (.cells #[(vI a0.1), (vI a0.2.1), (vI a0.2.2.1), (.bool a0.2.2.2.1), (vI a0.2.2.2.2.1)] 72) λ b1 => ld (.bool) (ad b1 3) λ (x2 : Bool) => sif x2 ( lI (ad b1 4) λ x3 => K (x3 == a1)) ( K false)
def h42 : Hint := (hS (hR 2) (hS (.region [] (.ops 3 (.split 7 (hO 6) (.skips 4 (hO 2))))) hL))
theorem A42 {a0 : (Int × Int × Int × Bool × Int × Unit)} {a1 : Int} {K : Bool -> Wp} {w : World} (h : F42 a0 a1 K w) : Ac Tryz.prog 42 #[(vA c72 a0), (vI a1)] rB K w := tied Ai Tryz.func42 h42 _ h
def F43 (a0 : Sl) (a1 : Int) (a2 : Int) (a3 : Int) (a4 : Int) (a5 : Int) (K : Int -> Wp) : Wp := jU (λ J1 => Gj (S := Int × Int × Int × Unit) (λ s3 again4 => jB (λ J5 => sif (decide (s3.1 >= 0)) ( J5 ((decide (s3.1 < ((a0.len : Nat) : Int))), ())) ( J5 (false, ()))) λ s6 => sif s6.1 ( jN (λ J7 => ixs c72 a0 s3.1 5 λ (x10 : (Int × Int × Int × Bool × Int × Unit)) => cB 42 #[(vA c72 x10), (vI a4)] λ x11 => sif x11 ( J7 (s3.2.1, (W64 (s3.2.2.1 + 1)), ())) ( ixs c72 a0 s3.1 5 λ (x13 : (Int × Int × Int × Bool × Int × Unit)) => cB 42 #[(vA c72 x13), (vI a3)] λ x14 => sif (!x14) ( J7 (s3.2.1, s3.2.2.1, ())) ( sif (decide (s3.2.2.1 > 0)) ( J7 (s3.2.1, (W64 (s3.2.2.1 - 1)), ())) ( sif ((W64 (s3.2.1 - 1)) == 0) ( K s3.1) ( J7 ((W64 (s3.2.1 - 1)), s3.2.2.1, ())))))) λ s8 => again4 ((W64 (s3.1 + a2)), s8.1, s8.2.1, ())) ( J1 ())) (a1, a5, 0, ())) λ s2 => K (-1)
def h43 : Hint := (hS (hR 1) (hS (hR 1) (hJ (0xffffffffff022, []) (.block (.loop 0xffffffffff022 [(1, tI), (5, tI), (13, tI)] (hS (hJ (4177920, [(21, tB)]) (.region [] (.ops 3 (.split 16 (hO 5) (.skips 4 (hO 1))))) (hC hL hL)) (hJ (0xffffffe003020, [(5, tI), (13, tI)]) (.block (.block (hS (hR 7) (hC (hR 3) (hS (hR 8) (hC hL (hS (hR 3) (hC (hR 3) (hS (hR 3) (hS (hR 2) (hC (hS (hR 2) hL) hL))))))))))) (hR 4))))) (hS (hR 1) hL))))
theorem A43 {a0 : Sl} {a1 : Int} {a2 : Int} {a3 : Int} {a4 : Int} {a5 : Int} {K : Int -> Wp} {w : World} (h : F43 a0 a1 a2 a3 a4 a5 K w) : Ac Tryz.prog 43 #[a0.v, (vI a1), (vI a2), (vI a3), (vI a4), (vI a5)] rI K w := tied Ai Tryz.func43 h43 _ h
def F44 (a0 : Option Addr) (a1 : (Int × Int × Int × Bool × Int × Unit)) (a2 : (Int × Int × Int × Bool × Int × Unit)) (K : I3 -> Wp) : Wp := Af (.cells #[(vI a1.1), (vI a1.2.1), (vI a1.2.2.1), (.bool a1.2.2.2.1), (vI a1.2.2.2.2.1)] 72) λ b1 => Af (.cells #[(vI a2.1), (vI a2.2.1), (vI a2.2.2.1), (.bool a2.2.2.2.1), (vI a2.2.2.2.2.1)] 72) λ b2 => Af (.cells #[(vI 0), (vI 0), (vI 0)] 34) λ b3 => lI (ad b1 1) λ x4 => lI (at0 b2) λ x5 => Af (.cells #[(vI 0), (vI 0), (vI 0)] 34) λ b6 => Ad (at0 b6) (.agg #[(vI x4), (vI x5), (vI 0)]) 3 <| lI (at0 b1) λ x7 => cN 57 #[(.pointer a0), (vI x7)] λ x8 => Ac Tryz.prog 71 #[(.pointer a0), (vI x8)] (.tup [(.agg Bj), (.one cI)]) λ (x9 : (I4 × Int × Unit)) => Af (.cells #[(vI 0), (vI 0), (vI 0), (vI 0)] 100) λ b10 => Ad (at0 b10) (vA Bj x9.1) 4 <| lI (at0 b2) λ x11 => cN 57 #[(.pointer a0), (vI x11)] λ x12 => Ac Tryz.prog 71 #[(.pointer a0), (vI x12)] (.tup [(.agg Bj), (.one cI)]) λ (x13 : (I4 × Int × Unit)) => Af (.cells #[(vI 0), (vI 0), (vI 0), (vI 0)] 100) λ b14 => Ad (at0 b14) (vA Bj x13.1) 4 <| jB (λ J15 => lI (ad b10 1) λ x17 => lI (ad b1 1) λ x18 => sif (x17 != x18) ( J15 (true, ())) ( lds Bj (at0 b10) λ (x19 : I4) => lds Bj (at0 b14) λ (x20 : I4) => rdB Tryz.prog (do eqGuard .eql 100 (Operand.tmp 43) (Operand.tmp 44) (vA Bj x19) (vA Bj x20); binOp .eql 100 (vA Bj x19) (vA Bj x20) : Sem Value) λ r21 => J15 (r21, ()))) λ s16 => sif s16.1 ( lds c34 (at0 b6) λ (x22 : I3) => Ad (at0 b3) (vA c34 x22) 3 <| lds c34 (at0 b3) λ (x23 : I3) => K x23) ( jU (λ J24 => drew <| lI (at0 b14) λ x26 => lI (at0 b2) λ x27 => lI (at0 b14) λ x28 => cS 23 #[(.pointer a0), (vI x26), (vI x27)] λ x29 => keep (λ w => w.cell? (at0 b14) = some (Cell.val cI x28)) <| cS 39 #[x29.v, (vI x28)] λ x30 => sI (λ s31 again32 => sif (decide (s31.1 < ((x30.len : Nat) : Int))) ( ixs c72 x30 s31.1 5 λ (x34 : (Int × Int × Int × Bool × Int × Unit)) => Af (.cells #[(vI 0), (vI 0), (vI 0), (.bool false), (vI 0)] 72) λ b35 => Ad (at0 b35) (vA c72 x34) 5 <| lI (ad b35 2) λ x36 => sif (x36 != 0) ( lds c34 (at0 b6) λ (x37 : I3) => Ad (at0 b3) (vA c34 x37) 3 <| lds c34 (at0 b3) λ (x38 : I3) => K x38) ( again32 ((W64 (s31.1 + 1)), ()))) ( J24 ())) (0, ())) λ s25 => lI (ad b10 2) λ x39 => lI (at0 b14) λ x40 => sif (x39 == x40) ( lI (ad b1 1) λ x41 => lI (ad b1 1) λ x42 => Ad (at0 b3) (.agg #[(vI x41), (vI x42), (vI 0)]) 3 <| lds c34 (at0 b3) λ (x43 : I3) => K x43) ( lI (ad b10 2) λ x44 => lI (at0 b14) λ x45 => Ad (at0 b3) (.agg #[(vI x44), (vI x45), (vI 1)]) 3 <| lds c34 (at0 b3) λ (x46 : I3) => K x46))
def h44 : Hint := (hS (hR 3) (hS (hR 7) (hS (hR 12) (hS (hR 12) (hS (hJ (0x7fe000000000, [(46, tB)]) (.region [] (.ops 6 (.split 42 (.skips 3 (hO 1)) (hO 4)))) (hC (hS (hR 2) hL) hL)) (hJ (0x7ffff000000002000, []) (hS (.region [0, 1, 2, 3, 4, 6, 7, 10, 5, 8, 9] (hO 11)) (.block (.loop 0x7fc00000000002000 [(58, tI)] (hS (hR 1) (hS (hC hL hL) (hS (.block (hS (hR 4) (hS (hR 3) (hC (hS (hR 2) hL) hL)))) (hR 2))))))) (hS (hS (hR 5) (hC (hS (hR 6) hL) hL)) (hS (hR 6) hL))))))))
theorem A44 {a0 : Option Addr} {a1 : (Int × Int × Int × Bool × Int × Unit)} {a2 : (Int × Int × Int × Bool × Int × Unit)} {K : I3 -> Wp} {w : World} (h : F44 a0 a1 a2 K w) : Ac Tryz.prog 44 #[(.pointer a0), (vA c72 a1), (vA c72 a2)] (.one (.agg c34)) K w := tied Ai Tryz.func44 h44 _ h
def F51 (a0 : Option Addr) (a1 : Int) (K : (Sl × Int × Unit) -> Wp) : Wp := cN 57 #[(.pointer a0), (vI a1)] λ x1 => Ac Tryz.prog 71 #[(.pointer a0), (vI x1)] (.tup [(.agg Bj), (.one cI)]) λ (x2 : (I4 × Int × Unit)) => Af (.cells #[(vI 0), (vI 0), (vI 0), (vI 0)] 100) λ b3 => Ad (at0 b3) (vA Bj x2.1) 4 <| drew <| lI (at0 b3) λ x4 => lI (ad b3 1) λ x5 => lI (at0 b3) λ x6 => cS 23 #[(.pointer a0), (vI x4), (vI x5)] λ x7 => keep (λ w => w.cell? (at0 b3) = some (Cell.val cI x6)) <| cS 39 #[x7.v, (vI x6)] λ x8 => jU (λ J9 => sI (λ s11 again12 => sif (decide (s11.1 < ((x8.len : Nat) : Int))) ( ixs c72 x8 s11.1 5 λ (x14 : (Int × Int × Int × Bool × Int × Unit)) => Af (.cells #[(vI 0), (vI 0), (vI 0), (.bool false), (vI 0)] 72) λ b15 => Ad (at0 b15) (vA c72 x14) 5 <| lI (ad b15 1) λ x16 => sif (decide (a1 < x16)) ( K (x8, s11.1, ())) ( again12 ((W64 (s11.1 + 1)), ()))) ( J9 ())) (0, ())) λ s10 => K (x8, (W64 (((x8.len : Nat) : Int) - 1)), ())
def h51 : Hint := (hS (hR 2) (hS (hR 11) (hS (.region [0, 1, 2, 3, 4, 6, 7, 5, 8, 9] (hO 10)) (hJ (0x3fff0000630, []) (hS (hR 3) (.block (.loop 0x3ffc0000630 [(30, tI)] (hS (hR 1) (hS (hC hL hL) (hS (.block (hS (hR 6) (hS (hR 4) (hC (hS (hR 4) hL) hL)))) (hR 2))))))) (hS (hR 6) hL)))))
theorem A51 {a0 : Option Addr} {a1 : Int} {K : (Sl × Int × Unit) -> Wp} {w : World} (h : F51 a0 a1 K w) : Ac Tryz.prog 51 #[(.pointer a0), (vI a1)] (.tup [(.one .sl), (.one cI)]) K w := tied Ai Tryz.func51 h51 _ h
def F52 (a0 : Int) (v0 : Addr) (v1 : Addr) (K : Int -> Wp) : Wp := jB (λ J1 => ld (.bool) v0 λ (x3 : Bool) => sif x3 ( ld (.sl) v1 λ (x4 : Sl) => ixf cI x4 a0 5 2 λ (x6 : Int) => J1 ((x6 != 0), ())) ( J1 (false, ()))) λ s2 => sif s2.1 ( K 2) ( ld (.sl) v1 λ (x7 : Sl) => ixf cI x7 a0 5 2 λ (x9 : Int) => K x9)
def h52 : Hint := (hS (hR 1) (hS (hJ (16352, [(13, tB)]) (.region [] (.ops 2 (.split 6 (hO 7) (.skips 6 (hO 1))))) (hC (hS (hR 1) hL) hL)) (hS (hR 6) hL)))
theorem A52 {a0 : Int} {v0 : Addr} {v1 : Addr} {K : Int -> Wp} {w : World} (h : F52 a0 v0 v1 K w) : Ac Tryz.prog 52 #[(vI a0), (.pointer (some v0)), (.pointer (some v1))] rI K w := tied Ai Tryz.func52 h52 _ h
def F53 (a0 : (Int × Value × Unit)) (a1 : Int) (a2 : Int) (K : (Int × Int × Bool × Unit) -> Wp) : Wp := Af (.cells #[(vI a0.1), a0.2.1] 89) λ b1 => jI (λ J2 => sN (λ s4 again5 => sif (decide (s4.2.1 < a2)) ( lI (at0 b1) λ x6 => sif (decide (s4.1 >= x6)) ( K (0, 0, false, ())) ( lds c89 (at0 b1) λ (x7 : (Int × Value × Unit)) => cN 79 #[(vA c89 x7), (vI s4.1)] λ x8 => again5 (x8, (W64 (s4.2.1 + 1)), ()))) ( J2 (s4.1, ()))) (a1, 0, ())) λ s3 => lds c89 (at0 b1) λ (x9 : (Int × Value × Unit)) => cN 80 #[(vA c89 x9), (vI a1)] λ x10 => K (x10, s3.1, true, ())
def h53 : Hint := (hS (hR 4) (hS (hR 2) (hJ (4193216, [(9, tI)]) (hS (hR 2) (.block (.loop 4191168 [(9, tI), (12, tI)] (hS (hR 1) (hS (hC hL hL) (hS (.block (hS (hS (hR 4) (hC (hS (hR 3) hL) hL)) (hR 4))) (hR 2))))))) (hS (hR 7) hL))))
theorem A53 {a0 : (Int × Value × Unit)} {a1 : Int} {a2 : Int} {K : (Int × Int × Bool × Unit) -> Wp} {w : World} (h : F53 a0 a1 a2 K w) : Ac Tryz.prog 53 #[(vA c89 a0), (vI a1), (vI a2)] (.tup [(.one cI), (.one cI), (.one .bool)]) K w := tied Ai Tryz.func53 h53 _ h
def F54 (a0 : (Int × Value × Unit)) (a1 : Int) (a2 : Int) (K : (Int × Int × Bool × Unit) -> Wp) : Wp := Af (.cells #[(vI a0.1), a0.2.1] 89) λ b1 => ld (.any) (ad b1 1) λ (x2 : Value) => Bf Tryz.prog (do let d ← Deferred.ofValue x2 #[(vI a1)]; invoke d.target d.args : Sem Next) rI λ (x3 : Int) => lds c89 (at0 b1) λ (x4 : (Int × Value × Unit)) => cN 80 #[(vA c89 x4), (vI a1)] λ x5 => jI (λ J6 => sN (λ s8 again9 => sif (decide (s8.2.1 < a2)) ( jI (λ J10 => jB (λ J12 => lI (at0 b1) λ x14 => sif (decide (s8.1 < x14)) ( ld (.any) (ad b1 1) λ (x15 : Value) => Bf Tryz.prog (do let d ← Deferred.ofValue x15 #[(vI s8.1)]; invoke d.target d.args : Sem Next) rI λ (x16 : Int) => J12 ((x16 == 0), ())) ( J12 (false, ()))) λ s13 => sif s13.1 ( lds c89 (at0 b1) λ (x17 : (Int × Value × Unit)) => cN 79 #[(vA c89 x17), (vI s8.1)] λ x18 => J10 (x18, ())) ( J10 (s8.1, ()))) λ s11 => lI (at0 b1) λ x19 => sif (decide (s11.1 >= x19)) ( K (0, 0, false, ())) ( lds c89 (at0 b1) λ (x20 : (Int × Value × Unit)) => cN 79 #[(vA c89 x20), (vI s11.1)] λ x21 => again9 (x21, (W64 (s8.2.1 + 1)), ()))) ( J6 (s8.1, ()))) (a1, 0, ())) λ s7 => jN (λ J22 => sif (x3 == 0) ( J22 (x5, s7.1, ())) ( jB (λ J24 => lI (at0 b1) λ x26 => sif (decide (s7.1 < x26)) ( ld (.any) (ad b1 1) λ (x27 : Value) => Bf Tryz.prog (do let d ← Deferred.ofValue x27 #[(vI s7.1)]; invoke d.target d.args : Sem Next) rI λ (x28 : Int) => J24 ((x28 == 0), ())) ( J24 (false, ()))) λ s25 => sif s25.1 ( lds c89 (at0 b1) λ (x29 : (Int × Value × Unit)) => cN 79 #[(vA c89 x29), (vI s7.1)] λ x30 => J22 (x5, x30, ())) ( jB (λ J31 => sif (decide (x5 > 0)) ( ld (.any) (ad b1 1) λ (x33 : Value) => Bf Tryz.prog (do let d ← Deferred.ofValue x33 #[(vI (W64 (x5 - 1)))]; invoke d.target d.args : Sem Next) rI λ (x34 : Int) => J31 ((x34 == 0), ())) ( J31 (false, ()))) λ s32 => sif s32.1 ( lds c89 (at0 b1) λ (x35 : (Int × Value × Unit)) => cN 80 #[(vA c89 x35), (vI (W64 (x5 - 1)))] λ x36 => J22 (x36, s7.1, ())) ( J22 (x5, s7.1, ()))))) λ s23 => K (s23.1, s23.2.1, true, ())
def h54 : Hint := (hS (hR 4) (hS (hR 6) (hS (hR 6) (hJ (0x3fffffe009c0, [(11, tI)]) (hS (hR 2) (.block (.loop 0x3fffffc009c0 [(11, tI), (22, tI)] (hS (hR 1) (hS (hC hL hL) (hS (.block (hJ (0x3fff000800, [(11, tI)]) (hJ (0x7ff000000, [(34, tB)]) (.region [] (.ops 5 (.split 28 (hO 6) (.skips 5 (hO 1))))) (hC (hR 4) hL)) (hS (hS (hR 4) (hC (hS (hR 3) hL) hL)) (hR 4)))) (hR 2))))))) (hJ (0x3fffffffc00000000c00, [(10, tI), (11, tI)]) (.block (hS (hR 2) (hC hL (hJ ((mR [(48, 60)]), [(48, tB)]) (.region [] (.ops 5 (.split 53 (hO 7) (.skips 5 (hO 2))))) (hC (hR 4) (hJ ((mR [(63, 74)]), [(63, tB)]) (.region [] (.ops 3 (.split 66 (hO 8) (.skips 6 (hO 2))))) (hC (hR 5) hL))))))) (hS (hR 5) hL))))))
theorem A54 {a0 : (Int × Value × Unit)} {a1 : Int} {a2 : Int} {K : (Int × Int × Bool × Unit) -> Wp} {w : World} (h : F54 a0 a1 a2 K w) : Ac Tryz.prog 54 #[(vA c89 a0), (vI a1), (vI a2)] (.tup [(.one cI), (.one cI), (.one .bool)]) K w := tied Ai Tryz.func54 h54 _ h
def F55 (a0 : Sl) (a1 : Int) (a2 : Int) (K : (Int × Int × Bool × Unit) -> Wp) : Wp := jU (λ J1 => Gj (S := Int × Int × Int × Unit) (λ s3 again4 => sif (decide (s3.2.2.1 < ((a0.len : Nat) : Int))) ( jN (λ J5 => ixs c72 a0 s3.2.2.1 5 λ (x8 : (Int × Int × Int × Bool × Int × Unit)) => Af (.cells #[(vI 0), (vI 0), (vI 0), (.bool false), (vI 0)] 72) λ b9 => Ad (at0 b9) (vA c72 x8) 5 <| jB (λ J10 => lds c72 (at0 b9) λ (x12 : (Int × Int × Int × Bool × Int × Unit)) => cB 42 #[(vA c72 x12), (vI a2)] λ x13 => sif x13 ( chk ((2 : Int) ≠ 0) <| J10 (((Int.tmod s3.2.1 2) == 0), ())) ( J10 (false, ()))) λ s11 => jI (λ J14 => lds c72 (at0 b9) λ (x16 : (Int × Int × Int × Bool × Int × Unit)) => cB 42 #[(vA c72 x16), (vI 92)] λ x17 => sif (!x17) ( J14 (0, ())) ( J14 ((W64 (s3.2.1 + 1)), ()))) λ s15 => sif (!s11.1) ( J5 (s3.1, s15.1, ())) ( sif (decide (s3.1 < 0)) ( J5 (s3.2.2.1, s15.1, ())) ( sif (decide (s3.2.2.1 >= a1)) ( K (s3.1, s3.2.2.1, true, ())) ( J5 ((-1), s15.1, ()))))) λ s6 => again4 (s6.1, s6.2.1, (W64 (s3.2.2.1 + 1)), ())) ( J1 ())) ((-1), 0, 0, ())) λ s2 => K (0, 0, false, ())
def h55 : Hint := (hS (hR 3) (hS (hR 2) (hJ ((mR [(6, 48)]), []) (hS (hR 3) (.block (.loop 0xffffffff3fc0 [(9, tI), (10, tI), (16, tI)] (hS (hR 1) (hS (hC hL hL) (hJ (0x7ffffffc3fc0, [(9, tI), (10, tI)]) (.block (hS (hR 6) (hJ (534781952, [(13, tB)]) (.region [] (.ops 4 (.split 24 (hO 5) (.skips 3 (hO 2))))) (hS (hR 3) (hJ (0x380000400, [(10, tI)]) (hS (hR 3) (hC (hR 1) hL)) (.block (hS (hR 3) (hC hL (hS (hR 3) (hC (hR 2) (hS (hR 4) (hC (hS (hR 5) hL) (hR 1))))))))))))) (hR 2))))))) (hS (hR 3) hL))))
theorem A55 {a0 : Sl} {a1 : Int} {a2 : Int} {K : (Int × Int × Bool × Unit) -> Wp} {w : World} (h : F55 a0 a1 a2 K w) : Ac Tryz.prog 55 #[a0.v, (vI a1), (vI a2)] (.tup [(.one cI), (.one cI), (.one .bool)]) K w := tied Ai Tryz.func55 h55 _ h
def F56 (a0 : Int) (v0 : Addr) (K : Bool -> Wp) : Wp := sif (decide (a0 >= 0)) ( ld (.sl) v0 λ (x1 : Sl) => sif (decide (a0 < ((x1.len : Nat) : Int))) ( ld (.sl) v0 λ (x2 : Sl) => ixf cI x2 a0 5 2 λ (x4 : Int) => K (x4 == 0)) ( K false)) ( K false)
def h56 : Hint := (hS (hR 1) (hS (.region [] (.ops 3 (.split 6 (.ops 6 (.split 12 (hO 8) (.skips 6 (hO 2)))) (.skips 4 (.ops 2 (.skips 6 (hO 2))))))) hL))
theorem A56 {a0 : Int} {v0 : Addr} {K : Bool -> Wp} {w : World} (h : F56 a0 v0 K w) : Ac Tryz.prog 56 #[(vI a0), (.pointer (some v0))] rB K w := tied Ai Tryz.func56 h56 _ h
def F57 (a0 : Option Addr) (a1 : Int) (K : Int -> Wp) : Wp := cN 40 #[(.pointer a0)] λ x1 => cN 66 #[(.pointer a0), (vI (if x1 < (if 0 > a1 then 0 else a1) then x1 else (if 0 > a1 then 0 else a1)))] λ x2 => K x2
def h57 : Hint := (hS (hR 1) (hS (hR 8) hL))
theorem A57 {a0 : Option Addr} {a1 : Int} {K : Int -> Wp} {w : World} (h : F57 a0 a1 K w) : Ac Tryz.prog 57 #[(.pointer a0), (vI a1)] rI K w := tied Ai Tryz.func57 h57 _ h
def F58 (a0 : Option Addr) (K : Int -> Wp) : Wp := cN 40 #[(.pointer a0)] λ x1 => cN 66 #[(.pointer a0), (vI x1)] λ x2 => jI (λ J3 => cB 81 #[(.pointer a0)] λ x5 => sif (!x5) ( J3 ((W64 (x2 + 1)), ())) ( J3 (x2, ()))) λ s4 => K s4.1
def h58 : Hint := (hS (hR 1) (hS (hR 5) (hJ (7944, [(3, tI)]) (hS (hR 3) (hC (hR 3) hL)) (hS (hR 2) hL))))
theorem A58 {a0 : Option Addr} {K : Int -> Wp} {w : World} (h : F58 a0 K w) : Ac Tryz.prog 58 #[(.pointer a0)] rI K w := tied Ai Tryz.func58 h58 _ h
def F59 (a0 : Option Addr) (K : Value -> Wp) : Wp := Af (.cells #[(.pointer a0)] 25) λ b1 => K (.func (Fn.func 82) #[] #[(.pointer (some (at0 b1)))])
def h59 : Hint := (hS (hR 2) (hS (hR 2) hL))
theorem A59 {a0 : Option Addr} {K : Value -> Wp} {w : World} (h : F59 a0 K w) : Ac Tryz.prog 59 #[(.pointer a0)] (.one (.one .any)) K w := tied Ai Tryz.func59 h59 _ h
def F60 (a0 : Int) (v0 : Addr) (K : Int -> Wp) : Wp := ld (.sl) v0 λ (x1 : Sl) => ixI x1 a0 1 λ x3 => K x3
def h60 : Hint := (hS (hR 1) (hS (hR 5) hL))
theorem A60 {a0 : Int} {v0 : Addr} {K : Int -> Wp} {w : World} (h : F60 a0 v0 K w) : Ac Tryz.prog 60 #[(vI a0), (.pointer (some v0))] rI K w := tied Ai Tryz.func60 h60 _ h
def F71 (a0 : Option Addr) (a1 : Int) (K : (I4 × Int × Unit) -> Wp) : Wp := Af (.cells #[(vI 0), (vI 0), (vI 0), (vI 0)] 100) λ b1 => sif (decide (a1 < 0)) ( Ad (at0 b1) (.agg #[(vI 0), (vI 0), (vI 0), (vI 0)]) 4 <| lds Bj (at0 b1) λ (x2 : I4) => K (x2, 2, ())) ( cN 67 #[(.pointer a0), (vI a1)] λ x3 => sif (decide (x3 < 0)) ( Ad (at0 b1) (.agg #[(vI 0), (vI 0), (vI 0), (vI 0)]) 4 <| lds Bj (at0 b1) λ (x4 : I4) => K (x4, 2, ())) ( cN 40 #[(.pointer a0)] λ x5 => cN 66 #[(.pointer a0), (vI x5)] λ x6 => sif (decide (a1 < x6)) ( cN 67 #[(.pointer a0), (vI (W64 (a1 + 1)))] λ x7 => Ac Tryz.prog 97 #[(.pointer a0), (vI x3), (vI x7)] (.one (.agg Bj)) λ (x8 : I4) => Ad (at0 b1) (vA Bj x8) 4 <| lds Bj (at0 b1) λ (x9 : I4) => K (x9, 0, ())) ( cN 40 #[(.pointer a0)] λ x10 => cN 40 #[(.pointer a0)] λ x11 => Ad (at0 b1) (.agg #[(vI x3), (vI x10), (vI x11), (vI 0)]) 4 <| lds Bj (at0 b1) λ (x12 : I4) => K (x12, 0, ()))))
def h71 : Hint := (hS (hR 2) (hS (hS (hR 2) (hC (hS (hR 3) hL) hL)) (hS (hR 4) (hS (hS (hR 2) (hC (hS (hR 3) hL) hL)) (hS (hS (hR 6) (hC (hS (hR 9) hL) hL)) (hS (hR 8) hL))))))
theorem A71 {a0 : Option Addr} {a1 : Int} {K : (I4 × Int × Unit) -> Wp} {w : World} (h : F71 a0 a1 K w) : Ac Tryz.prog 71 #[(.pointer a0), (vI a1)] (.tup [(.agg Bj), (.one cI)]) K w := tied Ai Tryz.func71 h71 _ h
def F79 (a0 : (Int × Value × Unit)) (a1 : Int) (K : Int -> Wp) : Wp := Af (.cells #[(vI a0.1), a0.2.1] 89) λ b1 => jI (λ J2 => sI (λ s4 again5 => jB (λ J6 => drew <| lI (at0 b1) λ x8 => sif (decide (s4.1 < x8)) ( ld (.any) (ad b1 1) λ (x9 : Value) => ld (.any) (ad b1 1) λ (x10 : Value) => Bf Tryz.prog (do let d ← Deferred.ofValue x9 #[(vI s4.1)]; invoke d.target d.args : Sem Next) rI λ (x11 : Int) => keep (λ w => w.cell? (ad b1 1) = some (Cell.val (.any) x10)) <| Bf Tryz.prog (do let d ← Deferred.ofValue x10 #[(vI a1)]; invoke d.target d.args : Sem Next) rI λ (x12 : Int) => J6 ((x11 == x12), ())) ( J6 (false, ()))) λ s7 => sif s7.1 ( again5 ((W64 (s4.1 + 1)), ())) ( J2 (s4.1, ()))) ((W64 (a1 + 1)), ())) λ s3 => K s3.1
def h79 : Hint := (hS (hR 2) (hS (hR 3) (hJ (33554208, [(5, tI)]) (.block (.loop 33554208 [(5, tI)] (hS (hJ (8388352, [(22, tB)]) (.region [0, 1, 2, 3, 4, 5, 6, 7, 9, 10, 11, 8, 12, 13, 14] (.ops 5 (.split 12 (hO 10) (.skips 9 (hO 1))))) (hC hL hL)) (.block (hR 3))))) (hS (hR 2) hL))))
theorem A79 {a0 : (Int × Value × Unit)} {a1 : Int} {K : Int -> Wp} {w : World} (h : F79 a0 a1 K w) : Ac Tryz.prog 79 #[(vA c89 a0), (vI a1)] rI K w := tied Ai Tryz.func79 h79 _ h
def F80 (a0 : (Int × Value × Unit)) (a1 : Int) (K : Int -> Wp) : Wp := Af (.cells #[(vI a0.1), a0.2.1] 89) λ b1 => jI (λ J2 => sI (λ s4 again5 => jB (λ J6 => drew <| sif (decide (s4.1 > 0)) ( ld (.any) (ad b1 1) λ (x8 : Value) => ld (.any) (ad b1 1) λ (x9 : Value) => Bf Tryz.prog (do let d ← Deferred.ofValue x8 #[(vI (W64 (s4.1 - 1)))]; invoke d.target d.args : Sem Next) rI λ (x10 : Int) => keep (λ w => w.cell? (ad b1 1) = some (Cell.val (.any) x9)) <| Bf Tryz.prog (do let d ← Deferred.ofValue x9 #[(vI s4.1)]; invoke d.target d.args : Sem Next) rI λ (x11 : Int) => J6 ((x10 == x11), ())) ( J6 (false, ()))) λ s7 => sif s7.1 ( again5 ((W64 (s4.1 - 1)), ())) ( J2 (s4.1, ()))) (a1, ())) λ s3 => K s3.1
def h80 : Hint := (hS (hR 2) (hJ (2097122, [(1, tI)]) (.block (.loop 2097122 [(1, tI)] (hS (hJ (524256, [(18, tB)]) (.region [0, 1, 2, 3, 4, 5, 6, 8, 9, 10, 7, 11, 12, 13] (.ops 3 (.split 7 (hO 11) (.skips 10 (hO 1))))) (hC hL hL)) (.block (hR 3))))) (hS (hR 2) hL)))
theorem A80 {a0 : (Int × Value × Unit)} {a1 : Int} {K : Int -> Wp} {w : World} (h : F80 a0 a1 K w) : Ac Tryz.prog 80 #[(vA c89 a0), (vI a1)] rI K w := tied Ai Tryz.func80 h80 _ h
def F81 (a0 : Option Addr) (K : Bool -> Wp) : Wp := cN 40 #[(.pointer a0)] λ x1 => sif (decide (x1 > 0)) ( cN 66 #[(.pointer a0), (vI x1)] λ x2 => cN 67 #[(.pointer a0), (vI x2)] λ x3 => K (x3 == x1)) ( K false)
def h81 : Hint := (hS (hR 1) (hS (hR 3) (hS (.region [] (.ops 3 (.split 8 (hO 9) (.skips 7 (hO 2))))) hL)))
theorem A81 {a0 : Option Addr} {K : Bool -> Wp} {w : World} (h : F81 a0 K w) : Ac Tryz.prog 81 #[(.pointer a0)] rB K w := tied Ai Tryz.func81 h81 _ h
def F82 (a0 : Value) (v0 : Addr) (K : Unit -> Wp) : Wp := sI (λ s1 again2 => ld (.ptr) v0 λ (x3 : Option Addr) => Ac Tryz.prog 71 #[(.pointer x3), (vI s1.1)] (.tup [(.agg Bj), (.one cI)]) λ (x4 : (I4 × Int × Unit)) => Af (.cells #[(vI 0), (vI 0), (vI 0), (vI 0)] 100) λ b5 => Ad (at0 b5) (vA Bj x4.1) 4 <| lI (at0 b5) λ x6 => lI (at0 b5) λ x7 => lI (at0 b5) λ x8 => Af (.cells #[(vI 0), (vI 0), (vI 0), (vI 0)] 100) λ b9 => Ad (at0 b9) (.agg #[(vI x6), (vI x7), (vI x8), (vI 0)]) 4 <| jB (λ J10 => sif (x4.2.1 != 0) ( J10 (true, ())) ( sif (decide (s1.1 > 0)) ( lds Bj (at0 b5) λ (x12 : I4) => lds Bj (at0 b9) λ (x13 : I4) => rdB Tryz.prog (do eqGuard .eql 100 (Operand.tmp 28) (Operand.tmp 29) (vA Bj x12) (vA Bj x13); binOp .eql 100 (vA Bj x12) (vA Bj x13) : Sem Value) λ r14 => sif r14 ( J10 (true, ())) ( lds Bj (at0 b5) λ (x15 : I4) => Bf Tryz.prog (do let d ← Deferred.ofValue a0 #[(vI s1.1), (vA Bj x15)]; invoke d.target d.args : Sem Next) rB λ (x16 : Bool) => J10 ((!x16), ()))) ( lds Bj (at0 b5) λ (x17 : I4) => Bf Tryz.prog (do let d ← Deferred.ofValue a0 #[(vI s1.1), (vA Bj x17)]; invoke d.target d.args : Sem Next) rB λ (x18 : Bool) => J10 ((!x18), ())))) λ s11 => sif s11.1 ( K ()) ( again2 ((W64 (s1.1 + 1)), ()))) (0, ())
def h82 : Hint := (hS (hR 1) (.block (.loop 0xfffffffff8 [(3, tI)] (hS (.block (hS (hR 9) (hS (hR 9) (hJ (0xffffc00000, [(39, tB)]) (.region [] (.ops 3 (.split 24 (.skips 7 (.ops 2 (.skips 5 (hO 1)))) (.ops 3 (.split 27 (.ops 6 (.split 33 (.skips 5 (hO 1)) (hO 6))) (.skips 3 (hO 9))))))) (hC hL hL))))) (hR 3)))))
theorem A82 {a0 : Value} {v0 : Addr} {K : Unit -> Wp} {w : World} (h : F82 a0 v0 K w) : Ac Tryz.prog 82 #[a0, (.pointer (some v0))] (.tup []) K w := tied Ai Tryz.func82 h82 _ h
def F97 (a0 : Option Addr) (a1 : Int) (a2 : Int) (K : I4 -> Wp) : Wp := Af (.cells #[(vI 0), (vI 0), (vI 0), (vI 0)] 100) λ b1 => cS 23 #[(.pointer a0), (vI (if (W64 (a2 - 2)) > a1 then (W64 (a2 - 2)) else a1)), (vI a2)] λ x2 => ixI x2 (W64 (((x2.len : Nat) : Int) - 1)) 1 λ x4 => sif (x4 == 13) ( Ad (at0 b1) (.agg #[(vI a1), (vI (W64 (a2 - 1))), (vI a2), (vI 3)]) 4 <| lds Bj (at0 b1) λ (x5 : I4) => K x5) ( jB (λ J6 => sif (decide ((W64 (((x2.len : Nat) : Int) - 1)) > 0)) ( ix x2.a x2.len (W64 ((W64 (((x2.len : Nat) : Int) - 1)) - 1)) λ p8 => ld cI (p8.add (scaled (Int.toNat (W64 ((W64 (((x2.len : Nat) : Int) - 1)) - 1))) 1)) λ (x9 : Int) => J6 ((x9 == 13), ())) ( J6 (false, ()))) λ s7 => sif s7.1 ( Ad (at0 b1) (.agg #[(vI a1), (vI (W64 (a2 - 2))), (vI a2), (vI 2)]) 4 <| lds Bj (at0 b1) λ (x10 : I4) => K x10) ( Ad (at0 b1) (.agg #[(vI a1), (vI (W64 (a2 - 1))), (vI a2), (vI 1)]) 4 <| lds Bj (at0 b1) λ (x11 : I4) => K x11))
def h97 : Hint := (hS (hR 1) (hS (hR 8) (hS (hR 4) (hS (.block (hS (hR 6) (hC (hS (hR 6) hL) (hJ (0x1ffc0000000, [(30, tB)]) (.region [] (.ops 3 (.split 33 (hO 8) (.skips 6 (hO 2))))) (hC (hS (hR 6) hL) hL))))) (hS (hR 6) hL)))))
theorem A97 {a0 : Option Addr} {a1 : Int} {a2 : Int} {K : I4 -> Wp} {w : World} (h : F97 a0 a1 a2 K w) : Ac Tryz.prog 97 #[(.pointer a0), (vI a1), (vI a2)] (.one (.agg Bj)) K w := tied Ai Tryz.func97 h97 _ h
end Go.Proofs.YtabcpghhfeplaaaGreat
namespace Go.Proofs.YtabcpghhfeplaaaGreat
open Go Go.Vx Cdc Trx Lns
section
variable {w w' : World} {S : Nat -> Prop} {p : Nat} {e : Enc} {lim na : Nat} {O : Nat -> Prop} {M : Parts}
abbrev lnT (l : Ln) : Cells.T Bj := ((l.from_ : Int), (l.to_ : Int), (l.next : Int), (l.kind : Int), ())
theorem hal (e : Enc) (M : Parts) : (atoms (aOf e M)).length = (aOf e M).length := List.length_map _
theorem O9 (A : List Int) (k : Nat) : skI A (k : Int) = match sk A k with | some m => (m : Int) | none => -1 := by
 unfold skI
 rw [if_neg (by omega), Int.toNat_natCast]
 all_goals (cases sk A k <;> rfl)
theorem Ar4 (h : Txt w p e lim na O M) {f x : Nat} (hfx : f < x) (hx : x <= (atoms (aOf e M)).length) {K : Cells.T Bj -> Wp} (hK : ∀ w', Ext w w' -> K (lnT (lnC (atoms (aOf e M)) f x)) w') :
  Ac Tryz.prog 97 #[.pointer (some (at0 p)), .int .i64 (f : Int), .int .i64 (x : Int)] (.one (.agg Bj)) K w := by
 refine A97 ?_
 unfold F97
 have few := h.few; have lims := h.lims
 generalize hA : atoms (aOf e M) = A at *
 have hAl : A.length = (aOf e M).length := by rw [← hA]; exact hal e M
 refine (St.start w).Af λ b1 w1 S1 e1 => ?_
 have ew : W64 ((x : Int) - 2) = (x : Int) - 2 := wrap64 (by omega) (by omega)
 rw [ew]
 obtain ⟨g, hg⟩ : ∃ g : Nat, g = max f (x - 2) := ⟨_, rfl⟩
 have eg : (if (x : Int) - 2 > (f : Int) then (x : Int) - 2 else (f : Int)) = (g : Int) := by split <;> omega
 rw [eg]
 refine Jf (h.ext e1) λ s w2 o2 e2 => ?_
 rw [hA] at o2
 have hsub : sub A (g : Int) (x : Int) = (A.drop g).take (x - g) := by unfold sub; simp
 rw [hsub] at o2
 have hl := o2.len1
 rw [List.length_map, List.length_take, List.length_drop] at hl
 have hsl : s.len = x - g := by omega
 have get : ∀ i, i < x - g -> ((A.drop g).take (x - g))[i]? = A[g + i]? := λ i hi => by rw [List.getElem?_take, if_pos hi, List.getElem?_drop]
 have ew1 : W64 (((s.len : Nat) : Int) - 1) = ((x - g - 1 : Nat) : Int) := by rw [wrap64 (by omega) (by omega)]; omega
 rw [ew1]
 have S2 := S1.ext e2
 obtain ⟨a, ha⟩ : ∃ a, A[x - 1]? = some a := ⟨_, List.getElem?_eq_getElem (by omega)⟩
 have ex1 : W64 ((x : Int) - 1) = ((x - 1 : Nat) : Int) := by rw [wrap64 (by omega) (by omega)]; omega
 have fin : ∀ {l : Ln} {W : World}, St (λ _ => False) w W [(b1, .cells #[.int .i64 0, .int .i64 0, .int .i64 0, .int .i64 0] 100 (0, 0))] -> lnC A f x = l ->
   Ad (at0 b1) (.agg (Cells.vals Bj (lnT l)).toArray) 4 (lds Bj (at0 b1) λ x => K x) W := by
  intro l W SW el
  exact SW.Ad 0 rfl rfl rfl rfl λ w3 S3 _ => S3.lds 0 (lnT l) rfl (by subst el; exact hK w3 S3.upd)
 refine Iu (c := .int .i64) (xs := (A.drop g).take (x - g)) o2.in (by omega) (x := a) (by rw [Int.toNat_natCast, get _ (by omega), ← ha]; congr 1; omega) λ q => Aa (λ hc => ?_) (λ hc => ?_)
 ·simp only [beq_iff_eq] at hc
  rw [ex1]
  exact fin (l := ⟨f, x - 1, x, 3⟩) S2 (by unfold lnC; rw [if_pos (by rw [ha, hc])])
 ·simp only [beq_eq_false_iff_ne] at hc
  have h13 : ¬ A[x - 1]? = some 13 := by rw [ha]; exact λ h => hc (Option.some.inj h)
  refine Ae (λ y W => y = (decide (f + 1 < x /\ A[x - 2]? = some 13), ()) /\ w2 = W) ?_ ?_
  ·refine Aa (λ hd => ?_) (λ hd => ?_)
   ·simp only [decide_eq_true_eq, gt_iff_lt] at hd
    have ew2 : W64 (((x - g - 1 : Nat) : Int) - 1) = ((x - g - 2 : Nat) : Int) := by rw [wrap64 (by omega) (by omega)]; omega
    rw [ew2]
    obtain ⟨b, hb⟩ : ∃ b, A[x - 2]? = some b := ⟨_, List.getElem?_eq_getElem (by omega)⟩
    refine Iu (c := .int .i64) (xs := (A.drop g).take (x - g)) o2.in (by omega) (x := b) (by rw [Int.toNat_natCast, get _ (by omega), ← hb]; congr 1; omega) λ q2 => ⟨Aj ?_, rfl⟩
    simp only [beq_iff_eq, decide_eq_true_eq, hb, Option.some.injEq]
    omega
   ·simp only [decide_eq_false_iff_not, gt_iff_lt] at hd
    refine ⟨Aj ?_, rfl⟩
    simp only [Bool.false_eq_true, decide_eq_true_eq, false_iff]
    omega
  rintro _ _ ⟨rfl, rfl⟩
  refine Aa (λ hd => ?_) (λ hd => ?_)
  ·simp only [decide_eq_true_eq] at hd
   have ew3 : (x : Int) - 2 = ((x - 2 : Nat) : Int) := by omega
   rw [ew3]
   exact fin (l := ⟨f, x - 2, x, 2⟩) S2 (by unfold lnC; rw [if_neg h13, if_pos hd])
  ·simp only [decide_eq_false_iff_not] at hd
   rw [ex1]
   exact fin (l := ⟨f, x - 1, x, 1⟩) S2 (by unfold lnC; rw [if_neg h13, if_neg hd])
def Cf0 (r : Option Ln) : Cells.T Bj × Int × Unit := match r with
 | some l => (lnT l, 0, ())
 | none => (lnT ⟨0, 0, 0, 0⟩, 2, ())
theorem Ap4 {i : Int} (h : Txt w p e lim na O M) (hi : i < 2 ^ 62) {K : Cells.T Bj × Int × Unit -> Wp} (hK : ∀ w', Ext w w' -> K (Cf0 (lnI (atoms (aOf e M)) i)) w') :
  Ac Tryz.prog 71 #[.pointer (some (at0 p)), .int .i64 i] (.tup [(.agg Bj), (.one (.int .i64))]) K w := by
 refine A71 ?_
 unfold F71
 have few := h.few; have lims := h.lims
 have hal := hal e M
 refine (St.start w).Af λ b1 w1 S1 e1 => ?_
 refine Aa (λ hc => ?_) (λ hc => ?_)
 ·simp only [decide_eq_true_eq] at hc
  refine S1.Ad 0 rfl rfl rfl rfl λ w2 S2 _ => S2.lds 0 (lnT ⟨0, 0, 0, 0⟩) rfl ?_
  have := hK w2 S2.upd
  unfold lnI at this
  rw [if_pos hc] at this
  exact this
 simp only [decide_eq_false_iff_not] at hc
 obtain ⟨n, rfl⟩ : ∃ n : Nat, i = (n : Int) := ⟨i.toNat, by omega⟩
 unfold lnI at hK
 rw [if_neg hc, Int.toNat_natCast] at hK
 refine Uo (h.ext e1) λ w2 e2 => ?_
 have S2 := S1.ext e2
 rw [O9]
 cases hf : sk (atoms (aOf e M)) n with
 | none =>
  refine Aa (λ _ => ?_) (λ h => by simp at h)
  refine S2.Ad 0 rfl rfl rfl rfl λ w3 S3 _ => S3.lds 0 (lnT ⟨0, 0, 0, 0⟩) rfl ?_
  have := hK w3 S3.upd
  unfold Eb at this
  rw [hf] at this
  exact this
 | some f =>
  refine Aa (λ h => by simp at h; omega) (λ _ => ?_)
  obtain ⟨hnb, hfl, hnf, _⟩ := Lu hf
  refine Hu (h.ext S2.upd) λ w3 e3 => Ll (h.ext (S2.ext e3).upd) λ w4 e4 => ?_
  have S4 := (S2.ext e3).ext e4
  rw [Int.toNat_natCast, ← hal, ← Gz]
  refine Aa (λ hlt => ?_) (λ hlt => ?_)
  ·simp only [decide_eq_true_eq] at hlt
   have ew : W64 ((n : Int) + 1) = ((n + 1 : Nat) : Int) := by rw [wrap64 (by omega) (by omega)]; omega
   rw [ew]
   refine Uo (h.ext S4.upd) λ w5 e5 => ?_
   have S5 := S4.ext e5
   rw [O9]
   obtain ⟨x, hx⟩ := U9 (A := atoms (aOf e M)) (k := n + 1) (by omega)
   obtain ⟨_, hxl, _, _⟩ := Lu hx
   rw [hx]
   refine Ar4 (h.ext S5.upd) (Bx0 hf hx (by omega)) hxl λ w6 e6 => (S5.ext e6).Ad 0 rfl rfl rfl rfl λ w7 S7 _ => S7.lds 0 (lnT _) rfl ?_
   have := hK w7 S7.upd
   unfold Eb at this
   rw [hf] at this
   simp only [hx] at this
   exact this
  ·simp only [decide_eq_false_iff_not] at hlt
   refine Hu (h.ext S4.upd) λ w5 e5 => Hu (h.ext (S4.ext e5).upd) λ w6 e6 => ((S4.ext e5).ext e6).Ad 0 rfl rfl rfl rfl λ w7 S7 _ => S7.lds 0 (lnT ⟨f, (aOf e M).length, (aOf e M).length, 0⟩) rfl ?_
   have := hK w7 S7.upd
   unfold Eb at this
   rw [hf] at this
   simp only [Qr (atoms (aOf e M)) (n + 1) (by omega)] at this
   rw [hal] at this
   exact this
theorem Ao5 {at_ : Int} (h : Txt w p e lim na O M) {K : Int -> Wp} (hK : ∀ w', Ext w w' -> K ((nb (atoms (aOf e M)) at_.toNat : Nat) : Int) w') :
  Ac Tryz.prog 57 #[.pointer (some (at0 p)), .int .i64 at_] rI K w := by
 refine A57 ?_
 unfold F57
 have hal := hal e M
 refine Hu h λ w1 e1 => Ll (h.ext e1) λ w2 e2 => ?_
 have := hK w2 (e1.trans e2)
 have e : nb (atoms (aOf e M)) (if (((aOf e M).length : Nat) : Int) < (if (0 : Int) > at_ then (0 : Int) else at_) then (((aOf e M).length : Nat) : Int) else (if (0 : Int) > at_ then (0 : Int) else at_)).toNat = nb (atoms (aOf e M)) at_.toNat := by
  by_cases h0 : (0 : Int) > at_
  ·rw [if_pos h0, if_neg (by omega)]
   have : at_.toNat = (0 : Int).toNat := by omega
   rw [this]
  ·rw [if_neg h0]
   split
   ·rw [Int.toNat_natCast, Ao1 _ _ (by omega), Ao1 _ _ (by omega)]
   ·rfl
 rw [e]; exact this
theorem Ap0 (h : Txt w p e lim na O M) {K : Bool -> Wp} (hK : ∀ w', Ext w w' -> K (ended (atoms (aOf e M))) w') :
  Ac Tryz.prog 81 #[.pointer (some (at0 p))] rB K w := by
 refine A81 ?_
 unfold F81
 have hal := hal e M
 unfold ended at hK
 refine Hu h λ w1 e1 => Aa (λ hc => ?_) (λ hc => ?_)
 ·simp only [decide_eq_true_eq, gt_iff_lt] at hc
  refine Ll (h.ext e1) λ w2 e2 => Uo (h.ext (e1.trans e2)) λ w3 e3 => ?_
  have := hK w3 ((e1.trans e2).trans e3)
  rw [Int.toNat_natCast, ← hal, ← Gz, O9]
  rw [decide_eq_true (by omega), Bool.true_and] at this
  cases hs : sk (atoms (aOf e M)) (brs (atoms (aOf e M))) with
  | none =>
   rw [hs] at this
   have e1 : ((-1 : Int) == (((atoms (aOf e M)).length : Nat) : Int)) = false := by rw [beq_eq_false_iff_ne]; omega
   show K ((-1 : Int) == _) w3
   rw [e1]; exact this
  | some m =>
   rw [hs] at this
   have e1 : ((m : Int) == (((atoms (aOf e M)).length : Nat) : Int)) = (some m == some (atoms (aOf e M)).length) := by rw [Bool.eq_iff_iff, beq_iff_eq, beq_iff_eq, Option.some.injEq]; omega
   show K ((m : Int) == _) w3
   rw [e1]; exact this
 ·simp only [decide_eq_false_iff_not, gt_iff_lt] at hc
  have := hK w1 e1
  rw [decide_eq_false (by omega), Bool.false_and] at this
  exact this
theorem Ap3 (h : Txt w p e lim na O M) {K : Int -> Wp} (hK : ∀ w', Ext w w' -> K ((lnN (atoms (aOf e M)) : Nat) : Int) w') :
  Ac Tryz.prog 58 #[.pointer (some (at0 p))] rI K w := by
 refine A58 ?_
 unfold F58
 have few := h.few; have lims := h.lims
 have hal := hal e M
 have hb : brs (atoms (aOf e M)) <= (atoms (aOf e M)).length := by rw [Gz]; exact Tq _ _
 refine Hu h λ w1 e1 => Ll (h.ext e1) λ w2 e2 => ?_
 rw [Int.toNat_natCast, ← hal, ← Gz]
 refine Ae (λ x W => x = (((lnN (atoms (aOf e M)) : Nat) : Int), ()) /\ Ext w W) ?_ (λ x W hx => by obtain ⟨rfl, hx⟩ := hx; exact hK W hx)
 refine Ap0 (h.ext (e1.trans e2)) λ w3 e3 => ?_
 have e03 := (e1.trans e2).trans e3
 refine Aa (λ hc => ⟨?_, e03⟩) (λ hc => ⟨?_, e03⟩)
 ·simp only [Bool.not_eq_true'] at hc
  unfold lnN
  rw [hc, wrap64 (by omega) (by omega)]
  simp
 ·simp only [Bool.not_eq_false'] at hc
  unfold lnN
  rw [hc]
  simp
end
end Go.Proofs.YtabcpghhfeplaaaGreat
namespace Go.Proofs.YtabcpghhfeplaaaGreat
open Go Go.Vx Cdc Trx Gly Clu Lns Obx
section
variable {w w' : World} {S : Nat -> Prop} {p : Nat} {e : Enc} {lim na : Nat} {O : Nat -> Prop} {M : Parts}
abbrev Oi (c : Cel) : Cells.T c72 := ((c.from_ : Int), (c.to_ : Int), (c.kind : Int), c.alone, c.atom, ())
abbrev Jj (w : World) (s : Sl) (C : List Cel) : Prop := Aq w s 72 5 (flat c72 (C.map Oi))
theorem Jj.Aj7 {s : Sl} {C : List Cel} (h : Jj w s C) : C.length = s.len := by
 have := Aq.Jq (cs := c72) h (by decide)
 rwa [List.length_map] at this
theorem Qw {s : Sl} {C : List Cel} {i : Nat} {c : Cel} {K : Addr -> Cells.T c72 -> Wp} (h : Jj w s C) (hc : C[i]? = some c) (hK : ∀ p, K p (Oi c) w) :
  ix s.a s.len (i : Int) (λ p => lds c72 (p.add (scaled (Int.toNat (i : Int)) 5)) (K p)) w :=
 Zk (cs := c72) h (by decide) (by omega) (by rw [Int.toNat_natCast, List.getElem?_map, hc]; rfl) hK
theorem Ou {s : Sl} {C : List Cel} {i : Nat} {c : Cel} {k : Cell} {j : Nat} {y : k.T} {K : Addr -> k.T -> Wp} (h : Jj w s C) (hc : C[i]? = some c) (hy : (Cells.vals c72 (Oi c))[j]? = some (k.val y)) (hK : ∀ p, K p y w) :
  ix s.a s.len (i : Int) (λ p => ld k ((p.add (scaled (Int.toNat (i : Int)) 5)).add j) (K p)) w :=
 Tv (cs := c72) h (by omega) (by rw [Int.toNat_natCast, List.getElem?_map, hc]; rfl) hy hK
theorem Yb {s : Sl} {C : List Cel} {i : Nat} {c : Cel} {k : Cell} {y : k.T} {K : Addr -> k.T -> Wp} (h : Jj w s C) (hc : C[i]? = some c) (hy : (Cells.vals c72 (Oi c))[0]? = some (k.val y)) (hK : ∀ p, K p y w) :
  ix s.a s.len (i : Int) (λ p => ld k (p.add (scaled (Int.toNat (i : Int)) 5)) (K p)) w :=
 Uy (cs := c72) h (by omega) (by rw [Int.toNat_natCast, List.getElem?_map, hc]; rfl) hy hK
theorem Bq0 : He Tryz.prog 68 72 5 40 := He.of (z := .agg #[.int .i64 0, .int .i64 0, .int .i64 0, .bool false, .int .i64 0]) C68 C72 rfl rfl rfl (by decide)
theorem Bv6 (c : Cel) : ∀ v ∈ flat c72 [Oi c], Dx v = true := by
 intro v hv
 rw [Qj] at hv
 have h : v ∈ [_, _, _, _, _] := hv
 simp only [List.mem_cons, List.not_mem_nil, or_false] at h
 rcases h with rfl | rfl | rfl | rfl | rfl <;> rfl
theorem Yc {c : Cel} {a : Int} {K : Bool -> Wp} (hK : ∀ w', Ext w w' -> K (c.is a) w') : Ac Tryz.prog 42 #[.agg (Cells.vals c72 (Oi c)).toArray, .int .i64 a] rB K w := by
 refine A42 (a0 := Oi c) ?_
 unfold F42
 refine (St.start w).Af λ b w1 S1 e1 => S1.ld 0 rfl (x := c.alone) rfl (Aa (λ h => S1.ld 0 rfl (x := c.atom) rfl ?_) (λ h => ?_))
 ·have := hK w1 e1
  unfold Cel.is at this
  rw [h, Bool.true_and] at this
  exact this
 ·have := hK w1 e1
  unfold Cel.is at this
  rw [h, Bool.false_and] at this
  exact this
theorem Rh {A : List Int} {s : Sl} {t : TypeId} {off : Nat} (hs : Aq w s t 1 (iv A)) (hl : A.length < 2 ^ 40) (ho : off < 2 ^ 60) {K : Sl -> Wp} (hK : ∀ s' w', Jj w' s' (Bg A off) -> Ext w w' -> (∀ k, s'.blk k -> w.heap.size <= k) -> K s' w') :
  Ac Tryz.prog 39 #[s.v, .int .i64 (off : Int)] rS K w := by
 refine A39 ?_
 unfold F39
 refine Ak6 hs hl λ b w1 o1 e1 => ?_
 have hbl := o1.len1
 rw [List.length_map] at hbl
 have hcp := Lj A
 have hcl := Xf A A.length
 have hcl' : (cuts A).length <= A.length + 1 := hcl
 have ew : W64 (((b.len : Nat) : Int) - 1) = (((cuts A).length - 1 : Nat) : Int) := by rw [wrap64 (by omega) (by omega)]; omega
 rw [ew]
 have nvi : nv (cuts A) = ((cuts A).map λ (n : Nat) => (n : Int)).map (Cell.int .i64).val := by rw [List.map_map]; rfl
 rw [nvi] at o1
 have hcels := Js A off
 refine Ae (λ x W => Ah W w1.heap.size x.1 72 5 (flat c72 ((Bg A off).map Oi)) /\ Ext w W) ?_ (λ x W h => hK _ _ h.1.in h.2 (λ k hk => by have := h.1.Di hk; have := e1.size; omega))
 refine Am (λ x W => ∃ i, i <= (Bg A off).length /\ x.2 = ((i : Int), ()) /\ Ah W w1.heap.size x.1 72 5 (flat c72 (((Bg A off).take i).map Oi)) /\ Ext w1 W) (λ x _ => ((((Bg A off).length : Nat) : Int) - x.2.1).toNat) ⟨0, Nat.zero_le _, rfl, Ah.nil _ _ _ _, Ext.refl _⟩ ?_
 rintro ⟨r, _⟩ W ⟨i, hi, rfl, hr, e2⟩
 dsimp only at hr ⊢
 have hrl : i = r.len := by
  have := Ah.Jq (cs := c72) hr (by decide)
  rw [List.length_map, List.length_take] at this; omega
 refine Aa (λ hc => ?_) (λ hc => ?_)
 ·simp only [decide_eq_true_eq] at hc
  obtain ⟨c, hc'⟩ : ∃ c, (Bg A off)[i]? = some c := ⟨_, List.getElem?_eq_getElem (by omega)⟩
  obtain ⟨x, y, g1, g2, g3, g4, g5, g6, _, _, g7, g8, g9⟩ := (Ig hc').ex
  have o2 := o1.ext e2
  have m1 : ((cuts A).map λ (n : Nat) => (n : Int))[(i : Int).toNat]? = some (x : Int) := by rw [Int.toNat_natCast, List.getElem?_map, g1]; rfl
  have ew1 : W64 ((i : Int) + 1) = ((i + 1 : Nat) : Int) := by rw [wrap64 (by omega) (by omega)]; omega
  have m2 : ((cuts A).map λ (n : Nat) => (n : Int))[((i + 1 : Nat) : Int).toNat]? = some (y : Int) := by rw [Int.toNat_natCast, List.getElem?_map, g2]; rfl
  rw [ew1]
  refine Iu (c := .int .i64) o2.in (by omega) m1 λ p1 => Iu (c := .int .i64) (xs := A) (hs.ext (e1.trans e2)) (by omega) (x := c.atom) (by rw [Int.toNat_natCast]; exact g7) λ p2 => Fg λ w3 e3 _ => ?_
  have o3 := o2.ext e3
  refine Aj9 (c := .int .i64) o3.in (by omega) m1 λ p3 k3 => Aj9 (c := .int .i64) o3.in (by omega) m2 λ p4 k4 => Aj9 (c := .int .i64) o3.in (by omega) m2 λ p5 k5 => Aj9 (c := .int .i64) o3.in (by omega) m1 λ p6 k6 => ?_
  refine Be6 λ w4 e4 => Ar (k6 w4 e4) (Ar (k5 w4 e4) (Ar (k4 w4 e4) (Ar (k3 w4 e4) ?_)))
  refine Bo λ b5 w5 e5 n5 hb5 _ => ?_
  have e15 := ((e2.trans e3).trans e4).trans e5
  have ec : ∀ z : Nat, z <= A.length -> W64 ((off : Int) + (z : Int)) = ((off + z : Nat) : Int) := λ z hz => by rw [wrap64 (by omega) (by omega)]; omega
  have eb : ((y : Int) == W64 ((x : Int) + 1)) = c.alone := by
   rw [wrap64 (by omega) (by omega), Bool.eq_iff_iff, beq_iff_eq, g9]; omega
  rw [ec x (by omega), ec y (by omega), eb, ← g5, ← g6, ← g8] at n5
  have hbox : SlX w5 ⟨some (at0 b5), 1, 1⟩ 5 (flat c72 [Oi c]) := (Aq.Hr n5 (n := 1) (sz := 5) rfl).x
  refine Du Bq0 Bq0.ts_ (x := ⟨some (at0 b5), 1, 1⟩) (hr.ext ((e3.trans e4).trans e5)) hbox (Bv6 c) (by
   show (r.len + 1 + (r.len + 1) / 4 + 512) * 40 <= 2 ^ 48
   have := Gx A off
   omega) (by have := e15.size; omega) λ r' w6 o6 l6 u6 k6 => ?_
  have e6 : flat c72 (((Bg A off).take i).map Oi) ++ flat c72 [Oi c] = flat c72 (((Bg A off).take (i + 1)).map Oi) := by
   rw [List.take_add_one, hc', List.map_append, Gq]; rfl
  rw [e6] at o6
  exact ⟨⟨i + 1, by omega, rfl, o6, e15.step u6 λ k hk => hr.Di hk⟩, by omega⟩
 ·simp only [decide_eq_false_iff_not] at hc
  have : i = (Bg A off).length := by omega
  subst this
  rw [List.take_length] at hr
  exact ⟨hr, e1.trans e2⟩
abbrev mvT (kind count arg : Int) : Cells.T c39 := (kind, count, arg, ())
theorem Nl {at_ kind count arg lo hi : Int} (h : Txt w p e lim na O M) {K : Int -> Wp} (hK : ∀ w', Ext w w' -> K (checked (aOf e M).length at_ kind count lo hi) w') :
  Ac Tryz.prog 37 #[.pointer (some (at0 p)), .int .i64 at_, .agg (Cells.vals c39 (mvT kind count arg)).toArray, .int .i64 lo, .int .i64 hi] rI K w := by
 refine A37 (a2 := mvT kind count arg) ?_
 unfold F37
 unfold checked at hK
 refine (St.start w).Af λ b w1 S1 e1 => ?_
 refine Ae (λ x W => x = (decide (kind < lo \/ hi < kind \/ count < 0), ()) /\ w1 = W) ?_ ?_
 ·refine S1.ld 0 rfl (x := kind) rfl (Aa (λ h1 => ⟨Aj ?_, rfl⟩) (λ h1 => S1.ld 0 rfl (x := kind) rfl (Aa (λ h2 => ⟨Aj ?_, rfl⟩) (λ h2 => S1.ld 0 rfl (x := count) rfl ⟨Aj ?_, rfl⟩))))
  all_goals simp only [decide_eq_true_eq, decide_eq_false_iff_not, true_iff, gt_iff_lt] at *
  all_goals omega
 rintro _ _ ⟨rfl, rfl⟩
 refine Aa (λ h1 => ?_) (λ h1 => ?_)
 ·simp only [decide_eq_true_eq] at h1
  have := hK w1 e1
  rwa [if_pos h1] at this
 simp only [decide_eq_false_iff_not] at h1
 rw [if_neg h1] at hK
 refine Ae (λ x W => x = (decide (at_ < 0 \/ (((aOf e M).length : Nat) : Int) < at_), ()) /\ Ext w W) ?_ ?_
 ·refine Aa (λ h2 => ⟨Aj ?_, e1⟩) (λ h2 => Hu (h.ext e1) λ w2 e2 => ⟨Aj ?_, e1.trans e2⟩)
  all_goals simp only [decide_eq_true_eq, decide_eq_false_iff_not, true_iff, gt_iff_lt] at *
  all_goals omega
 rintro _ w2 ⟨rfl, e2⟩
 refine Aa (λ h2 => ?_) (λ h2 => ?_)
 ·simp only [decide_eq_true_eq] at h2
  have := hK w2 e2
  rwa [if_pos h2] at this
 ·simp only [decide_eq_false_iff_not] at h2
  have := hK w2 e2
  rwa [if_neg h2] at this
theorem Ns {kind count arg : Int} (hc : count < 2 ^ 63) {K : Int -> Wp} (hK : ∀ w', Ext w w' -> K ((times count : Nat) : Int) w') : Ac Tryz.prog 41 #[.agg (Cells.vals c39 (mvT kind count arg)).toArray] rI K w := by
 refine A41 (a0 := mvT kind count arg) ?_
 unfold F41
 refine (St.start w).Af λ b w1 S1 e1 => S1.ld 0 rfl (x := count) rfl ?_
 have := hK w1 e1
 unfold times at this
 have e : (if (1 : Int) > count then (1 : Int) else count) = (((max count 1).toNat : Nat) : Int) := by split <;> omega
 rw [e]; exact this
theorem Bx6 : Br9 Tryz.prog 115 (.int .i64 0) := ⟨3, 3, by kernel_rfl, C3.und, λ w => C3.Py w rfl⟩
theorem Ba4 {m : Nat} {es : List Jv} (hm : At3 w m es) (k : Int) (v : Value) {K : World -> Prop} (hK : ∀ es' w', At3 w' m es' -> (∀ k', Vh es' k' = if k' = k then some v else Vh es k') -> Upd (λ b => b = m) w w' -> K w') :
  An2 Tryz.prog (Instr.mapUpdate 115 (.map (some m)) (.int .i64 k) v) K w := by
 obtain ⟨es', w', hr, hm', hg, u, _, _⟩ := Au0 Bx6 hm k v
 exact ⟨w', hr, hK es' w' hm' hg u⟩
theorem Aq4 {a : Int} {K : Int × Bool × Unit -> Wp} (hK : ∀ w', Ext w w' -> K ((fellow a).getD 0, (fellow a).isSome, ()) w') : Ac Tryz.prog 38 #[.int .i64 a] (.tup [(.one (.int .i64)), (.one .bool)]) K w := by
 refine A38 ?_
 unfold F38
 refine Bo λ b w1 e1 n1 hb _ => ?_
 refine Ba4 (At3.made b n1) 40 _ λ es2 w2 m2 g2 u2 => Ba4 m2 91 _ λ es3 w3 m3 g3 u3 => Ba4 m3 123 _ λ es4 w4 m4 g4 u4 => Ba4 m4 60 _ λ es5 w5 m5 g5 u5 => ?_
 have e5 : Ext w w5 := (((e1.step u2 λ k hk => by omega).step u3 λ k hk => by omega).step u4 λ k hk => by omega).step u5 λ k hk => by omega
 have hg : Vh es5 a = (fellow a).map (Value.int .i64) := by
  rw [g5, g4, g3, g2]
  unfold fellow
  have h0 : Vh [] a = none := rfl
  rw [h0]
  repeat' split
  all_goals first | rfl | omega
 have hl := Ax1 Bx6 m5 a
 rw [hg] at hl
 refine ⟨((fellow a).getD 0, (fellow a).isSome, ()), ?_, hK w5 e5⟩
 exact hl.trans (by cases fellow a <;> rfl)
def oI : Option Nat -> Int
 | some j => (j : Int)
 | none => -1
theorem An9 {C : List Cel} {s : Sl} {i : Int} {want other : Int} {k : Nat} (up : Bool) (hs : Jj w s C) (hl : C.length < 2 ^ 40) (h1 : -1 <= i) (h2 : i <= C.length) (hu : up = true -> 0 <= i) (hd : up = false -> i < C.length) (hk : 1 <= k) (hk2 : k < 2 ^ 62) {K : Int -> Wp}
  (hK : ∀ w', Ext w w' -> K (oI (Io C want other (Gf up C.length i) k 0)) w') :
  Ac Tryz.prog 43 #[s.v, .int .i64 i, .int .i64 (if up then 1 else -1), .int .i64 want, .int .i64 other, .int .i64 (k : Int)] rI K w := by
 refine A43 ?_
 unfold F43
 have hlen := hs.Aj7
 have step : ∀ {j : Nat}, j < C.length -> Gf up C.length (j : Int) = j :: Gf up C.length ((j : Int) + (if up then 1 else -1)) := by
  intro j hj
  cases up with
  | true => exact Bk8 hj
  | false => exact At9
 refine Ae (λ _ W => Ext w W /\ Io C want other (Gf up C.length i) k 0 = none) ?_ (λ _ W h => by have := hK W h.1; rwa [h.2] at this)
 refine Am (λ x W => ∃ (j : Int) (q d : Nat), x = (j, (q : Int), (d : Int), ()) /\ -1 <= j /\ j <= C.length /\ (up = true -> 0 <= j) /\ (up = false -> j < C.length) /\ 1 <= q /\ q <= k /\ d <= C.length /\ ((up = true -> d <= j) /\ (up = false -> d + j < C.length)) /\ Ext w W /\ Io C want other (Gf up C.length i) k 0 = Io C want other (Gf up C.length j) q d)
  (λ x _ => if up then ((C.length : Int) - x.1).toNat else (x.1 + 1).toNat) ⟨i, k, 0, rfl, h1, h2, hu, hd, hk, Nat.le_refl _, Nat.zero_le _, ⟨λ h => by have := hu h; omega, λ h => by have := hd h; omega⟩, Ext.refl w, rfl⟩ ?_
 rintro _ W ⟨j, q, d, rfl, g1, g2, gu, gd, hq, hqk, hdl, hdb, e1, heq⟩
 dsimp only
 refine Ae (λ x W' => x = (decide (0 <= j /\ j < C.length), ()) /\ W = W') ?_ ?_
 ·refine Aa (λ h => ⟨Aj ?_, rfl⟩) (λ h => ⟨Aj ?_, rfl⟩)
  all_goals simp only [decide_eq_true_eq, decide_eq_false_iff_not, ge_iff_le, Bool.false_eq_true, false_iff] at *
  all_goals omega
 rintro _ _ ⟨rfl, rfl⟩
 refine Aa (λ h => ?_) (λ h => ?_)
 ·simp only [decide_eq_true_eq] at h
  obtain ⟨m, rfl⟩ : ∃ m : Nat, j = (m : Int) := ⟨j.toNat, by omega⟩
  obtain ⟨c, hc⟩ : ∃ c, C[m]? = some c := ⟨_, List.getElem?_eq_getElem (by omega)⟩
  rw [step (by omega), Io, hc] at heq
  simp only at heq
  have ews : W64 ((m : Int) + (if up then 1 else -1)) = (m : Int) + (if up then 1 else -1) := by split <;> exact wrap64 (by omega) (by omega)
  have fin : ∀ {q' d' : Nat} {W' : World}, Ext w W' -> 1 <= q' -> q' <= k -> d' <= d + 1 -> Io C want other (Gf up C.length i) k 0 = Io C want other (Gf up C.length ((m : Int) + (if up then 1 else -1))) q' d' ->
    (λ s' (w'' : World) => (∃ (j : Int) (q d : Nat), s' = (j, (q : Int), (d : Int), ()) /\ -1 <= j /\ j <= C.length /\ (up = true -> 0 <= j) /\ (up = false -> j < C.length) /\ 1 <= q /\ q <= k /\ d <= C.length /\ ((up = true -> d <= j) /\ (up = false -> d + j < C.length)) /\ Ext w w'' /\ Io C want other (Gf up C.length i) k 0 = Io C want other (Gf up C.length j) q d) /\
     (if up then ((C.length : Int) - s'.1).toNat else (s'.1 + 1).toNat) < (if up then ((C.length : Int) - ((m : Int), (q : Int), (d : Int), ()).1).toNat else (((m : Int), (q : Int), (d : Int), ()).1 + 1).toNat)) (W64 ((m : Int) + (if up then 1 else -1)), (q' : Int), (d' : Int), ()) W' := by
   intro q' d' W' eW hq1 hq2 hd1 he
   rw [ews]
   refine ⟨⟨_, q', d', rfl, ?_, ?_, ?_, ?_, hq1, hq2, ?_, ?_, eW, he⟩, ?_⟩
   all_goals clear hK heq he step ews
   all_goals cases up
   all_goals simp at *
   all_goals omega
  refine Ae (λ x W' => ∃ q' d' : Nat, x = ((q' : Int), (d' : Int), ()) /\ Ext w W' /\ 1 <= q' /\ q' <= k /\ d' <= d + 1 /\ Io C want other (Gf up C.length i) k 0 = Io C want other (Gf up C.length ((m : Int) + (if up then 1 else -1))) q' d') ?_ ?_
  ·refine Qw (hs.ext e1) hc λ p1 => Yc λ w2 e2 => ?_
   have e12 := e1.trans e2
   refine Aa (λ ho => ?_) (λ ho => ?_)
   ·have ho : c.is other = true := ho
    rw [if_pos ho] at heq
    refine ⟨q, d + 1, ?_, e12, hq, hqk, Nat.le_refl _, heq⟩
    rw [wrap64 (by omega) (by omega)]; rfl
   have ho : c.is other = false := ho
   rw [if_neg (by rw [ho]; decide)] at heq
   refine Qw (hs.ext e12) hc λ p2 => Yc λ w3 e3 => ?_
   have e13 := e12.trans e3
   refine Aa (λ hw => ?_) (λ hw => ?_)
   ·simp only [Bool.not_eq_true'] at hw
    rw [if_pos hw] at heq
    exact ⟨q, d, rfl, e13, hq, hqk, by omega, heq⟩
   simp only [Bool.not_eq_false'] at hw
   rw [if_neg (by rw [hw]; decide)] at heq
   refine Aa (λ h0 => ?_) (λ h0 => ?_)
   ·simp only [decide_eq_true_eq, gt_iff_lt] at h0
    rw [if_pos (by omega)] at heq
    refine ⟨q, d - 1, ?_, e13, hq, hqk, by omega, heq⟩
    rw [wrap64 (by omega) (by omega)]
    congr 2; omega
   simp only [decide_eq_false_iff_not, gt_iff_lt] at h0
   rw [if_neg (by omega)] at heq
   have ewq : W64 ((q : Int) - 1) = ((q - 1 : Nat) : Int) := by rw [wrap64 (by omega) (by omega)]; omega
   rw [ewq]
   refine Aa (λ hz => ?_) (λ hz => ?_)
   ·simp only [beq_iff_eq] at hz
    rw [if_pos (by omega)] at heq
    have := hK w3 e13
    rw [heq] at this
    exact this
   ·simp only [beq_eq_false_iff_ne, ne_eq] at hz
    rw [if_neg (by omega)] at heq
    exact ⟨q - 1, d, rfl, e13, by omega, by omega, by omega, heq⟩
  ·rintro _ w4 ⟨q', d', rfl, e4, f1, f2, f3, f4⟩
   exact fin e4 f1 f2 f3 f4
 ·simp only [decide_eq_false_iff_not] at h
  rw [Be7 up h g1 gu gd] at heq
  exact ⟨e1, heq⟩
end
section
variable {w w' : World} {S : Nat -> Prop} {p : Nat} {e : Enc} {lim na : Nat} {O : Nat -> Prop} {M : Parts}
theorem Bf5 {n : Nat} {x y : Int} (w : World) : (Op.equalIn (n + 1) 3 (.int .i64 x) (.int .i64 y)).run Tryz.prog w = .ok (x == y) w := run_equalIn_int w n 3 .i64 .i64 x y C3.und
theorem Bc7 {a b : Ln} {o1 o2 : Operand} {K : Bool -> Wp} (hK : K (decide (a = b)) w) :
  rdB Tryz.prog (do eqGuard .eql 100 o1 o2 (.agg (Cells.vals Bj (lnT a)).toArray) (.agg (Cells.vals Bj (lnT b)).toArray); binOp .eql 100 (.agg (Cells.vals Bj (lnT a)).toArray) (.agg (Cells.vals Bj (lnT b)).toArray) : Sem Value) K w := by
 refine ⟨decide (a = b), ?_, hK⟩
 have hg := run_eqGuard_agg (P := Tryz.prog) w .eql 100 o1 o2 (Cells.vals Bj (lnT a)).toArray (Cells.vals Bj (lnT b)).toArray (by kernel_rfl)
 have hq := run_eql_struct (P := Tryz.prog) w 100 (Cells.vals Bj (lnT a)).toArray (Cells.vals Bj (lnT b)).toArray
 have hs := run_equalIn_struct (P := Tryz.prog) w 9999 100 (Cells.vals Bj (lnT a)).toArray (Cells.vals Bj (lnT b)).toArray (by kernel_rfl) (by kernel_rfl)
 have hf : (Tryz.prog.fieldsOf 100).toList.map (λ f => (f.name, f.type, f.offset)) = [("From", 3, 0), ("To", 3, 1), ("Next", 3, 2), ("Break", 3, 3)] := by kernel_rfl
 have key : ∀ fs : List Field, fs.map (λ f => (f.name, f.type, f.offset)) = [("From", 3, 0), ("To", 3, 1), ("Next", 3, 2), ("Break", 3, 3)] -> (Op.eqFields 9999 (Cells.vals Bj (lnT a)).toArray (Cells.vals Bj (lnT b)).toArray fs).run Tryz.prog w = .ok (decide (a = b)) w := by
  intro fs hfs
  have hl : fs.length = 4 := by simpa using congrArg List.length hfs
  obtain ⟨f1, f2, f3, f4, rfl⟩ : ∃ f1 f2 f3 f4, fs = [f1, f2, f3, f4] := by
   match fs, hl with
   | [f1, f2, f3, f4], _ => exact ⟨f1, f2, f3, f4, rfl⟩
  simp only [List.map_cons, List.map_nil, List.cons.injEq, Prod.mk.injEq, and_true] at hfs
  obtain ⟨⟨n1, t1, o1⟩, ⟨n2, t2, o2⟩, ⟨n3, t3, o3⟩, ⟨n4, t4, o4⟩⟩ := hfs
  have pt : ∀ (l : Ln) (i : Nat) (v : Int), (Cells.vals Bj (lnT l)).toArray[i]? = some (.int .i64 v) -> (Go.part 3 (Cells.vals Bj (lnT l)).toArray i).run Tryz.prog w = .ok (.int .i64 v) w := by
   intro l i v hv
   have ha : (isAgg 3).run Tryz.prog w = .ok false w := C3.Pz w
   simp only [Go.part, Sem.run_bind, ha, Result.andThen_ok]
   simp [hv]
  have step : ∀ (f : Field) (fs : List Field) (x y : Nat), f.name ≠ "_" -> f.type = 3 -> (Cells.vals Bj (lnT a)).toArray[f.offset]? = some (.int .i64 (x : Int)) -> (Cells.vals Bj (lnT b)).toArray[f.offset]? = some (.int .i64 (y : Int)) ->
    (Op.eqFields 9999 (Cells.vals Bj (lnT a)).toArray (Cells.vals Bj (lnT b)).toArray (f :: fs)).run Tryz.prog w = if x = y then (Op.eqFields 9999 (Cells.vals Bj (lnT a)).toArray (Cells.vals Bj (lnT b)).toArray fs).run Tryz.prog w else .ok false w := by
   intro f fs x y hn ht hx hy
   rw [Op.eqFields, if_pos hn, ht]
   simp only [Sem.run_bind, pt a _ _ hx, pt b _ _ hy, Result.andThen_ok, Bf5 (n := 9998)]
   by_cases hxy : x = y
   ·rw [if_pos hxy, hxy]; simp
   ·have : ((x : Int) == (y : Int)) = false := by rw [beq_eq_false_iff_ne]; omega
    rw [if_neg hxy, this]; rfl
  rw [step f1 _ a.from_ b.from_ (by rw [n1]; decide) t1 (by rw [o1]; rfl) (by rw [o1]; rfl), step f2 _ a.to_ b.to_ (by rw [n2]; decide) t2 (by rw [o2]; rfl) (by rw [o2]; rfl), step f3 _ a.next b.next (by rw [n3]; decide) t3 (by rw [o3]; rfl) (by rw [o3]; rfl), step f4 _ a.kind b.kind (by rw [n4]; decide) t4 (by rw [o4]; rfl) (by rw [o4]; rfl)]
  obtain ⟨x1, x2, x3, x4⟩ := a
  obtain ⟨y1, y2, y3, y4⟩ := b
  by_cases h1 : x1 = y1 <;> by_cases h2 : x2 = y2 <;> by_cases h3 : x3 = y3 <;> by_cases h4 : x4 = y4 <;> simp [h1, h2, h3, h4, Op.eqFields]
 rw [key _ hf] at hs
 simp only [Sem.run_bind, hg, Result.andThen_ok, hq, hs]
abbrev spT (s : Int × Int × Int) : Cells.T c34 := (s.1, s.2.1, s.2.2, ())
theorem Bc5 (A : List Int) (n : Nat) : lnI A (n : Int) = Eb A n := by unfold lnI; rw [if_neg (by omega), Int.toNat_natCast]
theorem Zh {at_ : Nat} (h : Txt w p e lim na O M) (hat : at_ <= (atoms (aOf e M)).length) {K : Cells.T Bj × Int × Unit -> Wp} (hK : ∀ w', Ext w w' -> K (lnT ((Eb (atoms (aOf e M)) (nb (atoms (aOf e M)) at_)).getD ⟨0, 0, 0, 0⟩), 0, ()) w') :
  Ac Tryz.prog 57 #[.pointer (some (at0 p)), .int .i64 (at_ : Int)] rI (λ i => Ac Tryz.prog 71 #[.pointer (some (at0 p)), .int .i64 i] (.tup [(.agg Bj), (.one (.int .i64))]) K) w := by
 have few := h.few; have lims := h.lims
 have hal := hal e M
 have hnl := Tq (atoms (aOf e M)) at_
 refine Ao5 h λ w1 e1 => Ap4 (h.ext e1) (by rw [Int.toNat_natCast]; omega) λ w2 e2 => ?_
 rw [Int.toNat_natCast, Bc5]
 have := hK w2 (e1.trans e2)
 obtain ⟨l, hl, _⟩ := Y7 (atoms (aOf e M)) hat
 rw [hl] at this ⊢
 exact this
theorem Ap6 {one two : Cel} (h : Txt w p e lim na O M) (h1 : one.from_ <= (atoms (aOf e M)).length) (h2 : two.from_ <= (atoms (aOf e M)).length) {K : Cells.T c34 -> Wp} (hK : ∀ w', Ext w w' -> K (spT (Obx.Tz (atoms (aOf e M)) one two)) w') :
  Ac Tryz.prog 44 #[.pointer (some (at0 p)), .agg (Cells.vals c72 (Oi one)).toArray, .agg (Cells.vals c72 (Oi two)).toArray] (.one (.agg c34)) K w := by
 refine A44 (a1 := Oi one) (a2 := Oi two) ?_
 unfold F44
 have few := h.few; have lims := h.lims
 have hal := hal e M
 generalize hA : atoms (aOf e M) = A at *
 unfold Obx.Tz at hK
 obtain ⟨a, ha⟩ : ∃ a, a = (Eb A (nb A one.from_)).getD ⟨0, 0, 0, 0⟩ := ⟨_, rfl⟩
 obtain ⟨b, hb⟩ : ∃ b, b = (Eb A (nb A two.from_)).getD ⟨0, 0, 0, 0⟩ := ⟨_, rfl⟩
 rw [← ha, ← hb] at hK
 dsimp only at hK
 have hbf : b.from_ <= two.from_ := by
  obtain ⟨l, hl, hf, _⟩ := Y7 A h2
  rw [hb, hl]; exact hf
 let z3 : Obj := .cells #[.int .i64 0, .int .i64 0, .int .i64 0] 34 (0, 0)
 let z4 : Obj := .cells #[.int .i64 0, .int .i64 0, .int .i64 0, .int .i64 0] 100 (0, 0)
 refine (St.start w).Af λ b1 w1 S1 e1 => S1.Af λ b2 w2 S2 e2 => S2.Af λ b3 w3 S3 e3 => ?_
 refine S3.ld 2 rfl (x := (one.to_ : Int)) rfl (S3.ld 1 rfl (x := (two.from_ : Int)) rfl (S3.Af λ b6 w6 S6 e6 => S6.Ad 0 rfl rfl rfl rfl λ w7 S7 u7 => ?_))
 refine S7.ld 3 rfl (x := (one.from_ : Int)) rfl (Zh (h.ext S7.upd) (by rw [hA]; exact h1) λ w8 e8 => ?_)
 rw [hA, ← ha]
 refine (S7.ext e8).Af λ b10 w10 S10 e10 => S10.Ad 0 rfl rfl rfl rfl λ w11 S11 u11 => ?_
 refine S11.ld 3 rfl (x := (two.from_ : Int)) rfl (Zh (h.ext S11.upd) (by rw [hA]; exact h2) λ w12 e12 => ?_)
 rw [hA, ← hb]
 refine (S11.ext e12).Af λ b14 w14 S14 e14 => S14.Ad 0 rfl rfl rfl rfl λ w15 S15 u15 => ?_
 let Ls : List (Nat × Obj) := [(b14, .cells (Cells.vals Bj (lnT b)).toArray 100 (0, 0)), (b10, .cells (Cells.vals Bj (lnT a)).toArray 100 (0, 0)), (b6, .cells #[.int .i64 (one.to_ : Int), .int .i64 (two.from_ : Int), .int .i64 0] 34 (0, 0)), (b3, z3), (b2, .cells (Cells.vals c72 (Oi two)).toArray 72 (0, 0)), (b1, .cells (Cells.vals c72 (Oi one)).toArray 72 (0, 0))]
 have S15 : St (λ _ => False) w w15 Ls := S15
 have fin : ∀ {W : World} {s : Int × Int × Int}, St (λ _ => False) w W Ls -> (∀ w', Ext w w' -> K (spT s) w') -> Ad (at0 b3) (.agg #[.int .i64 s.1, .int .i64 s.2.1, .int .i64 s.2.2]) 3 (lds c34 (at0 b3) λ x => K x) W := λ {W s} SW hk =>
  SW.Ad 3 rfl rfl rfl rfl λ w1 S1 _ => S1.lds 3 (spT s) rfl (hk w1 S1.upd)
 refine Ae (λ x W => x = (decide (a.to_ ≠ one.to_ \/ a = b), ()) /\ w15 = W) ?_ ?_
 ·refine S15.ld 1 rfl (x := (a.to_ : Int)) rfl (S15.ld 5 rfl (x := (one.to_ : Int)) rfl (Aa (λ h => ⟨Aj ?_, rfl⟩) (λ h => S15.lds 1 (lnT a) rfl (S15.lds 0 (lnT b) rfl (Bc7 ⟨Aj ?_, rfl⟩)))))
  all_goals simp only [bne_iff_ne, bne_eq_false_iff_eq, decide_eq_true_eq, true_iff, ne_eq] at *
  ·omega
  ·have : a.to_ = one.to_ := by omega
   simp [this]
 rintro _ _ ⟨rfl, rfl⟩
 refine Aa (λ h3 => ?_) (λ h3 => ?_)
 ·simp only [decide_eq_true_eq] at h3
  rw [if_pos h3] at hK
  exact S15.lds 2 (spT (one.to_, two.from_, 0)) rfl (fin (s := (one.to_, two.from_, 0)) S15 hK)
 simp only [decide_eq_false_iff_not] at h3
 rw [if_neg h3] at hK
 refine Ae (λ _ W => St (λ _ => False) w W Ls /\ (Bg ((A.drop b.from_).take (two.from_ - b.from_)) b.from_).any (λ c => c.kind != 0) = false) ?_ ?_
 ·refine S15.drew λ w16 S16 e16 _ => S16.ld 0 rfl (x := (b.from_ : Int)) rfl (S16.ld 4 rfl (x := (two.from_ : Int)) rfl (S16.ld 0 rfl (x := (b.from_ : Int)) rfl ?_))
  refine Jf (h.ext S16.upd) λ s w17 o17 e17 => ?_
  have hsub : sub A (b.from_ : Int) (two.from_ : Int) = (A.drop b.from_).take (two.from_ - b.from_) := by unfold sub; simp
  rw [hA, hsub] at o17
  have S17 := S16.ext e17
  refine S17.keep 0 rfl (v := .int .i64 (b.from_ : Int)) rfl ?_
  refine Rh o17.in (by rw [List.length_take, List.length_drop]; omega) (by omega) λ s2 w18 o18 e18 _ => ?_
  have S18 := S17.ext e18
  generalize hC : Bg ((A.drop b.from_).take (two.from_ - b.from_)) b.from_ = C at *
  have hCl := o18.Aj7
  have hCb : C.length < 2 ^ 40 := by
   have := Gx ((A.drop b.from_).take (two.from_ - b.from_)) b.from_
   rw [hC, List.length_take, List.length_drop] at this; omega
  refine Am (λ x W => ∃ i : Nat, i <= C.length /\ x = ((i : Int), ()) /\ St (λ _ => False) w W Ls /\ Ext w18 W /\ (C.take i).any (λ c => c.kind != 0) = false) (λ x _ => ((C.length : Int) - x.1).toNat) ⟨0, Nat.zero_le _, rfl, S18, Ext.refl _, rfl⟩ ?_
  rintro _ W ⟨i, hi, rfl, SW, eW, hno⟩
  refine Aa (λ hc => ?_) (λ hc => ?_)
  ·simp only [decide_eq_true_eq] at hc
   obtain ⟨c, hc'⟩ : ∃ c, C[i]? = some c := ⟨_, List.getElem?_eq_getElem (by omega)⟩
   refine Qw (o18.ext eW) hc' λ q => SW.Rt λ b35 w20 S20 e20 hb35 => S20.Ad 0 rfl rfl rfl rfl λ w21 S21 u21 => ?_
   refine S21.ld 0 rfl (x := (c.kind : Int)) rfl (Aa (λ hk => ?_) (λ hk => ?_))
   ·simp only [bne_iff_ne, ne_eq] at hk
    have hany : C.any (λ c => c.kind != 0) = true := by
     rw [List.any_eq_true]
     exact ⟨c, List.mem_of_getElem? hc', by rw [bne_iff_ne]; omega⟩
    rw [if_pos hany] at hK
    exact S21.lds 3 (spT (one.to_, two.from_, 0)) rfl (fin (s := (one.to_, two.from_, 0)) S21.tail hK)
   ·simp only [bne_eq_false_iff_eq] at hk
    have ew : W64 ((i : Int) + 1) = ((i + 1 : Nat) : Int) := by rw [wrap64 (by omega) (by omega)]; omega
    rw [ew]
    refine ⟨⟨i + 1, by omega, rfl, S21.tail, (eW.trans e20).step u21 (λ k hk => ?_), ?_⟩, by omega⟩
    ·have := eW.size; omega
    ·rw [List.take_add_one, hc', List.any_append, hno]
     have : c.kind = 0 := by omega
     simp [this]
  ·simp only [decide_eq_false_iff_not] at hc
   have : i = C.length := by omega
   subst this
   rw [List.take_length] at hno
   exact ⟨SW, hno⟩
 rintro _ W ⟨SW, hno⟩
 rw [if_neg (by rw [hno]; decide)] at hK
 refine SW.ld 1 rfl (x := (a.next : Int)) rfl (SW.ld 0 rfl (x := (b.from_ : Int)) rfl (Aa (λ h4 => ?_) (λ h4 => ?_)))
 ·simp only [beq_iff_eq] at h4
  rw [if_pos (by omega)] at hK
  exact SW.ld 5 rfl (x := (one.to_ : Int)) rfl (SW.ld 5 rfl (x := (one.to_ : Int)) rfl (fin (s := (one.to_, one.to_, 0)) SW hK))
 ·simp only [beq_eq_false_iff_ne, ne_eq] at h4
  rw [if_neg (by omega)] at hK
  exact SW.ld 1 rfl (x := (a.next : Int)) rfl (SW.ld 0 rfl (x := (b.from_ : Int)) rfl (fin (s := (a.next, b.from_, 1)) SW hK))
end
section
variable {w w' : World} {S : Nat -> Prop} {p : Nat} {e : Enc} {lim na : Nat} {O : Nat -> Prop} {M : Parts}
theorem Bs8 (A : List Int) : sub A 0 (A.length : Int) = A := by unfold sub; simp
theorem Ar8 {at_ kind count arg : Int} (h : Txt w p e lim na O M) (hcn : count < 2 ^ 63) {K : Cells.T c34 × Int × Unit -> Wp} (hK : ∀ w', Ext w w' -> K (spT (La (atoms (aOf e M)) at_ kind count arg).1, (La (atoms (aOf e M)) at_ kind count arg).2, ()) w') :
  Ac Tryz.prog 19 #[.pointer (some (at0 p)), .int .i64 at_, .agg (Cells.vals c39 (mvT kind count arg)).toArray] (.tup [(.agg c34), (.one (.int .i64))]) K w := by
 refine A19 (a2 := mvT kind count arg) ?_
 unfold F19
 have few := h.few; have lims := h.lims
 have hal := hal e M
 generalize hA : atoms (aOf e M) = A at *
 unfold La at hK
 rw [hal] at hK
 let Mv : Obj := .cells (Cells.vals c39 (mvT kind count arg)).toArray 39 (0, 0)
 let Z : Obj := .cells #[.int .i64 0, .int .i64 0, .int .i64 0] 34 (0, 0)
 refine (St.start w).Af λ b1 w1 S1 e1 => S1.Af λ b2 w2 S2 e2 => ?_
 have S2 : St (λ _ => False) w w2 [(b2, Z), (b1, Mv)] := S2
 have fin : ∀ {W : World} {s : Int × Int × Int} {n : Int}, St (λ _ => False) w W [(b2, Z), (b1, Mv)] -> (∀ w', Ext w w' -> K (spT s, n, ()) w') -> Ad (at0 b2) (.agg #[.int .i64 s.1, .int .i64 s.2.1, .int .i64 s.2.2]) 3 (lds c34 (at0 b2) λ x => K (x, n, ())) W := λ {W s n} SW hk =>
  SW.Ad 0 rfl rfl rfl rfl λ w1 S1 _ => S1.lds 0 (spT s) rfl (hk w1 S1.upd)
 refine S2.lds 1 (mvT kind count arg) rfl (Nl (h.ext S2.upd) λ w3 e3 => ?_)
 have S3 := S2.ext e3
 refine S3.ld 1 rfl (x := arg) rfl (Aq4 λ w4 e4 => ?_)
 have S4 := S3.ext e4
 generalize hck : checked (aOf e M).length at_ kind count 67 68 = ck at *
 refine Ae (λ x W => x = (decide (ck = 1 \/ fellow arg = none), ()) /\ w4 = W) ?_ ?_
 ·refine Aa (λ h => ⟨Aj ?_, rfl⟩) (λ h => ⟨Aj ?_, rfl⟩)
  ·simp only [beq_iff_eq, decide_eq_true_eq, true_iff] at *; exact .inl h
  ·simp only [beq_eq_false_iff_ne, decide_eq_true_eq, ne_eq] at *
   cases fellow arg <;> simp [h]
 rintro _ _ ⟨rfl, rfl⟩
 refine Aa (λ hc => ?_) (λ hc => ?_)
 ·simp only [decide_eq_true_eq] at hc
  refine fin (s := (0, 0, 0)) (n := 1) S4 λ w' x => ?_
  have := hK w' x
  by_cases h1 : ck = 1
  ·rw [if_pos h1] at this; exact this
  ·rw [if_neg h1, hc.resolve_left h1] at this; exact this
 simp only [decide_eq_false_iff_not, not_or] at hc
 obtain ⟨shut, hsh⟩ : ∃ shut, fellow arg = some shut := by
  cases hf : fellow arg with
  | none => exact absurd hf hc.2
  | some s => exact ⟨s, rfl⟩
 rw [if_neg hc.1, hsh] at hK
 rw [hsh]
 simp only [Option.getD_some, Option.isSome_some]
 dsimp only at hK
 refine Aa (λ h0 => ?_) (λ h0 => ?_)
 ·simp only [bne_iff_ne, ne_eq] at h0
  rw [if_pos h0] at hK
  exact fin (s := (0, 0, 0)) (n := ck) S4 hK
 simp only [bne_eq_false_iff_eq] at h0
 rw [if_neg (by rw [h0]; decide)] at hK
 refine Hu (h.ext S4.upd) λ w5 e5 => Jf (h.ext (S4.ext e5).upd) λ s w6 o6 e6 => ?_
 rw [hA, ← hal, Bs8] at o6
 refine Rh (off := 0) o6.in (by omega) (by decide) λ sc w7 o7 e7 _ => ?_
 have S7 := ((S4.ext e5).ext e6).ext e7
 have hCle : (Bg A 0).length <= A.length := Gx A 0
 have hcel : ∀ {m : Nat} {c : Cel}, (Bg A 0)[m]? = some c -> c.from_ <= A.length := λ hc => by
  obtain ⟨i, j, _, _, h1, h2, h3, _⟩ := (Ig hc).ex
  omega
 generalize hC : Bg A 0 = C at *
 have hlen := o7.Aj7
 unfold Ve at hK
 refine Ae (λ x W => x = (((Ef C at_ : Nat) : Int), ()) /\ w7 = W) ?_ ?_
 ·refine Am (λ x W => ∃ i : Nat, i <= C.length /\ x = ((i : Int), ()) /\ w7 = W /\ ∀ (j : Nat) (c : Cel), j < i -> C[j]? = some c -> (c.to_ : Int) <= at_) (λ x _ => ((C.length : Int) - x.1).toNat) ⟨0, Nat.zero_le _, rfl, rfl, λ j c hj => absurd hj (Nat.not_lt_zero _)⟩ ?_
  rintro _ _ ⟨i, hi, rfl, rfl, hlo⟩
  by_cases hil : i < C.length
  ·obtain ⟨c, hc'⟩ : ∃ c, C[i]? = some c := ⟨_, List.getElem?_eq_getElem hil⟩
   refine Ae (λ x W => x = (decide ((c.to_ : Int) <= at_), ()) /\ w7 = W) ?_ ?_
   ·exact Aa (λ h => Ou (k := .int .i64) o7 hc' (y := (c.to_ : Int)) rfl λ q => ⟨Aj (by simp only [decide_eq_true_eq, ge_iff_le]), rfl⟩) (λ h => by simp only [decide_eq_false_iff_not] at h; omega)
   rintro _ _ ⟨rfl, rfl⟩
   refine Aa (λ hg => ?_) (λ hg => ?_)
   ·simp only [decide_eq_true_eq] at hg
    have ew : W64 ((i : Int) + 1) = ((i + 1 : Nat) : Int) := by rw [wrap64 (by omega) (by omega)]; omega
    rw [ew]
    refine ⟨⟨i + 1, by omega, rfl, rfl, λ j d hj hd => ?_⟩, by omega⟩
    by_cases hji : j = i
    ·subst hji; rw [hc'] at hd; cases hd; exact hg
    ·exact hlo j d (by omega) hd
   ·simp only [decide_eq_false_iff_not] at hg
    refine ⟨?_, rfl⟩
    rw [Uz hi hlo λ d hd => by rw [hc'] at hd; cases hd; omega]
  ·refine Ae (λ x W => x = (false, ()) /\ w7 = W) (Aa (λ h => by simp only [decide_eq_true_eq] at h; omega) (λ _ => ⟨rfl, rfl⟩)) ?_
   rintro _ _ ⟨rfl, rfl⟩
   refine Au ⟨?_, rfl⟩
   have : i = C.length := by omega
   rw [Uz hi hlo λ d hd => by rw [this, List.getElem?_eq_none (Nat.le_refl _)] at hd; cases hd]
 rintro _ _ ⟨rfl, rfl⟩
 have hfl := Ql C at_
 generalize hi : Ef C at_ = i at *
 refine Ae (λ x W => x = (decide (i = C.length \/ C.length < times count), ()) /\ St (λ _ => False) w W [(b2, Z), (b1, Mv)] /\ Ext w7 W) ?_ ?_
 ·refine Aa (λ h => ⟨Aj ?_, S7, Ext.refl _⟩) (λ h => S7.lds 1 (mvT kind count arg) rfl (Ns hcn λ w8 e8 => ⟨Aj ?_, S7.ext e8, e8⟩))
  all_goals simp only [beq_iff_eq, beq_eq_false_iff_ne, ne_eq, decide_eq_true_eq, true_iff, gt_iff_lt] at *
  all_goals omega
 rintro _ w8 ⟨rfl, S8, e8⟩
 refine Aa (λ hb => ?_) (λ hb => ?_)
 ·simp only [decide_eq_true_eq] at hb
  rw [if_pos hb] at hK
  exact fin (s := (0, 0, 0)) (n := 90) S8 hK
 simp only [decide_eq_false_iff_not] at hb
 rw [if_neg hb] at hK
 have ht1 : 1 <= times count := by unfold times; omega
 obtain ⟨c, hc'⟩ : ∃ c, C[i]? = some c := ⟨_, List.getElem?_eq_getElem (by omega)⟩
 rw [hc'] at hK
 have ewp : W64 ((i : Int) + 1) = (i : Int) + 1 := wrap64 (by omega) (by omega)
 have ewm : W64 ((i : Int) - 1) = (i : Int) - 1 := wrap64 (by omega) (by omega)
 simp only [Option.map_some, Option.getD_some] at hK
 refine Ae (λ x W => x = ((if c.is arg then (i : Int) else (i : Int) - 1), (if c.is arg then (i : Int) + 1 else (i : Int)), ()) /\ St (λ _ => False) w W [(b2, Z), (b1, Mv)] /\ Ext w7 W) ?_ ?_
 ·refine S8.drew λ w9 S9 e9 _ => Qw (o7.ext (e8.trans e9)) hc' λ q => S9.ld 1 rfl (x := arg) rfl (Yc λ w10 e10 => ?_)
  rw [ewp, ewm]
  refine Aa (λ h => ⟨?_, S9.ext e10, (e8.trans e9).trans e10⟩) (λ h => ⟨?_, S9.ext e10, (e8.trans e9).trans e10⟩)
  ·rw [h, if_pos rfl, if_pos rfl]
  ·rw [h, if_neg (by decide), if_neg (by decide)]
 rintro _ w9 ⟨rfl, S9, e9⟩
 dsimp only
 refine S9.drew λ w10 S10 e10 _ => S10.ld 1 rfl (x := arg) rfl (S10.lds 1 (mvT kind count arg) rfl (Ns hcn λ w11 e11 => ?_))
 have S11 := S10.ext e11
 have x11 := (e9.trans e10).trans e11
 have hl1 : -1 <= (if c.is arg then (i : Int) else (i : Int) - 1) /\ (if c.is arg then (i : Int) else (i : Int) - 1) < C.length := by split <;> omega
 have hr1 : 0 <= (if c.is arg then (i : Int) + 1 else (i : Int)) /\ (if c.is arg then (i : Int) + 1 else (i : Int)) <= C.length := by split <;> omega
 refine S11.keep 1 rfl (v := .int .i64 arg) rfl ?_
 refine An9 (k := times count) false (o7.ext x11) (by omega) hl1.1 (by omega) (λ h => by cases h) (λ _ => hl1.2) ht1 (by omega) λ w12 e12 => ?_
 have S12 := S11.ext e12
 refine S12.drew λ w13 S13 e13 _ => S13.ld 1 rfl (x := arg) rfl (S13.lds 1 (mvT kind count arg) rfl (Ns hcn λ w14 e14 => ?_))
 have S14 := S13.ext e14
 have x14 := ((x11.trans e12).trans e13).trans e14
 refine S14.keep 1 rfl (v := .int .i64 arg) rfl ?_
 refine An9 (k := times count) true (o7.ext x14) (by omega) (by omega) hr1.2 (λ _ => hr1.1) (λ h => by cases h) ht1 (by omega) λ w15 e15 => ?_
 have S15 := S14.ext e15
 have x15 := x14.trans e15
 generalize hn1 : Io C arg shut (Gf false C.length (if c.is arg then (i : Int) else (i : Int) - 1)) (times count) 0 = n1 at *
 generalize hn2 : Io C shut arg (Gf true C.length (if c.is arg then (i : Int) + 1 else (i : Int))) (times count) 0 = n2 at *
 refine Ae (λ x W => x = (decide (n1 = none \/ n2 = none), ()) /\ w15 = W) ?_ ?_
 ·cases n1 with
  | none => exact Aa (λ h => ⟨Aj (by simp), rfl⟩) (λ h => by simp [oI] at h)
  | some j1 =>
   refine Aa (λ h => absurd (of_decide_eq_true h) (Int.not_lt.2 (Int.natCast_nonneg j1))) (λ h => ⟨?_, rfl⟩)
   cases n2 with
   | none => exact Aj (by simp [oI])
   | some j2 =>
    refine Aj ?_
    simp only [decide_eq_true_eq, reduceCtorEq, or_self, iff_false, oI, Int.not_lt]
    exact λ h => absurd (of_decide_eq_true h) (Int.not_lt.2 (Int.natCast_nonneg j2))
 rintro _ _ ⟨rfl, rfl⟩
 refine Aa (λ hd => ?_) (λ hd => ?_)
 ·simp only [decide_eq_true_eq] at hd
  have e0 : pick C n1 n2 = none := by
   rcases hd with rfl | rfl
   ·rfl
   ·cases n1 <;> rfl
  rw [e0] at hK
  exact fin (s := (0, 0, 0)) (n := 90) S15 hK
 simp only [decide_eq_false_iff_not, not_or] at hd
 obtain ⟨j1, rfl⟩ : ∃ j, n1 = some j := by cases n1 with
  | none => exact absurd rfl hd.1
  | some j => exact ⟨j, rfl⟩
 obtain ⟨j2, rfl⟩ : ∃ j, n2 = some j := by cases n2 with
  | none => exact absurd rfl hd.2
  | some j => exact ⟨j, rfl⟩
 obtain ⟨_, c1, hc1, _⟩ := Qe hn1
 obtain ⟨_, c2, hc2, _⟩ := Qe hn2
 have e0 : pick C (some j1) (some j2) = some (c1, c2) := by unfold pick; dsimp only; rw [hc1, hc2]
 rw [e0] at hK
 dsimp only [oI] at hK ⊢
 refine S15.ld 1 rfl (x := kind) rfl (Aa (λ hk => ?_) (λ hk => ?_))
 ·simp only [beq_iff_eq] at hk
  rw [if_pos hk] at hK
  refine S15.drew λ w16 S16 e16 _ => Qw (o7.ext (x15.trans e16)) hc1 λ q1 => Qw (o7.ext (x15.trans e16)) hc2 λ q2 => ?_
  refine Ap6 (one := c1) (two := c2) (h.ext S16.upd) (by rw [hA]; exact hcel hc1) (by rw [hA]; exact hcel hc2) λ w17 e17 => ?_
  rw [hA]
  exact fin (s := Obx.Tz A c1 c2) (n := 0) (S16.ext e17) hK
 ·simp only [beq_eq_false_iff_ne, ne_eq] at hk
  rw [if_neg hk] at hK
  refine S15.drew λ w16 S16 e16 _ => Yb (k := .int .i64) (o7.ext (x15.trans e16)) hc1 (y := (c1.from_ : Int)) rfl λ q1 => Ou (k := .int .i64) (o7.ext (x15.trans e16)) hc2 (y := (c2.to_ : Int)) rfl λ q2 => ?_
  exact fin (s := (c1.from_, c2.to_, 0)) (n := 0) S16 hK
end
end Go.Proofs.YtabcpghhfeplaaaGreat
namespace Go.Proofs.YtabcpghhfeplaaaGreat
open Go Go.Vx Cdc
section
variable {w w' : World}
theorem Ax5 {e : Enc} {K : Bool -> Wp} (hK : K true w) : Ac Tryz.prog 61 #[.int .i64 e.num] rB K w := by
 refine A61 ?_
 unfold F61
 cases e <;> exact Aa (λ _ => hK) (λ h => by cases h)
theorem Ai1 {a : Int} {K : Bool -> Wp} (h1 : Scalar a -> K true w) (h2 : ¬ Scalar a -> K false w) : Ac Tryz.prog 117 #[.int .i64 a] rB K w := by
 refine Cy8 ?_
 unfold F117
 unfold Scalar at h1 h2
 refine Aa (λ h => Aa (λ h' => ?_) (λ h' => Aa (λ h'' => ?_) (λ h'' => ?_))) (λ h => Aa (λ h'' => ?_) (λ h'' => ?_))
 all_goals simp only [decide_eq_true_eq, decide_eq_false_iff_not, gt_iff_lt, ge_iff_le] at *
 ·exact h1 (by omega)
 ·by_cases hc : a <= 1114111
  ·rw [decide_eq_true hc]; exact h1 (by omega)
  ·rw [decide_eq_false hc]; exact h2 (by omega)
 ·exact h2 (by omega)
 ·by_cases hc : a <= 1114111
  ·rw [decide_eq_true hc]; exact h1 (by omega)
  ·rw [decide_eq_false hc]; exact h2 (by omega)
 ·exact h2 (by omega)
def unI (be : Bool) : Bs -> Int
 | a :: b :: _ => ((un be a b : Nat) : Int)
 | _ => -1
theorem V6 {s : Sl} {l : Bs} {n : Nat} {be : Bool} (hB : By w s l) (hn : n < 2 ^ 60) (hl : l.length < 2 ^ 60) {K : Int -> Wp} (hK : ∀ w', Ext w w' -> K (unI be (l.drop n)) w') :
  Ac Tryz.prog 84 #[.int .i64 (if be then 3 else 2), s.v, .int .i64 (n : Int)] rI K w := by
 refine A84 ?_
 unfold F84
 have hlen := hB.len
 have e2 : W64 ((n : Int) + 2) = (n : Int) + 2 := wrap64 (by omega) (by omega)
 have e1 : W64 ((n : Int) + 1) = ((n + 1 : Nat) : Int) := by rw [wrap64 (by omega) (by omega)]; omega
 rw [e2, e1]
 refine Aa (λ h => ?_) (λ h => ?_)
 ·simp only [decide_eq_true_eq, gt_iff_lt] at h
  have := hK w (Ext.refl w)
  have hd : (l.drop n).length < 2 := by rw [List.length_drop]; omega
  match hdd : l.drop n, hd with
  | [], _ => rw [hdd] at this; exact this
  | [_], _ => rw [hdd] at this; exact this
  | _ :: _ :: _, hd => simp at hd; omega
 ·simp only [decide_eq_false_iff_not, gt_iff_lt] at h
  have h0 : n < l.length := by omega
  have h1 : n + 1 < l.length := by omega
  have hd : l.drop n = l[n] :: l[n + 1] :: l.drop (n + 2) := by
   rw [List.drop_eq_getElem_cons h0, List.drop_eq_getElem_cons h1]
  have ha := l[n].toNat_lt
  have hb := l[n + 1].toNat_lt
  rw [hd] at hK
  have g0 : l[(n : Int).toNat]? = some l[n] := by rw [Int.toNat_natCast]; simp [h0]
  have g1 : l[((n + 1 : Nat) : Int).toNat]? = some l[n + 1] := by rw [Int.toNat_natCast]; simp [h1]
  cases be with
  | false =>
   refine Aa (λ _ => Fg λ w1 e3 _ => ?_) (λ h => by cases h)
   have hB1 : By w1 s l := hB.ext e3
   refine Hg hB1 (by omega) g0 λ p => Hg hB1 (by omega) g1 λ p => ?_
   rw [wrap64 (a := (l[n].toNat : Int)) (by omega) (by omega), wrap64 (a := (l[n + 1].toNat : Int)) (by omega) (by omega), wrap64 (a := 256 * (l[n + 1].toNat : Int)) (by omega) (by omega), wrap64 (by omega) (by omega)]
   have : (l[n].toNat : Int) + 256 * (l[n + 1].toNat : Int) = unI false (l[n] :: l[n + 1] :: l.drop (n + 2)) := by
    show _ = ((l[n].toNat + l[n + 1].toNat * 256 : Nat) : Int); omega
   rw [this]; exact hK w1 e3
  | true =>
   refine Aa (λ h => by cases h) (λ _ => Fg λ w1 e3 _ => ?_)
   have hB1 : By w1 s l := hB.ext e3
   refine Hg hB1 (by omega) g0 λ p => Hg hB1 (by omega) g1 λ p => ?_
   rw [wrap64 (a := (l[n].toNat : Int)) (by omega) (by omega), wrap64 (a := (l[n + 1].toNat : Int)) (by omega) (by omega), wrap64 (a := 256 * (l[n].toNat : Int)) (by omega) (by omega), wrap64 (by omega) (by omega)]
   have : 256 * (l[n].toNat : Int) + (l[n + 1].toNat : Int) = unI true (l[n] :: l[n + 1] :: l.drop (n + 2)) := by
    show _ = ((l[n + 1].toNat + l[n].toNat * 256 : Nat) : Int); omega
   rw [this]; exact hK w1 e3
end
end Go.Proofs.YtabcpghhfeplaaaGreat
namespace Go.Proofs.YtabcpghhfeplaaaGreat
namespace Cdc
theorem ofNat_toNat (b : UInt8) : UInt8.ofNat b.toNat = b := by
 apply UInt8.toNat_inj.1
 rw [UInt8.toNat_ofNat']
 have := b.toNat_lt
 omega
theorem byte_of {n : Nat} {b : UInt8} (h : n = b.toNat) : UInt8.ofNat n = b := by rw [h, ofNat_toNat]
theorem Me {n : Nat} (h : Scalar (n : Int)) : sz8 (n : Int) = if n < 128 then 1 else if n < 2048 then 2 else if n < 65536 then 3 else 4 := by
 unfold sz8
 rw [if_neg (by rcases h with h | h <;> omega)]
 repeat' split
 all_goals first | rfl | omega
theorem Bb8 {n : Nat} (h : n < 128) : pt8 (n : Int) = [UInt8.ofNat n] := by
 have hs : sz8 (n : Int) = 1 := by rw [Me (.inl (by omega)), if_pos h]
 unfold pt8
 rw [if_neg (by omega), if_pos hs, Int.toNat_natCast]
theorem Bb7 {n : Nat} (h0 : 128 <= n) (h : n < 2048) : pt8 (n : Int) = [UInt8.ofNat (192 + n / 64), UInt8.ofNat (128 + n % 64)] := by
 have hs : sz8 (n : Int) = 2 := by rw [Me (.inl (by omega)), if_neg (by omega), if_pos h]
 unfold pt8
 rw [if_neg (by omega), hs, if_neg (by decide), Int.toNat_natCast]
 show [UInt8.ofNat (192 + n / 64), UInt8.ofNat (128 + n / 1 % 64)] = _
 rw [Nat.div_one]
theorem Bb6 {n : Nat} (hs : Scalar (n : Int)) (h0 : 2048 <= n) (h : n < 65536) : pt8 (n : Int) = [UInt8.ofNat (224 + n / 4096), UInt8.ofNat (128 + n / 64 % 64), UInt8.ofNat (128 + n % 64)] := by
 have hs : sz8 (n : Int) = 3 := by rw [Me hs, if_neg (by omega), if_neg (by omega), if_pos h]
 unfold pt8
 rw [if_neg (by omega), hs, if_neg (by decide), Int.toNat_natCast]
 show [UInt8.ofNat (224 + n / 4096), UInt8.ofNat (128 + n / 64 % 64), UInt8.ofNat (128 + n / 1 % 64)] = _
 rw [Nat.div_one]
theorem Bb5 {n : Nat} (h0 : 65536 <= n) (h : n < 1114112) : pt8 (n : Int) = [UInt8.ofNat (240 + n / 262144), UInt8.ofNat (128 + n / 4096 % 64), UInt8.ofNat (128 + n / 64 % 64), UInt8.ofNat (128 + n % 64)] := by
 have hs : sz8 (n : Int) = 4 := by rw [Me (.inr (by omega)), if_neg (by omega), if_neg (by omega), if_neg (by omega)]
 unfold pt8
 rw [if_neg (by omega), hs, if_neg (by decide), Int.toNat_natCast]
 show [UInt8.ofNat (240 + n / 262144), UInt8.ofNat (128 + n / 4096 % 64), UInt8.ofNat (128 + n / 64 % 64), UInt8.ofNat (128 + n / 1 % 64)] = _
 rw [Nat.div_one]
theorem Aa3 (c : UInt8) : cont c = true ↔ 128 <= c.toNat /\ c.toNat < 192 := by
 unfold cont; simp; omega
theorem Bn3 {b : UInt8} {r : Bs} (h : 0 <= (nx8 (b :: r)).1) : Scalar (nx8 (b :: r)).1 /\ pt8 (nx8 (b :: r)).1 = (b :: r).take (nx8 (b :: r)).2 /\ sz8 (nx8 (b :: r)).1 = (nx8 (b :: r)).2 := by
 have hb := b.toNat_lt
 have h2 := Jy b r
 simp only [nx8] at h ⊢
 by_cases hc : (rowOf (b :: r)).2 = 0 \/ (rowOf (b :: r)).1 < (rowOf (b :: r)).2
 ·rw [if_pos hc] at h
  have : (0 : Int) <= -1 - (b.toNat : Int) := h
  omega
 rw [if_neg hc] at h ⊢
 obtain ⟨hn0, hle⟩ : ¬ (rowOf (b :: r)).2 = 0 /\ ¬ (rowOf (b :: r)).1 < (rowOf (b :: r)).2 := ⟨λ h => hc (.inl h), λ h => hc (.inr h)⟩
 clear hc
 have two : ∀ {lo hi k : Nat}, Eo b.toNat = (k + 2, lo, hi) -> ∃ c r', r = c :: r' /\ lo <= c.toNat /\ c.toNat <= hi /\ k <= more k r' /\ (rowOf (b :: r)).2 = k + 2 := by
  intro lo hi k hk
  rw [h2, hk] at hle
  cases r with
  | nil =>
   have e : rowOf [b] = (1, k + 2) := by simp only [rowOf, hk]; rw [if_neg (by omega)]
   rw [e] at hle; simp at hle
  | cons c r' =>
   have e : rowOf (b :: c :: r') = if c.toNat < lo \/ hi < c.toNat then (1, k + 2) else (2 + more k r', k + 2) := by simp only [rowOf, hk]; rw [if_neg (by omega)]; rfl
   rw [e] at hle
   dsimp only at hle
   by_cases hcc : c.toNat < lo \/ hi < c.toNat
   ·rw [if_pos hcc] at hle; simp at hle
   ·rw [if_neg hcc] at hle
    simp only at hle
    exact ⟨c, r', rfl, by omega, by omega, by omega, by rw [h2, hk]⟩
 have more1 : ∀ {r : Bs}, 1 <= more 1 r -> ∃ d r', r = d :: r' /\ 128 <= d.toNat /\ d.toNat < 192 := by
  intro r hr
  cases r with
  | nil => simp [more] at hr
  | cons d r' =>
   by_cases hd : cont d = true
   ·exact ⟨d, r', rfl, (Aa3 d).1 hd⟩
   ·simp [more, hd] at hr
 have more2 : ∀ {r : Bs}, 2 <= more 2 r -> ∃ d e r', r = d :: e :: r' /\ 128 <= d.toNat /\ d.toNat < 192 /\ 128 <= e.toNat /\ e.toNat < 192 := by
  intro r hr
  cases r with
  | nil => simp [more] at hr
  | cons d r' =>
   by_cases hd : cont d = true
   ·have hr' : 1 <= more 1 r' := by
     have e2 : more 2 (d :: r') = more 1 r' + 1 := by show (if cont d then more 1 r' + 1 else 0) = _; rw [if_pos hd]
     omega
    obtain ⟨e, r'', rfl, h1⟩ := more1 hr'
    exact ⟨d, e, r'', rfl, ((Aa3 d).1 hd).1, ((Aa3 d).1 hd).2, h1⟩
   ·simp [more, hd] at hr
 have fin2 : ∀ {lo hi : Nat}, Eo b.toNat = (2, lo, hi) -> 194 <= b.toNat -> b.toNat < 224 -> 128 <= lo -> hi <= 191 ->
   Scalar ((rest (lead (rowOf (b :: r)).2 b.toNat) (r.take ((rowOf (b :: r)).2 - 1)) : Nat) : Int) /\ pt8 ((rest (lead (rowOf (b :: r)).2 b.toNat) (r.take ((rowOf (b :: r)).2 - 1)) : Nat) : Int) = (b :: r).take (rowOf (b :: r)).2 /\ sz8 ((rest (lead (rowOf (b :: r)).2 b.toNat) (r.take ((rowOf (b :: r)).2 - 1)) : Nat) : Int) = (rowOf (b :: r)).2 := by
  intro lo hi hk g1 g2 g3 g4
  obtain ⟨c, r', rfl, c1, c2, _, hn⟩ := two (k := 0) hk
  rw [hn]
  show Scalar (((b.toNat % 32 * 64 + c.toNat % 64 : Nat)) : Int) /\ pt8 (((b.toNat % 32 * 64 + c.toNat % 64 : Nat)) : Int) = [b, c] /\ sz8 (((b.toNat % 32 * 64 + c.toNat % 64 : Nat)) : Int) = 2
  have hS : Scalar (((b.toNat % 32 * 64 + c.toNat % 64 : Nat)) : Int) := .inl (by omega)
  refine ⟨hS, ?_, ?_⟩
  ·rw [Bb7 (by omega) (by omega), byte_of (b := b) (by omega), byte_of (b := c) (by omega)]
  ·rw [Me hS, if_neg (by omega), if_pos (by omega)]
 have fin3 : ∀ {lo hi : Nat}, Eo b.toNat = (3, lo, hi) -> 224 <= b.toNat -> b.toNat < 240 -> 128 <= lo -> hi <= 191 -> (b.toNat = 224 -> 160 <= lo) -> (b.toNat = 237 -> hi <= 159) ->
   Scalar ((rest (lead (rowOf (b :: r)).2 b.toNat) (r.take ((rowOf (b :: r)).2 - 1)) : Nat) : Int) /\ pt8 ((rest (lead (rowOf (b :: r)).2 b.toNat) (r.take ((rowOf (b :: r)).2 - 1)) : Nat) : Int) = (b :: r).take (rowOf (b :: r)).2 /\ sz8 ((rest (lead (rowOf (b :: r)).2 b.toNat) (r.take ((rowOf (b :: r)).2 - 1)) : Nat) : Int) = (rowOf (b :: r)).2 := by
  intro lo hi hk g1 g2 g3 g4 g5 g6
  obtain ⟨c, r', rfl, c1, c2, hm, hn⟩ := two (k := 1) hk
  obtain ⟨d, r'', rfl, d1, d2⟩ := more1 hm
  rw [hn]
  show Scalar ((((b.toNat % 16 * 64 + c.toNat % 64) * 64 + d.toNat % 64 : Nat)) : Int) /\ pt8 ((((b.toNat % 16 * 64 + c.toNat % 64) * 64 + d.toNat % 64 : Nat)) : Int) = [b, c, d] /\ sz8 ((((b.toNat % 16 * 64 + c.toNat % 64) * 64 + d.toNat % 64 : Nat)) : Int) = 3
  have hS : Scalar ((((b.toNat % 16 * 64 + c.toNat % 64) * 64 + d.toNat % 64 : Nat)) : Int) := by
   unfold Scalar
   by_cases h7 : b.toNat = 237
   ·have := g6 h7; omega
   ·omega
  have hlow : 2048 <= (b.toNat % 16 * 64 + c.toNat % 64) * 64 + d.toNat % 64 := by
   by_cases h4 : b.toNat = 224
   ·have := g5 h4; omega
   ·omega
  refine ⟨hS, ?_, ?_⟩
  ·rw [Bb6 hS hlow (by omega), byte_of (b := b) (by omega), byte_of (b := c) (by omega), byte_of (b := d) (by omega)]
  ·rw [Me hS, if_neg (by omega), if_neg (by omega), if_pos (by omega)]
 have fin4 : ∀ {lo hi : Nat}, Eo b.toNat = (4, lo, hi) -> 240 <= b.toNat -> b.toNat < 245 -> 128 <= lo -> hi <= 191 -> (b.toNat = 240 -> 144 <= lo) -> (b.toNat = 244 -> hi <= 143) ->
   Scalar ((rest (lead (rowOf (b :: r)).2 b.toNat) (r.take ((rowOf (b :: r)).2 - 1)) : Nat) : Int) /\ pt8 ((rest (lead (rowOf (b :: r)).2 b.toNat) (r.take ((rowOf (b :: r)).2 - 1)) : Nat) : Int) = (b :: r).take (rowOf (b :: r)).2 /\ sz8 ((rest (lead (rowOf (b :: r)).2 b.toNat) (r.take ((rowOf (b :: r)).2 - 1)) : Nat) : Int) = (rowOf (b :: r)).2 := by
  intro lo hi hk g1 g2 g3 g4 g5 g6
  obtain ⟨c, r', rfl, c1, c2, hm, hn⟩ := two (k := 2) hk
  obtain ⟨d, e, r'', rfl, d1, d2, e1, e2⟩ := more2 hm
  rw [hn]
  show Scalar (((((b.toNat % 8 * 64 + c.toNat % 64) * 64 + d.toNat % 64) * 64 + e.toNat % 64 : Nat)) : Int) /\ pt8 (((((b.toNat % 8 * 64 + c.toNat % 64) * 64 + d.toNat % 64) * 64 + e.toNat % 64 : Nat)) : Int) = [b, c, d, e] /\ sz8 (((((b.toNat % 8 * 64 + c.toNat % 64) * 64 + d.toNat % 64) * 64 + e.toNat % 64 : Nat)) : Int) = 4
  have hlow : 65536 <= ((b.toNat % 8 * 64 + c.toNat % 64) * 64 + d.toNat % 64) * 64 + e.toNat % 64 := by
   by_cases h4 : b.toNat = 240
   ·have := g5 h4; omega
   ·omega
  have hhigh : ((b.toNat % 8 * 64 + c.toNat % 64) * 64 + d.toNat % 64) * 64 + e.toNat % 64 < 1114112 := by
   by_cases h4 : b.toNat = 244
   ·have := g6 h4; omega
   ·omega
  have hS : Scalar (((((b.toNat % 8 * 64 + c.toNat % 64) * 64 + d.toNat % 64) * 64 + e.toNat % 64 : Nat)) : Int) := .inr (by omega)
  refine ⟨hS, ?_, ?_⟩
  ·rw [Bb5 hlow hhigh, byte_of (b := b) (by omega), byte_of (b := c) (by omega), byte_of (b := d) (by omega), byte_of (b := e) (by omega)]
  ·rw [Me hS, if_neg (by omega), if_neg (by omega), if_neg (by omega)]
 by_cases k1 : b.toNat < 128
 ·have hk : Eo b.toNat = (1, 0, 0) := by unfold Eo; rw [if_pos k1]
  have hn : (rowOf (b :: r)).2 = 1 := by rw [h2, hk]
  rw [hn]
  show Scalar ((b.toNat : Nat) : Int) /\ pt8 ((b.toNat : Nat) : Int) = [b] /\ sz8 ((b.toNat : Nat) : Int) = 1
  have hS : Scalar ((b.toNat : Nat) : Int) := .inl (by omega)
  exact ⟨hS, by rw [Bb8 k1, ofNat_toNat], by rw [Me hS, if_pos k1]⟩
 by_cases k2 : b.toNat < 194
 ·exact absurd (by rw [h2]; unfold Eo; rw [if_neg k1, if_pos k2]) hn0
 by_cases k3 : b.toNat < 224
 ·exact fin2 (lo := 128) (hi := 191) (by unfold Eo; rw [if_neg k1, if_neg k2, if_pos k3]) (by omega) k3 (by omega) (by omega)
 by_cases k4 : b.toNat = 224
 ·exact fin3 (lo := 160) (hi := 191) (by unfold Eo; rw [if_neg k1, if_neg k2, if_neg k3, if_pos k4]) (by omega) (by omega) (by omega) (by omega) (λ _ => by omega) (λ h => by omega)
 by_cases k5 : b.toNat = 237
 ·exact fin3 (lo := 128) (hi := 159) (by unfold Eo; rw [if_neg k1, if_neg k2, if_neg k3, if_neg k4, if_pos k5]) (by omega) (by omega) (by omega) (by omega) (λ h => by omega) (λ _ => by omega)
 by_cases k6 : b.toNat < 240
 ·exact fin3 (lo := 128) (hi := 191) (by unfold Eo; rw [if_neg k1, if_neg k2, if_neg k3, if_neg k4, if_neg k5, if_pos k6]) (by omega) (by omega) (by omega) (by omega) (λ h => by omega) (λ h => by omega)
 by_cases k7 : b.toNat = 240
 ·exact fin4 (lo := 144) (hi := 191) (by unfold Eo; rw [if_neg k1, if_neg k2, if_neg k3, if_neg k4, if_neg k5, if_neg k6, if_pos k7]) (by omega) (by omega) (by omega) (by omega) (λ _ => by omega) (λ h => by omega)
 by_cases k8 : b.toNat < 244
 ·exact fin4 (lo := 128) (hi := 191) (by unfold Eo; rw [if_neg k1, if_neg k2, if_neg k3, if_neg k4, if_neg k5, if_neg k6, if_neg k7, if_pos k8]) (by omega) (by omega) (by omega) (by omega) (λ h => by omega) (λ h => by omega)
 by_cases k9 : b.toNat = 244
 ·exact fin4 (lo := 128) (hi := 143) (by unfold Eo; rw [if_neg k1, if_neg k2, if_neg k3, if_neg k4, if_neg k5, if_neg k6, if_neg k7, if_neg k8, if_pos k9]) (by omega) (by omega) (by omega) (by omega) (λ h => by omega) (λ _ => by omega)
 ·exact absurd (by rw [h2]; unfold Eo; rw [if_neg k1, if_neg k2, if_neg k3, if_neg k4, if_neg k5, if_neg k6, if_neg k7, if_neg k8, if_neg k9]) hn0
def Oq (n : Nat) : Int := if n = 2 then 192 else if n = 3 then 224 else if n = 4 then 240 else 0
def Zn (a : Int) (l : Bs) : Int := l.foldl (λ a c => a * 64 + (c.toNat : Int) - 128) a
def Gl (n : Nat) : Bs -> Int
 | [] => 0
 | b :: r => Zn ((b.toNat : Int) - Oq n) (r.take (n - 1))
theorem Bo0 {a : Int} (h : Scalar a) (r : Bs) : Gl (sz8 a) (pt8 a ++ r) = a := by
 obtain ⟨n, rfl⟩ : ∃ n : Nat, a = (n : Int) := Int.eq_ofNat_of_zero_le (by rcases h with h | h <;> omega)
 have hs := Me h
 by_cases k1 : n < 128
 ·rw [if_pos k1] at hs
  rw [hs, Bb8 k1]
  show Zn (((UInt8.ofNat n).toNat : Int) - 0) [] = _
  rw [Bz (by omega)]; show ((n : Int) - 0) = n; omega
 by_cases k2 : n < 2048
 ·rw [if_neg k1, if_pos k2] at hs
  rw [hs, Bb7 (by omega) k2]
  show (((UInt8.ofNat (192 + n / 64)).toNat : Int) - 192) * 64 + ((UInt8.ofNat (128 + n % 64)).toNat : Int) - 128 = _
  rw [Bz (by omega), Bz (by omega)]; omega
 by_cases k3 : n < 65536
 ·rw [if_neg k1, if_neg k2, if_pos k3] at hs
  rw [hs, Bb6 h (by omega) k3]
  show ((((UInt8.ofNat (224 + n / 4096)).toNat : Int) - 224) * 64 + ((UInt8.ofNat (128 + n / 64 % 64)).toNat : Int) - 128) * 64 + ((UInt8.ofNat (128 + n % 64)).toNat : Int) - 128 = _
  rw [Bz (by omega), Bz (by omega), Bz (by omega)]; omega
 ·rw [if_neg k1, if_neg k2, if_neg k3] at hs
  have h' : n < 1114112 := by rcases h with h | h <;> omega
  rw [hs, Bb5 (by omega) h']
  show (((((UInt8.ofNat (240 + n / 262144)).toNat : Int) - 240) * 64 + ((UInt8.ofNat (128 + n / 4096 % 64)).toNat : Int) - 128) * 64 + ((UInt8.ofNat (128 + n / 64 % 64)).toNat : Int) - 128) * 64 + ((UInt8.ofNat (128 + n % 64)).toNat : Int) - 128 = _
  rw [Bz (by omega), Bz (by omega), Bz (by omega), Bz (by omega)]; omega
def Hit (r : Bs) (n : Nat) : Prop := Scalar (Gl n r) /\ r.take (pt8 (Gl n r)).length = pt8 (Gl n r) /\ (pt8 (Gl n r)).length = n
theorem Ca7 {r : Bs} {n : Nat} (h : Hit r n) : nx8 r = (Gl n r, n) := by
 obtain ⟨h1, h2, h3⟩ := h
 have e : r = pt8 (Gl n r) ++ r.drop (pt8 (Gl n r)).length := by
  conv => lhs; rw [← List.take_append_drop (pt8 (Gl n r)).length r, h2]
 have := Bn2 h1 (r.drop (pt8 (Gl n r)).length)
 rw [← e] at this
 have hl : (pt8 (Gl n r)).length = sz8 (Gl n r) := X9 .u8 _ (λ h0 => by
  have h4 : sz8 (Gl n r) ≠ 0 := by
   unfold sz8
   rw [if_neg (by rcases h1 with h | h <;> omega)]
   repeat' split
   all_goals decide
  exact h4 h0)
 rw [this, ← hl, h3]
theorem Bz8 {b : UInt8} {r : Bs} (h : 0 <= (nx8 (b :: r)).1) : Hit (b :: r) (nx8 (b :: r)).2 /\ Gl (nx8 (b :: r)).2 (b :: r) = (nx8 (b :: r)).1 := by
 obtain ⟨h1, h2, h3⟩ := Bn3 h
 have hsz := Y3 b r
 have hl : (pt8 (nx8 (b :: r)).1).length = (nx8 (b :: r)).2 := by rw [h2, List.length_take]; omega
 have hm : Gl (nx8 (b :: r)).2 (b :: r) = (nx8 (b :: r)).1 := by
  have := Bo0 h1 ((b :: r).drop (nx8 (b :: r)).2)
  rw [h2, List.take_append_drop, h3] at this
  exact this
 refine ⟨⟨?_, ?_, ?_⟩, hm⟩
 ·rw [hm]; exact h1
 ·rw [hm, hl]; exact h2.symm
 ·rw [hm, hl]
theorem Bz7 {b : UInt8} {r : Bs} (h : ¬ 0 <= (nx8 (b :: r)).1) : nx8 (b :: r) = (-1 - (b.toNat : Int), 1) := by
 simp only [nx8] at h ⊢
 split at h
 ·rename_i hc; rw [if_pos hc]
 ·exact absurd (Int.natCast_nonneg _) h
end Cdc
end Go.Proofs.YtabcpghhfeplaaaGreat
namespace Go.Proofs.YtabcpghhfeplaaaGreat
open Go Go.Vx Cdc Trx
section
variable {w w' : World} {S : Nat -> Prop} {p : Nat} {e : Enc} {lim na : Nat} {O : Nat -> Prop} {M : Parts}
theorem Pn : He Tryz.prog 108 112 7 64 := He.of (z := .agg #[.slice none 0 0, .int .i64 0, .int .i64 0, .int .i64 0, .int .i64 0, .bool false, .bool false]) Cf8 Cf7 rfl rfl rfl (by decide)
def bOf (M : Parts) : Bs := M.flatMap λ x => x.2
theorem Bw1 (M N : Parts) : bOf (M ++ N) = bOf M ++ bOf N := by simp [bOf]
theorem Ab3 (x : Pc) : ∀ v ∈ flat Ag [pcT x], Dx v = true := by
 intro v hv
 rw [Qj] at hv
 have : v ∈ (Cells.vals Ag (pcT x)) := hv
 revert this
 show v ∈ [_, _, _, _, _, _, _] -> _
 intro h
 simp only [List.mem_cons, List.not_mem_nil, or_false] at h
 rcases h with rfl | rfl | rfl | rfl | rfl | rfl | rfl <;> rfl
set_option maxHeartbeats 1000000 in
theorem Bg6 {s : Sl} {l : Bs} (hB : By w s l) (hl : l.length <= lim) (hlim : lim <= 65536) {K : Option Addr × Int × Unit -> Wp}
  (hK : ∀ p O M w', Txt w' p e lim 0 O M -> aOf e M = ats e l -> bOf M = l -> Ext w w' -> (∀ k, O k -> w.heap.size <= k) -> K (some (at0 p), 0, ()) w') :
  Ac Tryz.prog 35 #[.int .i64 e.num, s.v, .int .i64 (lim : Int)] (.tup [(.one .ptr), (.one (.int .i64))]) K w := by
 refine A35 ?_
 unfold F35
 have hlen := hB.len
 have hen : 1 <= e.num /\ e.num <= 4 := by cases e <;> decide
 refine Ae (λ x w' => x = (false, ()) /\ w = w') (Aa (λ h => ?_) (λ h => ⟨by rw [decide_eq_false (by omega)], rfl⟩)) ?_
 ·simp only [decide_eq_true_eq] at h; omega
 rintro _ _ ⟨rfl, rfl⟩
 refine Au (Ae (λ x w' => x = (false, ()) /\ w = w') (Aa (λ h => ?_) (λ h => ⟨by rw [decide_eq_false (by omega)], rfl⟩)) ?_)
 ·simp only [decide_eq_true_eq] at h; omega
 rintro _ _ ⟨rfl, rfl⟩
 refine Au (Aa (λ h => ?_) (λ _ => ?_))
 ·simp only [decide_eq_true_eq, gt_iff_lt] at h; omega
 refine Ao4 EBy.ts_ C5 (z := .int .u8 0) rfl rfl (by omega) (by show ((s.len : Nat) : Int) * 1 <= 2 ^ 48; omega) (by omega) λ b w1 c n1 hc1 _ e1 hb1 => ?_
 rw [Int.toNat_natCast] at hc1 ⊢
 have hc1' : c.size = s.len := by rw [hc1]; show s.len * 1 = _; omega
 refine Cb2 (off := 0) EBy.ts_ C5.Fq n1 (by rw [List.length_map]; omega) (hB.ext e1).x (Nat.le_refl _) (Bq9 l) λ w2 n2 u2 _ => ?_
 rw [Xm (bv l) c (by rw [List.length_map]; omega)] at n2
 have e2 : Ext w w2 := e1.step u2 λ k hk => by omega
 have hL : By w2 ⟨some (at0 b), s.len, s.len⟩ l := by
  have := Aq.Hr n2 (n := s.len) (sz := 1) (by simp; omega)
  simpa using this
 refine (St.start w2).Af λ b7 w3 S3 e3 => ?_
 have hb7 := S3.ge 0 rfl
 let Zt : Option Addr -> Obj := λ q => .cells #[.int .i64 e.num, .int .i64 (lim : Int), .pointer q, .slice none 0 0] 107 (0, 0)
 let Lp : Nat -> Sl -> World -> Prop := λ j r W => ∃ (its : List Pc) (M : Parts), St (λ _ => False) w2 W [(b7, Zt none)] /\ Ah W w3.heap.size r 112 7 (flat Ag (its.map pcT)) /\ Its W e its M /\ aOf e M = (ats e l).take j /\ bOf M = l.take (szs ((ats e l).take j)) /\
  (∀ x ∈ its, ∀ k, x.bytes.blk k -> k = b) /\ By W ⟨some (at0 b), s.len, s.len⟩ l /\ its.length <= j /\ w3.heap.size <= W.heap.size
 have hne : ∀ {r : Sl} {its : List Pc} {W : World}, Ah W w3.heap.size r 112 7 (flat Ag (its.map pcT)) -> its.length = r.len := λ ho => by
  have := Ah.Jq (cs := Ag) ho (by decide)
  rwa [List.length_map] at this
 refine Ae (λ x W => ∃ j, Lp j x.1 W /\ (ats e l).take j = ats e l) ?_ ?_
 ·refine Am (λ x W => ∃ j, j <= (ats e l).length /\ x.2 = (((szs ((ats e l).take j) : Nat) : Int), ()) /\ Lp j x.1 W) (λ x _ => ((l.length : Int) - x.2.1).toNat) ⟨0, Nat.zero_le _, rfl, [], [], S3, Ah.nil _ _ _ _, trivial, rfl, rfl, (λ _ h => by cases h), hL.ext e3, Nat.le_refl _, Nat.le_refl _⟩ ?_
  rintro ⟨r, _⟩ W4 ⟨j, hj, rfl, its, M, S4, ho, hi, ha, hb, hk, hL4, hil, hW4⟩
  have hsj : szs ((ats e l).take j) <= l.length := Wv j
  dsimp only at ho ⊢
  refine Aa (λ hc => ?_) (λ hc => ?_)
  ·simp only [decide_eq_true_eq] at hc
   have hc' : szs ((ats e l).take j) < l.length := by omega
   refine Ae (λ x W => ∃ q, 1 <= q /\ j + q <= (ats e l).length /\ x = (((szs ((ats e l).take (j + q)) : Nat) : Int), ()) /\ Ext W4 W) ?_ ?_
   ·refine Am (λ x W => ∃ q, j + q <= (ats e l).length /\ q <= 128 /\ x = (((szs ((ats e l).take (j + q)) : Nat) : Int), (q : Int), ()) /\ Ext W4 W) (λ x _ => ((l.length : Int) - x.1).toNat) ⟨0, by omega, by omega, rfl, Ext.refl W4⟩ ?_
    rintro _ W5 ⟨q, hq, hq2, rfl, x5⟩
    have hsq : szs ((ats e l).take (j + q)) <= l.length := Wv _
    refine Ae (λ x W => x = (decide (szs ((ats e l).take (j + q)) < l.length /\ q < 128), ()) /\ W5 = W) ?_ ?_
    ·refine Aa (λ h => ⟨Aj ?_, rfl⟩) (λ h => ⟨Aj ?_, rfl⟩)
     ·simp only [decide_eq_true_eq] at h ⊢; omega
     ·simp only [decide_eq_false_iff_not, decide_eq_true_eq] at h ⊢
      exact ⟨(λ h => by cases h), λ h => by omega⟩
    rintro _ W6 ⟨rfl, rfl⟩
    refine Aa (λ h => ?_) (λ h => ?_)
    ·simp only [decide_eq_true_eq] at h
     obtain ⟨a, m, hqa, hnx, htk, hss, hm1, hsl⟩ := Qb (e := e) (l := l) (j := j + q) h.1
     have hql : j + q < (ats e l).length := (List.getElem?_eq_some_iff.1 hqa).1
     refine Qg (hL4.ext x5) h.1 λ W7 x7 => ?_
     rw [hnx]
     have ewa : W64 (((szs ((ats e l).take (j + q)) : Nat) : Int) + (m : Int)) = ((szs ((ats e l).take (j + q + 1)) : Nat) : Int) := by rw [wrap64 (by omega) (by omega)]; omega
     have ewb : W64 ((q : Int) + 1) = ((q + 1 : Nat) : Int) := by rw [wrap64 (by omega) (by omega)]; omega
     refine ⟨⟨q + 1, by omega, by omega, by dsimp only; rw [ewa, ewb]; rfl, x5.trans x7⟩, ?_⟩
     dsimp only
     rw [ewa]; omega
    ·refine ⟨q, ?_, hq, rfl, x5⟩
     rcases Nat.eq_zero_or_pos q with h0 | h0
     ·subst h0
      have h' : ¬ (szs ((ats e l).take (j + 0)) < l.length /\ 0 < 128) := λ hh => by rw [decide_eq_true hh] at h; cases h
      exact absurd ⟨hc', by decide⟩ h'
     ·exact h0
   ·rintro _ W5 ⟨q, hq1, hjq, rfl, x5⟩
    have S5 := S4.ext x5
    have hsq : szs ((ats e l).take (j + q)) <= l.length := Wv _
    have hadd : szs ((ats e l).take (j + q)) = szs ((ats e l).take j) + szs (((ats e l).drop j).take q) := by rw [List.take_add, Ba]
    have hpq := ((Es e l).drop j).take q
    have hqpos : 1 <= szs (((ats e l).drop j).take q) := by
     have := Wn hpq
     rw [List.length_take, List.length_drop] at this; omega
    obtain ⟨pb, hpb⟩ : ∃ pb : Bs, pb = (l.drop (szs ((ats e l).take j))).take (szs (((ats e l).drop j).take q)) := ⟨_, rfl⟩
    have hpa : ats e pb = ((ats e l).drop j).take q := by
     have h1 := (Rj e j l).2
     have h2 := (Rj e q (l.drop (szs ((ats e l).take j)))).1
     rw [h1] at h2
     rw [hpb]; exact h2
    have hpl : pb.length = szs (((ats e l).drop j).take q) := by rw [← hpa, Gg]
    have hL5 := hL4.ext x5
    have hcut := By.cut hL5 (l := ((szs ((ats e l).take j) : Nat) : Int)) (h := ((szs ((ats e l).take (j + q)) : Nat) : Int)) (m := ((szs ((ats e l).take (j + q)) : Nat) : Int)) (by omega) (by omega) (by show _ <= ((s.len : Nat) : Int); omega) (by omega) (by show _ <= ((s.len : Nat) : Int); omega)
    have hcb : (l.drop ((szs ((ats e l).take j) : Nat) : Int).toNat).take (((szs ((ats e l).take (j + q)) : Nat) : Int).toNat - ((szs ((ats e l).take j) : Nat) : Int).toNat) = pb := by
     rw [hpb, Int.toNat_natCast, Int.toNat_natCast, hadd, Nat.add_sub_cancel_left]
    rw [hcb] at hcut
    refine Ci (by omega) (Nh hcut (by omega) λ W6 x6 => ?_)
    have S6 := S5.ext x6
    refine S6.Af λ b21 W7 S7 x7 => ?_
    have x47 := (x5.trans x6).trans x7
    have hrl := hne ho
    have hi7 : Its W7 e its M := hi.ext x47
    have hx : O5 W7 e (Xa e (Sl.cut (some (at0 b)) ((szs ((ats e l).take j) : Nat) : Int) ((szs ((ats e l).take (j + q)) : Nat) : Int) ((szs ((ats e l).take (j + q)) : Nat) : Int) 1) ((szs ((ats e l).take j) : Nat) : Int) pb) (((szs ((ats e l).take j) : Nat) : Int), pb) :=
     ⟨hcut.ext (x6.trans x7), rfl, rfl, λ h0 => by have h0' : pb = [] := h0; rw [h0'] at hpl; simp at hpl; omega, by show -1 <= ((szs ((ats e l).take j) : Nat) : Int); omega, by show ((szs ((ats e l).take j) : Nat) : Int) + (pb.length : Int) <= 2 ^ 40; omega⟩
    generalize hpc : Xa e (Sl.cut (some (at0 b)) ((szs ((ats e l).take j) : Nat) : Int) ((szs ((ats e l).take (j + q)) : Nat) : Int) ((szs ((ats e l).take (j + q)) : Nat) : Int) 1) ((szs ((ats e l).take j) : Nat) : Int) pb = xp at *
    have hxb : ∀ k, xp.bytes.blk k -> k = b := by
     rw [← hpc]
     rintro k hk
     obtain ⟨pp, hp1, hp2⟩ := Vb (s := ⟨some (at0 b), s.len, s.len⟩) hk
     cases hp1; exact hp2.symm
    have hbox : SlX W7 ⟨some (at0 b21), 1, 1⟩ 7 (flat Ag [pcT xp]) := by
     have := Aq.Hr (S7.at_ 0 rfl) (n := 1) (sz := 7) rfl
     exact this.x
    refine Du Pn Pn.ts_ (x := ⟨some (at0 b21), 1, 1⟩) (ho.ext x47) hbox (Ab3 xp) (by
     show (r.len + 1 + (r.len + 1) / 4 + 512) * 64 <= 2 ^ 48
     have := Wn (Es e l)
     rw [Gg] at this
     omega) (by have := x47.size; omega) λ r' W8 o8 l8 u8 k8 => ?_
    have hty : ∀ {t' : TypeId}, 112 ≠ t' -> Eh W7 r.blk t' := λ ht => Eh.blk (ho.ext x47).in ht
    have st8 : St (λ _ => False) w2 W8 [(b7, Zt none)] := by
     refine S7.tail.fresh u8 (λ k hk => .inr ?_) (λ x hx hk => ?_)
     ·have := ho.Di hk; have := e3.size; omega
     ·rw [List.mem_singleton.1 hx] at hk
      exact hty (by decide) _ hk _ _ (S7.at_ 1 rfl)
    have e8 : flat Ag (its.map pcT) ++ flat Ag [pcT xp] = flat Ag ((its ++ [xp]).map pcT) := by rw [List.map_append, Gq]; rfl
    rw [e8] at o8
    have hi8 : Its W8 e (its ++ [xp]) (M ++ [(((szs ((ats e l).take j) : Nat) : Int), pb)]) := by
     have h9 : Its W7 e (its ++ [xp]) (M ++ [(((szs ((ats e l).take j) : Nat) : Int), pb)]) := hi7.app ⟨hx, trivial⟩
     refine h9.upd u8 λ x hx k hk hS => ?_
     obtain ⟨y, hy⟩ : ∃ y, O5 W7 e x y := by
      obtain ⟨n, hn⟩ := List.getElem?_of_mem hx
      obtain ⟨y, _, hy⟩ := h9.get n hn
      exact ⟨y, hy⟩
     obtain ⟨c2, fr2, hc2⟩ := hy.by_.Ec hk
     exact hty (t' := 5) (by decide) k hS _ _ hc2
    refine ⟨⟨j + q, hjq, rfl, its ++ [xp], M ++ [_], st8, o8, hi8, ?_, ?_, ?_, ?_, ?_, ?_⟩, ?_⟩
    ·rw [Fe, ha, List.take_add]
     show _ ++ aOf e [_] = _
     simp only [aOf, List.flatMap_cons, List.flatMap_nil, List.append_nil]
     rw [hpa]
    ·rw [Bw1, hb, hadd, List.take_add]
     show _ ++ bOf [_] = _
     simp only [bOf, List.flatMap_cons, List.flatMap_nil, List.append_nil]
     rw [hpb]
    ·intro x hx k hkk
     rcases List.mem_append.1 hx with hx | hx
     ·exact hk x hx k hkk
     ·rw [List.mem_singleton.1 hx] at hkk; exact hxb k hkk
    ·exact Aq.ty (hL5.ext (x6.trans x7)) u8 (hty (by decide))
    ·rw [List.length_append]; simp; omega
    ·have := u8.size; have := x47.size; omega
    ·dsimp only
     omega
  ·simp only [decide_eq_false_iff_not] at hc
   have := Uw (e := e) (l := l) (j := j) (by omega)
   exact ⟨j, ⟨its, M, S4, ho, hi, ha, hb, hk, hL4, hil, hW4⟩, this⟩
 ·rintro ⟨r, _⟩ W4 ⟨j, ⟨its, M, S4, ho, hi, ha, hb, hk, hL4, hil, hW4⟩, hj⟩
  rw [hj] at ha hb
  have hM : szs (aOf e M) = l.length := by rw [ha, Gg]
  have hfine := hi.fine (by omega)
  refine Al9 (l := its) ho.in hfine λ t W5 ht hti x5 => Dv ?_
  have S5 := S4.ext x5
  rw [addr_add]
  refine Yt (S5.at_ 0 rfl) rfl rfl (by show 0 + 2 + 1 <= 4; decide) λ W6 u56 n6' z6 => ?_
  have n6 : W6.heap[b7]? = some (Zt t.ptr) := n6'
  have hb0 : w.heap.size <= b := by omega
  have hb0' : w.heap.size <= b7 := by have := e2.size; omega
  have e06 : Ext w W6 := (e2.trans S5.upd).step u56 λ k hk => by omega
  refine hK b7 (λ k => k = b \/ k = b7) M W6 ⟨⟨t, ⟨none, 0, 0⟩, [], n6, ?_, ?_, Ah.nil _ _ _ _, ?_, ?_, ?_, Nat.le_refl _⟩, hlim, by omega, .inr rfl, ?_⟩ ha (by rw [hb, Gg]; exact List.take_length) e06 (by rintro k (rfl | rfl) <;> assumption)
  ·exact ht.ty u56 (Eh.box (S5.at_ 0 rfl) (by decide))
  ·rw [hti]
   refine (hi.ext x5).upd u56 λ x hx k hkk he => ?_
   have := hk x hx k hkk
   have hbl := lt_of_heap n2
   omega
  ·rintro x hx k hkk ⟨q, hq, _⟩; cases hq
  ·intro x hx k hkk
   rw [hti] at hx
   exact .inl (hk x hx k hkk)
  ·rintro k ⟨q, hq, _⟩; cases hq
  ·have hbl := lt_of_heap n2
   have h7 := lt_of_heap n6
   have := S5.upd.size
   rintro k (rfl | rfl) <;> omega
end
section
variable {w w' : World}
theorem Ak7 {b : Nat} {c : Array Value} {l : Bs} (h : w.heap[b]? = some (.cells c 5 (0, 0))) (hc : c.toList = bv l) : By w ⟨some (at0 b), l.length, l.length⟩ l := by
 have hs : c.size = l.length * 1 := by rw [← Array.length_toList, hc, List.length_map]; omega
 have := Aq.Hr h (n := l.length) (sz := 1) hs
 rw [hc] at this
 exact this
theorem Iq {n : Int} {m : Nat} (hm : m < 256) (h : n = (m : Int)) : Value.int .u8 (IntKind.wrap .u8 n) = Value.int .u8 ((UInt8.ofNat m).toNat : Int) := by
 rw [h, Bz hm, Vj (by omega) (by omega)]
theorem Ay7 {a : Int} (ha : Scalar a) {K : Sl -> Wp} (hK : ∀ s w', By w' s (pt8 a) -> Ext w w' -> K s w') : Ac Tryz.prog 118 #[.int .i64 a] rS K w := by
 refine Cy7 ?_
 unfold F118
 obtain ⟨n, rfl⟩ : ∃ n : Nat, a = (n : Int) := Int.eq_ofNat_of_zero_le (by rcases ha with h | h <;> omega)
 have td : ∀ m : Nat, Int.tdiv (n : Int) ((m : Nat) : Int) = ((n / m : Nat) : Int) := λ m => by rw [Int.tdiv_eq_ediv_of_nonneg (by omega)]; rfl
 have tm : ∀ k m : Nat, Int.tmod (k : Int) ((m : Nat) : Int) = ((k % m : Nat) : Int) := λ k m => by rw [Int.tmod_eq_emod_of_nonneg (by omega)]; rfl
 have d64 := td 64; have d4096 := td 4096; have d262144 := td 262144
 have hn : n < 1114112 := by rcases ha with h | h <;> omega
 refine Aa (λ h => ?_) (λ h => Aa (λ h2 => ?_) (λ h2 => Aa (λ h3 => ?_) (λ h3 => ?_)))
 ·simp only [decide_eq_true_eq] at h
  refine Bo λ b w1 e1 n1 _ _ => hK _ w1 ?_ e1
  have := Ak7 (l := pt8 (n : Int)) n1 (by rw [Bb8 (by omega)]; show [_] = [_]; rw [Iq (m := n) (by omega) rfl])
  rw [Bb8 (by omega)] at this ⊢
  exact this
 ·simp only [decide_eq_true_eq, decide_eq_false_iff_not] at h h2
  refine Ci (by decide) (Ci (by decide) (Bo λ b w1 e1 n1 _ _ => hK _ w1 ?_ e1))
  have := Ak7 (l := pt8 (n : Int)) n1 (by
   rw [Bb7 (by omega) (by omega)]
   show [_, _] = [_, _]
   have e1 := td 64; have e2 := tm n 64
   simp only [Int.cast_ofNat_Int] at e1 e2
   rw [e1, e2, wrap64 (a := ((n / 64 : Nat) : Int)) (by omega) (by omega), wrap64 (by omega) (by omega), wrap64 (by omega) (by omega), Iq (m := 192 + n / 64) (by omega) (by omega), Iq (m := 128 + n % 64) (by omega) (by omega)])
  rw [Bb7 (by omega) (by omega)] at this ⊢
  exact this
 ·simp only [decide_eq_true_eq, decide_eq_false_iff_not] at h h2 h3
  refine Ci (by decide) (Ci (by decide) (Ci (by decide) (Ci (by decide) (Bo λ b w1 e1 n1 _ _ => hK _ w1 ?_ e1))))
  have := Ak7 (l := pt8 (n : Int)) n1 (by
   rw [Bb6 ha (by omega) (by omega)]
   show [_, _, _] = [_, _, _]
   have e1 := td 64; have e2 := tm n 64; have e3 := td 4096; have e4 := tm (n / 64) 64
   simp only [Int.cast_ofNat_Int] at e1 e2 e3 e4
   rw [e1, e2, e3, wrap64 (a := ((n / 64 : Nat) : Int)) (by omega) (by omega), wrap64 (a := ((n / 4096 : Nat) : Int)) (by omega) (by omega), e4, wrap64 (by omega) (by omega), wrap64 (by omega) (by omega), wrap64 (by omega) (by omega), Iq (m := 224 + n / 4096) (by omega) (by omega), Iq (m := 128 + n / 64 % 64) (by omega) (by omega), Iq (m := 128 + n % 64) (by omega) (by omega)])
  rw [Bb6 ha (by omega) (by omega)] at this ⊢
  exact this
 ·simp only [decide_eq_false_iff_not] at h h2 h3
  refine Ci (by decide) (Ci (by decide) (Ci (by decide) (Ci (by decide) (Ci (by decide) (Ci (by decide) (Bo λ b w1 e1 n1 _ _ => hK _ w1 ?_ e1))))))
  have := Ak7 (l := pt8 (n : Int)) n1 (by
   rw [Bb5 (by omega) (by omega)]
   show [_, _, _, _] = [_, _, _, _]
   have e1 := td 64; have e2 := tm n 64; have e3 := td 4096; have e4 := tm (n / 64) 64; have e5 := td 262144; have e6 := tm (n / 4096) 64
   simp only [Int.cast_ofNat_Int] at e1 e2 e3 e4 e5 e6
   rw [e1, e2, e3, e5, wrap64 (a := ((n / 64 : Nat) : Int)) (by omega) (by omega), wrap64 (a := ((n / 4096 : Nat) : Int)) (by omega) (by omega), wrap64 (a := ((n / 262144 : Nat) : Int)) (by omega) (by omega), e4, e6, wrap64 (by omega) (by omega), wrap64 (by omega) (by omega), wrap64 (by omega) (by omega), wrap64 (by omega) (by omega),
    Iq (m := 240 + n / 262144) (by omega) (by omega), Iq (m := 128 + n / 4096 % 64) (by omega) (by omega), Iq (m := 128 + n / 64 % 64) (by omega) (by omega), Iq (m := 128 + n % 64) (by omega) (by omega)])
  rw [Bb5 (by omega) (by omega)] at this ⊢
  exact this
theorem Ar9 {s t : Sl} {l m : Bs} {n : Nat} (hs : By w s l) (ht : By w t m) (hn : n <= l.length) (hl : l.length < 2 ^ 60) (hm : m.length < 2 ^ 60) {K : Bool -> Wp} (hK : ∀ w', Ext w w' -> K (decide ((l.drop n).take m.length = m)) w') :
  Ac Tryz.prog 119 #[s.v, .int .i64 (n : Int), t.v] rB K w := by
 refine Cy6 ?_
 unfold F119
 have h1 := hs.len; have h2 := ht.len
 rw [wrap64 (by omega) (by omega)]
 refine Aa (λ h => ?_) (λ h => ?_)
 ·simp only [decide_eq_true_eq, gt_iff_lt] at h
  have := hK w (Ext.refl w)
  rw [decide_eq_false] at this
  ·exact this
  ·intro hc
   have := congrArg List.length hc
   rw [List.length_take, List.length_drop] at this; omega
 simp only [decide_eq_false_iff_not, gt_iff_lt] at h
 refine Ae (λ _ w' => Ext w w' /\ (l.drop n).take m.length = m) ?_ ?_
 ·refine Am (λ x w' => ∃ i : Nat, i <= m.length /\ x = ((i : Int), ()) /\ Ext w w' /\ (l.drop n).take i = m.take i) (λ x _ => ((m.length : Int) - x.1).toNat) ⟨0, Nat.zero_le _, rfl, Ext.refl w, by simp⟩ ?_
  rintro _ w1 ⟨i, hi, rfl, e1, heq⟩
  refine Aa (λ hc => ?_) (λ hc => ?_)
  ·simp only [decide_eq_true_eq] at hc
   have him : i < m.length := by omega
   have hil : n + i < l.length := by omega
   have ew : W64 ((n : Int) + (i : Int)) = ((n + i : Nat) : Int) := by rw [wrap64 (by omega) (by omega)]; omega
   rw [ew]
   refine Fg λ w2 e2 _ => Hg (hs.ext (e1.trans e2)) (by omega) (b := l[n + i]) (by rw [Int.toNat_natCast]; simp [hil]) λ p => Hg (ht.ext (e1.trans e2)) (by omega) (b := m[i]) (by rw [Int.toNat_natCast]; simp [him]) λ q => ?_
   have g1 : (l.drop n)[i]? = some l[n + i] := by rw [List.getElem?_drop]; simp [hil]
   refine Aa (λ hne => ?_) (λ hne => ?_)
   ·simp only [bne_iff_ne] at hne
    have := hK w2 (e1.trans e2)
    rw [decide_eq_false] at this
    ·exact this
    ·intro hc2
     have h5 : ((l.drop n).take m.length)[i]? = m[i]? := by rw [hc2]
     rw [List.getElem?_take, if_pos him, g1, List.getElem?_eq_getElem him] at h5
     exact hne (by rw [Option.some.inj h5])
   ·have hne' : ((l[n + i].toNat : Int) != (m[i].toNat : Int)) = false := hne
    simp only [bne_eq_false_iff_eq] at hne'
    have hbe : l[n + i] = m[i] := UInt8.toNat_inj.1 (by omega)
    have ew2 : W64 ((i : Int) + 1) = ((i + 1 : Nat) : Int) := by rw [wrap64 (by omega) (by omega)]; omega
    refine ⟨⟨i + 1, by omega, by rw [ew2], e1.trans e2, ?_⟩, ?_⟩
    ·rw [List.take_add_one, List.take_add_one, heq, g1, List.getElem?_eq_getElem him, hbe]
    ·dsimp only
     rw [ew2]; omega
  ·simp only [decide_eq_false_iff_not] at hc
   have : i = m.length := by omega
   subst this
   exact ⟨e1, by rw [heq, List.take_length]⟩
 ·rintro _ w1 ⟨e1, heq⟩
  have := hK w1 e1
  rwa [decide_eq_true heq] at this
theorem Ay1 : ∀ (l : Bs) (a : Int), l.length <= 3 -> -1000 <= a -> a <= 1000 -> -1000000000 <= Zn a l /\ Zn a l <= 1000000000 := by
 intro l a hl h0 h1
 match l, hl with
 | [], _ => exact ⟨by show -1000000000 <= a; omega, by show a <= 1000000000; omega⟩
 | [x], _ => have := x.toNat_lt; exact ⟨by show _ <= a * 64 + (x.toNat : Int) - 128; omega, by show a * 64 + (x.toNat : Int) - 128 <= _; omega⟩
 | [x, y], _ => have := x.toNat_lt; have := y.toNat_lt; exact ⟨by show _ <= (a * 64 + (x.toNat : Int) - 128) * 64 + (y.toNat : Int) - 128; omega, by show (a * 64 + (x.toNat : Int) - 128) * 64 + (y.toNat : Int) - 128 <= _; omega⟩
 | [x, y, z], _ => have := x.toNat_lt; have := y.toNat_lt; have := z.toNat_lt; exact ⟨by show _ <= ((a * 64 + (x.toNat : Int) - 128) * 64 + (y.toNat : Int) - 128) * 64 + (z.toNat : Int) - 128; omega, by show ((a * 64 + (x.toNat : Int) - 128) * 64 + (y.toNat : Int) - 128) * 64 + (z.toNat : Int) - 128 <= _; omega⟩
theorem Bh8 (a : Int) (l : Bs) (x : UInt8) : Zn a (l ++ [x]) = Zn a l * 64 + (x.toNat : Int) - 128 := by simp [Zn]
theorem Ax0 {s : Sl} {b : UInt8} {l r : Bs} {n m : Nat} (hs : By w s l) (hl : l.length < 2 ^ 60) (hr : l.drop n = b :: r) (hm0 : 1 <= m) (hm4 : m <= 4) (hm : n + m <= l.length) {K : Int -> Wp} (hK : ∀ w', Ext w w' -> K (Gl m (b :: r)) w') :
  Ac Tryz.prog 116 #[s.v, .int .i64 (n : Int), .int .i64 (m : Int)] rI K w := by
 refine Cy9 ?_
 unfold F116
 have h1 := hs.len
 have hb := b.toNat_lt
 have hnl : n < l.length := by omega
 have hrl : r.length = l.length - n - 1 := by
  have := congrArg List.length hr
  rw [List.length_drop, List.length_cons] at this; omega
 have g0 : l[n]? = some b := by
  have := congrArg (λ x => x[0]?) hr
  simp only [List.getElem?_drop, List.getElem?_cons_zero, Nat.add_zero] at this
  exact this
 have gi : ∀ i, l[n + (i + 1)]? = r[i]? := λ i => by
  have := congrArg (λ x => x[i + 1]?) hr
  simp only [List.getElem?_drop, List.getElem?_cons_succ] at this
  exact this
 refine (St.start w).Wy rfl rfl rfl λ b1 w1 S1 e1 => S1.drew λ w2 S2 e2 _ => Hg (hs.ext S2.upd) (by omega) (b := b) (by rw [Int.toNat_natCast]; exact g0) λ p => Ci (by omega) ?_
 rw [addr_add, Ei, Int.toNat_natCast]
 have hlead : (#[(.int .i64 (0 : Int)), (.int .i64 (0 : Int)), (.int .i64 (192 : Int)), (.int .i64 (224 : Int)), (.int .i64 (240 : Int))] : Array Value)[0 + m * 1]? = some (.int .i64 (Oq m)) := by
  match m, hm0, hm4 with
  | 1, _, _ => rfl
  | 2, _, _ => rfl
  | 3, _, _ => rfl
  | 4, _, _ => rfl
 have hlb : 0 <= Oq m /\ Oq m <= 240 := by unfold Oq; (repeat' split) <;> omega
 refine Dt (S2.at_ 0 rfl) (x := Oq m) hlead ?_
 rw [wrap64 (a := (b.toNat : Int)) (by omega) (by omega), wrap64 (a := (b.toNat : Int) - Oq m) (by omega) (by omega)]
 refine Ae (λ x w' => x = (Gl m (b :: r), ()) /\ Ext w w') ?_ ?_
 ·refine Am (λ x w' => ∃ i : Nat, 1 <= i /\ i <= m /\ x = (Zn ((b.toNat : Int) - Oq m) (r.take (i - 1)), (i : Int), ()) /\ Ext w w') (λ x _ => ((m : Int) - x.2.1).toNat) ⟨1, by omega, by omega, rfl, S2.upd⟩ ?_
  rintro _ w3 ⟨i, hi1, him, rfl, e3⟩
  refine Aa (λ hc => ?_) (λ hc => ?_)
  ·simp only [decide_eq_true_eq] at hc
   have ew : W64 ((n : Int) + (i : Int)) = ((n + i : Nat) : Int) := by rw [wrap64 (by omega) (by omega)]; omega
   rw [ew]
   have hil : n + i < l.length := by omega
   refine Hg (hs.ext e3) (by omega) (b := l[n + i]) (by rw [Int.toNat_natCast]; simp [hil]) λ q => ?_
   have hxb := l[n + i].toNat_lt
   have hg : r[i - 1]? = some l[n + i] := by
    rw [← gi (i - 1), show n + (i - 1 + 1) = n + i by omega]; simp [hil]
   have hbd := Ay1 (r.take (i - 1)) ((b.toNat : Int) - Oq m) (by rw [List.length_take]; omega) (by omega) (by omega)
   have hsn : Zn ((b.toNat : Int) - Oq m) (r.take (i + 1 - 1)) = Zn ((b.toNat : Int) - Oq m) (r.take (i - 1)) * 64 + (l[n + i].toNat : Int) - 128 := by
    rw [show i + 1 - 1 = (i - 1) + 1 by omega, List.take_add_one, hg]
    exact Bh8 _ _ _
   have ew2 : W64 ((i : Int) + 1) = ((i + 1 : Nat) : Int) := by rw [wrap64 (by omega) (by omega)]; omega
   rw [wrap64 (a := Zn ((b.toNat : Int) - Oq m) (r.take (i - 1)) * 64) (by omega) (by omega), wrap64 (a := (l[n + i].toNat : Int)) (by omega) (by omega), wrap64 (a := Zn ((b.toNat : Int) - Oq m) (r.take (i - 1)) * 64 + (l[n + i].toNat : Int)) (by omega) (by omega), wrap64 (a := Zn ((b.toNat : Int) - Oq m) (r.take (i - 1)) * 64 + (l[n + i].toNat : Int) - 128) (by omega) (by omega), ew2]
   refine ⟨⟨i + 1, by omega, by omega, ?_, e3⟩, ?_⟩
   ·rw [hsn]
   ·dsimp only; omega
  ·simp only [decide_eq_false_iff_not] at hc
   have : i = m := by omega
   subst this
   exact ⟨rfl, e3⟩
 ·rintro _ w3 ⟨rfl, e3⟩
  exact hK w3 e3
theorem Ak2 {s : Sl} {l : Bs} {n : Nat} (hs : By w s l) (hl : l.length < 2 ^ 60) (hn : n < l.length) {K : Int × Int × Unit -> Wp} (hK : ∀ w', Ext w w' -> K ((nx8 (l.drop n)).1, ((nx8 (l.drop n)).2 : Nat), ()) w') :
  Ac Tryz.prog 83 #[s.v, .int .i64 (n : Int)] (.tup [(.one (.int .i64)), (.one (.int .i64))]) K w := by
 refine A83 ?_
 unfold F83
 have h1 := hs.len
 obtain ⟨b, r, hr⟩ : ∃ b r, l.drop n = b :: r := ⟨_, _, List.drop_eq_getElem_cons hn⟩
 have hb := b.toNat_lt
 have hrl : r.length = l.length - n - 1 := by
  have := congrArg List.length hr
  rw [List.length_drop, List.length_cons] at this; omega
 have g0 : l[n]? = some b := by
  have := congrArg (λ x => x[0]?) hr
  simp only [List.getElem?_drop, List.getElem?_cons_zero, Nat.add_zero] at this
  exact this
 rw [hr] at hK
 have hsz := Y3 b r
 refine Ae (λ _ w' => Ext w w' /\ ¬ 0 <= (nx8 (b :: r)).1) ?_ ?_
 ·refine Am (λ x w' => ∃ i : Nat, 1 <= i /\ i <= 5 /\ x = ((i : Int), ()) /\ Ext w w' /\ (0 <= (nx8 (b :: r)).1 -> i <= (nx8 (b :: r)).2)) (λ x _ => ((5 : Int) - x.1).toNat) ⟨1, by omega, by omega, rfl, Ext.refl w, λ _ => hsz.1⟩ ?_
  rintro _ w1 ⟨i, hi1, hi5, rfl, e1, hno⟩
  refine Ae (λ x w' => x = (decide (i <= 4 /\ n + i <= l.length), ()) /\ w1 = w') ?_ ?_
  ·refine Aa (λ h => ⟨Aj ?_, rfl⟩) (λ h => ⟨Aj ?_, rfl⟩)
   ·simp only [decide_eq_true_eq] at h ⊢
    rw [wrap64 (by omega) (by omega)]; omega
   ·simp only [decide_eq_false_iff_not, decide_eq_true_eq] at h ⊢
    exact ⟨(λ h => by cases h), λ h => by omega⟩
  rintro _ w2 ⟨rfl, rfl⟩
  refine Aa (λ h => ?_) (λ h => ?_)
  ·simp only [decide_eq_true_eq] at h
   have ew : W64 ((i : Int) + 1) = ((i + 1 : Nat) : Int) := by rw [wrap64 (by omega) (by omega)]; omega
   refine Ae (λ _ w' => Ext w w' /\ ¬ Hit (b :: r) i) ?_ ?_
   ·refine Ax0 (hs.ext e1) hl hr hi1 h.1 h.2 λ w3 e3 => ?_
    refine Ai1 (λ hS => Aa (λ h => by cases h) (λ _ => ?_)) (λ hS => Aa (λ _ => ⟨e1.trans e3, λ hh => hS hh.1⟩) (λ h => by cases h))
    refine Ay7 hS λ t w4 ht e4 => ?_
    have hpl : (pt8 (Gl i (b :: r))).length <= 4 := by
     have hne : sz8 (Gl i (b :: r)) ≠ 0 /\ sz8 (Gl i (b :: r)) <= 4 := by
      unfold sz8
      rw [if_neg (by rcases hS with h | h <;> omega)]
      repeat' split
      all_goals decide
     have := X9 .u8 _ hne.1
     show (pt .u8 _).length <= 4
     rw [this]; exact hne.2
    refine Ar9 (hs.ext ((e1.trans e3).trans e4)) ht (by omega) hl (by omega) λ w5 e5 => ?_
    rw [hr]
    have htl := ht.len
    have e15 := ((e1.trans e3).trans e4).trans e5
    refine Ae (λ x w' => (x.1 = true ↔ Hit (b :: r) i) /\ w5 = w') ?_ ?_
    ·refine Aa (λ h => ⟨?_, rfl⟩) (λ h => ⟨?_, rfl⟩)
     ·simp only [beq_iff_eq] at h
      simp only [decide_eq_true_eq]
      exact ⟨λ hh => ⟨hS, hh, by omega⟩, λ hh => hh.2.1⟩
     ·simp only [beq_eq_false_iff_ne] at h
      exact ⟨(λ h => by cases h), λ hh => by have := hh.2.2; omega⟩
    rintro ⟨x, _⟩ w6 ⟨hx, rfl⟩
    refine Aa (λ hh => ?_) (λ hh => ⟨e15, λ hit => by have h1 := hx.2 hit; have h2 : x = false := hh; rw [h2] at h1; cases h1⟩)
    have hit := hx.1 hh
    have := hK w5 e15
    rw [Ca7 hit] at this
    exact this
   ·rintro _ w3 ⟨e3, hno2⟩
    refine ⟨⟨i + 1, by omega, by omega, by rw [ew], e3, λ h0 => ?_⟩, ?_⟩
    ·have := hno h0
     rcases Nat.lt_or_ge i (nx8 (b :: r)).2 with h2 | h2
     ·omega
     ·have : i = (nx8 (b :: r)).2 := by omega
      subst this
      exact absurd (Bz8 h0).1 hno2
    ·dsimp only
     rw [ew]; omega
  ·simp only [decide_eq_false_iff_not] at h
   refine ⟨e1, λ h0 => h ?_⟩
   have h2 := hno h0
   have h3 := hsz.2.1
   rw [List.length_cons] at h3
   omega
 ·rintro _ w1 ⟨e1, hneg⟩
  refine Hg (hs.ext e1) (by omega) (b := b) (by rw [Int.toNat_natCast]; exact g0) λ p => ?_
  have := hK w1 e1
  rw [Bz7 hneg] at this
  rw [wrap64 (a := (b.toNat : Int)) (by omega) (by omega), wrap64 (by omega) (by omega)]
  exact this
theorem Bm6 {e : Enc} {s : Sl} {l : Bs} {n : Nat} (hs : By w s l) (hl : l.length < 2 ^ 59) (hn : n < l.length) {K : Int × Int × Unit -> Wp} (hK : ∀ w', Ext w w' -> K ((nx e (l.drop n)).1, ((nx e (l.drop n)).2 : Nat), ()) w') :
  Ac Tryz.prog 62 #[.int .i64 e.num, s.v, .int .i64 (n : Int)] (.tup [(.one (.int .i64)), (.one (.int .i64))]) K w := by
 refine A62 ?_
 unfold F62
 have h1 := hs.len
 obtain ⟨b, r, hr⟩ : ∃ b r, l.drop n = b :: r := ⟨_, _, List.drop_eq_getElem_cons hn⟩
 have hb := b.toNat_lt
 have g0 : l[n]? = some b := by
  have := congrArg (λ x => x[0]?) hr
  simp only [List.getElem?_drop, List.getElem?_cons_zero, Nat.add_zero] at this
  exact this
 have six : ∀ be : Bool, e.num = (if be then 3 else 2) -> nx e = Il be ->
   Ac Tryz.prog 84 #[.int .i64 e.num, s.v, .int .i64 (n : Int)] rI (λ (x4 : Int) => sif (decide (x4 < (0 : Int))) (
    ix s.a s.len (n : Int) λ p5 =>
    ld (.int .u8) (p5.add (scaled (Int.toNat (n : Int)) 1)) λ (x6 : Int) =>
    K ((W64 ((-1 : Int) - (W64 x6))), (1 : Int), ())) (
    Ac Tryz.prog 84 #[(.int .i64 e.num), s.v, (.int .i64 (W64 ((n : Int) + (2 : Int))))] rI λ (x7 : Int) =>
    join (S := Bool × Unit) (λ J8 =>
     sif (decide (x4 >= (55296 : Int))) (
      sif (decide (x4 < (56320 : Int))) (
       sif (decide (x7 >= (56320 : Int))) (
        J8 ((decide (x7 < (57344 : Int))), ())) (
        J8 (false, ()))) (
       J8 (false, ()))) (
      J8 (false, ()))) λ (s9 : Bool × Unit) =>
    sif s9.1 (
     K ((W64 ((W64 ((W64 ((65536 : Int) + (W64 ((W64 (x4 - (55296 : Int))) * (1024 : Int))))) + x7)) - (56320 : Int))), (4 : Int), ())) (
     K (x4, (2 : Int), ())))) w := by
  intro be hbe hnx
  rw [hbe]
  rw [hnx] at hK
  refine V6 hs (by omega) (by omega) λ w1 e1 => ?_
  rw [hr] at hK ⊢
  have e2 : W64 ((n : Int) + 2) = ((n + 2 : Nat) : Int) := by rw [wrap64 (by omega) (by omega)]; omega
  rw [e2]
  cases r with
  | nil =>
   refine Aa (λ _ => ?_) (λ h => by cases h)
   refine Hg (hs.ext e1) (by omega) (b := b) (by rw [Int.toNat_natCast]; exact g0) λ p => ?_
   rw [wrap64 (a := (b.toNat : Int)) (by omega) (by omega), wrap64 (by omega) (by omega)]
   exact hK w1 e1
  | cons c r' =>
   have hc := c.toNat_lt
   have hu : un be b c < 65536 := by unfold un; split <;> omega
   have hx4 : unI be (b :: c :: r') = ((un be b c : Nat) : Int) := rfl
   refine Aa (λ h => by simp only [decide_eq_true_eq] at h; omega) (λ _ => ?_)
   refine V6 (hs.ext e1) (by omega) (by omega) λ w2 e3 => ?_
   have e12 := e1.trans e3
   have hd2 : l.drop (n + 2) = r' := by
    have := congrArg (List.drop 2) hr
    rw [List.drop_drop] at this
    simpa using this
   rw [hd2]
   refine Ae (λ x w' => (x.1 = true ↔ (un be b c / 1024 = 54 /\ ∃ d f r'', r' = d :: f :: r'' /\ un be d f / 1024 = 55)) /\ w2 = w') ?_ ?_
   ·have key : ∀ x7, x7 = unI be r' -> ((56320 <= x7 /\ x7 < 57344) ↔ ∃ d f r'', r' = d :: f :: r'' /\ un be d f / 1024 = 55) := by
     rintro x7 rfl
     match r' with
     | [] => exact ⟨λ h => by have h' : (56320 : Int) <= -1 := h.1; omega, by rintro ⟨d, f, r'', h, _⟩; cases h⟩
     | [d] => exact ⟨λ h => by have h' : (56320 : Int) <= -1 := h.1; omega, by rintro ⟨d, f, r'', h, _⟩; cases h⟩
     | d :: f :: r'' =>
      show ((56320 : Int) <= ((un be d f : Nat) : Int) /\ ((un be d f : Nat) : Int) < 57344) ↔ _
      constructor
      ·intro h; exact ⟨d, f, r'', rfl, by omega⟩
      ·rintro ⟨d', f', r3, h, hu⟩; cases h; omega
    have key' := key _ rfl
    refine Aa (λ h => Aa (λ h2 => Aa (λ h3 => ⟨?_, rfl⟩) (λ h3 => ⟨?_, rfl⟩)) (λ h2 => ⟨?_, rfl⟩)) (λ h => ⟨?_, rfl⟩)
    all_goals (try simp only [decide_eq_true_eq, decide_eq_false_iff_not, ge_iff_le] at h)
    all_goals (try simp only [decide_eq_true_eq, decide_eq_false_iff_not, ge_iff_le] at h2)
    all_goals (try simp only [decide_eq_true_eq, decide_eq_false_iff_not, ge_iff_le] at h3)
    all_goals (try simp only [decide_eq_true_eq])
    all_goals have hx4 : unI be (b :: c :: r') = ((un be b c : Nat) : Int) := rfl
    ·rw [← key']
     constructor
     ·intro h4; exact ⟨by clear key key'; omega, h3, h4⟩
     ·intro h4; exact h4.2.2
    ·rw [← key']
     exact ⟨(λ h => by cases h), λ h4 => absurd h4.2.1 h3⟩
    ·exact ⟨(λ h => by cases h), λ h4 => by have := h4.1; clear key key' h4; omega⟩
    ·exact ⟨(λ h => by cases h), λ h4 => by have := h4.1; clear key key' h4; omega⟩
   rintro ⟨x, _⟩ w3 ⟨hx, rfl⟩
   refine Aa (λ h => ?_) (λ h => ?_)
   ·obtain ⟨h54, d, f, r'', rfl, h55⟩ := hx.1 h
    have hd := d.toNat_lt; have hf := f.toNat_lt
    have hv : un be d f < 65536 := by unfold un; split <;> omega
    have := hK w2 e12
    show K ((W64 ((W64 ((W64 ((65536 : Int) + (W64 ((W64 (((un be b c : Nat) : Int) - (55296 : Int))) * (1024 : Int))))) + ((un be d f : Nat) : Int))) - (56320 : Int))), (4 : Int), ()) w2
    rw [wrap64 (a := ((un be b c : Nat) : Int) - 55296) (by omega) (by omega), wrap64 (a := (((un be b c : Nat) : Int) - 55296) * 1024) (by omega) (by omega), wrap64 (a := (65536 : Int) + _) (by omega) (by omega), wrap64 (a := (65536 : Int) + _ + _) (by omega) (by omega), wrap64 (by omega) (by omega)]
    have e4 : Il be (b :: c :: d :: f :: r'') = (65536 + ((un be b c % 1024 * 1024 + un be d f % 1024 : Nat) : Int), 4) := by
     simp only [Il]; rw [if_pos h54, if_pos h55]
    rw [e4] at this
    have e5 : (65536 : Int) + (((un be b c : Nat) : Int) - 55296) * 1024 + ((un be d f : Nat) : Int) - 56320 = 65536 + ((un be b c % 1024 * 1024 + un be d f % 1024 : Nat) : Int) := by omega
    rw [e5]
    exact this
   ·have h : ¬ (un be b c / 1024 = 54 /\ ∃ d f r'', r' = d :: f :: r'' /\ un be d f / 1024 = 55) := λ hh => by have h1 := hx.2 hh; have h2 : x = false := h; rw [h2] at h1; cases h1
    have := hK w2 e12
    have e4 : Il be (b :: c :: r') = (((un be b c : Nat) : Int), 2) := by
     simp only [Il]
     split
     ·rename_i h54
      split
      ·rename_i d f r''
       rw [if_neg (λ h55 => h ⟨h54, _, _, _, rfl, h55⟩)]
      ·rfl
     ·rfl
    rw [e4] at this
    exact this
 cases e with
 | u8 =>
  refine Aa (λ _ => ?_) (λ h => by cases h)
  exact Ak2 hs (by omega) hn λ w1 e1 => hK w1 e1
 | le => exact Aa (λ h => by cases h) (λ _ => Aa (λ h => by cases h) (λ _ => six false rfl rfl))
 | be => exact Aa (λ h => by cases h) (λ _ => Aa (λ h => by cases h) (λ _ => six true rfl rfl))
 | l1 =>
  refine Aa (λ h => by cases h) (λ _ => Aa (λ _ => ?_) (λ h => by cases h))
  refine Hg hs (by omega) (b := b) (by rw [Int.toNat_natCast]; exact g0) λ p => ?_
  rw [wrap64 (a := (b.toNat : Int)) (by omega) (by omega)]
  have := hK w (Ext.refl w)
  rw [hr] at this
  exact this
theorem Aq8 {e : Enc} {s : Sl} {l : Bs} (hs : By w s l) (hl : l.length < 2 ^ 40) {K : Sl × Int × Unit -> Wp} (hK : ∀ s' w', Ah w' w.heap.size s' 3 1 (iv (atoms (ats e l))) -> Ext w w' -> K (s', 0, ()) w') :
  Ac Tryz.prog 34 #[.int .i64 e.num, s.v] (.tup [(.one .sl), (.one (.int .i64))]) K w := by
 refine A34 ?_
 unfold F34
 have h1 := hs.len
 refine Ax5 (Aa (λ h => by cases h) (λ _ => ?_))
 refine Ae (λ x w' => Ah w' w.heap.size x.1 3 1 (iv (atoms (ats e l))) /\ Ext w w') ?_ (λ x w' h => hK _ _ h.1 h.2)
 refine Am (λ x w' => ∃ j, j <= (ats e l).length /\ x.2 = (((szs ((ats e l).take j) : Nat) : Int), ()) /\ Ah w' w.heap.size x.1 3 1 (iv (atoms ((ats e l).take j))) /\ Ext w w') (λ x _ => ((l.length : Int) - x.2.1).toNat) ⟨0, Nat.zero_le _, rfl, Ah.nil _ _ _ _, Ext.refl w⟩ ?_
 rintro ⟨r, _⟩ w1 ⟨j, hj, rfl, ho, e1⟩
 have hsj : szs ((ats e l).take j) <= l.length := Wv j
 have hol := ho.len1
 dsimp only at ho hol ⊢
 rw [List.length_map, List.length_map, List.length_take] at hol
 refine Aa (λ hc => ?_) (λ hc => ?_)
 ·simp only [decide_eq_true_eq] at hc
  obtain ⟨a, m, hqa, hnx, htk, hss, hm1, hsl⟩ := Qb (e := e) (l := l) (j := j) (by omega)
  have hql : j < (ats e l).length := (List.getElem?_eq_some_iff.1 hqa).1
  refine Bm6 (hs.ext e1) (by omega) (by omega) λ w2 e2 => ?_
  rw [hnx]
  refine Bo λ b w3 e3 n3 hb3 hz3 => ?_
  have hal := Wn (Es e l)
  rw [Gg] at hal
  refine Du Ru Ru.ts_ (x := ⟨some (at0 b), 1, 1⟩) (ho.ext (e2.trans e3)) (Zl n3) (λ v hv => by rw [List.mem_singleton.1 hv]; rfl) (by
   show (r.len + 1 + (r.len + 1) / 4 + 512) * 8 <= 2 ^ 48
   omega) (by have := e1.size; have := e2.size; omega) λ s' w4 o4 l4 u4 b4 => ?_
  have e4 : iv (atoms ((ats e l).take j)) ++ [.int .i64 a] = iv (atoms ((ats e l).take (j + 1))) := by rw [htk]; simp
  rw [e4] at o4
  have ew : W64 (((szs ((ats e l).take j) : Nat) : Int) + (m : Int)) = ((szs ((ats e l).take (j + 1)) : Nat) : Int) := by rw [wrap64 (by omega) (by omega)]; omega
  refine ⟨⟨j + 1, by omega, by dsimp only; rw [ew], o4, ((e1.trans e2).trans e3).step u4 λ k hk => ho.Di hk⟩, ?_⟩
  dsimp only
  rw [ew]; omega
 ·simp only [decide_eq_false_iff_not] at hc
  have := Uw (e := e) (l := l) (j := j) (by omega)
  rw [this] at ho
  exact ⟨ho, e1⟩
end
end Go.Proofs.YtabcpghhfeplaaaGreat
namespace Go.Proofs.YtabcpghhfeplaaaGreat
open Go Go.Vx
def F10 (a0 : (Int × Sl × Unit)) (a1 : (Int × Sl × Unit)) (a2 : Sl) (K : Bool -> Wp) : Wp := Af (.cells #[(vI a0.1), a0.2.1.v] 24) λ b1 => Af (.cells #[(vI a1.1), a1.2.1.v] 24) λ b2 => lds c24 (at0 b1) λ (x3 : (Int × Sl × Unit)) => lds c24 (at0 b2) λ (x4 : (Int × Sl × Unit)) => cB 25 #[(vA c24 x3), (vA c24 x4), a2.v, (vI 5), (vI 5)] λ x5 => K x5
def h10 : Hint := (hS (hR 3) (hS (hR 5) hL))
theorem A10 {a0 : (Int × Sl × Unit)} {a1 : (Int × Sl × Unit)} {a2 : Sl} {K : Bool -> Wp} {w : World} (h : F10 a0 a1 a2 K w) : Ac Tryz.prog 10 #[(vA c24 a0), (vA c24 a1), a2.v] rB K w := tied Ai Tryz.func10 h10 _ h
def F16 (a0 : (Int × Sl × Unit)) (K : ((Option Addr × Sl × Unit) × Bool × Unit) -> Wp) : Wp := Af (.cells #[(vI a0.1), a0.2.1.v] 24) λ b1 => Af (.cells #[(.pointer none), (.slice none 0 0)] 28) λ b2 => lI (at0 b1) λ x3 => jS (λ J4 => Gj (S := Sl × Int × Unit) (λ s6 again7 => jB (λ J8 => ld (.sl) (ad b1 1) λ (x10 : Sl) => sif (decide (s6.2.1 < ((x10.len : Nat) : Int))) ( J8 ((decide (s6.2.1 < 50000)), ())) ( J8 (false, ()))) λ s9 => sif s9.1 ( ld (.sl) (ad b1 1) λ (x11 : Sl) => ixl (.int .u8) x11 s6.2.1 1 λ (x13 : Int) => Af (.cells #[(.int .u8 x13)] 5) λ b14 => Df Tryz.prog rS (Builtin.append_ #[22, 22] 22 #[s6.1.v, (.slice (some (at0 b14)) 1 1)]) λ (x15 : Sl) => again7 (x15, (W64 (s6.2.1 + 1)), ())) ( J4 (s6.1, ()))) (⟨none, 0, 0⟩, 0, ())) λ s5 => Ac Tryz.prog 34 #[(vI (W64 (1 + (W64 ((BitVec.toNat (BitVec.ofInt (IntKind.bits .i64) x3 &&& BitVec.ofInt (IntKind.bits .i64) 3) : Nat) : Int))))), s5.1.v] (.tup [(.one .sl), (.one cI)]) λ (x16 : (Sl × Int × Unit)) => Ac Tryz.prog 35 #[(vI (W64 (1 + (W64 ((BitVec.toNat (BitVec.ofInt (IntKind.bits .i64) x3 &&& BitVec.ofInt (IntKind.bits .i64) 3) : Nat) : Int))))), s5.1.v, (vI 65536)] (.tup [(.one .ptr), (.one cI)]) λ (x17 : (Option Addr × Int × Unit)) => jB (λ J18 => sif (Option.isNone x17.1) ( J18 (true, ())) ( J18 ((x17.2.1 != 0), ()))) λ s19 => sif s19.1 ( Ad (at0 b2) (.agg #[(.pointer none), (.slice none 0 0)]) 2 <| lds c28 (at0 b2) λ (x20 : (Option Addr × Sl × Unit)) => K (x20, false, ())) ( cB 36 #[(.pointer x17.1), x16.1.v] λ x21 => Ad (at0 b2) (.agg #[(.pointer x17.1), x16.1.v]) 2 <| lds c28 (at0 b2) λ (x22 : (Option Addr × Sl × Unit)) => K (x22, x21, ()))
def h16 : Hint := (hS (hR 3) (hS (hR 5) (hS (hR 1) (hJ (0x3ffff8060, [(5, tS)]) (hS (hR 1) (.block (.loop 0x3ffff8060 [(5, tS), (6, tI)] (hS (hJ (0xff8000, [(23, tB)]) (.region [] (.ops 6 (.split 20 (hO 3) (.skips 2 (hO 1))))) (hC hL hL)) (hS (.block (hR 9)) (hR 3)))))) (hS (hR 8) (hS (hR 8) (hS (hJ ((mR [(46, 52)]), [(51, tB)]) (.region [] (.ops 3 (.split 48 (.skips 2 (hO 1)) (hO 3)))) (hC (hS (hR 3) hL) hL)) (hS (hR 8) hL))))))))
theorem A16 {a0 : (Int × Sl × Unit)} {K : ((Option Addr × Sl × Unit) × Bool × Unit) -> Wp} {w : World} (h : F16 a0 K w) : Ac Tryz.prog 16 #[(vA c24 a0)] (.tup [(.agg c28), (.one .bool)]) K w := tied Ai Tryz.func16 h16 _ h
def F17 (a0 : Int) (K : Bool -> Wp) : Wp := Af (.cells #[(.int .u8 40), (.int .u8 34), (.int .u8 120), (.int .u8 34), (.int .u8 41)] 5) λ b1 => Df Tryz.prog rS (convert 22 22 (.slice (some (at0 b1)) 5 5)) λ x2 => Ac Tryz.prog 16 #[(.agg #[(vI 0), x2.v])] (.tup [(.agg c28), (.one .bool)]) λ (x3 : ((Option Addr × Sl × Unit) × Bool × Unit)) => Af (.cells #[(.pointer none), (.slice none 0 0)] 28) λ b4 => Ad (at0 b4) (vA c28 x3.1) 2 <| sif (!x3.2.1) ( K false) ( Af (.cells #[(vI 0), (vI 0), (vI 0)] 34) λ b5 => jI (λ J6 => sif (a0 == 1) ( ld (.ptr) (at0 b4) λ (x8 : Option Addr) => Ac Tryz.prog 29 #[(.pointer x8), (vI 2), (.agg #[(vI 61), (vI 0), (vI 0)])] (.tup [(.agg c34), (.one cI)]) λ (x9 : (I3 × Int × Unit)) => Ad (at0 b5) (vA c34 x9.1) 3 <| J6 (x9.2.1, ())) ( sif (a0 == 2) ( ld (.ptr) (at0 b4) λ (x10 : Option Addr) => Ac Tryz.prog 31 #[(.pointer x10), (vI 2), (.agg #[(vI 65), (vI 0), (vI 34)])] (.tup [(.agg c34), (.one cI)]) λ (x11 : (I3 × Int × Unit)) => Ad (at0 b5) (vA c34 x11.1) 3 <| J6 (x11.2.1, ())) ( sif (a0 == 3) ( ld (.ptr) (at0 b4) λ (x12 : Option Addr) => Ac Tryz.prog 19 #[(.pointer x12), (vI 2), (.agg #[(vI 67), (vI 0), (vI 40)])] (.tup [(.agg c34), (.one cI)]) λ (x13 : (I3 × Int × Unit)) => Ad (at0 b5) (vA c34 x13.1) 3 <| sif (x13.2.1 == 0) ( lI (at0 b5) λ x14 => sif (x14 == 1) ( lI (ad b5 1) λ x15 => K (x15 == 4)) ( K false)) ( K false)) ( sif (a0 == 4) ( ld (.ptr) (at0 b4) λ (x16 : Option Addr) => Ac Tryz.prog 33 #[(.pointer x16), (vI 2), (.agg #[(vI 69), (vI 0), (vI 0)])] (.tup [(.agg c34), (.one cI)]) λ (x17 : (I3 × Int × Unit)) => Ad (at0 b5) (vA c34 x17.1) 3 <| sif (x17.2.1 == 0) ( lI (ad b5 2) λ x18 => sif (x18 == 1) ( lI (ad b5 1) λ x19 => K (x19 == 5)) ( K false)) ( K false)) ( sif (a0 == 5) ( ld (.ptr) (at0 b4) λ (x20 : Option Addr) => Ac Tryz.prog 20 #[(.pointer x20), (vI 2), (.agg #[(vI 61), (vI 0), (vI 0)])] (.tup [(.agg c34), (.one cI)]) λ (x21 : (I3 × Int × Unit)) => Ad (at0 b5) (vA c34 x21.1) 3 <| J6 (x21.2.1, ())) ( J6 (0, ()))))))) λ s7 => sif (s7.1 == 0) ( lI (at0 b5) λ x22 => sif (x22 == 2) ( lI (ad b5 1) λ x23 => sif (x23 == 3) ( lI (ad b5 2) λ x24 => K (x24 == 0)) ( K false)) ( K false)) ( K false))
def h17 : Hint := (hS (hR 1) (hS (hR 10) (hS (hS (hR 2) (hC (hS (hR 1) hL) hL)) (hS (hR 1) (hS (hR 1) (hJ (0x3fffffffffffffffff0044, [(6, tI)]) (hS (hR 1) (.block (hS (hR 2) (hC (hR 9) (hS (hR 2) (hC (hR 9) (hS (hR 2) (hC (hS (hR 9) (hS (.region [] (.ops 3 (.split 46 (.ops 5 (.split 51 (hO 5) (.skips 3 (hO 2)))) (.skips 3 (.ops 2 (.skips 3 (hO 2))))))) hL)) (hS (hR 2) (hC (hS (hR 9) (hS (.region [] (.ops 3 (.split 67 (.ops 5 (.split 72 (hO 5) (.skips 3 (hO 2)))) (.skips 3 (.ops 2 (.skips 3 (hO 2))))))) hL)) (hS (hR 2) (hC (hR 9) hL)))))))))))) (hS (.region [] (.ops 3 (.split 88 (.ops 5 (.split 93 (.ops 5 (.split 98 (hO 5) (.skips 3 (hO 2)))) (.skips 3 (.ops 2 (.skips 3 (hO 2)))))) (.skips 3 (.ops 2 (.skips 3 (.ops 2 (.skips 3 (hO 2))))))))) hL)))))))
theorem A17 {a0 : Int} {K : Bool -> Wp} {w : World} (h : F17 a0 K w) : Ac Tryz.prog 17 #[(vI a0)] rB K w := tied Ai Tryz.func17 h17 _ h
def F18 (a0 : Int) (a1 : Int) (K : Int -> Wp) : Wp := jI (λ J1 => sif (decide (a0 < 0)) ( J1 ((W64 (0 - (W64 (a0 + 1)))), ())) ( J1 (a0, ()))) λ s2 => chk ((W64 (a1 + 1)) ≠ 0) <| K (Int.tmod s2.1 (W64 (a1 + 1)))
def h18 : Hint := (hS (hR 1) (hJ (993, [(0, tI)]) (hS (hR 2) (hC (hR 4) hL)) (hS (hR 5) hL)))
theorem A18 {a0 : Int} {a1 : Int} {K : Int -> Wp} {w : World} (h : F18 a0 a1 K w) : Ac Tryz.prog 18 #[(vI a0), (vI a1)] rI K w := tied Ai Tryz.func18 h18 _ h
def F25 (a0 : (Int × Sl × Unit)) (a1 : (Int × Sl × Unit)) (a2 : Sl) (a3 : Int) (a4 : Int) (K : Bool -> Wp) : Wp := Af (.cells #[(vI a0.1), a0.2.1.v] 24) λ b1 => Af (.cells #[(vI a1.1), a1.2.1.v] 24) λ b2 => lds c24 (at0 b1) λ (x3 : (Int × Sl × Unit)) => Ac Tryz.prog 16 #[(vA c24 x3)] (.tup [(.agg c28), (.one .bool)]) λ (x4 : ((Option Addr × Sl × Unit) × Bool × Unit)) => Af (.cells #[(.pointer none), (.slice none 0 0)] 28) λ b5 => Ad (at0 b5) (vA c28 x4.1) 2 <| sif (!x4.2.1) ( K false) ( lds c24 (at0 b2) λ (x6 : (Int × Sl × Unit)) => Ac Tryz.prog 16 #[(vA c24 x6)] (.tup [(.agg c28), (.one .bool)]) λ (x7 : ((Option Addr × Sl × Unit) × Bool × Unit)) => Af (.cells #[(.pointer none), (.slice none 0 0)] 28) λ b8 => Ad (at0 b8) (vA c28 x7.1) 2 <| jB (λ J9 => sif (!x7.2.1) ( J9 (true, ())) ( cB 17 #[(vI a3)] λ x11 => J9 ((!x11), ()))) λ s10 => sif s10.1 ( K false) ( jU (λ J12 => sI (λ s14 again15 => jB (λ J16 => sif (decide (s14.1 < ((a2.len : Nat) : Int))) ( J16 ((decide (s14.1 < 200)), ())) ( J16 (false, ()))) λ s17 => sif s17.1 ( jB (λ J18 => ixI a2 s14.1 7 λ x21 => sif (x21 == 0) ( ixs c43 a2 s14.1 7 λ (x23 : (Int × Int × Int × Int × Int × Int × Sl × Unit)) => cB 49 #[(.pointer (some (at0 b5))), (vA c43 x23), (vI a3), (vI a4)] λ x24 => J18 (x24, ())) ( ixs c43 a2 s14.1 7 λ (x26 : (Int × Int × Int × Int × Int × Int × Sl × Unit)) => cB 49 #[(.pointer (some (at0 b8))), (vA c43 x26), (vI a3), (vI a4)] λ x27 => J18 (x27, ()))) λ s19 => sif (!s19.1) ( K false) ( again15 ((W64 (s14.1 + 1)), ()))) ( J12 ())) (0, ())) λ s13 => K true))
def h25 : Hint := (hS (hR 3) (hS (hR 8) (hS (hS (hR 2) (hC (hS (hR 1) hL) hL)) (hS (hR 8) (hS (hJ (0x3f8000000, [(33, tB)]) (.region [] (.ops 3 (.split 29 (.skips 3 (hO 1)) (hO 4)))) (hC (hS (hR 1) hL) hL)) (hJ (0x3fffffffc00005400, []) (hS (hR 1) (.block (.loop 0x3fffffffc00005400 [(14, tI)] (hS (hJ (0x3fc00000000, [(41, tB)]) (.region [] (.ops 5 (.split 38 (hO 3) (.skips 2 (hO 1))))) (hC hL hL)) (hS (.block (hJ (0xfffff00000001000, [(12, tB)]) (hS (hR 6) (hC (hR 8) (hR 8))) (hS (hR 2) (hC (hS (hR 1) hL) hL)))) (hR 3)))))) (hS (hR 1) hL)))))))
theorem A25 {a0 : (Int × Sl × Unit)} {a1 : (Int × Sl × Unit)} {a2 : Sl} {a3 : Int} {a4 : Int} {K : Bool -> Wp} {w : World} (h : F25 a0 a1 a2 a3 a4 K w) : Ac Tryz.prog 25 #[(vA c24 a0), (vA c24 a1), a2.v, (vI a3), (vI a4)] rB K w := tied Ai Tryz.func25 h25 _ h
def F26 (a0 : Sl) (K : Sl -> Wp) : Wp := jS (λ J1 => Gj (S := Sl × Int × Unit) (λ s3 again4 => jB (λ J5 => sif (decide (s3.2.1 < ((a0.len : Nat) : Int))) ( J5 ((decide (s3.2.1 < 16)), ())) ( J5 (false, ()))) λ s6 => sif s6.1 ( ixI a0 s3.2.1 1 λ x8 => jI (λ J9 => jB (λ J11 => sif (x8 != 10) ( J11 ((x8 != 13), ())) ( J11 (false, ()))) λ s12 => sif s12.1 ( J9 ((W64 (32 + (W64 ((BitVec.toNat (BitVec.ofInt (IntKind.bits .i64) x8 &&& BitVec.ofInt (IntKind.bits .i64) 95) : Nat) : Int)))), ())) ( J9 (x8, ()))) λ s10 => Af (.cells #[(vI s10.1)] 3) λ b13 => Df Tryz.prog rS (Builtin.append_ #[26, 26] 26 #[s3.1.v, (.slice (some (at0 b13)) 1 1)]) λ (x14 : Sl) => again4 (x14, (W64 (s3.2.1 + 1)), ())) ( J1 (s3.1, ()))) (⟨none, 0, 0⟩, 0, ())) λ s2 => K s2.1
def h26 : Hint := (hS (hR 1) (hS (hR 1) (hJ (8589934584, [(3, tS)]) (hS (hR 1) (.block (.loop 8589934584 [(3, tS), (4, tI)] (hS (hJ (16320, [(13, tB)]) (.region [] (.ops 5 (.split 10 (hO 3) (.skips 2 (hO 1))))) (hC hL hL)) (hS (.block (hS (hR 5) (hJ (535822368, [(5, tI)]) (hJ (66060288, [(25, tB)]) (.region [] (.ops 3 (.split 22 (hO 3) (.skips 2 (hO 1))))) (hC (hR 4) hL)) (hR 5)))) (hR 3)))))) (hS (hR 2) hL))))
theorem A26 {a0 : Sl} {K : Sl -> Wp} {w : World} (h : F26 a0 K w) : Ac Tryz.prog 26 #[a0.v] rS K w := tied Ai Tryz.func26 h26 _ h
def F32 (a0 : Sl) (a1 : Sl) (K : Sl -> Wp) : Wp := cS 46 #[a0.v] λ x1 => jS (λ J2 => Gj (S := Sl × Int × Unit) (λ s4 again5 => sif (decide (s4.2.1 < ((a1.len : Nat) : Int))) ( ixI a1 s4.2.1 1 λ x7 => Af (.cells #[(vI x7)] 3) λ b8 => Df Tryz.prog rS (Builtin.append_ #[26, 26] 26 #[s4.1.v, (.slice (some (at0 b8)) 1 1)]) λ (x9 : Sl) => again5 (x9, (W64 (s4.2.1 + 1)), ())) ( J2 (s4.1, ()))) (x1, 0, ())) λ s3 => K s3.1
def h32 : Hint := (hS (hR 1) (hS (hR 3) (hJ (4193888, [(5, tS)]) (hS (hR 1) (.block (.loop 4193888 [(5, tS), (6, tI)] (hS (hS (hR 4) (hC hL hL)) (hS (.block (hR 8)) (hR 3)))))) (hS (hR 2) hL))))
theorem A32 {a0 : Sl} {a1 : Sl} {K : Sl -> Wp} {w : World} (h : F32 a0 a1 K w) : Ac Tryz.prog 32 #[a0.v, a1.v] rS K w := tied Ai Tryz.func32 h32 _ h
def F36 (a0 : Option Addr) (a1 : Sl) (K : Bool -> Wp) : Wp := jU (λ J1 => sN (λ s3 again4 => sif (decide (s3.2.1 < ((a1.len : Nat) : Int))) ( jI (λ J5 => jB (λ J7 => ixI a1 s3.2.1 1 λ x10 => sif (x10 == 10) ( J7 (true, ())) ( ixI a1 s3.2.1 1 λ x12 => sif (x12 == 13) ( sif ((W64 (s3.2.1 + 1)) == ((a1.len : Nat) : Int)) ( J7 (true, ())) ( ixI a1 (W64 (s3.2.1 + 1)) 1 λ x14 => J7 ((x14 != 10), ()))) ( J7 (false, ())))) λ s8 => sif s8.1 ( jB (λ J15 => cN 66 #[(.pointer a0), (vI (W64 (s3.2.1 + 1)))] λ x17 => sif (x17 != (W64 (s3.1 + 1))) ( J15 (true, ())) ( cN 67 #[(.pointer a0), (vI (W64 (s3.1 + 1)))] λ x18 => J15 ((x18 != (W64 (s3.2.1 + 1))), ()))) λ s16 => sif s16.1 ( K false) ( J5 ((W64 (s3.1 + 1)), ()))) ( J5 (s3.1, ()))) λ s6 => again4 (s6.1, (W64 (s3.2.1 + 1)), ())) ( J1 ())) (0, 0, ())) λ s2 => K true
def h36 : Hint := (hS (hR 1) (hS (hR 1) (hJ ((mR [(4, 56)]), []) (hS (hR 1) (.block (.loop (mR [(4, 56)]) [(5, tI), (6, tI)] (hS (hS (hR 4) (hC hL hL)) (hJ (0xffffffffffe030, [(5, tI)]) (.block (hJ (0xffffffe000, [(39, tB)]) (.region [] (.ops 6 (.split 18 (.skips 20 (hO 1)) (.ops 6 (.split 24 (.ops 6 (.split 30 (.skips 6 (hO 3)) (hO 9))) (.skips 13 (hO 2))))))) (hC (hS (hR 3) (hJ ((mR [(42, 56)]), [(55, tB)]) (.region [] (.ops 7 (.split 48 (.skips 6 (hO 1)) (hO 7)))) (hC (hS (hR 1) hL) hL))) hL))) (hR 3)))))) (hS (hR 1) hL))))
theorem A36 {a0 : Option Addr} {a1 : Sl} {K : Bool -> Wp} {w : World} (h : F36 a0 a1 K w) : Ac Tryz.prog 36 #[(.pointer a0), a1.v] rB K w := tied Ai Tryz.func36 h36 _ h
def F46 (a0 : Sl) (K : Sl -> Wp) : Wp := jS (λ J1 => Gj (S := Sl × Int × Unit) (λ s3 again4 => sif (decide (s3.2.1 < ((a0.len : Nat) : Int))) ( ixI a0 s3.2.1 1 λ x6 => Af (.cells #[(vI x6)] 3) λ b7 => Df Tryz.prog rS (Builtin.append_ #[26, 26] 26 #[s3.1.v, (.slice (some (at0 b7)) 1 1)]) λ (x8 : Sl) => again4 (x8, (W64 (s3.2.1 + 1)), ())) ( J1 (s3.1, ()))) (⟨none, 0, 0⟩, 0, ())) λ s2 => K s2.1
def h46 : Hint := (hS (hR 1) (hS (hR 1) (hJ (262136, [(3, tS)]) (hS (hR 1) (.block (.loop 262136 [(3, tS), (4, tI)] (hS (hS (hR 4) (hC hL hL)) (hS (.block (hR 8)) (hR 3)))))) (hS (hR 2) hL))))
theorem A46 {a0 : Sl} {K : Sl -> Wp} {w : World} (h : F46 a0 K w) : Ac Tryz.prog 46 #[a0.v] rS K w := tied Ai Tryz.func46 h46 _ h
def F49 (a0 : Option Addr) (a1 : (Int × Int × Int × Int × Int × Int × Sl × Unit)) (a2 : Int) (a3 : Int) (K : Bool -> Wp) : Wp := Af (.cells #[(vI a1.1), (vI a1.2.1), (vI a1.2.2.1), (vI a1.2.2.2.1), (vI a1.2.2.2.2.1), (vI a1.2.2.2.2.2.1), a1.2.2.2.2.2.2.1.v] 43) λ b1 => lI (ad b1 1) λ x2 => sif (x2 == 0) ( lI (ad b1 2) λ x3 => lI (ad b1 4) λ x4 => ld (.sl) (ad b1 6) λ (x5 : Sl) => cB 75 #[(.pointer a0), (vI x3), (vI x4), x5.v] λ x6 => K x6) ( jB (λ J7 => lI (ad b1 1) λ x9 => sif (decide (x9 < a2)) ( J7 (true, ())) ( lI (ad b1 1) λ x10 => J7 ((decide (x10 > a3)), ()))) λ s8 => sif s8.1 ( K true) ( lds c43 (at0 b1) λ (x11 : (Int × Int × Int × Int × Int × Int × Sl × Unit)) => cB 76 #[(.pointer a0), (vA c43 x11)] λ x12 => K x12))
def h49 : Hint := (hS (hR 2) (hS (hS (hR 3) (hC (hS (hR 9) hL) hL)) (hS (hJ (0x3ff00000, [(29, tB)]) (.region [] (.ops 5 (.split 24 (.skips 4 (hO 1)) (hO 5)))) (hC (hS (hR 1) hL) hL)) (hS (hR 4) hL))))
theorem A49 {a0 : Option Addr} {a1 : (Int × Int × Int × Int × Int × Int × Sl × Unit)} {a2 : Int} {a3 : Int} {K : Bool -> Wp} {w : World} (h : F49 a0 a1 a2 a3 K w) : Ac Tryz.prog 49 #[(.pointer a0), (vA c43 a1), (vI a2), (vI a3)] rB K w := tied Ai Tryz.func49 h49 _ h
def F75 (a0 : Option Addr) (a1 : Int) (a2 : Int) (a3 : Sl) (K : Bool -> Wp) : Wp := nn a0 λ p1 => ld (.sl) (p1.add 1) λ (x2 : Sl) => cN 18 #[(vI a1), (vI ((x2.len : Nat) : Int))] λ x3 => nn a0 λ p4 => ld (.sl) (p4.add 1) λ (x5 : Sl) => cN 18 #[(vI a2), (vI (W64 (((x5.len : Nat) : Int) - x3)))] λ x6 => cS 26 #[a3.v] λ x7 => drew <| nn a0 λ p8 => ld (.ptr) p8 λ (x9 : Option Addr) => cS 46 #[x7.v] λ x10 => keep (λ w => w.cell? p8 = some (Cell.val (.ptr) x9)) <| Af (.cells #[(vI x3), (vI (W64 (x3 + x6))), x10.v] 83) λ b11 => keep (λ w => w.cell? p8 = some (Cell.val (.ptr) x9)) <| cN 50 #[(.pointer x9), (.slice (some (at0 b11)) 1 1)] λ x12 => sif (x12 != 0) ( K false) ( nn a0 λ p13 => ld (.sl) (p13.add 1) λ (x14 : Sl) => cS 103 #[x14.v, (vI x3), (vI (W64 (x3 + x6))), x7.v] λ x15 => nn a0 λ p16 => stC (p16.add 1) x15.v <| K true)
def h75 : Hint := (hS (hR 1) (hS (hR 8) (hS (hR 12) (hS (hR 3) (hS (.region (lR 12) (hO 12)) (hS (hS (hR 2) (hC (hS (hR 1) hL) hL)) (hS (hR 12) (hS (hR 1) hL))))))))
theorem A75 {a0 : Option Addr} {a1 : Int} {a2 : Int} {a3 : Sl} {K : Bool -> Wp} {w : World} (h : F75 a0 a1 a2 a3 K w) : Ac Tryz.prog 75 #[(.pointer a0), (vI a1), (vI a2), a3.v] rB K w := tied Ai Tryz.func75 h75 _ h
def F76 (a0 : Option Addr) (a1 : (Int × Int × Int × Int × Int × Int × Sl × Unit)) (K : Bool -> Wp) : Wp := Af (.cells #[(vI a1.1), (vI a1.2.1), (vI a1.2.2.1), (vI a1.2.2.2.1), (vI a1.2.2.2.2.1), (vI a1.2.2.2.2.2.1), a1.2.2.2.2.2.2.1.v] 43) λ b1 => lI (ad b1 3) λ x2 => lI (ad b1 4) λ x3 => lI (ad b1 5) λ x4 => Af (.cells #[(vI 0), (vI 0), (vI 0)] 39) λ b5 => Ad (at0 b5) (.agg #[(vI x2), (vI x3), (vI x4)]) 3 <| lI (ad b1 1) λ x6 => sif (x6 == 1) ( join (S := Addr × Int × Unit) (λ J7 => drew <| nn a0 λ p9 => ld (.ptr) p9 λ (x10 : Option Addr) => lI (ad b1 2) λ x11 => lds c39 (at0 b5) λ (x12 : I3) => both ( Af (.cells #[(vI 0), (vI 0), (vI 0)] 34) λ b13 => keep (λ w => Ak w (at0 b5) 0 (Cells.vals c39 x12)) <| keep (λ w => w.cell? (ad b1 2) = some (Cell.val cI x11)) <| keep (λ w => w.cell? p9 = some (Cell.val (.ptr) x10)) <| Ac Tryz.prog 29 #[(.pointer x10), (vI x11), (vA c39 x12)] (.tup [(.agg c34), (.one cI)]) λ (x14 : (I3 × Int × Unit)) => Ad (at0 b13) (vA c34 x14.1) 3 <| J7 ((at0 b13), x14.2.1, ())) <| Ac Tryz.prog 29 #[(.pointer x10), (vI x11), (vA c39 x12)] (.tup [(.agg c34), (.one cI)]) λ (x15 : (I3 × Int × Unit)) => both ( Af (.cells #[(vI 0), (vI 0), (vI 0)] 34) λ b16 => keep (λ w => Ak w (at0 b5) 0 (Cells.vals c39 x12)) <| keep (λ w => w.cell? (ad b1 2) = some (Cell.val cI x11)) <| keep (λ w => w.cell? p9 = some (Cell.val (.ptr) x10)) <| Ad (at0 b16) (vA c34 x15.1) 3 <| J7 ((at0 b16), x15.2.1, ())) <| nothing) λ s8 => join (S := Addr × Int × Unit) (λ J17 => drew <| nn a0 λ p19 => ld (.sl) (p19.add 1) λ (x20 : Sl) => lI (ad b1 2) λ x21 => lI (ad b1 3) λ x22 => lI (ad b1 4) λ x23 => both ( Af (.cells #[(vI 0), (vI 0), (vI 0)] 149) λ b24 => keep (λ w => w.cell? (ad b1 4) = some (Cell.val cI x23)) <| keep (λ w => w.cell? (ad b1 3) = some (Cell.val cI x22)) <| keep (λ w => w.cell? (ad b1 2) = some (Cell.val cI x21)) <| keep (λ w => w.cell? (p19.add 1) = some (Cell.val (.sl) x20)) <| Ac Tryz.prog 104 #[x20.v, (vI x21), (vI x22), (vI x23)] (.tup [(.agg Az), (.one cI)]) λ (x25 : (I3 × Int × Unit)) => Ad (at0 b24) (vA Az x25.1) 3 <| J17 ((at0 b24), x25.2.1, ())) <| Ac Tryz.prog 104 #[x20.v, (vI x21), (vI x22), (vI x23)] (.tup [(.agg Az), (.one cI)]) λ (x26 : (I3 × Int × Unit)) => both ( Af (.cells #[(vI 0), (vI 0), (vI 0)] 149) λ b27 => keep (λ w => w.cell? (ad b1 4) = some (Cell.val cI x23)) <| keep (λ w => w.cell? (ad b1 3) = some (Cell.val cI x22)) <| keep (λ w => w.cell? (ad b1 2) = some (Cell.val cI x21)) <| keep (λ w => w.cell? (p19.add 1) = some (Cell.val (.sl) x20)) <| Ad (at0 b27) (vA Az x26.1) 3 <| J17 ((at0 b27), x26.2.1, ())) <| nothing) λ s18 => lds c34 s8.1 λ (x28 : I3) => lds Az s18.1 λ (x29 : I3) => cB 105 #[(vA c34 x28), (vI s8.2.1), (vA Az x29), (vI s18.2.1)] λ x30 => K x30) ( sif (x6 == 2) ( join (S := Addr × Int × Unit) (λ J31 => drew <| nn a0 λ p33 => ld (.ptr) p33 λ (x34 : Option Addr) => lI (ad b1 2) λ x35 => lds c39 (at0 b5) λ (x36 : I3) => both ( Af (.cells #[(vI 0), (vI 0), (vI 0)] 34) λ b37 => keep (λ w => Ak w (at0 b5) 0 (Cells.vals c39 x36)) <| keep (λ w => w.cell? (ad b1 2) = some (Cell.val cI x35)) <| keep (λ w => w.cell? p33 = some (Cell.val (.ptr) x34)) <| Ac Tryz.prog 31 #[(.pointer x34), (vI x35), (vA c39 x36)] (.tup [(.agg c34), (.one cI)]) λ (x38 : (I3 × Int × Unit)) => Ad (at0 b37) (vA c34 x38.1) 3 <| J31 ((at0 b37), x38.2.1, ())) <| Ac Tryz.prog 31 #[(.pointer x34), (vI x35), (vA c39 x36)] (.tup [(.agg c34), (.one cI)]) λ (x39 : (I3 × Int × Unit)) => both ( Af (.cells #[(vI 0), (vI 0), (vI 0)] 34) λ b40 => keep (λ w => Ak w (at0 b5) 0 (Cells.vals c39 x36)) <| keep (λ w => w.cell? (ad b1 2) = some (Cell.val cI x35)) <| keep (λ w => w.cell? p33 = some (Cell.val (.ptr) x34)) <| Ad (at0 b40) (vA c34 x39.1) 3 <| J31 ((at0 b40), x39.2.1, ())) <| nothing) λ s32 => join (S := Addr × Int × Unit) (λ J41 => drew <| nn a0 λ p43 => ld (.sl) (p43.add 1) λ (x44 : Sl) => lI (ad b1 2) λ x45 => lI (ad b1 3) λ x46 => lI (ad b1 4) λ x47 => lI (ad b1 5) λ x48 => both ( Af (.cells #[(vI 0), (vI 0), (vI 0)] 149) λ b49 => keep (λ w => w.cell? (ad b1 5) = some (Cell.val cI x48)) <| keep (λ w => w.cell? (ad b1 4) = some (Cell.val cI x47)) <| keep (λ w => w.cell? (ad b1 3) = some (Cell.val cI x46)) <| keep (λ w => w.cell? (ad b1 2) = some (Cell.val cI x45)) <| keep (λ w => w.cell? (p43.add 1) = some (Cell.val (.sl) x44)) <| Ac Tryz.prog 106 #[x44.v, (vI x45), (vI x46), (vI x47), (vI x48)] (.tup [(.agg Az), (.one cI)]) λ (x50 : (I3 × Int × Unit)) => Ad (at0 b49) (vA Az x50.1) 3 <| J41 ((at0 b49), x50.2.1, ())) <| Ac Tryz.prog 106 #[x44.v, (vI x45), (vI x46), (vI x47), (vI x48)] (.tup [(.agg Az), (.one cI)]) λ (x51 : (I3 × Int × Unit)) => both ( Af (.cells #[(vI 0), (vI 0), (vI 0)] 149) λ b52 => keep (λ w => w.cell? (ad b1 5) = some (Cell.val cI x48)) <| keep (λ w => w.cell? (ad b1 4) = some (Cell.val cI x47)) <| keep (λ w => w.cell? (ad b1 3) = some (Cell.val cI x46)) <| keep (λ w => w.cell? (ad b1 2) = some (Cell.val cI x45)) <| keep (λ w => w.cell? (p43.add 1) = some (Cell.val (.sl) x44)) <| Ad (at0 b52) (vA Az x51.1) 3 <| J41 ((at0 b52), x51.2.1, ())) <| nothing) λ s42 => lds c34 s32.1 λ (x53 : I3) => lds Az s42.1 λ (x54 : I3) => cB 105 #[(vA c34 x53), (vI s32.2.1), (vA Az x54), (vI s42.2.1)] λ x55 => K x55) ( sif (x6 == 3) ( join (S := Addr × Int × Unit) (λ J56 => drew <| nn a0 λ p58 => ld (.ptr) p58 λ (x59 : Option Addr) => lI (ad b1 2) λ x60 => lds c39 (at0 b5) λ (x61 : I3) => both ( Af (.cells #[(vI 0), (vI 0), (vI 0)] 34) λ b62 => keep (λ w => Ak w (at0 b5) 0 (Cells.vals c39 x61)) <| keep (λ w => w.cell? (ad b1 2) = some (Cell.val cI x60)) <| keep (λ w => w.cell? p58 = some (Cell.val (.ptr) x59)) <| Ac Tryz.prog 19 #[(.pointer x59), (vI x60), (vA c39 x61)] (.tup [(.agg c34), (.one cI)]) λ (x63 : (I3 × Int × Unit)) => Ad (at0 b62) (vA c34 x63.1) 3 <| J56 ((at0 b62), x63.2.1, ())) <| Ac Tryz.prog 19 #[(.pointer x59), (vI x60), (vA c39 x61)] (.tup [(.agg c34), (.one cI)]) λ (x64 : (I3 × Int × Unit)) => both ( Af (.cells #[(vI 0), (vI 0), (vI 0)] 34) λ b65 => keep (λ w => Ak w (at0 b5) 0 (Cells.vals c39 x61)) <| keep (λ w => w.cell? (ad b1 2) = some (Cell.val cI x60)) <| keep (λ w => w.cell? p58 = some (Cell.val (.ptr) x59)) <| Ad (at0 b65) (vA c34 x64.1) 3 <| J56 ((at0 b65), x64.2.1, ())) <| nothing) λ s57 => join (S := Addr × Int × Unit) (λ J66 => drew <| nn a0 λ p68 => ld (.sl) (p68.add 1) λ (x69 : Sl) => lI (ad b1 2) λ x70 => lI (ad b1 3) λ x71 => lI (ad b1 4) λ x72 => lI (ad b1 5) λ x73 => both ( Af (.cells #[(vI 0), (vI 0), (vI 0)] 149) λ b74 => keep (λ w => w.cell? (ad b1 5) = some (Cell.val cI x73)) <| keep (λ w => w.cell? (ad b1 4) = some (Cell.val cI x72)) <| keep (λ w => w.cell? (ad b1 3) = some (Cell.val cI x71)) <| keep (λ w => w.cell? (ad b1 2) = some (Cell.val cI x70)) <| keep (λ w => w.cell? (p68.add 1) = some (Cell.val (.sl) x69)) <| Ac Tryz.prog 107 #[x69.v, (vI x70), (vI x71), (vI x72), (vI x73)] (.tup [(.agg Az), (.one cI)]) λ (x75 : (I3 × Int × Unit)) => Ad (at0 b74) (vA Az x75.1) 3 <| J66 ((at0 b74), x75.2.1, ())) <| Ac Tryz.prog 107 #[x69.v, (vI x70), (vI x71), (vI x72), (vI x73)] (.tup [(.agg Az), (.one cI)]) λ (x76 : (I3 × Int × Unit)) => both ( Af (.cells #[(vI 0), (vI 0), (vI 0)] 149) λ b77 => keep (λ w => w.cell? (ad b1 5) = some (Cell.val cI x73)) <| keep (λ w => w.cell? (ad b1 4) = some (Cell.val cI x72)) <| keep (λ w => w.cell? (ad b1 3) = some (Cell.val cI x71)) <| keep (λ w => w.cell? (ad b1 2) = some (Cell.val cI x70)) <| keep (λ w => w.cell? (p68.add 1) = some (Cell.val (.sl) x69)) <| Ad (at0 b77) (vA Az x76.1) 3 <| J66 ((at0 b77), x76.2.1, ())) <| nothing) λ s67 => lds c34 s57.1 λ (x78 : I3) => lds Az s67.1 λ (x79 : I3) => cB 105 #[(vA c34 x78), (vI s57.2.1), (vA Az x79), (vI s67.2.1)] λ x80 => K x80) ( sif (x6 == 4) ( join (S := Addr × Int × Unit) (λ J81 => drew <| nn a0 λ p83 => ld (.ptr) p83 λ (x84 : Option Addr) => lI (ad b1 2) λ x85 => lds c39 (at0 b5) λ (x86 : I3) => both ( Af (.cells #[(vI 0), (vI 0), (vI 0)] 34) λ b87 => keep (λ w => Ak w (at0 b5) 0 (Cells.vals c39 x86)) <| keep (λ w => w.cell? (ad b1 2) = some (Cell.val cI x85)) <| keep (λ w => w.cell? p83 = some (Cell.val (.ptr) x84)) <| Ac Tryz.prog 33 #[(.pointer x84), (vI x85), (vA c39 x86)] (.tup [(.agg c34), (.one cI)]) λ (x88 : (I3 × Int × Unit)) => Ad (at0 b87) (vA c34 x88.1) 3 <| J81 ((at0 b87), x88.2.1, ())) <| Ac Tryz.prog 33 #[(.pointer x84), (vI x85), (vA c39 x86)] (.tup [(.agg c34), (.one cI)]) λ (x89 : (I3 × Int × Unit)) => both ( Af (.cells #[(vI 0), (vI 0), (vI 0)] 34) λ b90 => keep (λ w => Ak w (at0 b5) 0 (Cells.vals c39 x86)) <| keep (λ w => w.cell? (ad b1 2) = some (Cell.val cI x85)) <| keep (λ w => w.cell? p83 = some (Cell.val (.ptr) x84)) <| Ad (at0 b90) (vA c34 x89.1) 3 <| J81 ((at0 b90), x89.2.1, ())) <| nothing) λ s82 => join (S := Addr × Int × Unit) (λ J91 => drew <| nn a0 λ p93 => ld (.sl) (p93.add 1) λ (x94 : Sl) => lI (ad b1 2) λ x95 => lI (ad b1 3) λ x96 => lI (ad b1 4) λ x97 => both ( Af (.cells #[(vI 0), (vI 0), (vI 0)] 149) λ b98 => keep (λ w => w.cell? (ad b1 4) = some (Cell.val cI x97)) <| keep (λ w => w.cell? (ad b1 3) = some (Cell.val cI x96)) <| keep (λ w => w.cell? (ad b1 2) = some (Cell.val cI x95)) <| keep (λ w => w.cell? (p93.add 1) = some (Cell.val (.sl) x94)) <| Ac Tryz.prog 108 #[x94.v, (vI x95), (vI x96), (vI x97)] (.tup [(.agg Az), (.one cI)]) λ (x99 : (I3 × Int × Unit)) => Ad (at0 b98) (vA Az x99.1) 3 <| J91 ((at0 b98), x99.2.1, ())) <| Ac Tryz.prog 108 #[x94.v, (vI x95), (vI x96), (vI x97)] (.tup [(.agg Az), (.one cI)]) λ (x100 : (I3 × Int × Unit)) => both ( Af (.cells #[(vI 0), (vI 0), (vI 0)] 149) λ b101 => keep (λ w => w.cell? (ad b1 4) = some (Cell.val cI x97)) <| keep (λ w => w.cell? (ad b1 3) = some (Cell.val cI x96)) <| keep (λ w => w.cell? (ad b1 2) = some (Cell.val cI x95)) <| keep (λ w => w.cell? (p93.add 1) = some (Cell.val (.sl) x94)) <| Ad (at0 b101) (vA Az x100.1) 3 <| J91 ((at0 b101), x100.2.1, ())) <| nothing) λ s92 => lds c34 s82.1 λ (x102 : I3) => lds Az s92.1 λ (x103 : I3) => cB 105 #[(vA c34 x102), (vI s82.2.1), (vA Az x103), (vI s92.2.1)] λ x104 => K x104) ( sif (x6 == 5) ( join (S := Addr × Int × Unit) (λ J105 => drew <| nn a0 λ p107 => ld (.ptr) p107 λ (x108 : Option Addr) => lI (ad b1 2) λ x109 => lds c39 (at0 b5) λ (x110 : I3) => both ( Af (.cells #[(vI 0), (vI 0), (vI 0)] 34) λ b111 => keep (λ w => Ak w (at0 b5) 0 (Cells.vals c39 x110)) <| keep (λ w => w.cell? (ad b1 2) = some (Cell.val cI x109)) <| keep (λ w => w.cell? p107 = some (Cell.val (.ptr) x108)) <| Ac Tryz.prog 20 #[(.pointer x108), (vI x109), (vA c39 x110)] (.tup [(.agg c34), (.one cI)]) λ (x112 : (I3 × Int × Unit)) => Ad (at0 b111) (vA c34 x112.1) 3 <| J105 ((at0 b111), x112.2.1, ())) <| Ac Tryz.prog 20 #[(.pointer x108), (vI x109), (vA c39 x110)] (.tup [(.agg c34), (.one cI)]) λ (x113 : (I3 × Int × Unit)) => both ( Af (.cells #[(vI 0), (vI 0), (vI 0)] 34) λ b114 => keep (λ w => Ak w (at0 b5) 0 (Cells.vals c39 x110)) <| keep (λ w => w.cell? (ad b1 2) = some (Cell.val cI x109)) <| keep (λ w => w.cell? p107 = some (Cell.val (.ptr) x108)) <| Ad (at0 b114) (vA c34 x113.1) 3 <| J105 ((at0 b114), x113.2.1, ())) <| nothing) λ s106 => join (S := Addr × Int × Unit) (λ J115 => drew <| nn a0 λ p117 => ld (.sl) (p117.add 1) λ (x118 : Sl) => lI (ad b1 2) λ x119 => lI (ad b1 3) λ x120 => lI (ad b1 4) λ x121 => lI (ad b1 5) λ x122 => both ( Af (.cells #[(vI 0), (vI 0), (vI 0)] 149) λ b123 => keep (λ w => w.cell? (ad b1 5) = some (Cell.val cI x122)) <| keep (λ w => w.cell? (ad b1 4) = some (Cell.val cI x121)) <| keep (λ w => w.cell? (ad b1 3) = some (Cell.val cI x120)) <| keep (λ w => w.cell? (ad b1 2) = some (Cell.val cI x119)) <| keep (λ w => w.cell? (p117.add 1) = some (Cell.val (.sl) x118)) <| Ac Tryz.prog 109 #[x118.v, (vI x119), (vI x120), (vI x121), (vI x122)] (.tup [(.agg Az), (.one cI)]) λ (x124 : (I3 × Int × Unit)) => Ad (at0 b123) (vA Az x124.1) 3 <| J115 ((at0 b123), x124.2.1, ())) <| Ac Tryz.prog 109 #[x118.v, (vI x119), (vI x120), (vI x121), (vI x122)] (.tup [(.agg Az), (.one cI)]) λ (x125 : (I3 × Int × Unit)) => both ( Af (.cells #[(vI 0), (vI 0), (vI 0)] 149) λ b126 => keep (λ w => w.cell? (ad b1 5) = some (Cell.val cI x122)) <| keep (λ w => w.cell? (ad b1 4) = some (Cell.val cI x121)) <| keep (λ w => w.cell? (ad b1 3) = some (Cell.val cI x120)) <| keep (λ w => w.cell? (ad b1 2) = some (Cell.val cI x119)) <| keep (λ w => w.cell? (p117.add 1) = some (Cell.val (.sl) x118)) <| Ad (at0 b126) (vA Az x125.1) 3 <| J115 ((at0 b126), x125.2.1, ())) <| nothing) λ s116 => lds c34 s106.1 λ (x127 : I3) => lds Az s116.1 λ (x128 : I3) => cB 105 #[(vA c34 x127), (vI s106.2.1), (vA Az x128), (vI s116.2.1)] λ x129 => K x129) ( K true)))))
def h76 : Hint := (hS (hR 2) (hS (hR 9) (hS (hS (hR 2) (.block (hS (hR 2) (hC (hJ (0xffe0000000c0, [(6, (.one .addr)), (7, tI)]) (.region [0, 1, 2, 3, 4, 5, 6, 7, 8, 9, 10, 12, 13] (.float [11] (.ops 7 (.alt none (.plain (hO 6)) (.ops 4 (.alt none (.plain (hO 2)) .stop)))))) (hJ (0x3fff000000000300, [(8, (.one .addr)), (9, tI)]) (.region [0, 1, 2, 3, 4, 5, 6, 7, 8, 9, 10, 11, 12, 13, 15, 16] (.float [14] (.ops 10 (.alt none (.plain (hO 6)) (.ops 4 (.alt none (.plain (hO 2)) .stop)))))) (hS (hR 6) hL))) (hS (hR 2) (hC (hJ (0xffe00000000000000c00, [(10, (.one .addr)), (11, tI)]) (.region [0, 1, 2, 3, 4, 5, 6, 7, 8, 9, 10, 12, 13] (.float [11] (.ops 7 (.alt none (.plain (hO 6)) (.ops 4 (.alt none (.plain (hO 2)) .stop)))))) (hJ ((mR [(12, 14), (80, 96)]), [(12, (.one .addr)), (13, tI)]) (.region [0, 1, 2, 3, 4, 5, 6, 7, 8, 9, 10, 11, 12, 13, 14, 15, 17, 18] (.float [16] (.ops 12 (.alt none (.plain (hO 6)) (.ops 4 (.alt none (.plain (hO 2)) .stop)))))) (hS (hR 6) hL))) (hS (hR 2) (hC (hJ ((mR [(14, 16), (103, 114)]), [(14, (.one .addr)), (15, tI)]) (.region [0, 1, 2, 3, 4, 5, 6, 7, 8, 9, 10, 12, 13] (.float [11] (.ops 7 (.alt none (.plain (hO 6)) (.ops 4 (.alt none (.plain (hO 2)) .stop)))))) (hJ ((mR [(16, 18), (114, 130)]), [(16, (.one .addr)), (17, tI)]) (.region [0, 1, 2, 3, 4, 5, 6, 7, 8, 9, 10, 11, 12, 13, 14, 15, 17, 18] (.float [16] (.ops 12 (.alt none (.plain (hO 6)) (.ops 4 (.alt none (.plain (hO 2)) .stop)))))) (hS (hR 6) hL))) (hS (hR 2) (hC (hJ ((mR [(18, 20), (137, 148)]), [(18, (.one .addr)), (19, tI)]) (.region [0, 1, 2, 3, 4, 5, 6, 7, 8, 9, 10, 12, 13] (.float [11] (.ops 7 (.alt none (.plain (hO 6)) (.ops 4 (.alt none (.plain (hO 2)) .stop)))))) (hJ ((mR [(20, 22), (148, 162)]), [(20, (.one .addr)), (21, tI)]) (.region [0, 1, 2, 3, 4, 5, 6, 7, 8, 9, 10, 11, 12, 13, 15, 16] (.float [14] (.ops 10 (.alt none (.plain (hO 6)) (.ops 4 (.alt none (.plain (hO 2)) .stop)))))) (hS (hR 6) hL))) (hS (hR 2) (hC (hJ ((mR [(22, 24), (169, 180)]), [(22, (.one .addr)), (23, tI)]) (.region [0, 1, 2, 3, 4, 5, 6, 7, 8, 9, 10, 12, 13] (.float [11] (.ops 7 (.alt none (.plain (hO 6)) (.ops 4 (.alt none (.plain (hO 2)) .stop)))))) (hJ ((mR [(24, 26), (180, 196)]), [(24, (.one .addr)), (25, tI)]) (.region [0, 1, 2, 3, 4, 5, 6, 7, 8, 9, 10, 11, 12, 13, 14, 15, 17, 18] (.float [16] (.ops 12 (.alt none (.plain (hO 6)) (.ops 4 (.alt none (.plain (hO 2)) .stop)))))) (hS (hR 6) hL))) hL)))))))))))) (hS (hR 1) hL))))
theorem A76 {a0 : Option Addr} {a1 : (Int × Int × Int × Int × Int × Int × Sl × Unit)} {K : Bool -> Wp} {w : World} (h : F76 a0 a1 K w) : Ac Tryz.prog 76 #[(.pointer a0), (vA c43 a1)] rB K w := tied Ai Tryz.func76 h76 _ h
def F103 (a0 : Sl) (a1 : Int) (a2 : Int) (a3 : Sl) (K : Sl -> Wp) : Wp := slc a0.a 0 a1 ((a0.cap : Nat) : Int) a0.cap 1 λ x1 => cS 32 #[x1.v, a3.v] λ x2 => slc a0.a a2 ((a0.len : Nat) : Int) ((a0.cap : Nat) : Int) a0.cap 1 λ x3 => cS 32 #[x2.v, x3.v] λ x4 => K x4
def Co6 : Hint := (hS (hR 1) (hS (hR 6) (hS (hR 6) hL)))
theorem Da2 {a0 : Sl} {a1 : Int} {a2 : Int} {a3 : Sl} {K : Sl -> Wp} {w : World} (h : F103 a0 a1 a2 a3 K w) : Ac Tryz.prog 103 #[a0.v, (vI a1), (vI a2), a3.v] rS K w := tied Ai Tryz.func103 Co6 _ h
def F105 (a0 : I3) (a1 : Int) (a2 : I3) (a3 : Int) (K : Bool -> Wp) : Wp := Af (.cells #[(vI a0.1), (vI a0.2.1), (vI a0.2.2.1)] 34) λ b1 => Af (.cells #[(vI a2.1), (vI a2.2.1), (vI a2.2.2.1)] 149) λ b2 => lI (at0 b1) λ x3 => lI (at0 b2) λ x4 => sif (x3 == x4) ( lI (ad b1 1) λ x5 => lI (ad b2 1) λ x6 => sif (x5 == x6) ( lI (ad b1 2) λ x7 => lI (ad b2 2) λ x8 => sif (x7 == x8) ( K (a1 == a3)) ( K false)) ( K false)) ( K false)
def Co4 : Hint := (hS (hR 3) (hS (.region [] (.ops 6 (.split 14 (.ops 7 (.split 21 (.ops 7 (.split 28 (hO 5) (.skips 3 (hO 2)))) (.skips 5 (.ops 2 (.skips 3 (hO 2)))))) (.skips 5 (.ops 2 (.skips 5 (.ops 2 (.skips 3 (hO 2))))))))) hL))
theorem Da0 {a0 : I3} {a1 : Int} {a2 : I3} {a3 : Int} {K : Bool -> Wp} {w : World} (h : F105 a0 a1 a2 a3 K w) : Ac Tryz.prog 105 #[(vA c34 a0), (vI a1), (vA Az a2), (vI a3)] rB K w := tied Ai Tryz.func105 Co4 _ h
end Go.Proofs.YtabcpghhfeplaaaGreat
namespace Go.Proofs.YtabcpghhfeplaaaGreat
open Go Go.Vx Cdc Trx Gly Clu Lns Obx
section
variable {w w' : World} {S : Nat -> Prop} {p : Nat} {e : Enc} {lim na : Nat} {O : Nat -> Prop} {M : Parts}
abbrev In64 (x : Int) : Prop := -(2 ^ 63) <= x /\ x < 2 ^ 63
def within (x : Int) (n : Nat) : Nat := (if x < 0 then -(x + 1) else x).toNat % (n + 1)
theorem Ac7 (x : Int) (n : Nat) : within x n <= n := by have := Nat.mod_lt (if x < 0 then -(x + 1) else x).toNat (show 0 < n + 1 by omega); unfold within; omega
theorem Zy {x : Int} {n : Nat} (hx : In64 x) (hn : n < 2 ^ 62) {K : Int -> Wp} (hK : K ((within x n : Nat) : Int) w) : Ac Tryz.prog 18 #[.int .i64 x, .int .i64 (n : Int)] rI K w := by
 refine A18 ?_
 unfold F18
 have ew : W64 ((n : Int) + 1) = ((n + 1 : Nat) : Int) := by rw [wrap64 (by omega) (by omega)]; omega
 rw [ew]
 refine Ae (λ y W => y = ((((if x < 0 then -(x + 1) else x).toNat : Nat) : Int), ()) /\ w = W) ?_ ?_
 ·refine Aa (λ h => ⟨?_, rfl⟩) (λ h => ⟨?_, rfl⟩)
  ·simp only [decide_eq_true_eq] at h
   rw [if_pos h, wrap64 (a := x + 1) (by omega) (by omega), wrap64 (by omega) (by omega)]
   congr 1; omega
  ·simp only [decide_eq_false_iff_not] at h
   rw [if_neg h]
   congr 1; omega
 rintro _ _ ⟨rfl, rfl⟩
 refine Ci (by omega) ?_
 rw [Int.tmod_eq_emod_of_nonneg (by omega)]
 exact hK
theorem By5 {A : List Int} {i : Nat} (h : isb A i = true) : sk A (nb A i + 1) = some (i + 1) := by
 have hi := Bo8 h
 have hn : nb A (i + 1) = nb A i + 1 := by rw [Kv, h]; rfl
 have hle : nb A i + 1 <= brs A := by rw [← hn, Gz]; exact Gv A _ _ (by omega)
 obtain ⟨m, hm⟩ := U9 hle
 obtain ⟨_, _, h3, h4⟩ := Lu hm
 rw [hm]
 have h1 : ¬ i + 1 < m := λ hc => by have := h4 _ hc; omega
 have h2 : ¬ m < i + 1 := λ hc => by have := Gv A m i (by omega); omega
 congr 1; omega
theorem Ax3 {s : Sl} {t : TypeId} (h : Txt w p e lim na O M) (hs : Aq w s t 1 (iv (atoms (aOf e M)))) {K : Bool -> Wp} (hK : ∀ w', Ext w w' -> K true w') :
  Ac Tryz.prog 36 #[.pointer (some (at0 p)), s.v] rB K w := by
 refine A36 ?_
 unfold F36
 have few := h.few; have lims := h.lims
 have hal := hal e M
 generalize hA : atoms (aOf e M) = A at *
 have hlen : A.length = s.len := by have := hs.len1; rwa [List.length_map] at this
 refine Ae (λ _ W => Ext w W) ?_ (λ _ W h => hK W h)
 refine Am (λ x W => ∃ i : Nat, i <= A.length /\ x = (((nb A i : Nat) : Int), (i : Int), ()) /\ Ext w W) (λ x _ => ((A.length : Int) - x.2.1).toNat) ⟨0, Nat.zero_le _, by rw [Jp]; rfl, Ext.refl w⟩ ?_
 rintro _ W ⟨i, hi, rfl, e1⟩
 refine Aa (λ hc => ?_) (λ _ => e1)
 simp only [decide_eq_true_eq] at hc
 have hil : i < A.length := by omega
 obtain ⟨a, ha⟩ : ∃ a, A[i]? = some a := ⟨_, List.getElem?_eq_getElem hil⟩
 have hnl := Tq A i
 have ew : W64 ((i : Int) + 1) = ((i + 1 : Nat) : Int) := by rw [wrap64 (by omega) (by omega)]; omega
 have ewn : W64 (((nb A i : Nat) : Int) + 1) = ((nb A i + 1 : Nat) : Int) := by rw [wrap64 (by omega) (by omega)]; omega
 rw [ew, ewn]
 have hs1 := hs.ext e1
 have rd : ∀ {K : Addr -> Int -> Wp}, (∀ p, K p a W) -> ix s.a s.len (i : Int) (λ p => ld (.int .i64) (p.add (scaled (Int.toNat (i : Int)) 1)) (K p)) W := λ hk => Iu (c := .int .i64) (xs := A) hs1 (by omega) (x := a) (by rw [Int.toNat_natCast]; exact ha) hk
 refine Ae (λ x W' => x = (((nb A (i + 1) : Nat) : Int), ()) /\ Ext w W') ?_ ?_
 ·refine Ae (λ x W' => x = (isb A i, ()) /\ W = W') ?_ ?_
  ·refine rd λ p1 => Aa (λ h10 => ⟨Aj ?_, rfl⟩) (λ h10 => rd λ p2 => Aa (λ h13 => Aa (λ he => ⟨Aj ?_, rfl⟩) (λ he => ?_)) (λ h13 => ⟨Aj ?_, rfl⟩))
   all_goals simp only [beq_iff_eq, beq_eq_false_iff_ne, ne_eq, true_iff, Bool.false_eq_true, false_iff] at *
   ·exact (Gi ha).2 (.inl h10)
   ·exact (Gi ha).2 (.inr ⟨h13, by rw [List.getElem?_eq_none (by omega)]; intro h; cases h⟩)
   ·obtain ⟨b, hb⟩ : ∃ b, A[i + 1]? = some b := ⟨_, List.getElem?_eq_getElem (by omega)⟩
    refine Iu (c := .int .i64) (xs := A) hs1 (by omega) (x := b) (by rw [Int.toNat_natCast]; exact hb) λ p3 => ⟨Aj ?_, rfl⟩
    rw [Gi ha, hb, bne_iff_ne, ne_eq, ne_eq, Option.some.injEq]
    exact ⟨λ h => .inr ⟨h13, h⟩, λ h => h.elim (λ h => absurd h h10) λ h => h.2⟩
   ·rw [Gi ha]
    exact λ h => h.elim h10 λ h => h13 h.1
  rintro _ _ ⟨rfl, rfl⟩
  refine Aa (λ hb => ?_) (λ hb => ?_)
  ·have hb : isb A i = true := hb
   have hn : nb A (i + 1) = nb A i + 1 := by rw [Kv, hb]; rfl
   refine Ae (λ x W' => x = (false, ()) /\ Ext w W') ?_ ?_
   ·refine Ll (h.ext e1) λ w2 e2 => ?_
    rw [hA, Int.toNat_natCast, hn]
    refine Aa (λ h => by simp at h) (λ _ => Uo (h.ext (e1.trans e2)) λ w3 e3 => ⟨?_, (e1.trans e2).trans e3⟩)
    rw [hA, O9, By5 hb]
    refine Aj ?_
    simp
   rintro _ w4 ⟨rfl, e4⟩
   refine Au ⟨?_, e4⟩
   rw [hn]
  ·have hb : isb A i = false := hb
   have hn : nb A (i + 1) = nb A i := by rw [Kv, hb]; rfl
   exact ⟨by rw [hn], e1⟩
 ·rintro _ W' ⟨rfl, e2⟩
  exact ⟨⟨i + 1, by omega, rfl, e2⟩, by dsimp only; omega⟩
theorem Ca9 (x : Int) : ∃ e : Enc, W64 ((1 : Int) + (W64 ((BitVec.toNat (BitVec.ofInt (IntKind.bits .i64) x &&& BitVec.ofInt (IntKind.bits .i64) (3 : Int)) : Nat) : Int))) = e.num := by
 have h : BitVec.toNat (BitVec.ofInt (IntKind.bits .i64) x &&& BitVec.ofInt (IntKind.bits .i64) (3 : Int)) <= 3 := by
  rw [BitVec.toNat_and]
  exact Nat.le_trans Nat.and_le_right (by decide)
 generalize BitVec.toNat (BitVec.ofInt (IntKind.bits .i64) x &&& BitVec.ofInt (IntKind.bits .i64) (3 : Int)) = n at h
 match n, h with
 | 0, _ => exact ⟨.u8, by decide⟩
 | 1, _ => exact ⟨.le, by decide⟩
 | 2, _ => exact ⟨.be, by decide⟩
 | 3, _ => exact ⟨.l1, by decide⟩
theorem Ca4 {s : Sl} {l : Bs} {n : Int} {K : Addr -> Int -> Wp} (h : SlX w s 1 (bv l)) (h0 : 0 <= n) {b : UInt8} (hb : l[n.toNat]? = some b) (hK : ∀ p, K p (b.toNat : Int) w) :
  ix s.a s.len n (λ p => ld (.int .u8) (p.add (scaled (Int.toNat n) 1)) (K p)) w := by
 rw [Br0] at h
 exact Bo6 (c := .int .u8) (xs := l.map λ b => (b.toNat : Int)) h h0 (x := (b.toNat : Int)) (by rw [List.getElem?_map, hb]; rfl) hK
abbrev stT (enc : Int) (s : Sl) : Cells.T c24 := (enc, s, ())
structure Bth (w : World) (N p : Nat) (e : Enc) (O : Nat -> Prop) (M : Parts) (s : Sl) : Prop where
 txt : Txt w p e 65536 0 O M
 lst : Ah w N s 3 1 (iv (atoms (aOf e M)))
 new : ∀ k, O k -> N <= k
theorem Qu {enc : Int} {s : Sl} {l : Bs} (hs : SlX w s 1 (bv l)) (hl : l.length < 2 ^ 60) {K : (Option Addr × Sl × Unit) × Bool × Unit -> Wp}
  (hK : ∀ p e O M s' w', Bth w' w.heap.size p e O M s' -> Ext w w' -> aOf e M = ats e (l.take (min l.length 50000)) -> W64 ((1 : Int) + (W64 ((BitVec.toNat (BitVec.ofInt (IntKind.bits .i64) enc &&& BitVec.ofInt (IntKind.bits .i64) (3 : Int)) : Nat) : Int))) = e.num -> (∀ k, s'.blk k -> ¬ O k) -> K ((some (at0 p), s', ()), true, ()) w') :
  Ac Tryz.prog 16 #[.agg (Cells.vals c24 (stT enc s)).toArray] (.tup [(.agg c28), (.one .bool)]) K w := by
 refine A16 (a0 := stT enc s) ?_
 unfold F16
 have hlen : l.length = s.len := by have := hs.len1; rwa [List.length_map] at this
 let Z : Obj := .cells #[.pointer none, .slice none 0 0] 28 (0, 0)
 let Q : Obj := .cells (Cells.vals c24 (stT enc s)).toArray 24 (0, 0)
 refine (St.start w).Af λ b1 w1 S1 e1 => S1.Af λ b2 w2 S2 e2 => ?_
 have S2 : St (λ _ => False) w w2 [(b2, Z), (b1, Q)] := S2
 refine S2.ld 1 rfl (x := enc) rfl ?_
 refine Ae (λ x W => ∃ m, m = min l.length 50000 /\ Ah W w.heap.size x.1 5 1 (bv (l.take m)) /\ St (λ _ => False) w W [(b2, Z), (b1, Q)]) ?_ ?_
 ·refine Am (λ x W => ∃ i : Nat, i <= l.length /\ i <= 50000 /\ x.2 = ((i : Int), ()) /\ Ah W w2.heap.size x.1 5 1 (bv (l.take i)) /\ St (λ _ => False) w W [(b2, Z), (b1, Q)] /\ w2.heap.size <= W.heap.size) (λ x _ => ((l.length : Int) - x.2.1).toNat) ⟨0, Nat.zero_le _, Nat.zero_le _, rfl, Ah.nil _ _ _ _, S2, Nat.le_refl _⟩ ?_
  rintro ⟨r, _⟩ W ⟨i, hi, hi2, rfl, hr, SW, hW⟩
  dsimp only at hr ⊢
  have hrl := hr.len1
  rw [List.length_map, List.length_take] at hrl
  refine Ae (λ x W' => x = (decide (i < l.length /\ i < 50000), ()) /\ W = W') ?_ ?_
  ·refine SW.ld 1 rfl (x := s) rfl (Aa (λ h => ⟨Aj ?_, rfl⟩) (λ h => ⟨Aj ?_, rfl⟩))
   all_goals simp only [decide_eq_true_eq, decide_eq_false_iff_not, Bool.false_eq_true, false_iff] at *
   all_goals omega
  rintro _ _ ⟨rfl, rfl⟩
  refine Aa (λ hc => ?_) (λ hc => ?_)
  ·simp only [decide_eq_true_eq] at hc
   obtain ⟨b, hb⟩ : ∃ b, l[i]? = some b := ⟨_, List.getElem?_eq_getElem hc.1⟩
   have hsW : SlX W s 1 (bv l) := hs.ext SW.upd
   refine SW.ld 1 rfl (x := s) rfl (Ca4 hsW (by omega) (b := b) (by rw [Int.toNat_natCast]; exact hb) λ q => Bo λ b14 w4 e4 n4 hb4 _ => ?_)
   have hbox : SlX w4 ⟨some (at0 b14), 1, 1⟩ 1 (bv [b]) := (Aq.Hr n4 (n := 1) (sz := 1) rfl).x
   refine Du EBy EBy.ts_ (x := ⟨some (at0 b14), 1, 1⟩) (hr.ext e4) hbox (Bq9 [b]) (by
    show (r.len + 1 + (r.len + 1) / 4 + 512) * 1 <= 2 ^ 48
    omega) (by have := e4.size; omega) λ r' w5 o5 l5 u5 k5 => ?_
   have ew : W64 ((i : Int) + 1) = ((i + 1 : Nat) : Int) := by rw [wrap64 (by omega) (by omega)]; omega
   rw [ew]
   have e5 : bv (l.take i) ++ bv [b] = bv (l.take (i + 1)) := by rw [List.take_add_one, hb]; simp [bv]
   rw [e5] at o5
   refine ⟨⟨i + 1, by omega, by omega, rfl, o5, (SW.ext e4).fresh u5 (λ k hk => .inr ?_) (λ x hx hk => ?_), ?_⟩, by omega⟩
   ·have := hr.Di hk; have := S2.upd.size; omega
   ·have h1 := hr.Di hk
    have h2 := S2.lt x hx
    omega
   ·have := e4.size; have := u5.size; omega
  ·simp only [decide_eq_false_iff_not] at hc
   exact ⟨i, by omega, hr.mono S2.upd.size, SW⟩
 rintro ⟨d, _⟩ w3 ⟨m, hm, hd, S3⟩
 dsimp only at hd ⊢
 obtain ⟨e, he⟩ := Ca9 enc
 rw [he]
 have hml : (l.take m).length <= 50000 := by rw [List.length_take]; omega
 refine Aq8 (e := e) hd.in (by omega) λ a w4 o4 e4 => ?_
 refine Bg6 (e := e) (lim := 65536) (hd.in.ext e4) (by omega) (by decide) λ p O M w5 tx hM hB e5 hO => ?_
 have S5 := (S3.ext e4).ext e5
 have o5 := o4.ext e5
 rw [← hM] at o5
 refine Ae (λ x W => x = (false, ()) /\ w5 = W) (Aa (λ h => by simp at h) (λ _ => ⟨rfl, rfl⟩)) ?_
 rintro _ _ ⟨rfl, rfl⟩
 refine Au (Ax3 tx o5.in λ w6 e6 => ?_)
 have S6 := S5.ext e6
 have h3 := S3.upd.size
 have h4 := e4.size
 refine S6.Ad 0 rfl rfl rfl rfl λ w7 S7 u7 => S7.lds 0 (some (at0 p), a, ()) rfl (hK p e O M a w7 ⟨?_, ?_, λ k hk => ?_⟩ S7.upd (by rw [hM, hm]) he λ k hk hO' => by
  have h1 := o4.in.Og hk
  have := hO k hO'
  omega)
 ·refine (tx.ext e6).upd u7 (λ k hk hS => ?_) (Eh.box (S6.at_ 0 rfl) (by decide))
  have := hO k hk
  have hb2 := S5.lt _ List.mem_cons_self
  have hb2' := S3.lt _ List.mem_cons_self
  simp only at hb2'
  omega
 ·exact ((o5.ext e6).mono h3).box (S6.at_ 0 rfl) (by decide) u7
 ·have := hO k hk; omega
theorem An7 {enc : Int} {s : Sl} {l : Bs} (hs : SlX w s 1 (bv l)) (hl : l.length < 2 ^ 60) {K : (Option Addr × Sl × Unit) × Bool × Unit -> Wp}
  (hK : ∀ p e O M s' w', Bth w' w.heap.size p e O M s' -> Ext w w' -> (l.length <= 50000 -> aOf e M = ats e l) -> W64 ((1 : Int) + (W64 ((BitVec.toNat (BitVec.ofInt (IntKind.bits .i64) enc &&& BitVec.ofInt (IntKind.bits .i64) (3 : Int)) : Nat) : Int))) = e.num -> K ((some (at0 p), s', ()), true, ()) w') :
  Ac Tryz.prog 16 #[.agg (Cells.vals c24 (stT enc s)).toArray] (.tup [(.agg c28), (.one .bool)]) K w :=
 Qu hs hl λ p e O M s' w' hB x hM he _ => hK p e O M s' w' hB x (λ h => by rw [hM, List.take_of_length_le (by omega)]) he
end
section
variable {w w' : World} {S : Nat -> Prop} {p : Nat} {e : Enc} {lim na : Nat} {O : Nat -> Prop} {M : Parts}
abbrev exB : Bs := [40, 34, 120, 34, 41]
abbrev exA : List Int := [40, 34, 120, 34, 41]
theorem Cb9 : atoms (ats .u8 exB) = exA := by
 have one : ∀ (b : UInt8) (r : Bs), b.toNat < 128 -> ats .u8 (b :: r) = ((b.toNat : Int), 1) :: ats .u8 r := by
  intro b r hb
  have h1 : nx .u8 (b :: r) = ((b.toNat : Int), 1) := by
   have hbn : Eo b.toNat = (1, 0, 0) := by unfold Eo; rw [if_pos hb]
   have hr : rowOf (b :: r) = (1, 1) := by simp only [rowOf, hbn]; rw [if_pos (by decide)]
   show nx8 (b :: r) = _
   simp only [nx8, hr]
   rw [if_neg (by decide)]
   rfl
  rw [Lm .u8 (by simp), h1]; rfl
 rw [one _ _ (by decide), one _ _ (by decide), one _ _ (by decide), one _ _ (by decide), one _ _ (by decide), Ju]
 rfl
theorem Bo2 {b n : Nat} {l : Bs} {c : Array Value} {K : Sl -> Wp} (hb : w.heap[b]? = some (.cells c 5 (0, 0))) (hc : c.toList = bv l) (hn : n = l.length) (hw : ∀ w', SlX w' ⟨some (at0 b), n, n⟩ 1 (bv l) -> Upd (λ k => k = b) w w' -> K ⟨some (at0 b), n, n⟩ w') :
  Df Tryz.prog (.one (.one .sl)) (convert 22 22 (.slice (some (at0 b)) n n)) K w := by
 subst hn
 refine Cd5 C22.und C5.und hb λ w' fr hb' u => hw w' ?_ u
 have hs : c.size = l.length * 1 := by rw [← Array.length_toList, hc, List.length_map]; omega
 have := Aq.Hr hb' (n := l.length) (sz := 1) hs
 rw [hc] at this
 exact this.x
end
end Go.Proofs.YtabcpghhfeplaaaGreat
