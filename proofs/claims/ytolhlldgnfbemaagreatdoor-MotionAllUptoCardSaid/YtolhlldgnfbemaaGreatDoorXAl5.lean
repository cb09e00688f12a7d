/- YtolhlldgnfbemaaGreatDoorXAl5: parts of the proof, put together by program. -/
import Derived.Test.YtolhlldgnfbemaaGreatDoorXAl4
set_option linter.unusedVariables false
set_option linter.defProp false
set_option linter.unusedSimpArgs false
set_option linter.unusedSectionVars false
noncomputable section
set_option maxRecDepth 100000
namespace Go.Proofs.YtolhlldgnfbemaaGreatDoor
section
open Go Go.Vx
def F12 (a0:Int) (a1:Sl) (a2:Int) (K:(Option Addr×Int×Unit)->Wp):Wp:=jB (λJ1=>sif (decide (a0<1)) (J1 (true,())) (J1 ((decide (a0>4)),()))) λs2=>sif s2.1 (K (none,10,())) (jB (λJ3=>sif (decide (a2<0)) (J3 (true,())) (J3 ((decide (a2>65536)),()))) λs4=>sif s4.1 (K (none,1,())) (sif (decide (((a1.len:Nat):Int)>a2)) (K (none,50,())) (Af (.cells #[(vI a0),(vI a2),(.slice none 0 0),(.slice none 0 0),(.slice none 0 0)] 46) λb5=>jU (λJ6=>sI (λs8 again9=>sif (decide (s8.1<((a1.len:Nat):Int))) (Aa Tryz.prog 21 #[(vI a0),a1.v,(vI s8.1)] (.tup [(.one cI),(.one cI)]) λ(x10:(Int×Int×Unit))=>sif (decide (x10.2.1<1)) (J6 ()) (nn (some (at0 b5)) λp11=>ld (.sl) (p11.add 2) λ(x12:Sl)=>Af (.cells #[(vI x10.1)] 3) λb13=>Du Tryz.prog rS (Builtin.append_ #[43,43] 43 #[x12.v,(.slice (some (at0 b13)) 1 1)]) λ(x14:Sl)=>nn (some (at0 b5)) λp15=>stC (p15.add 2) x14.v<|nn (some (at0 b5)) λp16=>ld (.sl) (p16.add 3) λ(x17:Sl)=>Af (.cells #[(vI s8.1)] 3) λb18=>Du Tryz.prog rS (Builtin.append_ #[43,43] 43 #[x17.v,(.slice (some (at0 b18)) 1 1)]) λ(x19:Sl)=>nn (some (at0 b5)) λp20=>stC (p20.add 3) x19.v<|again9 ((W64 (s8.1+x10.2.1)),()))) (J6 ())) (0,())) λs7=>K ((some (at0 b5)),0,()))))
def h12:Hint:=(hS (hR 2) (hS (hJ (258048,[(17,tB)]) (.region [] (.ops 3 (.split 14 (.skips 2 (hO 1)) (hO 3)))) (hC (hS (hR 2) hL) hL)) (hS (hJ (0xfc0000,[(23,tB)]) (.region [] (.ops 3 (.split 20 (.skips 2 (hO 1)) (hO 3)))) (hC (hS (hR 2) hL) hL)) (hS (hS (hR 4) (hC (hS (hR 2) hL) hL)) (hS (hR 5) (hS (hR 1) (hJ (0xfffffffff00000e00,[]) (.block (.loop 0xfffffffff00000e00 [(9,tI)] (hS (hS (hR 4) (hC hL hL)) (.block (hS (hR 9) (hS (hS (hR 2) (hC hL hL)) (hS (hR 11) (hS (hR 11) (hR 4))))))))) (hS (hR 3) hL))))))))
theorem A12 {a0:Int}{a1:Sl}{a2:Int}{K:(Option Addr×Int×Unit)->Wp}{w:World}(h:F12 a0 a1 a2 K w):Aa Tryz.prog 12 #[(vI a0),a1.v,(vI a2)] (.tup [(.one .ptr),(.one cI)]) K w:=tied Ai Tryz.func12 h12 _ h
def F16 (a0:Option Addr) (a1:Sl) (K:Int->Wp):Wp:=cN 28 #[(.pointer a0),a1.v] λx1=>sif (x1 !=0) (K x1) (jU (λJ2=>sN (λs4 again5=>sif (decide (s4.2.1<((a1.len:Nat):Int))) (jI (λJ6=>sN (λs8 again9=>ixf (.sl) a1 s4.2.1 3 2 λ(x11:Sl)=>sif (decide (s8.2.1<((x11.len:Nat):Int))) (drew<|nn a0 λp12=>lI p12 λx13=>ixf (.sl) a1 s4.2.1 3 2 λ(x15:Sl)=>ixI x15 s8.2.1 1 λx17=>cN 29 #[(vI x13),(vI x17)] λx18=>nn a0 λp19=>ld cI (p19.add 1) λ(x20:Int)=>sif (decide ((W64 (s8.1+x18))>x20)) (K 50) (again9 ((W64 (s8.1+x18)),(W64 (s8.2.1+1)),()))) (J6 (s8.1,()))) (s4.1,0,())) λs7=>again5 (s7.1,(W64 (s4.2.1+1)),())) (J2 ())) (0,0,())) λs3=>drew<|nn a0 λp21=>lI p21 λx22=>nn a0 λp23=>ld cI (p23.add 1) λ(x24:Int)=>Af (.cells #[(vI x22),(vI x24),(.slice none 0 0),(.slice none 0 0),(.slice none 0 0)] 46) λb25=>jU (λJ26=>Hr (S:=Int×Int×Int×Unit) (λs28 again29=>nn a0 λp30=>ld (.sl) (p30.add 2) λ(x31:Sl)=>sif (decide (s28.2.2.1<=((x31.len:Nat):Int))) (jN (λJ32=>jN (λJ34=>sN (λs36 again37=>jB (λJ38=>sif (decide (s36.1<((a1.len:Nat):Int))) (ixI a1 s36.1 3 λx41=>J38 ((x41==s28.2.2.1),())) (J38 (false,()))) λs39=>sif s39.1 (jU (λJ42=>sI (λs44 again45=>ixf (.sl) a1 s36.1 3 2 λ(x47:Sl)=>sif (decide (s44.1<((x47.len:Nat):Int))) (drew<|nn (some (at0 b25)) λp48=>ld (.sl) (p48.add 2) λ(x49:Sl)=>ixf (.sl) a1 s36.1 3 2 λ(x51:Sl)=>ixI x51 s44.1 1 λx53=>Af (.cells #[(vI x53)] 3) λb54=>keep (λw=>w.cell? (p48.add 2)=some (Cell.val (.sl) x49))<|Du Tryz.prog rS (Builtin.append_ #[43,43] 43 #[x49.v,(.slice (some (at0 b54)) 1 1)]) λ(x55:Sl)=>nn (some (at0 b25)) λp56=>stC (p56.add 2) x55.v<|nn (some (at0 b25)) λp57=>ld (.sl) (p57.add 3) λ(x58:Sl)=>Af (.cells #[(vI (-1))] 3) λb59=>Du Tryz.prog rS (Builtin.append_ #[43,43] 43 #[x58.v,(.slice (some (at0 b59)) 1 1)]) λ(x60:Sl)=>nn (some (at0 b25)) λp61=>stC (p61.add 3) x60.v<|again45 ((W64 (s44.1+1)),())) (J42 ())) (0,())) λs43=>ixf cI a1 s36.1 3 1 λ(x63:Int)=>again37 ((W64 (s36.1+1)),x63,())) (J34 (s36.1,s36.2.1,()))) (s28.1,s28.2.1,())) λs35=>jB (λJ64=>nn a0 λp66=>ld (.sl) (p66.add 2) λ(x67:Sl)=>sif (decide (s28.2.2.1<((x67.len:Nat):Int))) (J64 ((decide (s28.2.2.1>=s35.2.1)),())) (J64 (false,()))) λs65=>sif s65.1 (drew<|nn (some (at0 b25)) λp68=>ld (.sl) (p68.add 2) λ(x69:Sl)=>nn a0 λp70=>ld (.sl) (p70.add 2) λ(x71:Sl)=>ixI x71 s28.2.2.1 1 λx73=>Af (.cells #[(vI x73)] 3) λb74=>keep (λw=>w.cell? (p68.add 2)=some (Cell.val (.sl) x69))<|Du Tryz.prog rS (Builtin.append_ #[43,43] 43 #[x69.v,(.slice (some (at0 b74)) 1 1)]) λ(x75:Sl)=>nn (some (at0 b25)) λp76=>stC (p76.add 2) x75.v<|drew<|nn (some (at0 b25)) λp77=>ld (.sl) (p77.add 3) λ(x78:Sl)=>nn a0 λp79=>ld (.sl) (p79.add 3) λ(x80:Sl)=>ixI x80 s28.2.2.1 1 λx82=>Af (.cells #[(vI x82)] 3) λb83=>keep (λw=>w.cell? (p77.add 3)=some (Cell.val (.sl) x78))<|Du Tryz.prog rS (Builtin.append_ #[43,43] 43 #[x78.v,(.slice (some (at0 b83)) 1 1)]) λ(x84:Sl)=>nn (some (at0 b25)) λp85=>stC (p85.add 3) x84.v<|J32 (s35.1,s35.2.1,())) (J32 (s35.1,s35.2.1,()))) λs33=>again29 (s33.1,s33.2.1,(W64 (s28.2.2.1+1)),())) (J26 ())) (0,0,0,())) λs27=>drew<|nn a0 λp86=>ld cI (p86.add 1) λ(x87:Int)=>cN 30 #[(.pointer (some (at0 b25)))] λx88=>keep (λw=>w.cell? (p86.add 1)=some (Cell.val cI x87))<|sif (decide (x88>x87)) (K 50) (nn (some (at0 b25)) λp89=>ld (.sl) (p89.add 2) λ(x90:Sl)=>nn a0 λp91=>stC (p91.add 2) x90.v<|nn (some (at0 b25)) λp92=>ld (.sl) (p92.add 3) λ(x93:Sl)=>nn a0 λp94=>stC (p94.add 3) x93.v<|K 0))
def h16:Hint:=(hS (hR 1) (hS (hR 4) (hS (hS (hR 2) (hC (hS (hR 2) hL) hL)) (hS (hR 1) (hJ (0x1fffffffff001d0,[]) (hS (hR 1) (.block (.loop 0x1fffffffff001d0 [(6,tI),(7,tI)] (hS (hS (hR 4) (hC hL hL)) (hJ (0x1fffffffc000150,[(6,tI)]) (.block (hS (hR 1) (.block (.loop 0x1fffffffc000150 [(6,tI),(8,tI)] (hS (hS (hR 8) (hC hL hL)) (hS (.block (hS (.region (lR 16) (hO 16)) (hS (hR 6) (hC (hS (hR 1) hL) hL)))) (hR 3))))))) (hR 3)))))) (hS (.region (lR 11) (hO 11)) (hS (hR 1) (hS (hR 1) (hJ ((mR [(10,14),(67,176)]),[]) (hS (hR 1) (.block (.loop (mR [(10,14),(67,176)]) [(10,tI),(11,tI),(12,tI)] (hS (hS (hR 7) (hC hL hL)) (hJ ((mR [(10,12),(13,14),(76,176)]),[(10,tI),(11,tI)]) (.block (hJ (0xffffffffffffff0000000000000002c00,[(10,tI),(11,tI)]) (.block (.loop 0xffffffffffffff0000000000000002c00 [(10,tI),(11,tI)] (hS (hJ ((mR [(76,89)]),[(88,tB)]) (.region [] (.ops 5 (.split 80 (hO 8) (.skips 7 (hO 1))))) (hC hL hL)) (.block (hJ ((mR [(13,14),(89,125)]),[]) (hS (hR 1) (.block (.loop (mR [(13,14),(89,125)]) [(13,tI)] (hS (hS (hR 8) (hC hL hL)) (hS (.block (hS (.region (lR 18) (hO 18)) (hR 10))) (hR 3)))))) (hS (hR 6) (hR 3))))))) (hJ ((mR [(132,144)]),[(143,tB)]) (.region [] (.ops 8 (.split 139 (hO 4) (.skips 3 (hO 1))))) (hC (hS (.region (lR 17) (hO 17)) (.region (lR 17) (hO 17))) hL)))) (hR 3)))))) (hS (hS (.region [0,2,3,4,5,1,6] (hO 7)) (hC (hS (hR 1) hL) hL)) (hS (hR 8) (hS (hR 8) (hS (hR 1) hL)))))))))))))
theorem A16 {a0:Option Addr}{a1:Sl}{K:Int->Wp}{w:World}(h:F16 a0 a1 K w):Aa Tryz.prog 16 #[(.pointer a0),a1.v] rI K w:=tied Ai Tryz.func16 h16 _ h
def F17 (a0:Sl) (K:Option Addr->Wp):Wp:=Af (.cells #[a0.v,(.slice none 0 0),(vI 0),(.slice none 0 0)] 63) λb1=>Aa Tryz.prog 31 #[a0.v] (.tup [(.one .sl),(.one cI)]) λ(x2:(Sl×Int×Unit))=>nn (some (at0 b1)) λp3=>stC (p3.add 1) x2.1.v<|nn (some (at0 b1)) λp4=>stC (p4.add 2) (vI x2.2.1)<|jU (λJ5=>sI (λs7 again8=>nn (some (at0 b1)) λp9=>ld (.sl) (p9.add 1) λ(x10:Sl)=>sif (decide (s7.1<((x10.len:Nat):Int))) (nn (some (at0 b1)) λp11=>ld (.sl) (p11.add 1) λ(x12:Sl)=>ixs c71 x12 s7.1 4 λ(x14:I4)=>Af (.cells #[(vI 0),(vI 0),(vI 0),(vI 0)] 71) λb15=>Ad (at0 b15) (vA c71 x14) 4<|lI (at0 b15) λx16=>lI (ad b15 1) λx17=>slc a0.a x16 x17 ((a0.cap:Nat):Int) a0.cap 1 λx18=>cS 32 #[x18.v] λx19=>jS (λJ20=>Hr (S:=Sl×Int×Unit) (λs22 again23=>sif (decide ((W64 (s22.2.1+1))<((x19.len:Nat):Int))) (ixI x19 s22.2.1 1 λx25=>ixI x18 x25 1 λx27=>drew<|lI (at0 b15) λx28=>ix x19.a x19.len s22.2.1 λp29=>ld cI (p29.add (scaled (Int.toNat s22.2.1) 1)) λ(x30:Int)=>lI (at0 b15) λx31=>ix x19.a x19.len (W64 (s22.2.1+1)) λp32=>ld cI (p32.add (scaled (Int.toNat (W64 (s22.2.1+1))) 1)) λ(x33:Int)=>ix x19.a x19.len (W64 (s22.2.1+1)) λp34=>ld cI (p34.add (scaled (Int.toNat (W64 (s22.2.1+1))) 1)) λ(x35:Int)=>ix x19.a x19.len s22.2.1 λp36=>ld cI (p36.add (scaled (Int.toNat s22.2.1) 1)) λ(x37:Int)=>cN 33 #[(vI x27)] λx38=>keep (λw=>w.cell? (p36.add (scaled (Int.toNat s22.2.1) 1))=some (Cell.val cI x37))<|keep (λw=>w.cell? (p34.add (scaled (Int.toNat (W64 (s22.2.1+1))) 1))=some (Cell.val cI x35))<|keep (λw=>w.cell? (p32.add (scaled (Int.toNat (W64 (s22.2.1+1))) 1))=some (Cell.val cI x33))<|keep (λw=>w.cell? (at0 b15)=some (Cell.val cI x31))<|keep (λw=>w.cell? (p29.add (scaled (Int.toNat s22.2.1) 1))=some (Cell.val cI x30))<|keep (λw=>w.cell? (at0 b15)=some (Cell.val cI x28))<|Af (.cells #[(vI (W64 (x28+x30))),(vI (W64 (x31+x33))),(vI x27),(.bool ((W64 (x35-x37))==1)),(vI x38)] 76) λb39=>Du Tryz.prog rS (Builtin.append_ #[73,73] 73 #[s22.1.v,(.slice (some (at0 b39)) 1 1)]) λ(x40:Sl)=>again23 (x40,(W64 (s22.2.1+1)),())) (J20 (s22.1,()))) (⟨none,0,0⟩,0,())) λs21=>nn (some (at0 b1)) λp41=>ld (.sl) (p41.add 3) λ(x42:Sl)=>Af (.cells #[s21.1.v] 73) λb43=>Du Tryz.prog rS (Builtin.append_ #[61,61] 61 #[x42.v,(.slice (some (at0 b43)) 1 1)]) λ(x44:Sl)=>nn (some (at0 b1)) λp45=>stC (p45.add 3) x44.v<|again8 ((W64 (s7.1+1)),())) (J5 ())) (0,())) λs6=>K (some (at0 b1))
def h17:Hint:=(hS (hR 1) (hS (hR 4) (hS (hR 13) (hJ ((mR [(4,11),(25,106)]),[]) (hS (hR 1) (.block (.loop (mR [(4,11),(25,106)]) [(4,tI)] (hS (hS (hR 7) (hC hL hL)) (hS (.block (hS (hR 9) (hS (hR 7) (hS (hR 3) (hS (hR 1) (hJ ((mR [(8,11),(49,96)]),[(8,tS)]) (hS (hR 1) (.block (.loop (mR [(8,11),(49,96)]) [(8,tS),(9,tI)] (hS (hS (hR 5) (hC hL hL)) (hS (.block (hS (hR 8) (.region (lR 34) (hO 34)))) (hR 3)))))) (hR 11))))))) (hR 3)))))) (hS (hR 2) hL)))))
theorem A17 {a0:Sl}{K:Option Addr->Wp}{w:World}(h:F17 a0 K w):Aa Tryz.prog 17 #[a0.v] rP K w:=tied Ai Tryz.func17 h17 _ h
def F28 (a0:Option Addr) (a1:Sl) (K:Int->Wp):Wp:=sif (decide (((a1.len:Nat):Int)>70000)) (K 3) (jU (λJ1=>sN (λs3 again4=>sif (decide (s3.2.1<((a1.len:Nat):Int))) (ixs c65 a1 s3.2.1 3 λ(x6:(Int×Int×Sl×Unit))=>Af (.cells #[(vI 0),(vI 0),(.slice none 0 0)] 65) λb7=>Ad (at0 b7) (vA c65 x6) 3<|jB (λJ8=>drew<|lI (at0 b7) λx10=>sif (decide (x10<s3.1)) (J8 (true,())) (lI (ad b7 1) λx11=>lI (at0 b7) λx12=>sif (decide (x11<x12)) (J8 (true,())) (lI (ad b7 1) λx13=>nn a0 λp14=>ld (.sl) (p14.add 2) λ(x15:Sl)=>J8 ((decide (x13>((x15.len:Nat):Int))),())))) λs9=>sif s9.1 (K 2) (lI (ad b7 1) λx16=>again4 (x16,(W64 (s3.2.1+1)),()))) (J1 ())) (0,0,())) λs2=>jU (λJ17=>sI (λs19 again20=>sif (decide (s19.1<((a1.len:Nat):Int))) (jU (λJ21=>sI (λs23 again24=>ixf (.sl) a1 s19.1 3 2 λ(x26:Sl)=>sif (decide (s23.1<((x26.len:Nat):Int))) (drew<|nn a0 λp27=>lI p27 λx28=>ixf (.sl) a1 s19.1 3 2 λ(x30:Sl)=>ixI x30 s23.1 1 λx32=>cB 73 #[(vI x28),(vI x32)] λx33=>sif (!x33) (K 11) (again24 ((W64 (s23.1+1)),()))) (J21 ())) (0,())) λs22=>again20 ((W64 (s19.1+1)),())) (J17 ())) (0,())) λs18=>K 0)
def h28:Hint:=(hS (hR 1) (hS (hS (hR 3) (hC (hS (hR 1) hL) hL)) (hS (hR 1) (hJ (0x3fffffffe0f0,[]) (hS (hR 1) (.block (.loop 0x3fffffffe0f0 [(5,tI),(6,tI)] (hS (hS (hR 4) (hC hL hL)) (hS (.block (hS (hR 6) (hS (hJ (0xfffff800000,[(43,tB)]) (.region (lR 21) (.ops 5 (.split 27 (.skips 5 (.ops 2 (.skips 8 (hO 1)))) (.ops 7 (.split 34 (.skips 8 (hO 1)) (hO 9)))))) (hC (hS (hR 1) hL) hL)) (hR 3)))) (hR 3)))))) (hJ (0xfffffffc00000000310,[]) (hS (hR 1) (.block (.loop 0xfffffffc00000000310 [(8,tI)] (hS (hS (hR 4) (hC hL hL)) (hJ (0xffffff0000000000210,[]) (.block (hS (hR 1) (.block (.loop 0xffffff0000000000210 [(9,tI)] (hS (hS (hR 8) (hC hL hL)) (hS (.block (hS (.region (lR 14) (hO 14)) (hC (hS (hR 1) hL) hL))) (hR 3))))))) (hR 3)))))) (hS (hR 1) hL))))))
theorem A28 {a0:Option Addr}{a1:Sl}{K:Int->Wp}{w:World}(h:F28 a0 a1 K w):Aa Tryz.prog 28 #[(.pointer a0),a1.v] rI K w:=tied Ai Tryz.func28 h28 _ h
def F30 (a0:Option Addr) (K:Int->Wp):Wp:=jI (λJ1=>sN (λs3 again4=>nn a0 λp5=>ld (.sl) (p5.add 2) λ(x6:Sl)=>sif (decide (s3.2.1<((x6.len:Nat):Int))) (drew<|nn a0 λp7=>lI p7 λx8=>nn a0 λp9=>ld (.sl) (p9.add 2) λ(x10:Sl)=>ixI x10 s3.2.1 1 λx12=>cN 29 #[(vI x8),(vI x12)] λx13=>again4 ((W64 (s3.1+x13)),(W64 (s3.2.1+1)),())) (J1 (s3.1,()))) (0,0,())) λs2=>K s2.1
def h30:Hint:=(hS (hR 1) (hS (hR 1) (hJ (0xffffff8,[(3,tI)]) (hS (hR 1) (.block (.loop 0xffffff8 [(3,tI),(4,tI)] (hS (hS (hR 7) (hC hL hL)) (hS (.block (.region (lR 15) (hO 15))) (hR 3)))))) (hS (hR 2) hL))))
theorem A30 {a0:Option Addr}{K:Int->Wp}{w:World}(h:F30 a0 K w):Aa Tryz.prog 30 #[(.pointer a0)] rI K w:=tied Ai Tryz.func30 h30 _ h
def F31 (a0:Sl) (K:(Sl×Int×Unit)->Wp):Wp:=join (S:=Sl×Int×Unit) (λJ1=>Hr (S:=Sl×Int×Int×Unit) (λs3 again4=>sif (decide (s3.2.2.1<((a0.len:Nat):Int))) (join (S:=Sl×Int×Int×Unit) (λJ5=>ixI a0 s3.2.2.1 1 λx8=>sif (x8==10) (Af (.cells #[(vI s3.2.1),(vI s3.2.2.1),(vI (W64 (s3.2.2.1+1))),(vI 1)] 71) λb9=>Du Tryz.prog rS (Builtin.append_ #[60,60] 60 #[s3.1.v,(.slice (some (at0 b9)) 1 1)]) λ(x10:Sl)=>J5 (x10,(W64 (s3.2.2.1+1)),s3.2.2.1,())) (jB (λJ11=>ixI a0 s3.2.2.1 1 λx14=>sif (x14==13) (sif (decide ((W64 (s3.2.2.1+1))<((a0.len:Nat):Int))) (ixI a0 (W64 (s3.2.2.1+1)) 1 λx16=>J11 ((x16==10),())) (J11 (false,()))) (J11 (false,()))) λs12=>sif s12.1 (Af (.cells #[(vI s3.2.1),(vI s3.2.2.1),(vI (W64 (s3.2.2.1+2))),(vI 2)] 71) λb17=>Du Tryz.prog rS (Builtin.append_ #[60,60] 60 #[s3.1.v,(.slice (some (at0 b17)) 1 1)]) λ(x18:Sl)=>J5 (x18,(W64 (s3.2.2.1+2)),(W64 (s3.2.2.1+1)),())) (ixI a0 s3.2.2.1 1 λx20=>sif (x20==13) (Af (.cells #[(vI s3.2.1),(vI s3.2.2.1),(vI (W64 (s3.2.2.1+1))),(vI 3)] 71) λb21=>Du Tryz.prog rS (Builtin.append_ #[60,60] 60 #[s3.1.v,(.slice (some (at0 b21)) 1 1)]) λ(x22:Sl)=>J5 (x22,(W64 (s3.2.2.1+1)),s3.2.2.1,())) (J5 (s3.1,s3.2.1,s3.2.2.1,()))))) λs6=>again4 (s6.1,s6.2.1,(W64 (s6.2.2.1+1)),())) (J1 (s3.1,s3.2.1,()))) (⟨none,0,0⟩,0,0,())) λs2=>Af (.cells #[(vI s2.2.1),(vI ((a0.len:Nat):Int)),(vI ((a0.len:Nat):Int)),(vI 0)] 71) λb23=>Du Tryz.prog rS (Builtin.append_ #[60,60] 60 #[s2.1.v,(.slice (some (at0 b23)) 1 1)]) λ(x24:Sl)=>jI (λJ25=>jB (λJ27=>sif (((a0.len:Nat):Int)==0) (J27 (true,())) (J27 ((decide (s2.2.1<((a0.len:Nat):Int))),()))) λs28=>sif s28.1 (J25 (((x24.len:Nat):Int),())) (J25 (((s2.1.len:Nat):Int),()))) λs26=>K (x24,s26.1,())
def h31:Hint:=(hS (hR 2) (hS (hR 1) (hS (hR 1) (hJ (0xfffffffffffffffff70,[(4,tS),(5,tI)]) (hS (hR 1) (.block (.loop 0xfffffffffffffffff70 [(4,tS),(5,tI),(6,tI)] (hS (hS (hR 4) (hC hL hL)) (hJ (0xfffffffffffffffc070,[(4,tS),(5,tI),(6,tI)]) (.block (hS (hR 5) (hC (hS (hR 9) (hR 3)) (hJ ((mR [(29,49)]),[(48,tB)]) (.region [] (.ops 6 (.split 34 (.ops 7 (.split 41 (hO 7) (.skips 6 (hO 1)))) (.skips 5 (.ops 2 (.skips 6 (hO 1))))))) (hC (hS (hR 9) (hS (hR 3) (hR 3))) (hS (hR 5) (hC (hS (hR 9) (hR 3)) hL))))))) (hR 3)))))) (hS (hR 3) (hS (hR 10) (hJ ((mR [(7,8),(87,98)]),[(7,tI)]) (hJ ((mR [(87,96)]),[(95,tB)]) (.region [] (.ops 4 (.split 90 (.skips 4 (hO 1)) (hO 5)))) (hC (hR 3) hL)) (hS (hR 4) hL))))))))
theorem A31 {a0:Sl}{K:(Sl×Int×Unit)->Wp}{w:World}(h:F31 a0 K w):Aa Tryz.prog 31 #[a0.v] (.tup [(.one .sl),(.one cI)]) K w:=tied Ai Tryz.func31 h31 _ h
def F32 (a0:Sl) (K:Sl->Wp):Wp:=jS (λJ1=>Hr (S:=Sl×Int×Unit) (λs3 again4=>sif (decide (s3.2.1<=((a0.len:Nat):Int))) (jS (λJ5=>cB 75 #[a0.v,(vI s3.2.1)] λx7=>sif x7 (Af (.cells #[(vI s3.2.1)] 3) λb8=>Du Tryz.prog rS (Builtin.append_ #[43,43] 43 #[s3.1.v,(.slice (some (at0 b8)) 1 1)]) λ(x9:Sl)=>J5 (x9,())) (J5 (s3.1,()))) λs6=>again4 (s6.1,(W64 (s3.2.1+1)),())) (J1 (s3.1,()))) (⟨none,0,0⟩,0,())) λs2=>K s2.1
def h32:Hint:=(hS (hR 1) (hS (hR 1) (hJ (0xffff8,[(3,tS)]) (hS (hR 1) (.block (.loop 0xffff8 [(3,tS),(4,tI)] (hS (hS (hR 4) (hC hL hL)) (hJ (0xff028,[(3,tS)]) (.block (hS (hR 4) (hS (hR 1) (hC (hR 5) hL)))) (hR 3)))))) (hS (hR 2) hL))))
theorem A32 {a0:Sl}{K:Sl->Wp}{w:World}(h:F32 a0 K w):Aa Tryz.prog 32 #[a0.v] rS K w:=tied Ai Tryz.func32 h32 _ h
def F35 (a0:Option Addr) (a1:Int) (a2:Bool) (K:Int->Wp):Wp:=cN 82 #[(.pointer a0),(vI a1)] λx1=>cN 83 #[(.pointer a0),(vI x1)] λx2=>jI (λJ3=>sif (!a2) (cN 84 #[(.pointer a0),(vI x1)] λx5=>J3 (x5,())) (J3 (x2,()))) λs4=>nn a0 λp6=>ld (.sl) (p6.add 1) λ(x7:Sl)=>ixf cI x7 s4.1 4 1 λ(x9:Int)=>sif (decide (x1>=x9)) (sif a2 (nn a0 λp10=>ld (.sl) (p10.add 1) λ(x11:Sl)=>ixf cI x11 s4.1 4 1 λ(x13:Int)=>K x13) (cN 85 #[(.pointer a0),(vI s4.1)] λx14=>K x14)) (nn a0 λp15=>ld (.sl) (p15.add 1) λ(x16:Sl)=>ixI x16 s4.1 4 λx18=>nn a0 λp19=>ld (.sl) (p19.add 3) λ(x20:Sl)=>ixl (.sl) x20 s4.1 1 λ(x22:Sl)=>jI (λJ23=>sN (λs25 again26=>sif (decide (s25.2.1<((x22.len:Nat):Int))) (jI (λJ27=>ixI x22 s25.2.1 5 λx30=>sif (decide (x30<=x1)) (ixI x22 s25.2.1 5 λx32=>J27 (x32,())) (J27 (s25.1,()))) λs28=>again26 (s28.1,(W64 (s25.2.1+1)),())) (J23 (s25.1,()))) (x18,0,())) λs24=>K s24.1)
def h35:Hint:=(hS (hR 1) (hS (hR 4) (hS (hR 4) (hJ (4063360,[(7,tI)]) (hS (hR 2) (hC (hR 4) hL)) (hS (hS (hR 10) (hC (hS (hS (hR 1) (hC (hS (hR 9) hL) hL)) (hS (hR 4) hL)) hL)) (hS (hR 9) (hS (hR 8) (hJ (0x1ffff800000000000500,[(8,tI)]) (hS (hR 1) (.block (.loop 0x1ffff800000000000500 [(8,tI),(10,tI)] (hS (hS (hR 4) (hC hL hL)) (hJ (0x1ffe0000000000000100,[(8,tI)]) (.block (hS (hR 7) (hC (hR 6) hL))) (hR 3)))))) (hS (hR 2) hL)))))))))
theorem A35 {a0:Option Addr}{a1:Int}{a2:Bool}{K:Int->Wp}{w:World}(h:F35 a0 a1 a2 K w):Aa Tryz.prog 35 #[(.pointer a0),(vI a1),(.bool a2)] rI K w:=tied Ai Tryz.func35 h35 _ h
def F37 (a0:Option Addr) (a1:Int) (a2:Int) (a3:Bool) (K:Int->Wp):Wp:=jI (λJ1=>sif (decide (a1<0)) (J1 (0,())) (J1 (a1,()))) λs2=>jI (λJ3=>nn a0 λp5=>ld cI (p5.add 2) λ(x6:Int)=>sif (decide (s2.1>=x6)) (nn a0 λp7=>ld cI (p7.add 2) λ(x8:Int)=>J3 ((W64 (x8-1)),())) (J3 (s2.1,()))) λs4=>jI (λJ9=>sif (decide (a2<0)) (J9 (0,())) (J9 (a2,()))) λs10=>jB (λJ11=>nn a0 λp13=>ld (.sl) (p13.add 3) λ(x14:Sl)=>ixl (.sl) x14 s4.1 1 λ(x16:Sl)=>sif (decide (s10.1>=((x16.len:Nat):Int))) (J11 ((!a3),())) (J11 (false,()))) λs12=>sif s12.1 (cN 85 #[(.pointer a0),(vI s4.1)] λx17=>K x17) (cN 88 #[(.pointer a0),(vI s4.1),(vI s10.1)] λx18=>K x18)
def h37:Hint:=(hS (hR 1) (hJ (1538,[(1,tI)]) (hS (hR 2) (hC (hR 1) hL)) (hJ (4192258,[(1,tI)]) (hS (hR 6) (hC (hR 6) hL)) (hJ (0xc00004,[(2,tI)]) (hS (hR 2) (hC (hR 1) hL)) (hS (hJ (0x3fff000000,[(37,tB)]) (.region [] (.ops 11 (.split 34 (hO 3) (.skips 2 (hO 1))))) (hC (hS (hR 4) hL) hL)) (hS (hR 5) hL))))))
theorem A37 {a0:Option Addr}{a1:Int}{a2:Int}{a3:Bool}{K:Int->Wp}{w:World}(h:F37 a0 a1 a2 a3 K w):Aa Tryz.prog 37 #[(.pointer a0),(vI a1),(vI a2),(.bool a3)] rI K w:=tied Ai Tryz.func37 h37 _ h
def F39 (a0:Option Addr) (a1:Int) (K:Int->Wp):Wp:=cN 82 #[(.pointer a0),(vI a1)] λx1=>drew<|nn a0 λp2=>ld (.sl) (p2.add 3) λ(x3:Sl)=>cN 83 #[(.pointer a0),(vI x1)] λx4=>keep (λw=>w.cell? (p2.add 3)=some (Cell.val (.sl) x3))<|ixl (.sl) x3 x4 1 λ(x6:Sl)=>jI (λJ7=>sN (λs9 again10=>sif (decide (s9.2.1<((x6.len:Nat):Int))) (jI (λJ11=>ixf cI x6 s9.2.1 5 1 λ(x14:Int)=>sif (decide (x14<=x1)) (J11 ((W64 (s9.1+1)),())) (J11 (s9.1,()))) λs12=>again10 (s12.1,(W64 (s9.2.1+1)),())) (J7 (s9.1,()))) (0,0,())) λs8=>K s8.1
def h39:Hint:=(hS (hR 1) (hS (hR 4) (hS (.region (lR 10) (hO 10)) (hS (hR 1) (hJ (0x7fff000c0,[(6,tI)]) (hS (hR 1) (.block (.loop 0x7fff000c0 [(6,tI),(7,tI)] (hS (hS (hR 4) (hC hL hL)) (hJ (0x7fc000040,[(6,tI)]) (.block (hS (hR 7) (hC (hR 3) hL))) (hR 3)))))) (hS (hR 2) hL))))))
theorem A39 {a0:Option Addr}{a1:Int}{K:Int->Wp}{w:World}(h:F39 a0 a1 K w):Aa Tryz.prog 39 #[(.pointer a0),(vI a1)] rI K w:=tied Ai Tryz.func39 h39 _ h
def F41 (a0:Option Addr) (a1:Int) (a2:I3) (a3:Bool) (K:(I3×Int×Unit)->Wp):Wp:=Af (.cells #[(vI a2.1),(vI a2.2.1),(vI a2.2.2.1)] 48) λb1=>Af (.cells #[(vI 0),(vI 0),(vI 0)] 83) λb2=>cN 35 #[(.pointer a0),(vI a1),(.bool a3)] λx3=>cN 83 #[(.pointer a0),(vI x3)] λx4=>nn a0 λp5=>ld (.sl) (p5.add 3) λ(x6:Sl)=>ixl (.sl) x6 x4 1 λ(x8:Sl)=>cN 39 #[(.pointer a0),(vI x3)] λx9=>lds c48 (at0 b1) λ(x10:I3)=>Aa Tryz.prog 91 #[(vA c48 x10)] (.tup [(.one cI),(.one .bool)]) λ(x11:(Int×Bool×Unit))=>jI (λJ12=>jB (λJ14=>sif (!a3) (J14 ((decide (((x8.len:Nat):Int)>0)),())) (J14 (false,()))) λs15=>sif s15.1 (J12 ((W64 (((x8.len:Nat):Int)-1)),())) (J12 (((x8.len:Nat):Int),()))) λs13=>lI (at0 b1) λx16=>sif (x16==1) (sif (x9==0) (Aa Tryz.prog 92 #[(vI 80)] (.tup [(.agg c83),(.one cI)]) λ(x17:(I3×Int×Unit))=>Ad (at0 b2) (vA c83 x17.1) 3<|lds c83 (at0 b2) λ(x18:I3)=>K (x18,x17.2.1,())) (cN 88 #[(.pointer a0),(vI x4),(vI (if 0>(W64 (x9-x11.1)) then 0 else (W64 (x9-x11.1))))] λx19=>Aa Tryz.prog 93 #[(.pointer a0),(vI x19),(vI 0)] (.tup [(.agg c83),(.one cI)]) λ(x20:(I3×Int×Unit))=>Ad (at0 b2) (vA c83 x20.1) 3<|lds c83 (at0 b2) λ(x21:I3)=>K (x21,x20.2.1,()))) (sif (x16==2) (sif (x9==s13.1) (Aa Tryz.prog 92 #[(vI 80)] (.tup [(.agg c83),(.one cI)]) λ(x22:(I3×Int×Unit))=>Ad (at0 b2) (vA c83 x22.1) 3<|lds c83 (at0 b2) λ(x23:I3)=>K (x23,x22.2.1,())) (cN 88 #[(.pointer a0),(vI x4),(vI (if s13.1<(W64 (x9+x11.1)) then s13.1 else (W64 (x9+x11.1))))] λx24=>Aa Tryz.prog 93 #[(.pointer a0),(vI x24),(vI 0)] (.tup [(.agg c83),(.one cI)]) λ(x25:(I3×Int×Unit))=>Ad (at0 b2) (vA c83 x25.1) 3<|lds c83 (at0 b2) λ(x26:I3)=>K (x26,x25.2.1,()))) (sif (x16==3) (cN 88 #[(.pointer a0),(vI x4),(vI 0)] λx27=>Aa Tryz.prog 93 #[(.pointer a0),(vI x27),(vI 0)] (.tup [(.agg c83),(.one cI)]) λ(x28:(I3×Int×Unit))=>Ad (at0 b2) (vA c83 x28.1) 3<|lds c83 (at0 b2) λ(x29:I3)=>K (x29,x28.2.1,())) (sif (x16==4) (cN 94 #[(.pointer a0),(vI x4)] λx30=>Aa Tryz.prog 93 #[(.pointer a0),(vI x30),(vI 0)] (.tup [(.agg c83),(.one cI)]) λ(x31:(I3×Int×Unit))=>Ad (at0 b2) (vA c83 x31.1) 3<|lds c83 (at0 b2) λ(x32:I3)=>K (x32,x31.2.1,())) (sif (x16==5) (jI (λJ33=>nn a0 λp35=>ld cI (p35.add 2) λ(x36:Int)=>sif (decide (x4<x36)) (nn a0 λp37=>ld cI (p37.add 2) λ(x38:Int)=>J33 ((if (W64 (x38-1))<(W64 ((W64 (x4+x11.1))-1)) then (W64 (x38-1)) else (W64 ((W64 (x4+x11.1))-1))),())) (J33 (x4,()))) λs34=>cN 85 #[(.pointer a0),(vI s34.1)] λx39=>Ad (at0 b2) (.agg #[(vI x39),(vI 1),(vI 100000)]) 3<|lds c83 (at0 b2) λ(x40:I3)=>K (x40,0,())) (sif (x16==6) (cN 88 #[(.pointer a0),(vI x4),(vI (if s13.1<(W64 (x11.1-1)) then s13.1 else (W64 (x11.1-1))))] λx41=>Aa Tryz.prog 93 #[(.pointer a0),(vI x41),(vI 0)] (.tup [(.agg c83),(.one cI)]) λ(x42:(I3×Int×Unit))=>Ad (at0 b2) (vA c83 x42.1) 3<|lds c83 (at0 b2) λ(x43:I3)=>K (x43,x42.2.1,())) (jB (λJ44=>sif (x16==7) (J44 ((x16==7),())) (J44 ((x16==9),()))) λs45=>sif s45.1 (lI (ad b1 2) λx46=>cN 95 #[x8.v,(vI x9),(vI 1),(vI x11.1),(vI x46)] λx47=>sif (decide (x47<0)) (Aa Tryz.prog 92 #[(vI 80)] (.tup [(.agg c83),(.one cI)]) λ(x48:(I3×Int×Unit))=>Ad (at0 b2) (vA c83 x48.1) 3<|lds c83 (at0 b2) λ(x49:I3)=>K (x49,x48.2.1,())) (jI (λJ50=>lI (at0 b1) λx52=>sif (x52==9) (J50 ((W64 (x47-1)),())) (J50 (x47,()))) λs51=>cN 88 #[(.pointer a0),(vI x4),(vI s51.1)] λx53=>Aa Tryz.prog 93 #[(.pointer a0),(vI x53),(vI 1)] (.tup [(.agg c83),(.one cI)]) λ(x54:(I3×Int×Unit))=>Ad (at0 b2) (vA c83 x54.1) 3<|lds c83 (at0 b2) λ(x55:I3)=>K (x55,x54.2.1,()))) (jB (λJ56=>sif (x16==8) (J56 ((x16==8),())) (J56 ((x16==10),()))) λs57=>sif s57.1 (lI (ad b1 2) λx58=>cN 95 #[x8.v,(vI x9),(vI (-1)),(vI x11.1),(vI x58)] λx59=>sif (decide (x59<0)) (Aa Tryz.prog 92 #[(vI 80)] (.tup [(.agg c83),(.one cI)]) λ(x60:(I3×Int×Unit))=>Ad (at0 b2) (vA c83 x60.1) 3<|lds c83 (at0 b2) λ(x61:I3)=>K (x61,x60.2.1,())) (jI (λJ62=>lI (at0 b1) λx64=>sif (x64==10) (J62 ((W64 (x59+1)),())) (J62 (x59,()))) λs63=>cN 88 #[(.pointer a0),(vI x4),(vI s63.1)] λx65=>Aa Tryz.prog 93 #[(.pointer a0),(vI x65),(vI 0)] (.tup [(.agg c83),(.one cI)]) λ(x66:(I3×Int×Unit))=>Ad (at0 b2) (vA c83 x66.1) 3<|lds c83 (at0 b2) λ(x67:I3)=>K (x67,x66.2.1,()))) (Aa Tryz.prog 92 #[(vI 1)] (.tup [(.agg c83),(.one cI)]) λ(x68:(I3×Int×Unit))=>Ad (at0 b2) (vA c83 x68.1) 3<|lds c83 (at0 b2) λ(x69:I3)=>K (x69,x68.2.1,())))))))))
def h41:Hint:=(hS (hR 3) (hS (hR 5) (hS (hR 4) (hS (hR 8) (hS (hR 4) (hS (hR 7) (hS (hR 3) (hJ (0xff00000010000,[(16,tI)]) (hJ ((mR [(44,50)]),[(49,tB)]) (.region [] (.ops 3 (.split 46 (hO 3) (.skips 2 (hO 1))))) (hC (hR 3) hL)) (hS (hS (hR 2) (.block (hS (hR 2) (hC (hS (hS (hR 2) (hC (hS (hR 5) hL) hL)) (hS (hR 13) hL)) (hS (hR 2) (hC (hS (hS (hR 3) (hC (hS (hR 5) hL) hL)) (hS (hR 14) hL)) (hS (hR 2) (hC (hS (hR 9) hL) (hS (hR 2) (hC (hS (hR 9) hL) (hS (hR 2) (hC (hS (hR 2) (hJ ((mR [(17,18),(113,129)]),[(17,tI)]) (hS (hR 6) (hC (hR 11) hL)) (hS (hR 6) hL))) (hS (hR 2) (hC (hS (hR 13) hL) (hJ ((mR [(146,149)]),[(146,tB)]) (hS (hR 2) (hC hL (hR 2))) (hC (hS (hR 7) (hS (hS (hR 2) (hC (hS (hR 5) hL) hL)) (hJ ((mR [(18,19),(160,165)]),[(18,tI)]) (hS (hR 3) (hC (hR 3) hL)) (hS (hR 10) hL)))) (hJ ((mR [(173,176)]),[(173,tB)]) (hS (hR 2) (hC hL (hR 2))) (hC (hS (hR 7) (hS (hS (hR 2) (hC (hS (hR 5) hL) hL)) (hJ ((mR [(19,20),(187,192)]),[(19,tI)]) (hS (hR 3) (hC (hR 3) hL)) (hS (hR 10) hL)))) hL)))))))))))))))))) (hS (hR 5) hL))))))))))
theorem A41 {a0:Option Addr}{a1:Int}{a2:I3}{a3:Bool}{K:(I3×Int×Unit)->Wp}{w:World}(h:F41 a0 a1 a2 a3 K w):Aa Tryz.prog 41 #[(.pointer a0),(vI a1),(vA c48 a2),(.bool a3)] (.tup [(.agg c83),(.one cI)]) K w:=tied Ai Tryz.func41 h41 _ h
def F44 (a0:Option Addr) (a1:Int) (a2:Int) (a3:I3) (K:(I3×Int×Unit)->Wp):Wp:=Af (.cells #[(vI a3.1),(vI a3.2.1),(vI a3.2.2.1)] 48) λb1=>Af (.cells #[(vI 0),(vI 0),(vI 0)] 83) λb2=>cN 35 #[(.pointer a0),(vI a1),(.bool false)] λx3=>cN 83 #[(.pointer a0),(vI x3)] λx4=>nn a0 λp5=>ld cI (p5.add 2) λ(x6:Int)=>jI (λJ7=>sif (decide (a2<0)) (J7 (0,())) (J7 (a2,()))) λs8=>lds c48 (at0 b1) λ(x9:I3)=>Aa Tryz.prog 91 #[(vA c48 x9)] (.tup [(.one cI),(.one .bool)]) λ(x10:(Int×Bool×Unit))=>jI (λJ11=>lI (at0 b1) λx13=>jB (λJ14=>sif (x13==11) (J14 ((x13==11),())) (J14 ((x13==13),()))) λs15=>sif s15.1 (sif (x4==(W64 (x6-1))) (Aa Tryz.prog 92 #[(vI 80)] (.tup [(.agg c83),(.one cI)]) λ(x16:(I3×Int×Unit))=>Ad (at0 b2) (vA c83 x16.1) 3<|lds c83 (at0 b2) λ(x17:I3)=>K (x17,x16.2.1,())) (J11 ((if (W64 (x6-1))<(W64 (x4+x10.1)) then (W64 (x6-1)) else (W64 (x4+x10.1))),()))) (jB (λJ18=>sif (x13==12) (J18 ((x13==12),())) (J18 ((x13==14),()))) λs19=>sif s19.1 (sif (x4==0) (Aa Tryz.prog 92 #[(vI 80)] (.tup [(.agg c83),(.one cI)]) λ(x20:(I3×Int×Unit))=>Ad (at0 b2) (vA c83 x20.1) 3<|lds c83 (at0 b2) λ(x21:I3)=>K (x21,x20.2.1,())) (J11 ((if 0>(W64 (x4-x10.1)) then 0 else (W64 (x4-x10.1))),()))) (sif (x13==15) (J11 ((if (W64 (x6-1))<(W64 ((W64 (x4+x10.1))-1)) then (W64 (x6-1)) else (W64 ((W64 (x4+x10.1))-1))),())) (sif (x13==16) (sif x10.2.1 (J11 ((if (W64 (x6-1))<(W64 (x10.1-1)) then (W64 (x6-1)) else (W64 (x10.1-1))),())) (J11 ((W64 (x6-1)),()))) (sif (x13==17) (J11 ((if (W64 (x6-1))<(W64 (x10.1-1)) then (W64 (x6-1)) else (W64 (x10.1-1))),())) (sif (x13==18) (jB (λJ22=>sif (!x10.2.1) (J22 (true,())) (J22 ((decide (x10.1>100)),()))) λs23=>sif s23.1 (Aa Tryz.prog 92 #[(vI 80)] (.tup [(.agg c83),(.one cI)]) λ(x24:(I3×Int×Unit))=>Ad (at0 b2) (vA c83 x24.1) 3<|lds c83 (at0 b2) λ(x25:I3)=>K (x25,x24.2.1,())) (nn a0 λp26=>ld cI (p26.add 2) λ(x27:Int)=>chk ((100:Int)≠0)<|J11 ((W64 ((W64 (Int.tdiv (W64 ((W64 (x10.1*x27))+99)) 100))-1)),()))) (Aa Tryz.prog 92 #[(vI 1)] (.tup [(.agg c83),(.one cI)]) λ(x28:(I3×Int×Unit))=>Ad (at0 b2) (vA c83 x28.1) 3<|lds c83 (at0 b2) λ(x29:I3)=>K (x29,x28.2.1,())))))))) λs12=>jB (λJ30=>lI (at0 b1) λx32=>sif (x32==11) (J30 (true,())) (lI (at0 b1) λx33=>J30 ((x33==12),()))) λs31=>sif s31.1 (cN 37 #[(.pointer a0),(vI s12.1),(vI s8.1),(.bool false)] λx34=>Ad (at0 b2) (.agg #[(vI x34),(vI 2),(vI s8.1)]) 3<|lds c83 (at0 b2) λ(x35:I3)=>K (x35,0,())) (cN 94 #[(.pointer a0),(vI s12.1)] λx36=>Aa Tryz.prog 93 #[(.pointer a0),(vI x36),(vI 2)] (.tup [(.agg c83),(.one cI)]) λ(x37:(I3×Int×Unit))=>Ad (at0 b2) (vA c83 x37.1) 3<|lds c83 (at0 b2) λ(x38:I3)=>K (x38,x37.2.1,()))
def h44:Hint:=(hS (hR 3) (hS (hR 4) (hS (hR 4) (hS (hR 6) (hJ (402653188,[(2,tI)]) (hS (hR 2) (hC (hR 1) hL)) (hS (hR 7) (hS (hR 1) (hJ (0x7fffffffffffffffffc00008200,[(15,tI)]) (hS (hR 2) (.block (hJ (0x38000000000,[(39,tB)]) (hS (hR 2) (hC hL (hR 2))) (hC (hS (hS (hR 3) (hC (hS (hR 5) hL) hL)) (hR 6)) (hJ ((mR [(53,56)]),[(53,tB)]) (hS (hR 2) (hC hL (hR 2))) (hC (hS (hS (hR 2) (hC (hS (hR 5) hL) hL)) (hR 5)) (hS (hR 2) (hC (hR 7) (hS (hR 2) (hC (hS (hR 2) (hS (hR 1) (hC (hR 5) hL))) (hS (hR 2) (hC (hR 5) (hS (hR 2) (hC (hS (hJ ((mR [(89,95)]),[(94,tB)]) (.region [] (.ops 3 (.split 91 (.skips 2 (hO 1)) (hO 3)))) (hC (hS (hR 5) hL) hL)) (hR 10)) (hS (hR 5) hL))))))))))))))) (hS (hJ ((mR [(107,115)]),[(114,tB)]) (.region [] (.ops 4 (.split 110 (.skips 3 (hO 1)) (hO 4)))) (hC (hS (hR 8) hL) hL)) (hS (hR 9) hL))))))))))
theorem A44 {a0:Option Addr}{a1:Int}{a2:Int}{a3:I3}{K:(I3×Int×Unit)->Wp}{w:World}(h:F44 a0 a1 a2 a3 K w):Aa Tryz.prog 44 #[(.pointer a0),(vI a1),(vI a2),(vA c48 a3)] (.tup [(.agg c83),(.one cI)]) K w:=tied Ai Tryz.func44 h44 _ h
def F46 (a0:Option Addr) (a1:Int) (a2:I3) (a3:Bool) (K:(I3×Int×Unit)->Wp):Wp:=Af (.cells #[(vI a2.1),(vI a2.2.1),(vI a2.2.2.1)] 48) λb1=>Af (.cells #[(vI 0),(vI 0),(vI 0)] 83) λb2=>cN 35 #[(.pointer a0),(vI a1),(.bool a3)] λx3=>lds c48 (at0 b1) λ(x4:I3)=>Aa Tryz.prog 91 #[(vA c48 x4)] (.tup [(.one cI),(.one .bool)]) λ(x5:(Int×Bool×Unit))=>jB (λJ6=>lI (at0 b1) λx8=>sif (decide (x8>=25)) (lI (at0 b1) λx9=>sif (decide (x9<=28)) (J6 (true,())) (lI (at0 b1) λx10=>J6 ((x10==30),()))) (lI (at0 b1) λx11=>J6 ((x11==30),()))) λs7=>nn a0 λp12=>ld cI (p12.add 2) λ(x13:Int)=>cN 85 #[(.pointer a0),(vI (W64 (x13-1)))] λx14=>jN (λJ15=>lI (at0 b1) λx17=>jB (λJ18=>sif (x17==21) (J18 ((x17==21),())) (J18 ((x17==25),()))) λs19=>sif s19.1 (Aa Tryz.prog 98 #[(.pointer a0),(.bool s7.1),(.bool true)] (.tup [(.one .sl),(.one .sl)]) λ(x20:(Sl×Sl×Unit))=>cN 99 #[x20.1.v,(vI (W64 (x3+1))),(vI x5.1)] λx21=>sif (decide (x21<0)) (sif a3 (drew<|nn a0 λp22=>ld (.sl) (p22.add 1) λ(x23:Sl)=>nn a0 λp24=>ld cI (p24.add 2) λ(x25:Int)=>ixf cI x23 (W64 (x25-1)) 4 1 λ(x27:Int)=>J15 (x27,0,())) (J15 (x14,0,()))) (J15 (x21,0,()))) (jB (λJ28=>sif (x17==22) (J28 ((x17==22),())) (J28 ((x17==26),()))) λs29=>sif s29.1 (Aa Tryz.prog 98 #[(.pointer a0),(.bool s7.1),(.bool true)] (.tup [(.one .sl),(.one .sl)]) λ(x30:(Sl×Sl×Unit))=>cN 100 #[x30.1.v,(vI x3),(vI x5.1)] λx31=>J15 ((if 0>x31 then 0 else x31),0,())) (jB (λJ32=>sif (x17==23) (J32 ((x17==23),())) (J32 ((x17==27),()))) λs33=>sif s33.1 (Aa Tryz.prog 98 #[(.pointer a0),(.bool s7.1),(.bool false)] (.tup [(.one .sl),(.one .sl)]) λ(x34:(Sl×Sl×Unit))=>cN 99 #[x34.2.1.v,(vI (W64 (x3+1))),(vI x5.1)] λx35=>sif (decide (x35<0)) (J15 (x14,1,())) (J15 (x35,1,()))) (jB (λJ36=>sif (x17==24) (J36 ((x17==24),())) (J36 ((x17==28),()))) λs37=>sif s37.1 (Aa Tryz.prog 98 #[(.pointer a0),(.bool s7.1),(.bool true)] (.tup [(.one .sl),(.one .sl)]) λ(x38:(Sl×Sl×Unit))=>cN 100 #[x38.2.1.v,(vI x3),(vI x5.1)] λx39=>J15 ((if 0>x39 then 0 else x39),1,())) (jB (λJ40=>sif (x17==29) (J40 ((x17==29),())) (J40 ((x17==30),()))) λs41=>sif s41.1 (Aa Tryz.prog 98 #[(.pointer a0),(.bool s7.1),(.bool false)] (.tup [(.one .sl),(.one .sl)]) λ(x42:(Sl×Sl×Unit))=>cN 99 #[x42.2.1.v,(vI x3),(vI x5.1)] λx43=>jI (λJ44=>sif (decide (x43<0)) (J44 ((if x3>x14 then x3 else x14),())) (J44 (x43,()))) λs45=>Aa Tryz.prog 93 #[(.pointer a0),(vI s45.1),(vI 1)] (.tup [(.agg c83),(.one cI)]) λ(x46:(I3×Int×Unit))=>Ad (at0 b2) (vA c83 x46.1) 3<|lds c83 (at0 b2) λ(x47:I3)=>K (x47,x46.2.1,())) (Aa Tryz.prog 92 #[(vI 1)] (.tup [(.agg c83),(.one cI)]) λ(x48:(I3×Int×Unit))=>Ad (at0 b2) (vA c83 x48.1) 3<|lds c83 (at0 b2) λ(x49:I3)=>K (x49,x48.2.1,()))))))) λs16=>jB (λJ50=>lI (at0 b1) λx52=>sif (x52==21) (J50 (true,())) (lI (at0 b1) λx53=>sif (x53==25) (J50 (true,())) (lI (at0 b1) λx54=>sif (x54==23) (J50 (true,())) (lI (at0 b1) λx55=>J50 ((x55==27),()))))) λs51=>jB (λJ56=>sif (s16.1==x3) (J56 (true,())) (sif s51.1 (J56 ((decide (s16.1<x3)),())) (J56 (false,())))) λs57=>sif s57.1 (Aa Tryz.prog 92 #[(vI 80)] (.tup [(.agg c83),(.one cI)]) λ(x58:(I3×Int×Unit))=>Ad (at0 b2) (vA c83 x58.1) 3<|lds c83 (at0 b2) λ(x59:I3)=>K (x59,x58.2.1,())) (Aa Tryz.prog 93 #[(.pointer a0),(vI s16.1),(vI s16.2.1)] (.tup [(.agg c83),(.one cI)]) λ(x60:(I3×Int×Unit))=>Ad (at0 b2) (vA c83 x60.1) 3<|lds c83 (at0 b2) λ(x61:I3)=>K (x61,x60.2.1,()))
def h46:Hint:=(hS (hR 3) (hS (hR 5) (hS (hR 7) (hJ (0x3ffe000002000,[(13,tB)]) (.region [] (.ops 4 (.split 40 (.ops 5 (.split 45 (.skips 3 (hO 2)) (hO 5))) (.skips 3 (hO 7))))) (hS (hR 8) (hS (hR 1) (hS (hR 1) (hJ ((mR [(9,10),(15,27),(57,161)]),[(15,tI),(16,tI)]) (hS (hR 2) (.block (hJ ((mR [(62,65)]),[(62,tB)]) (hS (hR 2) (hC hL (hR 2))) (hC (hS (hR 8) (hS (hR 6) (hS (hR 1) (hS (hR 2) (hC (hS (hR 2) (hS (hR 1) (hC (.region (lR 13) (hO 13)) hL))) hL))))) (hJ ((mR [(92,95)]),[(92,tB)]) (hS (hR 2) (hC hL (hR 2))) (hC (hS (hR 8) (hS (hR 6) (hR 1))) (hJ ((mR [(106,109)]),[(106,tB)]) (hS (hR 2) (hC hL (hR 2))) (hC (hS (hR 8) (hS (hR 6) (hS (hR 2) (hC (hR 2) hL)))) (hJ ((mR [(123,126)]),[(123,tB)]) (hS (hR 2) (hC hL (hR 2))) (hC (hS (hR 8) (hR 6)) (hJ ((mR [(137,140)]),[(137,tB)]) (hS (hR 2) (hC hL (hR 2))) (hC (hS (hR 8) (hS (hR 5) (hJ ((mR [(15,16),(150,155)]),[(15,tI)]) (hS (hR 2) (hC (hR 4) hL)) (hS (hR 8) hL)))) (hS (hR 5) hL))))))))))))) (hJ ((mR [(27,28),(161,179)]),[(27,tB)]) (.region [] (.ops 4 (.split 164 (.skips 3 (.ops 2 (.skips 3 (.ops 2 (.skips 3 (hO 2)))))) (.ops 5 (.split 169 (.skips 3 (.ops 2 (.skips 3 (hO 2)))) (.ops 5 (.split 174 (.skips 3 (hO 2)) (hO 5)))))))) (hS (hJ ((mR [(179,190)]),[(189,tB)]) (.region [] (.ops 4 (.split 182 (.skips 6 (hO 1)) (.ops 2 (.split 184 (hO 5) (.skips 3 (hO 2))))))) (hC (hS (hR 5) hL) hL)) (hS (hR 8) hL)))))))))))
theorem A46 {a0:Option Addr}{a1:Int}{a2:I3}{a3:Bool}{K:(I3×Int×Unit)->Wp}{w:World}(h:F46 a0 a1 a2 a3 K w):Aa Tryz.prog 46 #[(.pointer a0),(vI a1),(vA c48 a2),(.bool a3)] (.tup [(.agg c83),(.one cI)]) K w:=tied Ai Tryz.func46 h46 _ h
def F48 (a0:Option Addr) (a1:Int) (a2:I3) (K:(I3×Int×Unit)->Wp):Wp:=Af (.cells #[(vI a2.1),(vI a2.2.1),(vI a2.2.2.1)] 48) λb1=>Af (.cells #[(vI 0),(vI 0),(vI 0)] 83) λb2=>cN 35 #[(.pointer a0),(vI a1),(.bool false)] λx3=>cN 83 #[(.pointer a0),(vI x3)] λx4=>lds c48 (at0 b1) λ(x5:I3)=>Aa Tryz.prog 91 #[(vA c48 x5)] (.tup [(.one cI),(.one .bool)]) λ(x6:(Int×Bool×Unit))=>jN (λJ7=>lI (at0 b1) λx9=>sif (x9==31) (jN (λJ10=>Hr (S:=Int×Int×Int×Unit) (λs12 again13=>jB (λJ14=>nn a0 λp16=>ld cI (p16.add 2) λ(x17:Int)=>sif (decide (s12.2.2.1<x17)) (J14 ((decide (s12.1>0)),())) (J14 (false,()))) λs15=>sif s15.1 (jN (λJ18=>jB (λJ20=>cB 102 #[(.pointer a0),(vI s12.2.2.1)] λx22=>sif x22 (cB 102 #[(.pointer a0),(vI (W64 (s12.2.2.1-1)))] λx23=>J20 ((!x23),())) (J20 (false,()))) λs21=>sif s21.1 (nn a0 λp24=>ld (.sl) (p24.add 1) λ(x25:Sl)=>ixI x25 s12.2.2.1 4 λx27=>J18 ((W64 (s12.1-1)),x27,())) (J18 (s12.1,s12.2.1,()))) λs19=>again13 (s19.1,s19.2.1,(W64 (s12.2.2.1+1)),())) (J10 (s12.1,s12.2.1,()))) (x6.1,(-1),(W64 (x4+1)),())) λs11=>sif (decide (s11.1>0)) (nn a0 λp28=>ld cI (p28.add 2) λ(x29:Int)=>cN 85 #[(.pointer a0),(vI (W64 (x29-1)))] λx30=>J7 (x30,1,())) (J7 (s11.2.1,0,()))) (sif (x9==32) (jN (λJ31=>Hr (S:=Int×Int×Int×Unit) (λs33 again34=>jB (λJ35=>sif (decide (s33.2.2.1>=0)) (J35 ((decide (s33.1>0)),())) (J35 (false,()))) λs36=>sif s36.1 (jN (λJ37=>jB (λJ39=>cB 102 #[(.pointer a0),(vI s33.2.2.1)] λx41=>sif x41 (cB 102 #[(.pointer a0),(vI (W64 (s33.2.2.1+1)))] λx42=>J39 ((!x42),())) (J39 (false,()))) λs40=>sif s40.1 (nn a0 λp43=>ld (.sl) (p43.add 1) λ(x44:Sl)=>ixI x44 s33.2.2.1 4 λx46=>J37 ((W64 (s33.1-1)),x46,())) (J37 (s33.1,s33.2.1,()))) λs38=>again34 (s38.1,s38.2.1,(W64 (s33.2.2.1-1)),())) (J31 (s33.1,s33.2.1,()))) (x6.1,(-1),(W64 (x4-1)),())) λs32=>sif (decide (s32.1>0)) (J7 (0,0,())) (J7 (s32.2.1,0,()))) (sif (x9==33) (cN 103 #[(.pointer a0),(vI x3)] λx47=>sif (decide (x47<0)) (Aa Tryz.prog 92 #[(vI 80)] (.tup [(.agg c83),(.one cI)]) λ(x48:(I3×Int×Unit))=>Ad (at0 b2) (vA c83 x48.1) 3<|lds c83 (at0 b2) λ(x49:I3)=>K (x49,x48.2.1,())) (Aa Tryz.prog 93 #[(.pointer a0),(vI x47),(vI 1)] (.tup [(.agg c83),(.one cI)]) λ(x50:(I3×Int×Unit))=>Ad (at0 b2) (vA c83 x50.1) 3<|lds c83 (at0 b2) λ(x51:I3)=>K (x51,x50.2.1,()))) (Aa Tryz.prog 92 #[(vI 1)] (.tup [(.agg c83),(.one cI)]) λ(x52:(I3×Int×Unit))=>Ad (at0 b2) (vA c83 x52.1) 3<|lds c83 (at0 b2) λ(x53:I3)=>K (x53,x52.2.1,()))))) λs8=>sif (s8.1==x3) (Aa Tryz.prog 92 #[(vI 80)] (.tup [(.agg c83),(.one cI)]) λ(x54:(I3×Int×Unit))=>Ad (at0 b2) (vA c83 x54.1) 3<|lds c83 (at0 b2) λ(x55:I3)=>K (x55,x54.2.1,())) (Aa Tryz.prog 93 #[(.pointer a0),(vI s8.1),(vI s8.2.1)] (.tup [(.agg c83),(.one cI)]) λ(x56:(I3×Int×Unit))=>Ad (at0 b2) (vA c83 x56.1) 3<|lds c83 (at0 b2) λ(x57:I3)=>K (x57,x56.2.1,()))
def h48:Hint:=(hS (hR 3) (hS (hR 4) (hS (hR 4) (hS (hR 7) (hS (hR 1) (hS (hR 1) (hJ (0x3ffffffffffffffffffffffff800f480,[(12,tI),(13,tI)]) (hS (hR 2) (.block (hS (hR 2) (hC (hJ (0xffffffffc00005400,[(10,tI),(12,tI)]) (hS (hR 3) (.block (.loop 0xffffffff000005400 [(10,tI),(12,tI),(14,tI)] (hS (hJ (0x3ff000000000,[(45,tB)]) (.region [] (.ops 7 (.split 42 (hO 3) (.skips 2 (hO 1))))) (hC hL hL)) (hJ (0xfffff000000001400,[(10,tI),(12,tI)]) (.block (hJ ((mR [(48,58)]),[(57,tB)]) (.region [] (.ops 4 (.split 51 (hO 6) (.skips 5 (hO 1))))) (hC (hS (hR 3) (hR 9)) hL))) (hR 3)))))) (hS (hR 2) (hC (hS (hR 8) (hR 1)) hL))) (hS (hR 2) (hC (hJ (0x1fffffff80000000000000009400,[(10,tI),(12,tI)]) (hS (hR 3) (.block (.loop 0x1ffffffe00000000000000009400 [(10,tI),(12,tI),(15,tI)] (hS (hJ ((mR [(81,87)]),[(86,tB)]) (.region [] (.ops 3 (.split 83 (hO 3) (.skips 2 (hO 1))))) (hC hL hL)) (hJ (0x1ffffe0000000000000000001400,[(10,tI),(12,tI)]) (.block (hJ ((mR [(89,99)]),[(98,tB)]) (.region [] (.ops 4 (.split 92 (hO 6) (.skips 5 (hO 1))))) (hC (hS (hR 3) (hR 9)) hL))) (hR 3)))))) (hS (hR 2) (hC (hR 1) hL))) (hS (hR 2) (hC (hS (hR 4) (hS (hS (hR 2) (hC (hS (hR 5) hL) hL)) (hS (hR 7) hL))) (hS (hR 5) hL))))))))) (hS (hS (hR 3) (hC (hS (hR 5) hL) hL)) (hS (hR 8) hL)))))))))
theorem A48 {a0:Option Addr}{a1:Int}{a2:I3}{K:(I3×Int×Unit)->Wp}{w:World}(h:F48 a0 a1 a2 K w):Aa Tryz.prog 48 #[(.pointer a0),(vI a1),(vA c48 a2)] (.tup [(.agg c83),(.one cI)]) K w:=tied Ai Tryz.func48 h48 _ h
def F50 (a0:Option Addr) (a1:Int) (a2:I3) (K:(I3×Int×Unit)->Wp):Wp:=Af (.cells #[(vI a2.1),(vI a2.2.1),(vI a2.2.2.1)] 48) λb1=>Af (.cells #[(vI 0),(vI 0),(vI 0)] 94) λb2=>cN 35 #[(.pointer a0),(vI a1),(.bool false)] λx3=>lds c48 (at0 b1) λ(x4:I3)=>Aa Tryz.prog 105 #[(.pointer a0),(vI x3),(vA c48 x4)] (.tup [(.agg c83),(.one cI)]) λ(x5:(I3×Int×Unit))=>Af (.cells #[(vI 0),(vI 0),(vI 0)] 83) λb6=>Ad (at0 b6) (vA c83 x5.1) 3<|sif (x5.2.1 !=0) (Ad (at0 b2) (.agg #[(vI 0),(vI 0),(vI 0)]) 3<|lds c94 (at0 b2) λ(x7:I3)=>K (x7,x5.2.1,())) (jU (λJ8=>jB (λJ10=>lI (at0 b1) λx12=>sif (x12==21) (J10 (true,())) (lI (at0 b1) λx13=>J10 ((x13==25),()))) λs11=>sif s11.1 (lI (at0 b1) λx14=>Aa Tryz.prog 98 #[(.pointer a0),(.bool (x14==25)),(.bool true)] (.tup [(.one .sl),(.one .sl)]) λ(x15:(Sl×Sl×Unit))=>lds c48 (at0 b1) λ(x16:I3)=>Aa Tryz.prog 91 #[(vA c48 x16)] (.tup [(.one cI),(.one .bool)]) λ(x17:(Int×Bool×Unit))=>jI (λJ18=>Hr (S:=Int×Int×Int×Unit) (λs20 again21=>jB (λJ22=>sif (decide (s20.2.2.1<((x15.1.len:Nat):Int))) (J22 ((decide (s20.1>1)),())) (J22 (false,()))) λs23=>sif s23.1 (jN (λJ24=>ixI x15.1 s20.2.2.1 1 λx27=>sif (decide (x27>x3)) (ixI x15.1 s20.2.2.1 1 λx29=>J24 ((W64 (s20.1-1)),x29,())) (J24 (s20.1,s20.2.1,()))) λs25=>again21 (s25.1,s25.2.1,(W64 (s20.2.2.1+1)),())) (J18 (s20.2.1,()))) (x17.1,x3,0,())) λs19=>lI (at0 b6) λx30=>cN 83 #[(.pointer a0),(vI x30)] λx31=>cN 83 #[(.pointer a0),(vI s19.1)] λx32=>sif (decide (x31>x32)) (drew<|nn a0 λp33=>ld (.sl) (p33.add 1) λ(x34:Sl)=>cN 83 #[(.pointer a0),(vI s19.1)] λx35=>keep (λw=>w.cell? (p33.add 1)=some (Cell.val (.sl) x34))<|ixf cI x34 x35 4 1 λ(x37:Int)=>Ad (at0 b2) (.agg #[(vI x3),(vI x37),(vI 0)]) 3<|lds c94 (at0 b2) λ(x38:I3)=>K (x38,0,())) (J8 ())) (J8 ())) λs9=>lI (at0 b6) λx39=>lI (ad b6 1) λx40=>Aa Tryz.prog 53 #[(.pointer a0),(vI x3),(vI x39),(vI x40)] (.tup [(.agg c94),(.one cI)]) λ(x41:(I3×Int×Unit))=>Ad (at0 b2) (vA c94 x41.1) 3<|lds c94 (at0 b2) λ(x42:I3)=>K (x42,x41.2.1,()))
def h50:Hint:=(hS (hR 3) (hS (hR 4) (hS (hR 10) (hS (hS (hR 2) (hC (hS (hR 4) hL) hL)) (hJ (0x7fffffffffffffff8001f880,[]) (hJ (0x7f80000000,[(38,tB)]) (.region [] (.ops 4 (.split 34 (.skips 3 (hO 1)) (hO 4)))) (hC (hS (hR 10) (hS (hR 7) (hS (hR 2) (hJ (0x7ffffe000000001a000,[(15,tI)]) (hS (hR 1) (.block (.loop 0x7ffffe000000001a000 [(13,tI),(15,tI),(16,tI)] (hS (hJ ((mR [(53,61)]),[(60,tB)]) (.region [] (.ops 5 (.split 57 (hO 3) (.skips 2 (hO 1))))) (hC hL hL)) (hJ (0x7ff800000000000a000,[(13,tI),(15,tI)]) (.block (hS (hR 6) (hC (hS (hR 5) (hR 3)) hL))) (hR 3)))))) (hS (hR 8) (hC (hS (.region (lR 14) (hO 14)) hL) hL)))))) hL)) (hS (hR 11) hL))))))
theorem A50 {a0:Option Addr}{a1:Int}{a2:I3}{K:(I3×Int×Unit)->Wp}{w:World}(h:F50 a0 a1 a2 K w):Aa Tryz.prog 50 #[(.pointer a0),(vI a1),(vA c48 a2)] (.tup [(.agg c94),(.one cI)]) K w:=tied Ai Tryz.func50 h50 _ h
def F53 (a0:Option Addr) (a1:Int) (a2:Int) (a3:Int) (K:(I3×Int×Unit)->Wp):Wp:=Af (.cells #[(vI 0),(vI 0),(vI 0)] 94) λb1=>cN 35 #[(.pointer a0),(vI a1),(.bool true)] λx2=>cN 35 #[(.pointer a0),(vI a2),(.bool true)] λx3=>cN 83 #[(.pointer a0),(vI (if x3>x2 then x3 else x2))] λx4=>sif (a3==0) (jI (λJ5=>jB (λJ7=>nn a0 λp9=>ld (.sl) (p9.add 1) λ(x10:Sl)=>ixI x10 x4 4 λx12=>sif ((if x3>x2 then x3 else x2)==x12) (cN 83 #[(.pointer a0),(vI (if x3<x2 then x3 else x2))] λx13=>J7 ((decide (x13<x4)),())) (J7 (false,()))) λs8=>sif s8.1 (nn a0 λp14=>ld (.sl) (p14.add 1) λ(x15:Sl)=>ixf cI x15 (W64 (x4-1)) 4 1 λ(x17:Int)=>J5 (x17,())) (J5 ((if x3>x2 then x3 else x2),()))) λs6=>Ad (at0 b1) (.agg #[(vI (if x3<x2 then x3 else x2)),(vI s6.1),(vI 0)]) 3<|lds c94 (at0 b1) λ(x18:I3)=>K (x18,0,())) (sif (a3==1) (jU (λJ19=>sI (λs21 again22=>nn a0 λp23=>ld (.sl) (p23.add 3) λ(x24:Sl)=>ixl (.sl) x24 x4 1 λ(x26:Sl)=>sif (decide (s21.1<((x26.len:Nat):Int))) (nn a0 λp27=>ld (.sl) (p27.add 3) λ(x28:Sl)=>ixl (.sl) x28 x4 1 λ(x30:Sl)=>ixI x30 s21.1 5 λx32=>sif (x32==(if x3>x2 then x3 else x2)) (nn a0 λp33=>ld (.sl) (p33.add 3) λ(x34:Sl)=>ixl (.sl) x34 x4 1 λ(x36:Sl)=>ixf cI x36 s21.1 5 1 λ(x38:Int)=>Ad (at0 b1) (.agg #[(vI (if x3<x2 then x3 else x2)),(vI x38),(vI 0)]) 3<|lds c94 (at0 b1) λ(x39:I3)=>K (x39,0,())) (again22 ((W64 (s21.1+1)),()))) (J19 ())) (0,())) λs20=>Ad (at0 b1) (.agg #[(vI (if x3<x2 then x3 else x2)),(vI (if x3>x2 then x3 else x2)),(vI 0)]) 3<|lds c94 (at0 b1) λ(x40:I3)=>K (x40,0,())) (sif (a3==2) (drew<|nn a0 λp41=>ld (.sl) (p41.add 1) λ(x42:Sl)=>nn a0 λp43=>ld (.sl) (p43.add 1) λ(x44:Sl)=>cN 84 #[(.pointer a0),(vI (if x3<x2 then x3 else x2))] λx45=>keep (λw=>w.cell? (p43.add 1)=some (Cell.val (.sl) x44))<|keep (λw=>w.cell? (p41.add 1)=some (Cell.val (.sl) x42))<|ix x42.a x42.len x45 λp46=>ld cI (p46.add (scaled (Int.toNat x45) 4)) λ(x47:Int)=>cN 84 #[(.pointer a0),(vI (if x3>x2 then x3 else x2))] λx48=>keep (λw=>w.cell? (p46.add (scaled (Int.toNat x45) 4))=some (Cell.val cI x47))<|keep (λw=>w.cell? (p43.add 1)=some (Cell.val (.sl) x44))<|keep (λw=>w.cell? (p41.add 1)=some (Cell.val (.sl) x42))<|ixf cI x44 x48 4 2 λ(x50:Int)=>Ad (at0 b1) (.agg #[(vI x47),(vI x50),(vI 1)]) 3<|lds c94 (at0 b1) λ(x51:I3)=>K (x51,0,())) (Ad (at0 b1) (.agg #[(vI 0),(vI 0),(vI 0)]) 3<|lds c94 (at0 b1) λ(x52:I3)=>K (x52,1,()))))
def h53:Hint:=(hS (hR 2) (hS (hR 4) (hS (hR 4) (hS (hR 4) (hS (hR 4) (hS (hR 4) (hS (hS (hR 1) (.block (hS (hR 2) (hC (hJ (0xffffffc00002000,[(13,tI)]) (hJ ((mR [(34,51)]),[(50,tB)]) (.region [] (.ops 11 (.split 44 (hO 6) (.skips 5 (hO 1))))) (hC (hR 10) hL)) (hS (hR 5) hL)) (hS (hR 2) (hC (hJ (0x7ffffffffe0000000000008200,[]) (hS (hR 1) (.block (.loop 0x7ffffffffe0000000000008200 [(15,tI)] (hS (hS (hR 10) (hC hL hL)) (hS (.block (hS (hR 13) (hC (hS (hR 15) hL) hL))) (hR 3)))))) (hS (hR 5) hL)) (hS (hR 2) (hC (hS (.region [0,1,2,3,4,5,10,11,12,13,14,15,6,7,8,9,16,17,18,19,20,21,22] (hO 23)) hL) hL)))))))) (hS (hR 3) hL))))))))
theorem A53 {a0:Option Addr}{a1:Int}{a2:Int}{a3:Int}{K:(I3×Int×Unit)->Wp}{w:World}(h:F53 a0 a1 a2 a3 K w):Aa Tryz.prog 53 #[(.pointer a0),(vI a1),(vI a2),(vI a3)] (.tup [(.agg c94),(.one cI)]) K w:=tied Ai Tryz.func53 h53 _ h
def F75 (a0:Sl) (a1:Int) (K:Bool->Wp):Wp:=jB (λJ1=>sif (decide (a1<0)) (J1 (true,())) (J1 ((decide (a1>((a0.len:Nat):Int))),()))) λs2=>sif s2.1 (K false) (jB (λJ3=>sif (a1==0) (J3 (true,())) (J3 ((a1==((a0.len:Nat):Int)),()))) λs4=>sif s4.1 (K true) (ixI a0 (W64 (a1-1)) 1 λx6=>cN 125 #[(vI x6)] λx7=>ixI a0 a1 1 λx9=>cN 125 #[(vI x9)] λx10=>jB (λJ11=>sif (x7==1) (J11 ((x10==2),())) (J11 (false,()))) λs12=>sif s12.1 (K false) (jB (λJ13=>sif (x7==1) (J13 (true,())) (sif (x7==2) (J13 (true,())) (sif (x7==3) (J13 (true,())) (sif (x10==1) (J13 (true,())) (sif (x10==2) (J13 (true,())) (J13 ((x10==3),()))))))) λs14=>sif s14.1 (K true) (cB 126 #[(vI x7),(vI x10)] λx15=>jB (λJ16=>sif x15 (J16 (true,())) (sif (x10==4) (J16 (true,())) (sif (x10==5) (J16 (true,())) (sif (x10==8) (J16 (true,())) (J16 ((x7==7),())))))) λs17=>sif s17.1 (K false) (cB 127 #[a0.v,(vI a1)] λx18=>cB 128 #[a0.v,(vI a1)] λx19=>cB 129 #[a0.v,(vI a1)] λx20=>sif (!x18) (sif (!x19) (K (!x20)) (K false)) (K false))))))
def h75:Hint:=(hS (hR 1) (hS (hJ (522240,[(18,tB)]) (.region [] (.ops 3 (.split 13 (.skips 4 (hO 1)) (hO 5)))) (hC (hS (hR 1) hL) hL)) (hS (hJ (0x7f80000,[(26,tB)]) (.region [] (.ops 3 (.split 21 (.skips 4 (hO 1)) (hO 5)))) (hC (hS (hR 1) hL) hL)) (hS (hR 7) (hS (hR 6) (hS (hJ (0xfc000000000,[(43,tB)]) (.region [] (.ops 3 (.split 40 (hO 3) (.skips 2 (hO 1))))) (hC (hS (hR 1) hL) hL)) (hS (hJ ((mR [(44,66)]),[(65,tB)]) (.region [] (.ops 3 (.split 46 (.skips 2 (.ops 2 (.skips 2 (.ops 2 (.skips 2 (.ops 2 (.skips 2 (.ops 2 (.skips 2 (hO 1)))))))))) (.ops 4 (.split 50 (.skips 2 (.ops 2 (.skips 2 (.ops 2 (.skips 2 (.ops 2 (.skips 2 (hO 1)))))))) (.ops 4 (.split 54 (.skips 2 (.ops 2 (.skips 2 (.ops 2 (.skips 2 (hO 1)))))) (.ops 4 (.split 58 (.skips 2 (.ops 2 (.skips 2 (hO 1)))) (.ops 4 (.split 62 (.skips 2 (hO 1)) (hO 3)))))))))))) (hC (hS (hR 1) hL) hL)) (hS (hR 4) (hS (hJ ((mR [(69,86)]),[(85,tB)]) (.region [] (.ops 2 (.split 70 (.skips 2 (.ops 2 (.skips 2 (.ops 2 (.skips 2 (.ops 2 (.skips 2 (hO 1)))))))) (.ops 4 (.split 74 (.skips 2 (.ops 2 (.skips 2 (.ops 2 (.skips 2 (hO 1)))))) (.ops 4 (.split 78 (.skips 2 (.ops 2 (.skips 2 (hO 1)))) (.ops 4 (.split 82 (.skips 2 (hO 1)) (hO 3)))))))))) (hC (hS (hR 1) hL) hL)) (hS (hR 4) (hS (hR 4) (hS (hR 4) (hS (.region [] (.ops 3 (.split 97 (.ops 4 (.split 101 (hO 4) (.skips 2 (hO 2)))) (.skips 2 (.ops 2 (.skips 2 (hO 2))))))) hL)))))))))))))
theorem A75 {a0:Sl}{a1:Int}{K:Bool->Wp}{w:World}(h:F75 a0 a1 K w):Aa Tryz.prog 75 #[a0.v,(vI a1)] rB K w:=tied Ai Tryz.func75 h75 _ h
def F82 (a0:Option Addr) (a1:Int) (K:Int->Wp):Wp:=sif (decide (a1<0)) (K 0) (nn a0 λp1=>ld (.sl) p1 λ(x2:Sl)=>sif (decide (a1>((x2.len:Nat):Int))) (nn a0 λp3=>ld (.sl) p3 λ(x4:Sl)=>K ((x4.len:Nat):Int)) (K a1))
def h82:Hint:=(hS (hR 1) (hS (hS (hR 2) (hC (hS (hR 1) hL) hL)) (hS (hS (hR 7) (hC (hS (hR 6) hL) hL)) (hS (hR 2) hL))))
theorem A82 {a0:Option Addr}{a1:Int}{K:Int->Wp}{w:World}(h:F82 a0 a1 K w):Aa Tryz.prog 82 #[(.pointer a0),(vI a1)] rI K w:=tied Ai Tryz.func82 h82 _ h
def F83 (a0:Option Addr) (a1:Int) (K:Int->Wp):Wp:=jU (λJ1=>sI (λs3 again4=>nn a0 λp5=>ld (.sl) (p5.add 1) λ(x6:Sl)=>sif (decide (s3.1<((x6.len:Nat):Int))) (nn a0 λp7=>ld (.sl) (p7.add 1) λ(x8:Sl)=>ixf cI x8 s3.1 4 2 λ(x10:Int)=>sif (decide (a1<x10)) (K s3.1) (again4 ((W64 (s3.1+1)),()))) (J1 ())) (0,())) λs2=>nn a0 λp11=>ld (.sl) (p11.add 1) λ(x12:Sl)=>K (W64 (((x12.len:Nat):Int)-1))
def h83:Hint:=(hS (hR 1) (hJ (67108848,[]) (hS (hR 1) (.block (.loop 67108848 [(5,tI)] (hS (hS (hR 7) (hC hL hL)) (hS (.block (hS (hR 10) (hC (hS (hR 2) hL) hL))) (hR 3)))))) (hS (hR 7) hL)))
theorem A83 {a0:Option Addr}{a1:Int}{K:Int->Wp}{w:World}(h:F83 a0 a1 K w):Aa Tryz.prog 83 #[(.pointer a0),(vI a1)] rI K w:=tied Ai Tryz.func83 h83 _ h
def F84 (a0:Option Addr) (a1:Int) (K:Int->Wp):Wp:=cN 83 #[(.pointer a0),(vI a1)] λx1=>nn a0 λp2=>ld cI (p2.add 2) λ(x3:Int)=>sif (decide (x1>=x3)) (nn a0 λp4=>ld cI (p4.add 2) λ(x5:Int)=>K (W64 (x5-1))) (K x1)
def h84:Hint:=(hS (hR 1) (hS (hR 4) (hS (hS (hR 6) (hC (hS (hR 6) hL) hL)) (hS (hR 2) hL))))
theorem A84 {a0:Option Addr}{a1:Int}{K:Int->Wp}{w:World}(h:F84 a0 a1 K w):Aa Tryz.prog 84 #[(.pointer a0),(vI a1)] rI K w:=tied Ai Tryz.func84 h84 _ h
def F85 (a0:Option Addr) (a1:Int) (K:Int->Wp):Wp:=nn a0 λp1=>ld (.sl) (p1.add 3) λ(x2:Sl)=>ixl (.sl) x2 a1 1 λ(x4:Sl)=>sif (((x4.len:Nat):Int)==0) (nn a0 λp5=>ld (.sl) (p5.add 1) λ(x6:Sl)=>ixI x6 a1 4 λx8=>K x8) (ixI x4 (W64 (((x4.len:Nat):Int)-1)) 5 λx10=>K x10)
def h85:Hint:=(hS (hR 1) (hS (hR 8) (hS (hS (hR 3) (hC (hS (hR 9) hL) hL)) (hS (hR 8) hL))))
theorem A85 {a0:Option Addr}{a1:Int}{K:Int->Wp}{w:World}(h:F85 a0 a1 K w):Aa Tryz.prog 85 #[(.pointer a0),(vI a1)] rI K w:=tied Ai Tryz.func85 h85 _ h
def F88 (a0:Option Addr) (a1:Int) (a2:Int) (K:Int->Wp):Wp:=nn a0 λp1=>ld (.sl) (p1.add 3) λ(x2:Sl)=>ixl (.sl) x2 a1 1 λ(x4:Sl)=>sif (decide (a2<((x4.len:Nat):Int))) (ixI x4 a2 5 λx6=>K x6) (nn a0 λp7=>ld (.sl) (p7.add 1) λ(x8:Sl)=>ixf cI x8 a1 4 1 λ(x10:Int)=>K x10)
def h88:Hint:=(hS (hR 1) (hS (hR 8) (hS (hS (hR 4) (hC (hS (hR 6) hL) hL)) (hS (hR 9) hL))))
theorem A88 {a0:Option Addr}{a1:Int}{a2:Int}{K:Int->Wp}{w:World}(h:F88 a0 a1 a2 K w):Aa Tryz.prog 88 #[(.pointer a0),(vI a1),(vI a2)] rI K w:=tied Ai Tryz.func88 h88 _ h
def F91 (a0:I3) (K:(Int×Bool×Unit)->Wp):Wp:=Af (.cells #[(vI a0.1),(vI a0.2.1),(vI a0.2.2.1)] 48) λb1=>lI (ad b1 1) λx2=>sif (decide (x2<1)) (K (1,false,())) (lI (ad b1 1) λx3=>sif (decide (x3>9999)) (K (9999,true,())) (lI (ad b1 1) λx4=>K (x4,true,())))
def h91:Hint:=(hS (hR 3) (hS (hS (hR 3) (hC (hS (hR 2) hL) hL)) (hS (hS (hR 3) (hC (hS (hR 2) hL) hL)) (hS (hR 4) hL))))
theorem A91 {a0:I3}{K:(Int×Bool×Unit)->Wp}{w:World}(h:F91 a0 K w):Aa Tryz.prog 91 #[(vA c48 a0)] (.tup [(.one cI),(.one .bool)]) K w:=tied Ai Tryz.func91 h91 _ h
def F92 (a0:Int) (K:(I3×Int×Unit)->Wp):Wp:=Af (.cells #[(vI 0),(vI 0),(vI 0)] 83) λb1=>Ad (at0 b1) (.agg #[(vI 0),(vI 0),(vI 0)]) 3<|lds c83 (at0 b1) λ(x2:I3)=>K (x2,a0,())
def h92:Hint:=(hS (hR 2) (hS (hR 4) hL))
theorem A92 {a0:Int}{K:(I3×Int×Unit)->Wp}{w:World}(h:F92 a0 K w):Aa Tryz.prog 92 #[(vI a0)] (.tup [(.agg c83),(.one cI)]) K w:=tied Ai Tryz.func92 h92 _ h
def F93 (a0:Option Addr) (a1:Int) (a2:Int) (K:(I3×Int×Unit)->Wp):Wp:=Af (.cells #[(vI 0),(vI 0),(vI 0)] 83) λb1=>cN 39 #[(.pointer a0),(vI a1)] λx2=>Ad (at0 b1) (.agg #[(vI a1),(vI a2),(vI x2)]) 3<|lds c83 (at0 b1) λ(x3:I3)=>K (x3,0,())
def h93:Hint:=(hS (hR 2) (hS (hR 8) hL))
theorem A93 {a0:Option Addr}{a1:Int}{a2:Int}{K:(I3×Int×Unit)->Wp}{w:World}(h:F93 a0 a1 a2 K w):Aa Tryz.prog 93 #[(.pointer a0),(vI a1),(vI a2)] (.tup [(.agg c83),(.one cI)]) K w:=tied Ai Tryz.func93 h93 _ h
def F94 (a0:Option Addr) (a1:Int) (K:Int->Wp):Wp:=nn a0 λp1=>ld (.sl) (p1.add 3) λ(x2:Sl)=>ixl (.sl) x2 a1 1 λ(x4:Sl)=>jU (λJ5=>sI (λs7 again8=>sif (decide (s7.1<((x4.len:Nat):Int))) (ixf cI x4 s7.1 5 4 λ(x10:Int)=>sif (x10 !=0) (ixI x4 s7.1 5 λx12=>K x12) (again8 ((W64 (s7.1+1)),()))) (J5 ())) (0,())) λs6=>cN 85 #[(.pointer a0),(vI a1)] λx13=>K x13
def h94:Hint:=(hS (hR 1) (hS (hR 8) (hJ (0x7fffc050,[]) (hS (hR 1) (.block (.loop 0x7fffc050 [(6,tI)] (hS (hS (hR 4) (hC hL hL)) (hS (.block (hS (hR 6) (hC (hS (hR 6) hL) hL))) (hR 3)))))) (hS (hR 4) hL))))
theorem A94 {a0:Option Addr}{a1:Int}{K:Int->Wp}{w:World}(h:F94 a0 a1 K w):Aa Tryz.prog 94 #[(.pointer a0),(vI a1)] rI K w:=tied Ai Tryz.func94 h94 _ h
def F95 (a0:Sl) (a1:Int) (a2:Int) (a3:Int) (a4:Int) (K:Int->Wp):Wp:=jU (λJ1=>sN (λs3 again4=>jB (λJ5=>sif (decide (s3.2.1>=0)) (J5 ((decide (s3.2.1<((a0.len:Nat):Int))),())) (J5 (false,()))) λs6=>sif s6.1 (jI (λJ7=>ixf cI a0 s3.2.1 5 2 λ(x10:Int)=>sif (x10==a4) (sif ((W64 (s3.1-1))==0) (K s3.2.1) (J7 ((W64 (s3.1-1)),()))) (J7 (s3.1,()))) λs8=>again4 (s8.1,(W64 (s3.2.1+a2)),())) (J1 ())) (a3,(W64 (a1+a2)),())) λs2=>K (-1)
def h95:Hint:=(hS (hR 1) (hJ (0x3ffffffc08,[]) (hS (hR 4) (.block (.loop 0x3fffff8c08 [(3,tI),(11,tI)] (hS (hJ (8355840,[(22,tB)]) (.region [] (.ops 3 (.split 17 (hO 5) (.skips 4 (hO 1))))) (hC hL hL)) (hJ (0x3ffc000408,[(3,tI)]) (.block (hS (hR 7) (hC (hS (hR 3) (hS (hR 2) (hC (hS (hR 2) hL) hL))) hL))) (hR 4)))))) (hS (hR 1) hL)))
theorem A95 {a0:Sl}{a1:Int}{a2:Int}{a3:Int}{a4:Int}{K:Int->Wp}{w:World}(h:F95 a0 a1 a2 a3 a4 K w):Aa Tryz.prog 95 #[a0.v,(vI a1),(vI a2),(vI a3),(vI a4)] rI K w:=tied Ai Tryz.func95 h95 _ h
def F98 (a0:Option Addr) (a1:Bool) (a2:Bool) (K:(Sl×Sl×Unit)->Wp):Wp:=join (S:=Sl×Sl×Unit) (λJ1=>Hr (S:=Sl×Sl×Int×Unit) (λs3 again4=>nn a0 λp5=>ld cI (p5.add 2) λ(x6:Int)=>sif (decide (s3.2.2.1<x6)) (join (S:=Sl×Sl×Unit) (λJ7=>nn a0 λp9=>ld (.sl) (p9.add 3) λ(x10:Sl)=>ixl (.sl) x10 s3.2.2.1 1 λ(x12:Sl)=>join (S:=Sl×Sl×Unit) (λJ13=>jB (λJ15=>sif (((x12.len:Nat):Int)==0) (J15 (a2,())) (J15 (false,()))) λs16=>sif s16.1 (nn a0 λp17=>ld (.sl) (p17.add 1) λ(x18:Sl)=>ixI x18 s3.2.2.1 4 λx20=>Af (.cells #[(vI x20)] 3) λb21=>Du Tryz.prog rS (Builtin.append_ #[43,43] 43 #[s3.1.v,(.slice (some (at0 b21)) 1 1)]) λ(x22:Sl)=>nn a0 λp23=>ld (.sl) (p23.add 1) λ(x24:Sl)=>ixI x24 s3.2.2.1 4 λx26=>Af (.cells #[(vI x26)] 3) λb27=>Du Tryz.prog rS (Builtin.append_ #[43,43] 43 #[s3.2.1.v,(.slice (some (at0 b27)) 1 1)]) λ(x28:Sl)=>J13 (x22,x28,())) (J13 (s3.1,s3.2.1,()))) λs14=>join (S:=Sl×Sl×Int×Unit) (λJ29=>Hr (S:=Sl×Sl×Int×Int×Unit) (λs31 again32=>sif (decide (s31.2.2.2.1<((x12.len:Nat):Int))) (ixf cI x12 s31.2.2.2.1 5 4 λ(x34:Int)=>jI (λJ35=>jB (λJ37=>sif a1 (J37 ((decide (x34>1)),())) (J37 (false,()))) λs38=>sif s38.1 (J35 (1,())) (J35 (x34,()))) λs36=>jS (λJ39=>jB (λJ41=>sif (s36.1 !=s31.2.2.1) (J41 ((s31.2.2.1 !=0),())) (J41 (false,()))) λs42=>sif s42.1 (ixI x12 (W64 (s31.2.2.2.1-1)) 5 λx44=>Af (.cells #[(vI x44)] 3) λb45=>Du Tryz.prog rS (Builtin.append_ #[43,43] 43 #[s31.2.1.v,(.slice (some (at0 b45)) 1 1)]) λ(x46:Sl)=>J39 (x46,())) (J39 (s31.2.1,()))) λs40=>jS (λJ47=>jB (λJ49=>sif (s36.1 !=s31.2.2.1) (J49 ((s36.1 !=0),())) (J49 (false,()))) λs50=>sif s50.1 (ixI x12 s31.2.2.2.1 5 λx52=>Af (.cells #[(vI x52)] 3) λb53=>Du Tryz.prog rS (Builtin.append_ #[43,43] 43 #[s31.1.v,(.slice (some (at0 b53)) 1 1)]) λ(x54:Sl)=>J47 (x54,())) (J47 (s31.1,()))) λs48=>again32 (s48.1,s40.1,s36.1,(W64 (s31.2.2.2.1+1)),())) (J29 (s31.1,s31.2.1,s31.2.2.1,()))) (s14.1,s14.2.1,0,0,())) λs30=>sif (s30.2.2.1 !=0) (ixI x12 (W64 (((x12.len:Nat):Int)-1)) 5 λx56=>Af (.cells #[(vI x56)] 3) λb57=>Du Tryz.prog rS (Builtin.append_ #[43,43] 43 #[s30.2.1.v,(.slice (some (at0 b57)) 1 1)]) λ(x58:Sl)=>J7 (s30.1,x58,())) (J7 (s30.1,s30.2.1,()))) λs8=>again4 (s8.1,s8.2.1,(W64 (s3.2.2.1+1)),())) (J1 (s3.1,s3.2.1,()))) (⟨none,0,0⟩,⟨none,0,0⟩,0,())) λs2=>K (s2.1,s2.2.1,())
def h98:Hint:=(hS (hR 2) (hS (hR 2) (hJ ((mR [(8,118)]),[(8,tS),(9,tS)]) (hS (hR 1) (.block (.loop (mR [(8,118)]) [(8,tS),(9,tS),(10,tI)] (hS (hS (hR 6) (hC hL hL)) (hJ (0x3fffffffffffffffffffffff807b00,[(8,tS),(9,tS)]) (.block (hS (hR 8) (hJ (0x3ffffffc0000300,[(8,tS),(9,tS)]) (hJ (0xfc0000000,[(35,tB)]) (.region [] (.ops 4 (.split 33 (hO 2) (.skips 1 (hO 1))))) (hC (hS (hR 12) (hR 12)) hL)) (hS (hR 1) (hJ (0x3fffffffffffc00000000007300,[(8,tS),(9,tS),(12,tI)]) (hS (hR 1) (.block (.loop 0x3fffffffffffc00000000007300 [(8,tS),(9,tS),(12,tI),(13,tI)] (hS (hS (hR 4) (hC hL hL)) (hS (.block (hS (hR 6) (hJ (0x3e00000000000004000,[(14,tI)]) (hJ ((mR [(69,74)]),[(73,tB)]) (.region [] (.ops 2 (.split 70 (hO 3) (.skips 2 (hO 1))))) (hC (hR 1) hL)) (hJ ((mR [(9,10),(74,90)]),[(9,tS)]) (hJ ((mR [(74,81)]),[(80,tB)]) (.region [] (.ops 4 (.split 77 (hO 3) (.skips 2 (hO 1))))) (hC (hR 10) hL)) (hJ ((mR [(8,9),(90,105)]),[(8,tS)]) (hJ ((mR [(90,97)]),[(96,tB)]) (.region [] (.ops 4 (.split 93 (hO 3) (.skips 2 (hO 1))))) (hC (hR 9) hL)) (hR 2)))))) (hR 3)))))) (hS (hR 2) (hC (hR 11) hL))))))) (hR 3)))))) (hS (hR 4) hL))))
theorem A98 {a0:Option Addr}{a1:Bool}{a2:Bool}{K:(Sl×Sl×Unit)->Wp}{w:World}(h:F98 a0 a1 a2 K w):Aa Tryz.prog 98 #[(.pointer a0),(.bool a1),(.bool a2)] (.tup [(.one .sl),(.one .sl)]) K w:=tied Ai Tryz.func98 h98 _ h
def F99 (a0:Sl) (a1:Int) (a2:Int) (K:Int->Wp):Wp:=jU (λJ1=>sN (λs3 again4=>sif (decide (s3.2.1<((a0.len:Nat):Int))) (jI (λJ5=>ixI a0 s3.2.1 1 λx8=>sif (decide (x8>=a1)) (sif ((W64 (s3.1-1))==0) (ixI a0 s3.2.1 1 λx10=>K x10) (J5 ((W64 (s3.1-1)),()))) (J5 (s3.1,()))) λs6=>again4 (s6.1,(W64 (s3.2.1+1)),())) (J1 ())) (a2,0,())) λs2=>K (-1)
def h99:Hint:=(hS (hR 1) (hJ (0xfffffc4,[]) (hS (hR 1) (.block (.loop 0xfffffc4 [(2,tI),(7,tI)] (hS (hS (hR 4) (hC hL hL)) (hJ (0xfffc044,[(2,tI)]) (.block (hS (hR 6) (hC (hS (hR 3) (hS (hR 2) (hC (hS (hR 5) hL) hL))) hL))) (hR 3)))))) (hS (hR 1) hL)))
theorem A99 {a0:Sl}{a1:Int}{a2:Int}{K:Int->Wp}{w:World}(h:F99 a0 a1 a2 K w):Aa Tryz.prog 99 #[a0.v,(vI a1),(vI a2)] rI K w:=tied Ai Tryz.func99 h99 _ h
def F100 (a0:Sl) (a1:Int) (a2:Int) (K:Int->Wp):Wp:=jU (λJ1=>sN (λs3 again4=>sif (decide (s3.2.1>=0)) (jI (λJ5=>ixI a0 s3.2.1 1 λx8=>sif (decide (x8<a1)) (sif ((W64 (s3.1-1))==0) (ixI a0 s3.2.1 1 λx10=>K x10) (J5 ((W64 (s3.1-1)),()))) (J5 (s3.1,()))) λs6=>again4 (s6.1,(W64 (s3.2.1-1)),())) (J1 ())) (a2,(W64 (((a0.len:Nat):Int)-1)),())) λs2=>K (-1)
def Dz7:Hint:=(hS (hR 1) (hJ (536870852,[]) (hS (hR 4) (.block (.loop 536869060 [(2,tI),(7,tI)] (hS (hS (hR 2) (hC hL hL)) (hJ (536838212,[(2,tI)]) (.block (hS (hR 6) (hC (hS (hR 3) (hS (hR 2) (hC (hS (hR 5) hL) hL))) hL))) (hR 3)))))) (hS (hR 1) hL)))
theorem Eq2 {a0:Sl}{a1:Int}{a2:Int}{K:Int->Wp}{w:World}(h:F100 a0 a1 a2 K w):Aa Tryz.prog 100 #[a0.v,(vI a1),(vI a2)] rI K w:=tied Ai Tryz.func100 Dz7 _ h
def F102 (a0:Option Addr) (a1:Int) (K:Bool->Wp):Wp:=nn a0 λp1=>ld (.sl) (p1.add 3) λ(x2:Sl)=>ixl (.sl) x2 a1 1 λ(x4:Sl)=>jU (λJ5=>sI (λs7 again8=>sif (decide (s7.1<((x4.len:Nat):Int))) (ixf cI x4 s7.1 5 4 λ(x10:Int)=>sif (x10 !=0) (K false) (again8 ((W64 (s7.1+1)),()))) (J5 ())) (0,())) λs6=>K true
def Dz5:Hint:=(hS (hR 1) (hS (hR 8) (hJ (67092560,[]) (hS (hR 1) (.block (.loop 67092560 [(6,tI)] (hS (hS (hR 4) (hC hL hL)) (hS (.block (hS (hR 6) (hC (hS (hR 1) hL) hL))) (hR 3)))))) (hS (hR 1) hL))))
theorem Eq0 {a0:Option Addr}{a1:Int}{K:Bool->Wp}{w:World}(h:F102 a0 a1 K w):Aa Tryz.prog 102 #[(.pointer a0),(vI a1)] rB K w:=tied Ai Tryz.func102 Dz5 _ h
def F103 (a0:Option Addr) (a1:Int) (K:Int->Wp):Wp:=join (S:=Addr×Unit) (λJ1=>drew<|nn a0 λp3=>ld (.sl) (p3.add 1) λ(x4:Sl)=>both (Af (.cells #[(vI 0),(vI 0),(vI 0),(vI 0)] 71) λb5=>keep (λw=>w.cell? (p3.add 1)=some (Cell.val (.sl) x4))<|cN 83 #[(.pointer a0),(vI a1)] λx6=>keep (λw=>w.cell? (p3.add 1)=some (Cell.val (.sl) x4))<|ixs c71 x4 x6 4 λ(x8:I4)=>Ad (at0 b5) (vA c71 x8) 4<|J1 ((at0 b5),()))<|cN 83 #[(.pointer a0),(vI a1)] λx9=>keep (λw=>w.cell? (p3.add 1)=some (Cell.val (.sl) x4))<|ix x4.a x4.len x9 λp10=>lds c71 (p10.add (scaled (Int.toNat x9) 4)) λ(x11:I4)=>both (Af (.cells #[(vI 0),(vI 0),(vI 0),(vI 0)] 71) λb12=>keep (λw=>Ap w (p10.add (scaled (Int.toNat x9) 4)) 0 (Cells.vals c71 x11))<|keep (λw=>w.cell? (p3.add 1)=some (Cell.val (.sl) x4))<|Ad (at0 b12) (vA c71 x11) 4<|J1 ((at0 b12),()))<|nothing) λs2=>join (S:=Sl×Int×Unit) (λJ13=>Hr (S:=Sl×Int×Int×Unit) (λs15 again16=>nn a0 λp17=>ld cI (p17.add 2) λ(x18:Int)=>sif (decide (s15.2.2.1<x18)) (join (S:=Sl×Int×Unit) (λJ19=>Hr (S:=Sl×Int×Int×Unit) (λs21 again22=>nn a0 λp23=>ld (.sl) (p23.add 3) λ(x24:Sl)=>ixl (.sl) x24 s15.2.2.1 1 λ(x26:Sl)=>sif (decide (s21.2.2.1<((x26.len:Nat):Int))) (join (S:=Sl×Int×Unit) (λJ27=>nn a0 λp29=>ld (.sl) (p29.add 3) λ(x30:Sl)=>ixl (.sl) x30 s15.2.2.1 1 λ(x32:Sl)=>ixs c76 x32 s21.2.2.1 5 λ(x34:(Int×Int×Int×Bool×Int×Unit))=>Af (.cells #[(vI 0),(vI 0),(vI 0),(.bool false),(vI 0)] 76) λb35=>Ad (at0 b35) (vA c76 x34) 5<|lds c76 (at0 b35) λ(x36:(Int×Int×Int×Bool×Int×Unit))=>cN 160 #[(vA c76 x36)] λx37=>sif (decide (x37<0)) (J27 (s21.1,s21.2.1,())) (jI (λJ38=>jB (λJ40=>sif (decide (s21.2.1<0)) (lI (at0 b35) λx42=>sif (decide (x42>=a1)) (lI (at0 b35) λx43=>ld cI (s2.1.add 1) λ(x44:Int)=>J40 ((decide (x43<x44)),())) (J40 (false,()))) (J40 (false,()))) λs41=>sif s41.1 (J38 (((s21.1.len:Nat):Int),())) (J38 (s21.2.1,()))) λs39=>lds c76 (at0 b35) λ(x45:(Int×Int×Int×Bool×Int×Unit))=>Af (.cells #[(vI x45.1),(vI x45.2.1),(vI x45.2.2.1),(.bool x45.2.2.2.1),(vI x45.2.2.2.2.1)] 76) λb46=>Du Tryz.prog rS (Builtin.append_ #[73,73] 73 #[s21.1.v,(.slice (some (at0 b46)) 1 1)]) λ(x47:Sl)=>J27 (x47,s39.1,()))) λs28=>again22 (s28.1,s28.2.1,(W64 (s21.2.2.1+1)),())) (J19 (s21.1,s21.2.1,()))) (s15.1,s15.2.1,0,())) λs20=>again16 (s20.1,s20.2.1,(W64 (s15.2.2.1+1)),())) (J13 (s15.1,s15.2.1,()))) (⟨none,0,0⟩,(-1),0,())) λs14=>sif (decide (s14.2.1<0)) (K (-1)) (ixs c76 s14.1 s14.2.1 5 λ(x49:(Int×Int×Int×Bool×Int×Unit))=>cN 160 #[(vA c76 x49)] λx50=>jI (λJ51=>sif (decide (x50>=3)) (J51 ((-1),())) (J51 (1,()))) λs52=>jU (λJ53=>sN (λs55 again56=>jB (λJ57=>sif (decide (s55.2.1>=0)) (J57 ((decide (s55.2.1<((s14.1.len:Nat):Int))),())) (J57 (false,()))) λs58=>sif s58.1 (jI (λJ59=>ixs c76 s14.1 s55.2.1 5 λ(x62:(Int×Int×Int×Bool×Int×Unit))=>cN 160 #[(vA c76 x62)] λx63=>sif (x63==x50) (J59 ((W64 (s55.1+1)),())) (ixs c76 s14.1 s55.2.1 5 λ(x65:(Int×Int×Int×Bool×Int×Unit))=>cN 160 #[(vA c76 x65)] λx66=>chk ((3:Int)≠0)<|chk ((3:Int)≠0)<|sif ((Int.tmod x66 3)==(Int.tmod x50 3)) (J59 ((W64 (s55.1-1)),())) (J59 (s55.1,())))) λs60=>sif (s60.1==0) (ixI s14.1 s55.2.1 5 λx68=>K x68) (again56 (s60.1,(W64 (s55.2.1+s52.1)),()))) (J53 ())) (0,s14.2.1,())) λs54=>K (-1))
def Dz4:Hint:=(hS (hR 1) (hS (hR 1) (hS (hR 1) (hJ (0xff8080,[(7,(.one .addr))]) (.region [0,1,2,3,4,5,6,7,8,10] (.float [9] (.ops 6 (.alt none (.plain (hO 4)) (.ops 3 (.alt none (.plain (hO 1)) .stop)))))) (hJ (0x3fffffffffffff000760,[(5,tS),(6,tI)]) (hS (hR 1) (.block (.loop 0x3fffffffffffff000760 [(5,tS),(6,tI),(8,tI)] (hS (hS (hR 6) (hC hL hL)) (hJ (0x3fffffffffff00000660,[(5,tS),(6,tI)]) (.block (hS (hR 1) (.block (.loop 0x3fffffffffff00000660 [(5,tS),(6,tI),(9,tI)] (hS (hS (hR 10) (hC hL hL)) (hJ (0x3ffffffff00000000460,[(5,tS),(6,tI)]) (.block (hS (hR 12) (hS (hS (hR 3) (hC hL hL)) (hJ (0x3fffe00000000000040,[(6,tI)]) (hJ ((mR [(57,72)]),[(71,tB)]) (.region [] (.ops 3 (.split 59 (.ops 6 (.split 65 (hO 6) (.skips 5 (hO 1)))) (.skips 4 (.ops 2 (.skips 5 (hO 1))))))) (hC (hR 3) hL)) (hR 5))))) (hR 3))))))) (hR 3)))))) (hS (hS (hR 2) (hC (hS (hR 1) hL) hL)) (hS (hR 6) (hS (hR 1) (hJ (0x6000000000000000001000,[(12,tI)]) (hS (hR 2) (hC (hR 1) hL)) (hS (hR 1) (hJ ((mR [(4,5),(13,15),(87,126)]),[]) (hS (hR 2) (.block (.loop (mR [(4,5),(13,15),(88,126)]) [(13,tI),(14,tI)] (hS (hJ ((mR [(88,96)]),[(95,tB)]) (.region [] (.ops 3 (.split 90 (hO 5) (.skips 4 (hO 1))))) (hC hL hL)) (hS (.block (hJ ((mR [(13,14),(99,119)]),[(13,tI)]) (hS (hR 7) (hC (hR 3) (hS (hR 9) (hC (hR 3) hL)))) (hS (hR 2) (hC (hS (hR 6) hL) hL)))) (hR 4)))))) (hS (hR 1) hL))))))))))))
theorem Ep9 {a0:Option Addr}{a1:Int}{K:Int->Wp}{w:World}(h:F103 a0 a1 K w):Aa Tryz.prog 103 #[(.pointer a0),(vI a1)] rI K w:=tied Ai Tryz.func103 Dz4 _ h
def F105 (a0:Option Addr) (a1:Int) (a2:I3) (K:(I3×Int×Unit)->Wp):Wp:=Af (.cells #[(vI a2.1),(vI a2.2.1),(vI a2.2.2.1)] 48) λb1=>Af (.cells #[(vI 0),(vI 0),(vI 0)] 83) λb2=>jB (λJ3=>lI (at0 b1) λx5=>sif (decide (x5>=1)) (lI (at0 b1) λx6=>J3 ((decide (x6<=10)),())) (J3 (false,()))) λs4=>sif s4.1 (lds c48 (at0 b1) λ(x7:I3)=>Aa Tryz.prog 41 #[(.pointer a0),(vI a1),(vA c48 x7),(.bool true)] (.tup [(.agg c83),(.one cI)]) λ(x8:(I3×Int×Unit))=>Ad (at0 b2) (vA c83 x8.1) 3<|lds c83 (at0 b2) λ(x9:I3)=>K (x9,x8.2.1,())) (lI (at0 b1) λx10=>sif (x10==60) (drew<|lI (ad b1 1) λx11=>cN 39 #[(.pointer a0),(vI a1)] λx12=>keep (λw=>w.cell? (ad b1 1)=some (Cell.val cI x11))<|Aa Tryz.prog 44 #[(.pointer a0),(vI a1),(vI x12),(.agg #[(vI 15),(vI x11),(vI 0)])] (.tup [(.agg c83),(.one cI)]) λ(x13:(I3×Int×Unit))=>Ad (at0 b2) (vA c83 x13.1) 3<|lds c83 (at0 b2) λ(x14:I3)=>K (x14,x13.2.1,())) (jB (λJ15=>lI (at0 b1) λx17=>sif (decide (x17>=11)) (lI (at0 b1) λx18=>J15 ((decide (x18<=18)),())) (J15 (false,()))) λs16=>sif s16.1 (drew<|lds c48 (at0 b1) λ(x19:I3)=>cN 39 #[(.pointer a0),(vI a1)] λx20=>keep (λw=>Ap w (at0 b1) 0 (Cells.vals c48 x19))<|Aa Tryz.prog 44 #[(.pointer a0),(vI a1),(vI x20),(vA c48 x19)] (.tup [(.agg c83),(.one cI)]) λ(x21:(I3×Int×Unit))=>Ad (at0 b2) (vA c83 x21.1) 3<|lds c83 (at0 b2) λ(x22:I3)=>K (x22,x21.2.1,())) (jB (λJ23=>lI (at0 b1) λx25=>sif (decide (x25>=21)) (lI (at0 b1) λx26=>J23 ((decide (x26<=30)),())) (J23 (false,()))) λs24=>sif s24.1 (lds c48 (at0 b1) λ(x27:I3)=>Aa Tryz.prog 46 #[(.pointer a0),(vI a1),(vA c48 x27),(.bool true)] (.tup [(.agg c83),(.one cI)]) λ(x28:(I3×Int×Unit))=>Ad (at0 b2) (vA c83 x28.1) 3<|lds c83 (at0 b2) λ(x29:I3)=>K (x29,x28.2.1,())) (jB (λJ30=>lI (at0 b1) λx32=>sif (decide (x32>=31)) (lI (at0 b1) λx33=>J30 ((decide (x33<=33)),())) (J30 (false,()))) λs31=>sif s31.1 (lds c48 (at0 b1) λ(x34:I3)=>Aa Tryz.prog 48 #[(.pointer a0),(vI a1),(vA c48 x34)] (.tup [(.agg c83),(.one cI)]) λ(x35:(I3×Int×Unit))=>Ad (at0 b2) (vA c83 x35.1) 3<|lds c83 (at0 b2) λ(x36:I3)=>K (x36,x35.2.1,())) (Aa Tryz.prog 92 #[(vI 1)] (.tup [(.agg c83),(.one cI)]) λ(x37:(I3×Int×Unit))=>Ad (at0 b2) (vA c83 x37.1) 3<|lds c83 (at0 b2) λ(x38:I3)=>K (x38,x37.2.1,()))))))
def Dz2:Hint:=(hS (hR 3) (hS (.block (hJ (130816,[(8,tB)]) (.region [] (.ops 4 (.split 12 (hO 5) (.skips 3 (hO 2))))) (hC (hS (hR 8) hL) (hS (hR 4) (hC (hS (.region [0,1,2,3,5,6,7,4,8,9,10,11,12] (hO 13)) hL) (hJ (0x7fc000000000,[(38,tB)]) (.region [] (.ops 4 (.split 42 (hO 5) (.skips 3 (hO 2))))) (hC (hS (.region [0,1,2,3,5,4,6,7,8,9,10] (hO 11)) hL) (hJ ((mR [(56,65)]),[(56,tB)]) (.region [] (.ops 4 (.split 60 (hO 5) (.skips 3 (hO 2))))) (hC (hS (hR 8) hL) (hJ ((mR [(71,80)]),[(71,tB)]) (.region [] (.ops 4 (.split 75 (hO 5) (.skips 3 (hO 2))))) (hC (hS (hR 8) hL) hL))))))))))) (hS (hR 5) hL)))
theorem Ep7 {a0:Option Addr}{a1:Int}{a2:I3}{K:(I3×Int×Unit)->Wp}{w:World}(h:F105 a0 a1 a2 K w):Aa Tryz.prog 105 #[(.pointer a0),(vI a1),(vA c48 a2)] (.tup [(.agg c83),(.one cI)]) K w:=tied Ai Tryz.func105 Dz2 _ h
def F126 (a0:Int) (a1:Int) (K:Bool->Wp):Wp:=jB (λJ1=>sif (a0==9) (sif (a1==9) (J1 (true,())) (sif (a1==10) (J1 (true,())) (sif (a1==12) (J1 (true,())) (J1 ((a1==13),()))))) (J1 (false,()))) λs2=>sif s2.1 (K true) (jB (λJ3=>sif (a0==12) (sif (a1==10) (J3 (true,())) (J3 ((a1==11),()))) (sif (a0==10) (sif (a1==10) (J3 (true,())) (J3 ((a1==11),()))) (J3 (false,())))) λs4=>sif s4.1 (K true) (sif (a0==13) (K (a1==11)) (sif (a0==11) (K (a1==11)) (K false))))
def Dx5:Hint:=(hS (hR 1) (hS (hJ (8388576,[(22,tB)]) (.region [] (.ops 3 (.split 7 (.ops 3 (.split 10 (.skips 2 (.ops 2 (.skips 2 (.ops 2 (.skips 2 (hO 2)))))) (.ops 4 (.split 14 (.skips 2 (.ops 2 (.skips 2 (hO 2)))) (.ops 4 (.split 18 (.skips 2 (hO 2)) (hO 4))))))) (.skips 14 (hO 1))))) (hC (hS (hR 1) hL) hL)) (hS (hJ (0x1fff800000,[(36,tB)]) (.region [] (.ops 3 (.split 25 (.skips 2 (.ops 5 (.split 32 (.skips 2 (hO 2)) (hO 4)))) (.ops 4 (.split 29 (.ops 3 (.split 32 (.skips 2 (hO 2)) (hO 4))) (.skips 6 (hO 1))))))) (hC (hS (hR 1) hL) hL)) (hS (.region [] (.ops 3 (.split 39 (.skips 2 (hO 6)) (.ops 4 (.split 43 (hO 4) (.skips 2 (hO 2))))))) hL))))
theorem En9 {a0:Int}{a1:Int}{K:Bool->Wp}{w:World}(h:F126 a0 a1 K w):Aa Tryz.prog 126 #[(vI a0),(vI a1)] rB K w:=tied Ai Tryz.func126 Dx5 _ h
def F127 (a0:Sl) (a1:Int) (K:Bool->Wp):Wp:=ixI a0 a1 1 λx2=>cN 176 #[(vI x2)] λx3=>sif (x3 !=1) (K false) (jU (λJ4=>sN (λs6 again7=>sif (decide (s6.2.1>=0)) (ixI a0 s6.2.1 1 λx9=>cN 176 #[(vI x9)] λx10=>jI (λJ11=>sif (x10==3) (J11 ((W64 (s6.1+1)),())) (J11 (s6.1,()))) λs12=>jB (λJ13=>sif (x10 !=3) (J13 ((x10 !=2),())) (J13 (false,()))) λs14=>sif s14.1 (sif (decide (s12.1>0)) (K (x10==1)) (K false)) (again7 (s12.1,(W64 (s6.2.1-1)),()))) (J4 ())) (0,(W64 (a1-1)),())) λs5=>K false)
def h127:Hint:=(hS (hR 1) (hS (hS (hR 6) (hC (hS (hR 1) hL) hL)) (hS (hR 1) (hJ (0x1ffffffc0f0,[]) (hS (hR 3) (.block (.loop 0x1ffffff00f0 [(5,tI),(6,tI)] (hS (hS (hR 2) (hC hL hL)) (hS (.block (hS (hR 6) (hJ (503316512,[(5,tI)]) (hS (hR 2) (hC (hR 3) hL)) (hJ (0x7e0000000,[(34,tB)]) (.region [] (.ops 3 (.split 31 (hO 3) (.skips 2 (hO 1))))) (hC (hS (.region [] (.ops 3 (.split 37 (hO 4) (.skips 2 (hO 2))))) hL) hL))))) (hR 3)))))) (hS (hR 1) hL)))))
theorem En8 {a0:Sl}{a1:Int}{K:Bool->Wp}{w:World}(h:F127 a0 a1 K w):Aa Tryz.prog 127 #[a0.v,(vI a1)] rB K w:=tied Ai Tryz.func127 h127 _ h
def F128 (a0:Sl) (a1:Int) (K:Bool->Wp):Wp:=jB (λJ1=>ixI a0 a1 1 λx4=>cN 125 #[(vI x4)] λx5=>sif (x5 !=14) (J1 (true,())) (ixI a0 (W64 (a1-1)) 1 λx7=>cN 125 #[(vI x7)] λx8=>J1 ((x8 !=5),()))) λs2=>sif s2.1 (K false) (jU (λJ9=>sI (λs11 again12=>sif (decide (s11.1>=0)) (ixI a0 s11.1 1 λx14=>cN 125 #[(vI x14)] λx15=>sif (x15 !=4) (K (x15==14)) (again12 ((W64 (s11.1-1)),()))) (J9 ())) ((W64 (a1-2)),())) λs10=>K false)
def h128:Hint:=(hS (hR 1) (hS (hJ (4194176,[(21,tB)]) (.region [] (.ops 7 (.split 13 (.skips 7 (hO 1)) (hO 8)))) (hC (hS (hR 1) hL) hL)) (hJ (0x1fffc00070,[]) (hS (hR 3) (.block (.loop 0x1fff000070 [(5,tI)] (hS (hS (hR 2) (hC hL hL)) (hS (.block (hS (hR 6) (hS (hR 2) (hC (hS (hR 3) hL) hL)))) (hR 3)))))) (hS (hR 1) hL))))
theorem En7 {a0:Sl}{a1:Int}{K:Bool->Wp}{w:World}(h:F128 a0 a1 K w):Aa Tryz.prog 128 #[a0.v,(vI a1)] rB K w:=tied Ai Tryz.func128 h128 _ h
def F129 (a0:Sl) (a1:Int) (K:Bool->Wp):Wp:=ixI a0 a1 1 λx2=>cN 125 #[(vI x2)] λx3=>sif (x3 !=6) (K false) (jI (λJ4=>sN (λs6 again7=>sif (decide (s6.2.1>=0)) (ixI a0 s6.2.1 1 λx9=>cN 125 #[(vI x9)] λx10=>sif (x10 !=6) (J4 (s6.1,())) (again7 ((W64 (s6.1+1)),(W64 (s6.2.1-1)),()))) (J4 (s6.1,()))) (0,(W64 (a1-1)),())) λs5=>chk ((2:Int)≠0)<|K ((Int.tmod s5.1 2)==1))
def Dx4:Hint:=(hS (hR 1) (hS (hS (hR 6) (hC (hS (hR 1) hL) hL)) (hS (hR 1) (hJ (536854752,[(5,tI)]) (hS (hR 3) (.block (.loop 536805600 [(5,tI),(6,tI)] (hS (hS (hR 2) (hC hL hL)) (hS (.block (hS (hR 6) (hS (hS (hR 2) (hC hL hL)) (hR 3)))) (hR 3)))))) (hS (hR 4) hL)))))
theorem En6 {a0:Sl}{a1:Int}{K:Bool->Wp}{w:World}(h:F129 a0 a1 K w):Aa Tryz.prog 129 #[a0.v,(vI a1)] rB K w:=tied Ai Tryz.func129 Dx4 _ h
def F160 (a0:(Int×Int×Int×Bool×Int×Unit)) (K:Int->Wp):Wp:=Af (.cells #[(vI a0.1),(vI a0.2.1),(vI a0.2.2.1),(.bool a0.2.2.2.1),(vI a0.2.2.2.2.1)] 76) λb1=>jU (λJ2=>sI (λs4 again5=>sif (decide (s4.1<6)) (jB (λJ6=>drew<|ld (.bool) (ad b1 3) λ(x8:Bool)=>sif x8 (lI (ad b1 2) λx9=>chk (0<=s4.1/\s4.1<((6:Nat):Int))<|ld cI ((at0 0).add (scaled (Int.toNat s4.1) 1)) λ(x10:Int)=>J6 ((x9==x10),())) (J6 (false,()))) λs7=>sif s7.1 (K s4.1) (again5 ((W64 (s4.1+1)),()))) (J2 ())) (0,())) λs3=>K (-1)
def Du3:Hint:=(hS (hR 2) (hJ (524284,[]) (hS (hR 1) (.block (.loop 524284 [(3,tI)] (hS (hS (hR 2) (hC hL hL)) (hS (.block (hJ (261888,[(17,tB)]) (.region (lR 10) (.ops 3 (.split 10 (hO 7) (.skips 6 (hO 1))))) (hC (hS (hR 2) hL) hL))) (hR 3)))))) (hS (hR 1) hL)))
theorem Ek4 {a0:(Int×Int×Int×Bool×Int×Unit)}{K:Int->Wp}{w:World}(h:F160 a0 K w):Aa Tryz.prog 160 #[(vA c76 a0)] rI K w:=tied Ai Tryz.func160 Du3 _ h
end
section
open Go Go.Vx Cdc Trx
section
variable {w w':World}{S:Nat->Prop}
structure Oj (w:World) (N:Nat) (r z:Sl) (l m:List Int):Prop where
 one:Ar w N r 3 1 (iv l)
 two:Ar w N z 3 1 (iv m)
 apart:∀k,r.blk k->¬z.blk k
theorem Oj.nil (w:World) (N:Nat):Oj w N ⟨none,0,0⟩ ⟨none,0,0⟩ [] []:=⟨Ar.nil _ _ _ _,Ar.nil _ _ _ _,λk ⟨_,hp,_⟩=>by cases hp⟩
theorem Oj.ext {N:Nat}{r z:Sl}{l m:List Int}(h:Oj w N r z l m) (e:Ext w w'):Oj w' N r z l m:=⟨h.one.ext e,h.two.ext e,h.apart⟩
theorem Oj.box {N b:Nat}{r z:Sl}{l m:List Int}{c:Array Value}{fr:Nat×Nat}{t:TypeId}(h:Oj w N r z l m) (hb:w.heap[b]?=some (.cells c t fr)) (ht:3≠t) (u:Upd (λk=>k=b) w w'):Oj w' N r z l m:=⟨h.one.box hb ht u,h.two.box hb ht u,h.apart⟩
theorem Oj.swap {N:Nat}{r z:Sl}{l m:List Int}(h:Oj w N r z l m):Oj w N z r m l:=⟨h.two,h.one,λk hz hr=>h.apart k hr hz⟩
theorem Bv6 {N:Nat}{r z:Sl}{l m:List Int}{v:Int}{b:Nat}{K:Sl->Wp}(h:Oj w N r z l m) (hb:w.heap[b]?=some (.cells #[.int .i64 v] 3 (0,0))) (hl:l.length<2^40) (hN:N<=w.heap.size)
  (hK:∀r' w',Oj w' N r' z (l++[v]) m->(∀k,r.blk k->N<=k)->Upd r.blk w w'->K r' w') :
  Du Tryz.prog (.one (.one .sl)) (Builtin.append_ #[43,43] 43 #[.slice r.a r.len r.cap,.slice (some (at0 b)) 1 1]) K w:=by
 have hrl:=h.one.len1;rw [gW] at hrl;refine En Qi Qi.ts_ (x:=⟨some (at0 b),1,1⟩) h.one (Ab6 hb) (λv hv=>by rw [iT.1 hv];rfl) (by
  show (r.len+1+(r.len+1)/4+512)*8<=2^48
  omega) hN λr' w' o l' u k=>hK r' w' ⟨?_,h.two.upd u λk hk hz hr=>h.apart k hr hz,λx hx hz=>?_⟩ (λk hk=>h.one.Fq hk) u
 {have:iv (l++[v])=iv l++[.int .i64 v]:=(by simp);rw [this];exact o};{rcases k x hx with y|y;{exact h.apart x y hz};{have:=h.two.in.Ph hz;omega}}
abbrev r5O (e:Enc) (sa st:Sl):Obj:=.cells #[.int .i64 e.num,.int .i64 65536,.slice sa.a sa.len sa.cap,.slice st.a st.len st.cap,.slice none 0 0] 46 (0,0)
structure Si (w:World) (r:Nat) (e:Enc) (B:List Int) (F:Nat->Prop):Prop where
 ex:∃(sa st:Sl) (T:List Int),w.heap[r]?=some (r5O e sa st)/\Bl w sa 3 1 (iv B)/\Bl w st 3 1 (iv T)/\T.length=B.length/\(∀k,sa.blk k->F k)/\(∀k,st.blk k->F k)
 root:F r
 fit:∀a∈B,sz e a≠0
 own:∀k,F k->k<w.heap.size
 len:B.length<=1048576
theorem Si.upd {r:Nat}{e:Enc}{B:List Int}{F:Nat->Prop}(h:Si w r e B F) (u:Upd S w w') (hS:∀k,F k->¬S k):Si w' r e B F:=by obtain ⟨sa,st,T,h1,h2,h3,h4,h5,h6⟩:=h.ex;exact ⟨⟨sa,st,T,u.get h1 (hS r h.root),h2.upd u λk hk=>hS k (h5 k hk),h3.upd u λk hk=>hS k (h6 k hk),h4,h5,h6⟩,h.root,h.fit,λk hk=>fM (h.own k hk) u.size,h.len⟩
theorem Si.ext {r:Nat}{e:Enc}{B:List Int}{F:Nat->Prop}(h:Si w r e B F) (x:Ext w w'):Si w' r e B F:=h.upd x λ_ _=>id
theorem Si.Pj {r:Nat}{e:Enc}{B:List Int}{F:Nat->Prop}(h:Si w r e B F){K:Addr->Sl->Wp}(hK:∀s,Bl w s 3 1 (iv B)->K (at0 r) s w):nn (some (at0 r)) (λp=>ld .sl (p.add 2) (K p)) w:=by obtain ⟨sa,st,T,h1,h2,h3,h4,h5,h6⟩:=h.ex;exact Am (Ce (off:=2) (x:=sa) h1 rfl (hK sa h2))
theorem Si.Di2 {r:Nat}{e:Enc}{B:List Int}{F:Nat->Prop}(h:Si w r e B F){K:Addr->Sl->Wp}(hK:∀s T,Bl w s 3 1 (iv T)->T.length=B.length->K (at0 r) s w):nn (some (at0 r)) (λp=>ld .sl (p.add 3) (K p)) w:=by obtain ⟨sa,st,T,h1,h2,h3,h4,h5,h6⟩:=h.ex;exact Am (Ce (off:=3) (x:=st) h1 rfl (hK st T h3 h4))
theorem Si.Da4 {r:Nat}{e:Enc}{B:List Int}{F:Nat->Prop}(h:Si w r e B F){K:Addr->Int->Wp}(hK:K (at0 r) e.num w):nn (some (at0 r)) (λp=>ld (.int .i64) p (K p)) w:=by obtain ⟨sa,st,T,h1,h2,h3,h4,h5,h6⟩:=h.ex;exact Am (Ce (off:=0) (x:=e.num) h1 rfl hK)
theorem Si.Dg0 {r:Nat}{e:Enc}{B:List Int}{F:Nat->Prop}(h:Si w r e B F){K:Addr->Int->Wp}(hK:(∀w',Ext w w'->w'.cell? ((at0 r).add 1)=some (Cell.val (.int .i64) 65536))->K (at0 r) 65536 w):nn (some (at0 r)) (λp=>ld (.int .i64) (p.add 1) (K p)) w:=by obtain ⟨sa,st,T,h1,h2,h3,h4,h5,h6⟩:=h.ex;exact Am (Ce (off:=1) (x:=65536) h1 rfl (hK λw' x=>cell_of (off:=1) (x.ext_get h1) rfl))
theorem Da2 (e:Enc):1<=e.num/\e.num<=4:=by cases e<;>decide
set_option maxHeartbeats 1000000 in
theorem Al0 {e:Enc}{s:Sl}{l:Bs}(hs:SlX w s 1 (bv l)) (hl:l.length<=65536){K:Option Addr×Int×Unit->Wp}(hK:∀r w' F,Si w' r e (atoms (ats e l)) F->(∀k,F k->w.heap.size<=k)->Ext w w'->K (some (at0 r),0,()) w') :
  Aa Tryz.prog 12 #[.int .i64 e.num,s.v,.int .i64 65536] (.tup [(.one .ptr),(.one (.int .i64))]) K w:=by
 refine A12 ?_;unfold F12;have hen:=Da2 e;have hsl:=hs.len1;rw [gW] at hsl;refine Ae (λx W=>x=(false,())/\w=W) (Ac (λhc=>by simp only [iI] at hc;omega) (λ_=>⟨Az ?_,rfl⟩)) ?_;{simp only [iI,kG,dO,iff_false];omega};rintro _ _ ⟨rfl,rfl⟩;refine Ah (Ae (λx W=>x=(false,())/\w=W) (Ah ⟨rfl,rfl⟩) ?_);rintro _ _ ⟨rfl,rfl⟩;refine Ah (Ac (λhc=>by simp only [iI,kG] at hc;omega) (λ_=>?_));refine (St.start w).Am1 λb5 w1 S1 e1 hb5=>?_;have S1:St (λ_=>False) w w1 [(b5,r5O e ⟨none,0,0⟩ ⟨none,0,0⟩)]:=S1;have hsz1:b5<w1.heap.size:=lt_of_heap (S1.at_ 0 rfl);have hb:=S1.ge 0 rfl;refine Ae (λ_ W=>∃sa st T,St (λ_=>False) w W [(b5,r5O e sa st)]/\Oj W w1.heap.size sa st (atoms (ats e l)) T/\T.length=(atoms (ats e l)).length) ?_ ?_
 ·refine Ba (λx W=>∃(n:Nat) (sa st:Sl) (L T:List Int),x=((n:Int),())/\n<=l.length/\St (λ_=>False) w W [(b5,r5O e sa st)]/\Oj W w1.heap.size sa st L T/\T.length=L.length/\L++atoms (ats e (l.drop n))=atoms (ats e l)/\L.length<=n/\w1.heap.size<=W.heap.size) (λx _=>((l.length:Int)-x.1).toNat) ⟨0,⟨none,0,0⟩,⟨none,0,0⟩,[],[],rfl,iW _,S1,Oj.nil _ _,rfl,by simp,iW _,fJ _⟩ ?_;rintro _ W ⟨n,sa,st,L,T,rfl,hn,SW,tw,hT,hL,hLn,hWs⟩;dsimp only;refine Ac (λhc=>?_) (λhc=>?_)
  ·simp only [iI] at hc;obtain ⟨ty,hin⟩:=hs.Av6 (by omega);have hne:l.drop n≠[]:=by
    intro h
    have:=fC List.length h
    rw [gJ] at this
    simp at this;omega
   have hns:=Xd e hne;rw [gJ] at hns;refine Bn8 (hin.ext SW.upd) (by omega) (by omega) λw2 e2=>?_;have S2:=SW.ext e2;rw [Og e hne] at hL;obtain ⟨a,ha⟩:∃a,(nx e (l.drop n)).1=a:=⟨_,rfl⟩;obtain ⟨m,hm⟩:∃m,(nx e (l.drop n)).2=m:=⟨_,rfl⟩;have hL:(L++[a])++atoms (ats e (l.drop (n+m)))=atoms (ats e l):=by
    rw [←hL,eG]
    show L++([a]++_)=L++((nx e (l.drop n)).1::atoms (ats e ((l.drop n).drop (nx e (l.drop n)).2)))
    rw [ha,hm,iR];rfl
   rw [hm] at hns;rw [ha,hm];refine Ac (λhc2=>by simp only [iI] at hc2;omega) (λ_=>?_);refine Am (S2.ld (off:=2) 0 rfl (x:=sa) rfl (S2.Af λb13 w3 S3 e3=>?_));have tw3:=(tw.ext e2).ext e3;refine Bv6 tw3 (S3.at_ 0 rfl) (by omega) (by have:=e2.size;have:=e3.size;omega) λsa' w4 t4 g4 u4=>?_;have S4:St (λ_=>False) w w4 [(b5,r5O e sa st)]:=S3.tail.fresh u4 (λk hk=>.inr (by have:=g4 k hk;omega)) (λz hz hk=>by
    rw [iT.1 hz] at hk
    have:=g4 _ hk
    dsimp only at this;omega)
   refine Am (S4.stC (off:=2) 0 rfl (by show 2<5;decide) λw5 S5 u5=>?_);have S5:St (λ_=>False) w w5 [(b5,r5O e sa' st)]:=S5;have t5:=t4.box (S4.at_ 0 rfl) (by decide) u5;refine Am (S5.ld (off:=3) 0 rfl (x:=st) rfl (S5.Af λb18 w6 S6 e6=>?_));(have s36:w1.heap.size<=w6.heap.size:=by have:=e2.size;have:=e3.size;have:=u4.size;have:=u5.size;have:=e6.size;omega);refine Bv6 (t5.ext e6).swap (S6.at_ 0 rfl) (by omega) s36 λst' w7 t7 g7 u7=>?_;have S7:St (λ_=>False) w w7 [(b5,r5O e sa' st)]:=S6.tail.fresh u7 (λk hk=>.inr (by have:=g7 k hk;omega)) (λz hz hk=>by
    rw [iT.1 hz] at hk
    have:=g7 _ hk
    dsimp only at this;omega)
   refine Am (S7.stC (off:=3) 0 rfl (by show 3<5;decide) λw8 S8 u8=>?_);have S8:St (λ_=>False) w w8 [(b5,r5O e sa' st')]:=S8;have t8:=t7.swap.box (S7.at_ 0 rfl) (by decide) u8;(have ew:W64 ((n:Int)+(m:Int))=((n+m:Nat):Int):=by rw [wrap64 (by omega) (by omega)];omega);rw [ew];exact ⟨⟨n+m,sa',st',L++[a],T++[(n:Int)],rfl,by omega,S8,t8,by rw [iE,iE,hT];rfl,hL,by rw [iE];show L.length+1<=n+m;omega,by have:=u7.size;have:=u8.size;omega⟩,by omega⟩
  {simp only [iH] at hc;obtain rfl:n=l.length:=(by omega);rw [lY,Kv] at hL;(have hL:L=atoms (ats e l):=by rw [←hL];simp);subst hL;exact ⟨sa,st,T,SW,tw,hT⟩}
 rintro _ W ⟨sa,st,T,SW,tw,hT⟩;have hlen:(atoms (ats e l)).length<=1048576:=by
  rw [gW]
  have:=Wn (Gp e l)
  have h2:szs (ats e l)=l.length:=Hz e l
  omega
 have hfit:∀a∈atoms (ats e l),sz e a≠0:=λa ha=>by
  obtain ⟨x,hx,rfl⟩:=gY.1 ha
  have h1:=Bt7 e _ l (fJ _) x hx
  have h2:=Bz3 e _ l (fJ _) x hx
  omega
 refine hK b5 W (λk=>w.heap.size<=k/\k<W.heap.size) ⟨⟨sa,st,T,SW.at_ 0 rfl,tw.one.in,tw.two.in,hT,λk hk=>⟨?_,tw.one.in.Ph hk⟩,λk hk=>⟨?_,tw.two.in.Ph hk⟩⟩,⟨hb,lt_of_heap (SW.at_ 0 rfl)⟩,hfit,λk hk=>hk.2,hlen⟩ (λk hk=>hk.1) SW.upd;{have:=tw.one.Fq hk;have:=e1.size;omega};{have:=tw.two.Fq hk;have:=e1.size;omega}
end
end
section
open Cdc
namespace Gly
structure Row where
 lo:Nat
 hi:Nat
 v:Nat
def digit (c:UInt8):Nat:=if 57<c.toNat then c.toNat-55 else c.toNat-48
def num (l:Bs):Nat:=l.foldl (λn c=>n*16+digit c) 0
def okC (c:UInt8):Bool:=(Nat.ble 48 c.toNat&&Nat.ble c.toNat 57)||(Nat.ble 65 c.toNat&&Nat.ble c.toNat 70)
def Sz:Nat->Bs->List Row
 |0,_=>[]
 |n+1,l=>⟨num (l.take 5),num ((l.drop 5).take 5),num ((l.drop 10).take 1)⟩::Sz n (l.drop 11)
def Lh:List Row->Nat->Nat
 |[],_=>0
 |r::t,a=>bif Nat.ble r.lo a&&Nat.ble a r.hi then r.v else Lh t a
def srt:Nat->List Row->Bool
 |_,[]=>true
 |m,r::t=>Nat.ble m r.lo&&(Nat.ble r.lo r.hi&&srt (r.hi+1) t)
theorem Bw1 (c:UInt8):okC c=true↔(48<=c.toNat/\c.toNat<=57)\/(65<=c.toNat/\c.toNat<=70):=by simp [okC,nG]
theorem At6:∀(n:Nat) (l:Bs),(Sz n l).length=n
 |0,_=>rfl
 |n+1,l=>by rw [Sz,dB,At6]
theorem At7:∀(n:Nat) (l:Bs) (m:Nat),m<n->(Sz n l)[m]?=some ⟨num ((l.drop (11*m)).take 5),num ((l.drop (11*m+5)).take 5),num ((l.drop (11*m+10)).take 1)⟩
 |n+1,l,0,_=>by simp [Sz]
 |n+1,l,m+1,h=>by
  rw [Sz,nD,At7 n _ m (by omega)]
  simp only [iR]
  rw [show 11+11*m=11*(m+1) by omega,show 11+(11*m+5)=11*(m+1)+5 by omega,show 11+(11*m+10)=11*(m+1)+10 by omega]
theorem Ag9:∀{T:List Row}{m:Nat},srt m T=true->∀{i:Nat}{r:Row},T[i]?=some r->m<=r.lo/\r.lo<=r.hi
 |[],_,_,i,r,hr=>by simp at hr
 |x::t,m,h,0,r,hr=>by
  cases hr
  simp only [srt,aV,nG] at h
  exact ⟨h.1,h.2.1⟩
 |x::t,m,h,i+1,r,hr=>by
  simp only [srt,aV,nG] at h
  have:=Ag9 h.2.2 (i:=i) (by simpa using hr)
  exact ⟨by omega,this.2⟩
theorem Ay4:∀{T:List Row}{m:Nat},srt m T=true->∀{i j:Nat}{r s:Row},i<j->T[i]?=some r->T[j]?=some s->r.hi<s.lo
 |[],_,_,i,j,r,s,_,hr,_=>by simp at hr
 |x::t,m,h,0,j+1,r,s,_,hr,hs=>by
  cases hr
  simp only [srt,aV,nG] at h
  have:=Ag9 h.2.2 (i:=j) (by simpa using hs)
  omega
 |x::t,m,h,i+1,j+1,r,s,hij,hr,hs=>by
  simp only [srt,aV,nG] at h
  exact Ay4 h.2.2 (i:=i) (j:=j) (by omega) (by simpa using hr) (by simpa using hs)
theorem Av4:∀{T:List Row}{a:Nat},(∀(i:Nat) (r:Row),T[i]?=some r->a<r.lo\/r.hi<a)->Lh T a=0
 |[],_,_=>rfl
 | x::t,a,h=>by
  have h0:=h 0 x rfl
  have:(Nat.ble x.lo a&&Nat.ble a x.hi)=false:=by
   rw [lX]
   simp only [ne_eq,aV,nG]
   omega
  rw [Lh,this]
  exact Av4 λi r hr=>h (i+1) r (by simpa using hr)
theorem Bx0:∀{T:List Row}{m a:Nat},srt m T=true->∀{i:Nat}{r:Row},T[i]?=some r->r.lo<=a->a<=r.hi->Lh T a=r.v
 |[],_,_,_,i,r,hr,_,_=>by simp at hr
 |x::t,m,a,h,0,r,hr,h1,h2=>by
  cases hr
  have:(Nat.ble x.lo a&&Nat.ble a x.hi)=true:=by simp only [aV,nG];omega
  rw [Lh,this];rfl
 | x::t,m,a,h,i+1,r,hr,h1,h2=>by
  have hlt:=Ay4 h (i:=0) (j:=i+1) (by omega) rfl hr
  have:(Nat.ble x.lo a&&Nat.ble a x.hi)=false:=by
   rw [lX]
   simp only [ne_eq,aV,nG]
   omega
  rw [Lh,this]
  simp only [srt,aV,nG] at h
  exact Bx0 h.2.2 (i:=i) (by simpa using hr) h1 h2
theorem Df7:∀(l:Bs),l.all okC=true->num l<16^l.length:=by
 have key:∀(l:Bs) (n k:Nat),l.all okC=true->n<16^k->l.foldl (λn c=>n*16+digit c) n<16^(k+l.length):=by
  intro l
  induction l with
  |nil=>intro n k _ h;simpa using h
  |cons c r ih=>intro n k h hn;simp only [aY,aV] at h;have hc:=(Bw1 c).1 h.1;(have hd:digit c<16:=by unfold digit;split<;>omega);rw [dI,dB,show k+(r.length+1)=(k+1)+r.length by omega];refine ih _ _ h.2 ?_;rw [Nat.pow_succ];omega
 intro l h;have:=key l 0 0 h (by simp);simpa [num] using this
def Dg6:List Row:=Sz 324 Uh.data.toList
def Da7:List Row:=Sz 26 Ui.data.toList
def Ca1:List Row:=Sz 81 Ug.data.toList
instance (a:Int):Decidable (Scalar a):=by unfold Scalar;infer_instance
def cls (a:Int):Nat :=
 if Scalar a then (if 44032<=a/\a<55204 then (if (a.toNat-44032)%28=0 then 12 else 13) else Lh Dg6 a.toNat) else 3
def cnj (a:Int):Nat :=
 if a=2381\/a=2509\/a=2765\/a=2893\/a=3149\/a=3405 then 3 else if a=8204 then 0 else if cls a=4\/cls a=5 then 2 else if cls a=0/\Scalar a then Lh Da7 a.toNat else 0
def wrd (a:Int):Nat :=
 if Scalar a then (if Lh Ca1 a.toNat=2 then 2 else if Lh Ca1 a.toNat=1 then 0 else 1) else 1
end Gly
end
section
open Gly
namespace Clu
structure Sc where
 last:Nat
 flags:Nat
 pict:Nat
 conj:Nat
def Sc.zero:Sc:=⟨0,0,0,0⟩
def Sc.note (s:Sc) (c p:Nat):Sc :=
 ⟨c,if c=6 then s.flags+1 else 0,if c=14 then 1 else if s.pict=1/\c=5 then 2 else if s.pict=1/\c=4 then s.pict else 0,
  if p=1 then 1 else if 0<s.conj/\p=3 then 2 else if 0<s.conj/\p=2 then s.conj else 0⟩
def apart (c:Nat):Bool:=decide (c=1\/c=2\/c=3)
def Nb (l r:Nat):Bool :=
 decide ((l=9/\(r=9\/r=10\/r=12\/r=13))\/((l=12\/l=10)/\(r=10\/r=11))\/((l=13\/l=11)/\r=11))
def joins (s:Sc) (c p:Nat):Bool :=
 if s.last=1/\c=2 then true else if apart s.last=true\/apart c=true then false else if c=4\/c=5\/c=8\/s.last=7 then true else if Nb s.last c then true
 else if p=1/\s.conj=2 then true else if c=14 then s.pict==2 else if c=6 then s.flags%2==1 else false
def stp (s:Sc) (a:Int):Sc:=if joins s (cls a) (cnj a) then s.note (cls a) (cnj a) else Sc.zero.note (cls a) (cnj a)
def sc (l:List Int):Sc:=l.foldl stp Sc.zero
theorem Aj2 (a:Int):stp Sc.zero a=Sc.zero.note (cls a) (cnj a):=by unfold stp;split<;>rfl
theorem Bu3 {s:Sc}{a:Int}(h:joins s (cls a) (cnj a)=false):stp s a=stp Sc.zero a:=by rw [Aj2];unfold stp;rw [aJ (by rw [h];decide)]
theorem As9 {s:Sc}{a:Int}(h:joins s (cls a) (cnj a)=true):stp s a=s.note (cls a) (cnj a):=by unfold stp;rw [aF h]
theorem P8 (l:List Int) (a:Int):sc (l++[a])=stp (sc l) a:=by simp [sc]
theorem Cg4 (s:Sc) (a:Int):(stp s a).flags<=s.flags+1:=by unfold stp;split<;>(simp only [Sc.note,Sc.zero];split<;>omega)
theorem Cr3 (l:List Int):(sc l).flags<=l.length:=by
 have key:∀(l:List Int) (s:Sc),(l.foldl stp s).flags<=s.flags+l.length:=by
  intro l
  induction l with
  |nil=>intro s;simp
  |cons a r ih=>intro s;have:=ih (stp s a);have:=Cg4 s a;simp only [dI,dB];omega
 have:=key l Sc.zero;simpa [sc,Sc.zero] using this
theorem Bh4 (s:Sc) (a:Int):(stp s a).last=cls a:=by unfold stp;split<;>rfl
def bk (A:List Int) (k:Nat):Bool:=match A[k]? with
 |some a=>k==0||!joins (sc (A.take k)) (cls a) (cnj a)
 |none=>k==A.length
theorem Y7 (A:List Int):bk A 0=true:=by unfold bk;cases A<;>simp
theorem Bc9 (A:List Int):bk A A.length=true:=by unfold bk;rw [kL (fJ _)];simp
theorem By9 {A:List Int}{k:Nat}{a:Int}(h:A[k]?=some a) (h0:0<k):bk A k = !joins (sc (A.take k)) (cls a) (cnj a):=by unfold bk;rw [h];(have:(k==0)=false:=by rw [jO];omega);simp [this]
theorem Aw9 {A:List Int}{k:Nat}(h:bk A k=true):k<=A.length:=by unfold bk at h;split at h;{rename_i a ha;have:=(fG.1 ha).1;omega};{simp only [jM] at h;omega}
theorem Di5 {A:List Int}{i:Nat}{a:Int}(hb:bk A i=true) (ha:A[i]?=some a):sc (A.take (i+1))=sc [a]:=by
 rw [kT,ha];show sc (A.take i++[a])=_;rw [P8];show _=stp Sc.zero a;cases i with
 |zero=>rfl
 |succ i=>rw [By9 ha (by omega)] at hb;exact Bu3 (by simpa using hb)
def Oc (A:List Int) (k:Nat):List Nat:=(List.range (k+1)).filter (bk A)
def cuts (A:List Int):List Nat:=Oc A A.length
theorem Bj1 (A:List Int):Oc A 0=[0]:=by unfold Oc;have:List.range (0+1)=[0]:=rfl;rw [this,nH (Y7 A)];rfl
theorem Bj2 {A:List Int}{i j:Nat}(hij:i<j) (hb:bk A j=true) (hn:∀k,i<k->k<j->bk A k=false):Oc A j=Oc A i++[j]:=by
 unfold Oc;have key:∀d,i+d<j->(List.range (i+d+1)).filter (bk A)=(List.range (i+1)).filter (bk A):=by
  intro d
  induction d with
  |zero=>intro _;rfl
  |succ d ih=>intro h;rw [show i+(d+1)+1=(i+d+1)+1 by omega,mF,nJ,ih (by omega),nK (by rw [hn _ (by omega) (by omega)];decide)];simp
 rw [mF,nJ,nH hb];obtain ⟨d,rfl⟩:∃d,j=i+d+1:=⟨j-i-1,by omega⟩;rw [key d (by omega)];rfl
theorem Am6 {A:List Int}{k:Nat}:k∈cuts A↔bk A k=true:=by unfold cuts Oc;rw [nM,bH];exact ⟨λh=>h.2,λh=>⟨by have:=Aw9 h;omega,h⟩⟩
theorem Da5 {A:List Int}:(cuts A).Pairwise (·<·):=(nN).filter _
theorem Ao7 (A:List Int) (k:Nat):(Oc A k).length<=k+1:=by
 unfold Oc
 have:=nO (bk A) (List.range (k+1))
 rwa [lZ] at this
end Clu
end
section
open Go Go.Vx
def F131 (a0:Sl) (K:Sl->Wp):Wp:=Af (.cells #[(vI 0)] 3) λb1=>Af (.cells #[(.slice none 0 0)] 43) λb2=>stC (at0 b2) (.slice (some (at0 b1)) 1 1)<|Aa Tryz.prog 177 #[a0.v,(vI 0),(.func (Fn.func 178) #[] #[(.pointer (some (at0 b2)))])] (.tup []) λ(x3:(Unit))=>ld (.sl) (at0 b2) λ(x4:Sl)=>K x4
def Dx2:Hint:=(hS (hR 1) (hS (hR 3) (hS (hR 3) (hS (hR 2) hL))))
theorem En4 {a0:Sl}{K:Sl->Wp}{w:World}(h:F131 a0 K w):Aa Tryz.prog 131 #[a0.v] rS K w:=tied Ai Tryz.func131 Dx2 _ h
def F177 (a0:Sl) (a1:Int) (a2:Value) (K:Unit->Wp):Wp:=sI (λs1 again2=>sif (decide (s1.1<((a0.len:Nat):Int))) (ixI a0 s1.1 1 λx4=>Aa Tryz.prog 201 #[(vI x4)] (.one (.agg Ap3)) λ(x5:I4)=>Af (.cells #[(vI 0),(vI 0),(vI 0),(vI 0)] 205) λb6=>Ad (at0 b6) (vA Ap3 x5) 4<|jU (λJ7=>sI (λs9 again10=>sif (decide (s9.1<((a0.len:Nat):Int))) (ixI a0 s9.1 1 λx12=>cB 202 #[(.pointer (some (at0 b6))),(vI x12)] λx13=>sif x13 (again10 ((W64 (s9.1+1)),())) (Cj Tryz.prog (do let d ←Deferred.ofValue a2 #[(vI s9.1)];invoke d.target d.args:Sem Next) rB λ(x14:Bool)=>sif (!x14) (K ()) (again2 (s9.1,())))) (J7 ())) ((W64 (s1.1+1)),())) λs8=>Cj Tryz.prog (do let d ←Deferred.ofValue a2 #[(vI ((a0.len:Nat):Int))];invoke d.target d.args:Sem Next) rB λ(x15:Bool)=>K ()) (K ())) (a1,())
def Ds9:Hint:=(.scope (hS (hR 2) (hS hL (.block (.loop 0x1fffffffdc0 [(6,tI)] (hS (hS (hR 4) (hC hL hL)) (.block (hS (hR 7) (hJ (0x1ffff80140,[]) (hS (hR 3) (.block (.loop 0x1fffe00140 [(8,tI)] (hS (hS (hR 4) (hC hL hL)) (hS (.block (hS (hS (hR 5) (hC hL hL)) (hS (hS (hR 4) (hC hL hL)) (hS (hR 2) hL)))) (hR 3)))))) (hS (hR 4) hL))))))))))
theorem Ej2 {a0:Sl}{a1:Int}{a2:Value}{K:Unit->Wp}{w:World}(h:F177 a0 a1 a2 K w):Aa Tryz.prog 177 #[a0.v,(vI a1),a2] (.tup []) K w:=tied Ai Tryz.func177 Ds9 _ h
def F178 (a0:Int) (v0:Addr) (K:Bool->Wp):Wp:=ld (.sl) v0 λ(x1:Sl)=>Af (.cells #[(vI a0)] 3) λb2=>Du Tryz.prog rS (Builtin.append_ #[43,43] 43 #[x1.v,(.slice (some (at0 b2)) 1 1)]) λ(x3:Sl)=>stC v0 x3.v<|K true
def Ds8:Hint:=(hS (hR 1) (hS (hR 5) (hS (hR 1) hL)))
theorem Ej1 {a0:Int}{v0:Addr}{K:Bool->Wp}{w:World}(h:F178 a0 v0 K w):Aa Tryz.prog 178 #[(vI a0),(.pointer (some v0))] rB K w:=tied Ai Tryz.func178 Ds8 _ h
def F201 (a0:Int) (K:I4->Wp):Wp:=Af (.cells #[(vI 0),(vI 0),(vI 0),(vI 0)] 205) λb1=>Af (.cells #[(vI 0),(vI 0),(vI 0),(vI 0)] 205) λb2=>cN 207 #[(vI a0)] λx3=>cN 208 #[(vI a0)] λx4=>Aa Tryz.prog 206 #[(.pointer (some (at0 b2))),(vI x3),(vI x4)] (.tup []) λ(x5:(Unit))=>lds Ap3 (at0 b2) λ(x6:I4)=>Ad (at0 b1) (vA Ap3 x6) 4<|lds Ap3 (at0 b1) λ(x7:I4)=>K x7
def Dq6:Hint:=(hS (hR 1) (hS (hR 1) (hS (hR 5) (hS (hR 2) hL))))
theorem Eh1 {a0:Int}{K:I4->Wp}{w:World}(h:F201 a0 K w):Aa Tryz.prog 201 #[(vI a0)] (.one (.agg Ap3)) K w:=tied Ai Tryz.func201 Dq6 _ h
def F202 (a0:Option Addr) (a1:Int) (K:Bool->Wp):Wp:=cN 207 #[(vI a1)] λx1=>cN 208 #[(vI a1)] λx2=>jB (λJ3=>jB (λJ5=>nn a0 λp7=>lI p7 λx8=>sif (x8==1) (J5 ((x1==2),())) (J5 (false,()))) λs6=>sif s6.1 (J3 (true,())) (jB (λJ9=>nn a0 λp11=>lI p11 λx12=>cB 209 #[(vI x12)] λx13=>sif x13 (J9 (x13,())) (cB 209 #[(vI x1)] λx14=>J9 (x14,()))) λs10=>sif s10.1 (J3 (false,())) (jB (λJ15=>sif (x1==4) (J15 ((x1==4),())) (sif (x1==5) (J15 ((x1==5),())) (sif (x1==8) (J15 ((x1==8),())) (nn a0 λp17=>lI p17 λx18=>J15 ((x18==7),()))))) λs16=>sif s16.1 (J3 (true,())) (nn a0 λp19=>lI p19 λx20=>cB 210 #[(vI x20),(vI x1)] λx21=>sif x21 (J3 (true,())) (jB (λJ22=>sif (x2==1) (nn a0 λp24=>ld cI (p24.add 3) λ(x25:Int)=>J22 ((x25==2),())) (J22 (false,()))) λs23=>sif s23.1 (J3 (true,())) (sif (x1==14) (nn a0 λp26=>ld cI (p26.add 2) λ(x27:Int)=>J3 ((x27==2),())) (sif (x1==6) (nn a0 λp28=>ld cI (p28.add 1) λ(x29:Int)=>chk ((2:Int)≠0)<|J3 (((Int.tmod x29 2)==1),())) (J3 (false,()))))))))) λs4=>jU (λJ30=>sif s4.1 (Aa Tryz.prog 206 #[(.pointer a0),(vI x1),(vI x2)] (.tup []) λ(x32:(Unit))=>J30 ()) (J30 ())) λs31=>K s4.1
def Dq5:Hint:=(hS (hR 1) (hS (hR 6) (hS (hR 1) (hJ (0xffffffffffffffff080,[(7,tB)]) (.block (hJ (4190208,[(12,tB)]) (.region [] (.ops 6 (.split 18 (hO 4) (.skips 2 (hO 2))))) (hC (hR 1) (hJ (0x3fc00000,[(22,tB)]) (hS (hR 6) (hC hL (hR 3))) (hC hL (hJ (0x3ffc0000000,[(30,tB)]) (hS (hR 3) (hC hL (hS (hR 3) (hC hL (hS (hR 3) (hC hL (hR 6))))))) (hC (hR 1) (hS (hR 7) (hC (hR 1) (hJ ((mR [(49,59)]),[(49,tB)]) (.region [] (.ops 3 (.split 52 (hO 7) (.skips 5 (hO 2))))) (hC (hR 1) (hS (hR 3) (hC (hR 6) (hS (hR 3) (hC (hR 7) hL))))))))))))))) (hJ ((mR [(76,81)]),[]) (hS (hR 1) (hC (hR 4) hL)) (hS (hR 2) hL))))))
theorem Eh0 {a0:Option Addr}{a1:Int}{K:Bool->Wp}{w:World}(h:F202 a0 a1 K w):Aa Tryz.prog 202 #[(.pointer a0),(vI a1)] rB K w:=tied Ai Tryz.func202 Dq5 _ h
def F205 (a0:Int) (K:Int->Wp):Wp:=cB 211 #[(vI a0)] λx1=>sif (!x1) (K 1) (cN 212 #[(.string Ug),(vI a0)] λx2=>sif (x2==2) (K 2) (sif (x2==1) (K 0) (K 1)))
def Dq2:Hint:=(hS (hR 1) (hS (hS (hR 3) (hC (hS (hR 1) hL) hL)) (hS (hS (hR 2) (.block (hS (hR 2) (hC (hS (hR 1) hL) (hS (hR 2) (hC (hS (hR 1) hL) hL)))))) (hS (hR 1) hL))))
theorem Eg8 {a0:Int}{K:Int->Wp}{w:World}(h:F205 a0 K w):Aa Tryz.prog 205 #[(vI a0)] rI K w:=tied Ai Tryz.func205 Dq2 _ h
def F206 (a0:Option Addr) (a1:Int) (a2:Int) (K:Unit->Wp):Wp:=nn a0 λp1=>stC p1 (vI a1)<|jU (λJ2=>sif (a1==6) (nn a0 λp4=>ld cI (p4.add 1) λ(x5:Int)=>nn a0 λp6=>stC (p6.add 1) (vI (W64 (x5+1)))<|J2 ()) (nn a0 λp7=>stC (p7.add 1) (vI 0)<|J2 ())) λs3=>jU (λJ8=>sif (a1==14) (nn a0 λp10=>stC (p10.add 2) (vI 1)<|J8 ()) (jB (λJ11=>nn a0 λp13=>ld cI (p13.add 2) λ(x14:Int)=>sif (x14==1) (J11 ((a1==5),())) (J11 (false,()))) λs12=>sif s12.1 (nn a0 λp15=>stC (p15.add 2) (vI 2)<|J8 ()) (jB (λJ16=>nn a0 λp18=>ld cI (p18.add 2) λ(x19:Int)=>sif (x19==1) (J16 ((a1==4),())) (J16 (false,()))) λs17=>sif s17.1 (J8 ()) (nn a0 λp20=>stC (p20.add 2) (vI 0)<|J8 ())))) λs9=>sif (a2==1) (nn a0 λp21=>stC (p21.add 3) (vI 1)<|K ()) (jB (λJ22=>nn a0 λp24=>ld cI (p24.add 3) λ(x25:Int)=>sif (decide (x25>0)) (J22 ((a2==3),())) (J22 (false,()))) λs23=>sif s23.1 (nn a0 λp26=>stC (p26.add 3) (vI 2)<|K ()) (jB (λJ27=>nn a0 λp29=>ld cI (p29.add 3) λ(x30:Int)=>sif (decide (x30>0)) (J27 ((a2==2),())) (J27 (false,()))) λs28=>sif s28.1 (K ()) (nn a0 λp31=>stC (p31.add 3) (vI 0)<|K ())))
def Dq1:Hint:=(hS (hR 5) (hJ (4193280,[]) (hS (hR 2) (hC (hR 8) (hR 4))) (hJ ((mR [(22,54)]),[]) (.block (hS (hR 3) (hC (hR 4) (hJ (0x1ff80000000,[(31,tB)]) (.region [] (.ops 6 (.split 37 (hO 4) (.skips 2 (hO 2))))) (hC (hR 4) (hJ ((mR [(44,54)]),[(44,tB)]) (.region [] (.ops 6 (.split 50 (hO 4) (.skips 2 (hO 2))))) (hC hL (hR 4)))))))) (.block (hS (hR 3) (hC (hR 4) (hJ ((mR [(63,73)]),[(63,tB)]) (.region [] (.ops 6 (.split 69 (hO 4) (.skips 2 (hO 2))))) (hC (hR 4) (hJ ((mR [(76,86)]),[(76,tB)]) (.region [] (.ops 6 (.split 82 (hO 4) (.skips 2 (hO 2))))) (hC hL (hR 4)))))))))))
theorem Eg7 {a0:Option Addr}{a1:Int}{a2:Int}{K:Unit->Wp}{w:World}(h:F206 a0 a1 a2 K w):Aa Tryz.prog 206 #[(.pointer a0),(vI a1),(vI a2)] (.tup []) K w:=tied Ai Tryz.func206 Dq1 _ h
def F207 (a0:Int) (K:Int->Wp):Wp:=cB 211 #[(vI a0)] λx1=>sif (!x1) (K 3) (jB (λJ2=>sif (decide ((W64 (a0-44032))>=0)) (J2 ((decide ((W64 (a0-44032))<11172)),())) (J2 (false,()))) λs3=>sif s3.1 (chk ((28:Int)≠0)<|sif ((Int.tmod (W64 (a0-44032)) 28)==0) (K 12) (K 13)) (cN 212 #[(.string Uh),(vI a0)] λx4=>K x4))
def Dq0:Hint:=(hS (hR 1) (hS (hS (hR 3) (hC (hS (hR 1) hL) hL)) (hS (hS (hR 3) (hJ (32256,[(14,tB)]) (.region [] (.ops 3 (.split 11 (hO 3) (.skips 2 (hO 1))))) (hC (hS (hS (hR 3) (hC (hS (hR 1) hL) hL)) (hS (hR 1) hL)) hL))) (hS (hR 3) hL))))
theorem Eg6 {a0:Int}{K:Int->Wp}{w:World}(h:F207 a0 K w):Aa Tryz.prog 207 #[(vI a0)] rI K w:=tied Ai Tryz.func207 Dq0 _ h
def F208 (a0:Int) (K:Int->Wp):Wp:=jB (λJ1=>sif (a0==2381) (J1 ((a0==2381),())) (sif (a0==2509) (J1 ((a0==2509),())) (sif (a0==2765) (J1 ((a0==2765),())) (sif (a0==2893) (J1 ((a0==2893),())) (sif (a0==3149) (J1 ((a0==3149),())) (J1 ((a0==3405),()))))))) λs2=>sif s2.1 (K 3) (sif (a0==8204) (K 0) (jU (λJ3=>cN 207 #[(vI a0)] λx5=>jB (λJ6=>sif (x5==4) (J6 ((x5==4),())) (J6 ((x5==5),()))) λs7=>sif s7.1 (K 2) (sif (x5==0) (cB 211 #[(vI a0)] λx8=>sif x8 (cN 212 #[(.string Ui),(vI a0)] λx9=>K x9) (J3 ())) (J3 ()))) λs4=>K 0))
def Dp9:Hint:=(hS (hR 1) (hS (hS (hR 1) (.block (hJ (2032,[(4,tB)]) (hS (hR 2) (hC hL (hS (hR 2) (hC hL (hS (hR 2) (hC hL (hS (hR 2) (hC hL (hS (hR 2) (hC hL (hR 2))))))))))) (hC (hS (hR 1) hL) (hS (hR 2) (hC (hS (hR 1) hL) hL)))))) (hJ (0xffe004,[]) (hS (hR 2) (.block (hJ (229376,[(15,tB)]) (hS (hR 2) (hC hL (hR 2))) (hC (hS (hR 1) hL) (hS (hR 2) (hC (hS (hR 2) (hC (hS (hR 3) hL) hL)) hL)))))) (hS (hR 1) hL))))
theorem Eg5 {a0:Int}{K:Int->Wp}{w:World}(h:F208 a0 K w):Aa Tryz.prog 208 #[(vI a0)] rI K w:=tied Ai Tryz.func208 Dp9 _ h
def F209 (a0:Int) (K:Bool->Wp):Wp:=sif (a0==1) (K true) (sif (a0==2) (K true) (K (a0==3)))
def Dp8:Hint:=(hS (hR 1) (hS (.region [] (.ops 3 (.split 5 (.skips 2 (.ops 2 (.skips 2 (hO 2)))) (.ops 4 (.split 9 (.skips 2 (hO 2)) (hO 4)))))) hL))
theorem Eg4 {a0:Int}{K:Bool->Wp}{w:World}(h:F209 a0 K w):Aa Tryz.prog 209 #[(vI a0)] rB K w:=tied Ai Tryz.func209 Dp8 _ h
def F210 (a0:Int) (a1:Int) (K:Bool->Wp):Wp:=jU (λJ1=>jB (λJ3=>sif (a1==9) (J3 ((a1==9),())) (sif (a1==12) (J3 ((a1==12),())) (J3 ((a1==13),())))) λs4=>sif s4.1 (K (a0==9)) (sif (a1==10) (sif (a0==9) (K true) (J1 ())) (sif (a1==11) (J1 ()) (K false)))) λs2=>jB (λJ5=>sif (a0==12) (J5 (true,())) (J5 ((a0==10),()))) λs6=>sif s6.1 (K true) (sif (a1==11) (sif (a0==13) (K true) (K (a0==11))) (K false))
def Dp7:Hint:=(hS (hR 1) (hS (hS (hR 1) (.block (hJ (262096,[]) (.block (hS (.block (hS (.block (hS (hS (hJ (960,[(6,tB)]) (hS (hR 2) (hC hL (hS (hR 2) (hC hL (hR 2))))) (hC hL hL)) (hS (hS (hR 2) (hC hL hL)) (hS (hR 2) (hC hL hL)))) hL)) (hS (hS (hR 3) hL) hL))) (hS (hR 2) (hC (hS (hR 1) hL) hL)))) (hS (hS (hJ (0xfc0000,[(23,tB)]) (.region [] (.ops 3 (.split 20 (.skips 2 (hO 1)) (hO 3)))) (hC (hS (hR 1) hL) hL)) (hS (.region [] (.ops 3 (.split 26 (.ops 3 (.split 29 (.skips 2 (hO 3)) (hO 5))) (.skips 6 (hO 2))))) hL)) hL)))) (hS (hR 1) hL)))
theorem Eg3 {a0:Int}{a1:Int}{K:Bool->Wp}{w:World}(h:F210 a0 a1 K w):Aa Tryz.prog 210 #[(vI a0),(vI a1)] rB K w:=tied Ai Tryz.func210 Dp7 _ h
def F211 (a0:Int) (K:Bool->Wp):Wp:=sif (decide (a0>=0)) (sif (decide (a0<55296)) (K true) (sif (decide (a0>57343)) (K (decide (a0<=1114111))) (K false))) (sif (decide (a0>57343)) (K (decide (a0<=1114111))) (K false))
def Dp6:Hint:=(hS (hR 1) (hS (.region [] (.ops 3 (.split 5 (.ops 4 (.split 9 (.skips 6 (hO 2)) (.ops 3 (.split 12 (hO 5) (.skips 2 (hO 3)))))) (.skips 2 (.ops 5 (.split 12 (hO 5) (.skips 2 (hO 3)))))))) hL))
theorem Eg2 {a0:Int}{K:Bool->Wp}{w:World}(h:F211 a0 K w):Aa Tryz.prog 211 #[(vI a0)] rB K w:=tied Ai Tryz.func211 Dp6 _ h
def F212 (a0:ByteArray) (a1:Int) (K:Int->Wp):Wp:=chk ((11:Int)≠0)<|jU (λJ1=>sN (λs3 again4=>sif (decide (s3.1<s3.2.1)) (chk ((2:Int)≠0)<|chk (0<=(W64 ((W64 (Int.tdiv (W64 (s3.1+s3.2.1)) 2))*11))/\(W64 ((W64 (Int.tdiv (W64 (s3.1+s3.2.1)) 2))*11))<=(W64 ((W64 ((W64 (Int.tdiv (W64 (s3.1+s3.2.1)) 2))+1))*11))/\(W64 ((W64 ((W64 (Int.tdiv (W64 (s3.1+s3.2.1)) 2))+1))*11))<=((a0.size:Nat):Int))<|chk (0<=(0:Int)/\(0:Int)<=5/\5<=(((a0.extract (Int.toNat (W64 ((W64 (Int.tdiv (W64 (s3.1+s3.2.1)) 2))*11))) (Int.toNat (W64 ((W64 ((W64 (Int.tdiv (W64 (s3.1+s3.2.1)) 2))+1))*11)))).size:Nat):Int))<|cN 213 #[(.string ((a0.extract (Int.toNat (W64 ((W64 (Int.tdiv (W64 (s3.1+s3.2.1)) 2))*11))) (Int.toNat (W64 ((W64 ((W64 (Int.tdiv (W64 (s3.1+s3.2.1)) 2))+1))*11)))).extract (Int.toNat 0) (Int.toNat 5)))] λx5=>sif (decide (a1<x5)) (again4 (s3.1,(W64 (Int.tdiv (W64 (s3.1+s3.2.1)) 2)),())) (chk (0<=(5:Int)/\(5:Int)<=10/\10<=(((a0.extract (Int.toNat (W64 ((W64 (Int.tdiv (W64 (s3.1+s3.2.1)) 2))*11))) (Int.toNat (W64 ((W64 ((W64 (Int.tdiv (W64 (s3.1+s3.2.1)) 2))+1))*11)))).size:Nat):Int))<|cN 213 #[(.string ((a0.extract (Int.toNat (W64 ((W64 (Int.tdiv (W64 (s3.1+s3.2.1)) 2))*11))) (Int.toNat (W64 ((W64 ((W64 (Int.tdiv (W64 (s3.1+s3.2.1)) 2))+1))*11)))).extract (Int.toNat 5) (Int.toNat 10)))] λx6=>sif (decide (a1>x6)) (again4 ((W64 ((W64 (Int.tdiv (W64 (s3.1+s3.2.1)) 2))+1)),s3.2.1,())) (chk (0<=(10:Int)/\10<=(((a0.extract (Int.toNat (W64 ((W64 (Int.tdiv (W64 (s3.1+s3.2.1)) 2))*11))) (Int.toNat (W64 ((W64 ((W64 (Int.tdiv (W64 (s3.1+s3.2.1)) 2))+1))*11)))).size:Nat):Int)/\(((a0.extract (Int.toNat (W64 ((W64 (Int.tdiv (W64 (s3.1+s3.2.1)) 2))*11))) (Int.toNat (W64 ((W64 ((W64 (Int.tdiv (W64 (s3.1+s3.2.1)) 2))+1))*11)))).size:Nat):Int)<=(((a0.extract (Int.toNat (W64 ((W64 (Int.tdiv (W64 (s3.1+s3.2.1)) 2))*11))) (Int.toNat (W64 ((W64 ((W64 (Int.tdiv (W64 (s3.1+s3.2.1)) 2))+1))*11)))).size:Nat):Int))<|cN 213 #[(.string ((a0.extract (Int.toNat (W64 ((W64 (Int.tdiv (W64 (s3.1+s3.2.1)) 2))*11))) (Int.toNat (W64 ((W64 ((W64 (Int.tdiv (W64 (s3.1+s3.2.1)) 2))+1))*11)))).extract (Int.toNat 10) (Int.toNat (((a0.extract (Int.toNat (W64 ((W64 (Int.tdiv (W64 (s3.1+s3.2.1)) 2))*11))) (Int.toNat (W64 ((W64 ((W64 (Int.tdiv (W64 (s3.1+s3.2.1)) 2))+1))*11)))).size:Nat):Int))))] λx7=>K x7))) (J1 ())) (0,(W64 (Int.tdiv ((ByteArray.size a0:Nat):Int) 11)),())) λs2=>K 0
def Dp5:Hint:=(hS (hR 1) (hS (hR 5) (hJ (0xffffffff1f0,[]) (.block (.loop 0xffffffff1f0 [(5,tI),(6,tI)] (hS (hS (hR 3) (hC hL hL)) (.block (hS (hR 5) (hS (hR 8) (.block (hS (hR 6) (hC (hR 2) (hS (hR 6) (hC (hR 3) (hS (hR 4) hL)))))))))))) (hS (hR 1) hL))))
theorem Eg1 {a0:ByteArray}{a1:Int}{K:Int->Wp}{w:World}(h:F212 a0 a1 K w):Aa Tryz.prog 212 #[(.string a0),(vI a1)] rI K w:=tied Ai Tryz.func212 Dp5 _ h
def F213 (a0:ByteArray) (K:Int->Wp):Wp:=jI (λJ1=>Du Tryz.prog rP (Instr.range 9 (.string a0)) λ(x3:Option Addr)=>sI (λs4 again5=>Dc6 Tryz.prog (Instr.next (.pointer x3) true 0) (λp6 c7=>sif true (jI (λJ8=>sif (decide (c7>57)) (J8 ((W64 ((W64 (IntKind.wrap .i32 (c7-65)))+10)),())) (J8 ((W64 (IntKind.wrap .i32 (c7-48))),()))) λs9=>again5 ((W64 ((W64 (s4.1*16))+s9.1)),())) (J1 (s4.1,()))) (sif false (λ_=>False) (J1 (s4.1,())))) (0,())) λs2=>K s2.1
def Dp4:Hint:=(hS (hR 1) (hS (hR 1) (hJ (33554408,[(3,tI)]) (hS (hR 2) (.block (.loop 33554024 [(3,tI)] (hS (hR 2) (hS (hC hL hL) (.block (hS (hR 2) (hS (hR 4) (hJ (2064448,[(6,tI)]) (hS (hR 2) (hC (hR 5) hL)) (hR 5)))))))))) (hS (hR 2) hL))))
theorem Eg0 {a0:ByteArray}{K:Int->Wp}{w:World}(h:F213 a0 K w):Aa Tryz.prog 213 #[(.string a0)] rI K w:=tied Ai Tryz.func213 Dp4 _ h
end
section
open Go Go.Vx Cdc Gly
section
variable {w w':World}
theorem wrap32 {a:Int}(h0:-(2^31)<=a) (h:a<2^31):IntKind.wrap .i32 a=a:=by simp only [IntKind.wrap,IntKind.signed,IntKind.bits];simp [Int.bmod_def];omega
theorem Xf {a:Int}{K:Bool->Wp}(hK:K (decide (Scalar a)) w):Aa Tryz.prog 211 #[.int .i64 a] rB K w:=by refine Eg2 ?_;unfold F211;have h1:Scalar a->K true w:=λh=>(by rwa [jP h] at hK);have h2:¬Scalar a->K false w:=λh=>(by rwa [jQ h] at hK);unfold Scalar at h1 h2;refine Ac (λh=>Ac (λh'=>?_) (λh'=>Ac (λh''=>?_) (λh''=>?_))) (λh=>Ac (λh''=>?_) (λh''=>?_));(all_goals simp only [iI,iH,kG,jT] at *);{exact h1 (by omega)};{by_cases hc:a<=1114111;{rw [jP hc];exact h1 (by omega)};{rw [jQ hc];exact h2 (by omega)}};{exact h2 (by omega)};{by_cases hc:a<=1114111;{rw [jP hc];exact h1 (by omega)};{rw [jQ hc];exact h2 (by omega)}};{exact h2 (by omega)}
theorem Cq5 (w:World) (s:ByteArray) (pos:Nat):Ext w (w.iter s pos):=Ext.alloc w _
theorem Co8 (l:Bs) (c:UInt8):num (l++[c])=num l*16+digit c:=by simp [num]
theorem Yj {d:ByteArray}(h:d.data.toList.all okC=true) (hs:d.size<=5){K:Int->Wp}(hK:∀w',Ext w w'->K ((num d.data.toList:Nat):Int) w') :
  Aa Tryz.prog 213 #[.string d] rI K w:=by
 refine Eg0 ?_;unfold F213;have hl:d.data.toList.length=d.size:=fE;refine Ae (λx w'=>x=(((num d.data.toList:Nat):Int),())/\Ext w w') ?_ (λx w' h=>by obtain ⟨rfl,h⟩:=h;exact hK w' h);refine ⟨some (at0 w.heap.size),w.iter d 0,run_range_string w 9 d C9.und,?_⟩;refine Ba (λx W=>∃j,j<=d.size/\x=(((num (d.data.toList.take j):Nat):Int),())/\W=w.iter d j) (λ_ W=>match W.heap[w.heap.size]? with|some (.stringIter _ pos)=>d.size-pos|_=>0) ⟨0,iW _,rfl,rfl⟩ ?_;rintro _ W ⟨j,hj,rfl,rfl⟩;by_cases hlt:j<d.size
 ·(have hc:d.data.toList[j]?=some (d[j]'hlt):=by rw [jC (by omega),Array.getElem_toList];rfl);have hok:okC (d[j]'hlt)=true:=aS.1 h _ (eY hc);have hok':=(Bw1 _).1 hok;refine .inl ⟨_,_,_,run_next_ascii w d j 0 hlt (by omega),?_⟩;have hb:=Df7 (d.data.toList.take j) (by rw [aS] at h ⊢;exact λx hx=>h x (iU hx));have hb2:num (d.data.toList.take j)<16^4:=fM hb (jG (by decide) (by rw [gI];omega));(have hn:num (d.data.toList.take (j+1))=num (d.data.toList.take j)*16+digit (d[j]'hlt):=by rw [kT,hc];exact Co8 _ _);refine Bh (Ae (λx W=>x=(((digit (d[j]'hlt):Nat):Int),())/\W=w.iter d (j+1)) ?_ ?_);{refine Ac (λhg=>?_) (λhg=>?_);{simp only [iI,kG] at hg;refine ⟨?_,rfl⟩;rw [wrap32 (by omega) (by omega),wrap64 (a:=((d[j]'hlt).toNat:Int)-65) (by omega) (by omega),wrap64 (by omega) (by omega)];unfold digit;rw [aF (by omega)];congr 1;omega};{simp only [iH,kG] at hg;refine ⟨?_,rfl⟩;rw [wrap32 (by omega) (by omega),wrap64 (by omega) (by omega)];unfold digit;rw [aJ (by omega)];congr 1;omega}}
  ·rintro _ _ ⟨rfl,rfl⟩;(have hd:digit (d[j]'hlt)<16:=by unfold digit;split<;>omega);have ew:W64 (W64 (((num (d.data.toList.take j):Nat):Int)*16)+((digit (d[j]'hlt):Nat):Int))=((num (d.data.toList.take (j+1)):Nat):Int):=by
    rw [hn,wrap64 (a:=((num (d.data.toList.take j):Nat):Int)*16) (by omega) (by omega),wrap64 (by omega) (by omega)];omega
   refine ⟨⟨j+1,hlt,by dsimp only;rw [ew],rfl⟩,?_⟩;rw [World.iter_heap,World.iter_heap];show d.size-(j+1)<d.size-j;omega
 {refine .inr ⟨_,run_next_end w d j 0 hlt,Ah ⟨?_,Cq5 w d j⟩⟩;rw [jE (by omega)]}
theorem Zq (b:ByteArray) (s e:Nat):(b.extract s e).data.toList=(b.data.toList.drop s).take (e-s):=by rw [ByteArray.data_extract,Array.toList_extract]
theorem Ah7 (b:ByteArray) (s e:Nat) (h:e<=b.size):(b.extract s e).size=e-s:=by have:(b.extract s e).data.toList.length=(b.extract s e).size:=fE;have hb:b.data.toList.length=b.size:=fE;rw [←this,Zq,gI,gJ];omega
theorem Ac8 {b:ByteArray}(h:b.data.toList.all okC=true) (s e:Nat):(b.extract s e).data.toList.all okC=true:=by rw [Zq];rw [aS] at h ⊢;exact λx hx=>h x (iV (iU hx))
theorem Xw {rows:ByteArray}{n a:Nat}(hn:rows.size=11*n) (hs:n<=1000) (hok:rows.data.toList.all okC=true) (hT:srt 0 (Sz n rows.data.toList)=true){K:Int->Wp}
  (hK:∀w',Ext w w'->K ((Lh (Sz n rows.data.toList) a:Nat):Int) w'):Aa Tryz.prog 212 #[.string rows,.int .i64 (a:Int)] rI K w:=by
 refine Eg1 ?_;unfold F212;refine Dc (by decide) ?_;have e0:W64 (Int.tdiv ((ByteArray.size rows:Nat):Int) 11)=(n:Int):=by
  rw [hn,kF (by omega),wrap64 (by omega) (by omega)];omega
 rw [e0];refine Ae (λ_ w'=>Ext w w'/\Lh (Sz n rows.data.toList) a=0) ?_ (λ_ w' h=>by have:=hK w' h.1;rwa [h.2] at this);refine Ba (λx W=>∃lo hi:Nat,x=((lo:Int),(hi:Int),())/\lo<=hi/\hi<=n/\Ext w W/\(∀(i:Nat) (r:Row),i<lo->(Sz n rows.data.toList)[i]?=some r->r.hi<a)/\(∀(i:Nat) (r:Row),hi<=i->(Sz n rows.data.toList)[i]?=some r->a<r.lo)) (λx _=>(x.2.1-x.1).toNat)
  ⟨0,n,rfl,iW _,fJ _,Ext.refl w,λi r h=>absurd h (Nat.not_lt_zero _),λi r h hr=>by
   have:=(fG.1 hr).1
   rw [At6] at this;omega⟩ ?_
 rintro _ W ⟨lo,hi,rfl,hlh,hhn,e1,h1,h2⟩;dsimp only;refine Ac (λhc=>?_) (λhc=>?_)
 ·simp only [iI] at hc;obtain ⟨m,hm⟩:∃m,m=(lo+hi)/2:=⟨_,rfl⟩;have hmn:m<n:=(by omega);have em:W64 (Int.tdiv (W64 ((lo:Int)+(hi:Int))) 2)=(m:Int):=by
   rw [wrap64 (a:=(lo:Int)+(hi:Int)) (by omega) (by omega),kF (by omega),wrap64 (by omega) (by omega)];omega
  (have em1:W64 ((m:Int)+1)=((m+1:Nat):Int):=by rw [wrap64 (by omega) (by omega)];omega);(have e11:W64 ((m:Int)*11)=((11*m:Nat):Int):=by rw [wrap64 (by omega) (by omega)];omega);(have e12:W64 (((m+1:Nat):Int)*11)=((11*m+11:Nat):Int):=by rw [wrap64 (by omega) (by omega)];omega);rw [em,em1,e11,e12];simp only [dF];(have sz:(rows.extract (11*m) (11*m+11)).size=11:=by rw [Ah7 _ _ _ (by omega)];omega);rw [sz];(have ll:(rows.extract (11*m) (11*m+11)).data.toList=(rows.data.toList.drop (11*m)).take 11:=by rw [Zq];congr 1;omega);have hrow:=At7 n rows.data.toList m hmn;have p1:((rows.extract (11*m) (11*m+11)).extract (Int.toNat 0) (Int.toNat (5:Int))).data.toList=(rows.data.toList.drop (11*m)).take 5:=by
   rw [Zq,ll];show List.take 5 (List.drop 0 _)=_
   rw [lM,iM];rfl
  have p2:((rows.extract (11*m) (11*m+11)).extract (Int.toNat (5:Int)) (Int.toNat (10:Int))).data.toList=(rows.data.toList.drop (11*m+5)).take 5:=by
   rw [Zq,ll];show List.take 5 (List.drop 5 _)=_
   rw [iQ,iM,iR];rfl
  have p3:((rows.extract (11*m) (11*m+11)).extract (Int.toNat (10:Int)) 11).data.toList=(rows.data.toList.drop (11*m+10)).take 1:=by
   rw [Zq,ll];show List.take 1 (List.drop 10 _)=_
   rw [iQ,iM,iR];rfl
  (have z1:((rows.extract (11*m) (11*m+11)).extract (Int.toNat 0) (Int.toNat (5:Int))).size<=5:=by rw [Ah7 _ _ _ (by rw [sz];decide)];decide);(have z2:((rows.extract (11*m) (11*m+11)).extract (Int.toNat (5:Int)) (Int.toNat (10:Int))).size<=5:=by rw [Ah7 _ _ _ (by rw [sz];decide)];decide);(have z3:((rows.extract (11*m) (11*m+11)).extract (Int.toNat (10:Int)) 11).size<=5:=by rw [Ah7 _ _ _ (by rw [sz];decide)];decide);refine Dc (by decide) (Dc (by omega) (Dc (by omega) (Yj (Ac8 (Ac8 hok _ _) _ _) z1 λw2 x2=>?_)));rw [p1];refine Ac (λhlt=>?_) (λhlt=>?_);{simp only [iI] at hlt;refine ⟨⟨lo,m,rfl,by omega,by omega,e1.trans x2,h1,λi r hi hr=>?_⟩,by omega⟩;rcases lT m i with hmi|hmi;{have:=Ay4 hT hmi hrow hr;have:=(Ag9 hT hrow).2;simp only at *;omega};{have:i=m:=(by omega);subst this;rw [hrow] at hr;cases hr;simp only;omega}};{simp only [iH] at hlt;refine Dc (by omega) (Yj (Ac8 (Ac8 hok _ _) _ _) z2 λw3 x3=>?_);rw [p2];refine Ac (λhgt=>?_) (λhgt=>?_);{simp only [iI,kG] at hgt;refine ⟨⟨m+1,hi,rfl,by omega,hhn,(e1.trans x2).trans x3,λi r hi hr=>?_,h2⟩,by omega⟩;rcases lT i m with hmi|hmi;{have:=Ay4 hT hmi hr hrow;have:=(Ag9 hT hrow).2;simp only at *;omega};{have:i=m:=(by omega);subst this;rw [hrow] at hr;cases hr;simp only;omega}};{simp only [iH,kG] at hgt;refine Dc (by omega) (Yj (Ac8 (Ac8 hok _ _) _ _) z3 λw4 x4=>?_);rw [p3];have:=hK w4 (((e1.trans x2).trans x3).trans x4);rw [Bx0 hT hrow (by simp only;omega) (by simp only;omega)] at this;exact this}}
 {simp only [iH] at hc;refine ⟨e1,Av4 λi r hr=>?_⟩;rcases lT i lo with h|h;{exact .inr (h1 i r h hr)};{exact .inl (h2 i r (by omega) hr)}}
theorem Bs3:Uh.size=11*324/\Uh.data.toList.all okC=true/\srt 0 Dg6=true:=⟨by kernel_rfl,by kernel_rfl,by kernel_rfl⟩
theorem Bs2:Ui.size=11*26/\Ui.data.toList.all okC=true/\srt 0 Da7=true:=⟨by kernel_rfl,by kernel_rfl,by kernel_rfl⟩
theorem Bm0:Ug.size=11*81/\Ug.data.toList.all okC=true/\srt 0 Ca1=true:=⟨by kernel_rfl,by kernel_rfl,by kernel_rfl⟩
theorem N8 {a:Int}(h:Scalar a):∃n:Nat,a=(n:Int)/\n<=1114111:=⟨a.toNat,by rcases h with h|h<;>omega,by rcases h with h|h<;>omega⟩
theorem L8 {a:Int}{K:Int->Wp}(hK:∀w',Ext w w'->K ((cls a:Nat):Int) w'):Aa Tryz.prog 207 #[.int .i64 a] rI K w:=by refine Eg6 ?_;unfold F207;refine Xf (Ac (λh=>?_) (λh=>?_));{simp only [dX,iH] at h;have:=hK w (Ext.refl w);unfold cls at this;rw [aJ h] at this;exact this};simp only [nP,iI] at h;obtain ⟨n,rfl,hn⟩:=N8 h;unfold cls at hK;rw [aF h] at hK;have ew:W64 ((n:Int)-44032)=(n:Int)-44032:=wrap64 (by omega) (by omega);rw [ew];refine Ae (λx w'=>x=(decide (44032<=n/\n<55204),())/\w=w') ?_ ?_;{refine Ac (λhg=>⟨Az ?_,rfl⟩) (λhg=>⟨Az ?_,rfl⟩);{simp only [iI,jT] at hg ⊢;omega};{simp only [iH,iI,jT] at hg ⊢;exact ⟨(λh=>by cases h),λh=>by omega⟩}};rintro _ _ ⟨rfl,rfl⟩;refine Ac (λhg=>?_) (λhg=>?_);{simp only [iI] at hg;refine Dc (by decide) ?_;(have e1:Int.tmod ((n:Int)-44032) 28=(((n-44032)%28:Nat):Int):=by rw [mW (by omega)];omega);rw [e1];have:=hK w (Ext.refl w);rw [aF (by omega),dF] at this;refine Ac (λh0=>?_) (λh0=>?_);{simp only [jM] at h0;rw [aF (by omega)] at this;exact this};{simp only [jO] at h0;rw [aJ (by omega)] at this;exact this}};{simp only [iH] at hg;rw [aJ (by omega),dF] at hK;exact Xw Bs3.1 (by decide) Bs3.2.1 Bs3.2.2 λw1 x1=>hK w1 x1}
theorem G7 {a:Int}{K:Int->Wp}(hK:∀w',Ext w w'->K ((cnj a:Nat):Int) w'):Aa Tryz.prog 208 #[.int .i64 a] rI K w:=by
 refine Eg5 ?_;unfold F208;unfold cnj at hK;refine Ae (λx w'=>x=(decide (a=2381\/a=2509\/a=2765\/a=2893\/a=3149\/a=3405),())/\w=w') ?_ ?_;{refine Ac (λh=>⟨Az ?_,rfl⟩) (λh1=>Ac (λh=>⟨Az ?_,rfl⟩) (λh2=>Ac (λh=>⟨Az ?_,rfl⟩) (λh3=>Ac (λh=>⟨Az ?_,rfl⟩) (λh4=>Ac (λh=>⟨Az ?_,rfl⟩) (λh5=>⟨Az ?_,rfl⟩)))));(all_goals simp only [jM,jO,ne_eq,iI] at *);all_goals omega};rintro _ _ ⟨rfl,rfl⟩;refine Ac (λh=>?_) (λh=>?_);{simp only [iI] at h;rw [aF h] at hK;exact hK _ (Ext.refl _)};simp only [iH] at h;rw [aJ h] at hK;refine Ac (λh2=>?_) (λh2=>?_);{simp only [jM] at h2;rw [aF h2] at hK;exact hK _ (Ext.refl _)};simp only [jO,ne_eq] at h2;rw [aJ h2] at hK;refine Ae (λ_ w1=>Ext w w1/\¬(cls a=4\/cls a=5)/\¬(cls a=0/\Scalar a)) ?_ (λ_ w1 h3=>by
  have:=hK w1 h3.1
  rw [aJ h3.2.1,aJ h3.2.2] at this
  exact this)
 refine L8 λw1 e1=>Ae (λx w2=>x=(decide (cls a=4\/cls a=5),())/\w1=w2) ?_ ?_;{refine Ac (λh=>⟨Az ?_,rfl⟩) (λh=>⟨Az ?_,rfl⟩);(all_goals simp only [jM,jO,ne_eq,iI] at *);all_goals omega};rintro _ _ ⟨rfl,rfl⟩;refine Ac (λh=>?_) (λh3=>?_);{simp only [iI] at h;rw [aF h] at hK;exact hK _ e1};simp only [iH] at h3;rw [aJ h3] at hK;refine Ac (λh4=>?_) (λh4=>?_);{simp only [jM] at h4;refine Xf (Ac (λh5=>?_) (λh5=>?_));{simp only [iI] at h5;rw [aF ⟨by omega,h5⟩] at hK;obtain ⟨n,rfl,hn⟩:=N8 h5;rw [dF] at hK;exact Xw Bs2.1 (by decide) Bs2.2.1 Bs2.2.2 λw2 x2=>hK w2 (e1.trans x2)};{simp only [iH] at h5;exact ⟨e1,h3,λh=>h5 h.2⟩}};{simp only [jO,ne_eq] at h4;exact ⟨e1,h3,λh=>h4 (by rw [h.1];rfl)⟩}
theorem Ca4 {a:Int}{K:Int->Wp}(hK:∀w',Ext w w'->K ((wrd a:Nat):Int) w'):Aa Tryz.prog 205 #[.int .i64 a] rI K w:=by refine Eg8 ?_;unfold F205;unfold wrd at hK;refine Xf (Ac (λh=>?_) (λh=>?_));{simp only [dX,iH] at h;have:=hK w (Ext.refl w);rw [aJ h] at this;exact this};simp only [nP,iI] at h;rw [aF h] at hK;obtain ⟨n,rfl,hn⟩:=N8 h;rw [dF] at hK;refine Xw Bm0.1 (by decide) Bm0.2.1 Bm0.2.2 λw1 x1=>?_;have:=hK w1 x1;show sif (((Lh Ca1 n:Nat):Int)==2) _ _ w1;refine Ac (λh2=>?_) (λh2=>?_);{simp only [jM] at h2;rw [aF (by omega)] at this;exact this};{simp only [jO,ne_eq] at h2;rw [aJ (by omega)] at this;show sif (((Lh Ca1 n:Nat):Int)==1) _ _ w1;refine Ac (λh3=>?_) (λh3=>?_);{simp only [jM] at h3;rw [aF (by omega)] at this;exact this};{simp only [jO,ne_eq] at h3;rw [aJ (by omega)] at this;exact this}}
end
end
section
open Go Go.Vx Gly Clu
section
variable {w w':World}
theorem Vy {a:Addr}{v:Value}(h:w.cell? a=some v) (x:Ext w w'):w'.cell? a=some v:=by obtain ⟨hs,c,t,fr,hh,hc⟩:=cell_spot h;obtain ⟨b,o,s⟩:=a;simp only at hs hh hc;subst hs;exact cell_of (x.ext_get hh) hc
theorem Bb5 {c:Cell}{s:Sl}{t:TypeId}{xs:List c.T}{n:Int}{K:Addr->c.T->Wp}(h:Bl w s t 1 (xs.map c.val)) (h0:0<=n){x:c.T}(hx:xs[n.toNat]?=some x)
  (hK:∀p,(∀w',Ext w w'->w'.cell? (p.add (scaled (Int.toNat n) 1))=some (c.val x))->K p x w):ix s.a s.len n (λp=>ld c (p.add (scaled (Int.toNat n) 1)) (K p)) w:=by have hlt:=(fG.1 hx).1;have hl:=h.len;rw [gW,dS] at hl;refine h.ix h0 (by omega) (by omega) λb off ha hv=>?_;have:=hv 0 (c.val x) (by rw [dS,Nat.add_zero,gX,hx];rfl);(have hc:w.cell? ((⟨b,off,none⟩:Addr).add (scaled (Int.toNat n) 1))=some (c.val x):=by rw [addr_add];simpa [scaled] using this);exact F5 (x:=x) hc (hK _ λw' x'=>Vy hc x')
def scO (s:Sc):Obj:=.cells #[.int .i64 (s.last:Int),.int .i64 (s.flags:Int),.int .i64 (s.pict:Int),.int .i64 (s.conj:Int)] 205 (0,0)
abbrev scT (s:Sc):Cells.T Ap3:=((s.last:Int),(s.flags:Int),(s.pict:Int),(s.conj:Int),())
theorem Dc5 {a:Addr}{K:Addr->Wp}:nn (some a) K=K a:=funext λ_=>propext Ae6
theorem Aq4 {c:Nat}{K:Bool->Wp}(hK:K (apart c) w):Aa Tryz.prog 209 #[.int .i64 (c:Int)] rB K w:=by
 refine Eg4 ?_;unfold F209;unfold apart at hK;refine Ac (λh=>?_) (λh=>Ac (λh2=>?_) (λh2=>?_));(all_goals simp only [jM,jO,ne_eq] at *);{rw [jP (by omega)] at hK;exact hK};{rw [jP (by omega)] at hK;exact hK}
 ·have:((c:Int)==3)=decide (c=1\/c=2\/c=3):=by
   rw [gV,jM,iI];omega
  rw [this];exact hK
theorem Bh9 {l r:Nat}{K:Bool->Wp}(hK:K (Nb l r) w):Aa Tryz.prog 210 #[.int .i64 (l:Int),.int .i64 (r:Int)] rB K w:=by
 refine Eg3 ?_;unfold F210;unfold Nb at hK;have fin:∀{b:Bool},(b=true↔((l=9/\(r=9\/r=10\/r=12\/r=13))\/((l=12\/l=10)/\(r=10\/r=11))\/((l=13\/l=11)/\r=11)))->K b w:=by
  intro b hb
  have:b=decide ((l=9/\(r=9\/r=10\/r=12\/r=13))\/((l=12\/l=10)/\(r=10\/r=11))\/((l=13\/l=11)/\r=11)):=by rw [gV,hb,iI]
  rw [this];exact hK
 refine Ae (λ_ w'=>w=w'/\(r=10\/r=11)/\¬(r=10/\l=9)) ?_ ?_;{refine Ae (λx w'=>x=(decide (r=9\/r=12\/r=13),())/\w=w') ?_ ?_;{refine Ac (λh=>⟨Az ?_,rfl⟩) (λh=>Ac (λh2=>⟨Az ?_,rfl⟩) (λh2=>⟨Az ?_,rfl⟩));(all_goals simp only [jM,jO,ne_eq,iI] at *);all_goals omega};rintro _ _ ⟨rfl,rfl⟩;refine Ac (λh=>fin ?_) (λh=>Ac (λh2=>Ac (λh3=>fin ?_) (λh3=>?_)) (λh2=>Ac (λh3=>?_) (λh3=>fin ?_)));(all_goals simp only [jM,jO,ne_eq,iI,iH] at *);{omega};{simp only [lQ];omega};{exact ⟨by trivial,by omega,by omega⟩};{exact ⟨by trivial,by omega,by omega⟩};{simp only [dO,lS];omega}};{rintro _ _ ⟨rfl,h1,h2⟩;refine Ae (λx w'=>x=(decide (l=12\/l=10),())/\w=w') ?_ ?_;{refine Ac (λh=>⟨Az ?_,rfl⟩) (λh=>⟨Az ?_,rfl⟩);(all_goals simp only [jM,jO,ne_eq,iI,lQ] at *);all_goals omega};rintro _ _ ⟨rfl,rfl⟩;refine Ac (λh=>fin ?_) (λh=>Ac (λh3=>Ac (λh4=>fin ?_) (λh4=>fin ?_)) (λh3=>fin ?_));(all_goals simp only [jM,jO,ne_eq,iI,iH,dO,lS,lQ] at *);all_goals omega}
theorem Au7 {b c p:Nat}{s:Sc}(h:w.heap[b]?=some (scO s)) (hf:s.flags<2^60){K:Unit->Wp}(hK:∀w',Upd (λk=>k=b) w w'->w'.heap[b]?=some (scO (s.note c p))->K () w') :
  Aa Tryz.prog 206 #[.pointer (some (at0 b)),.int .i64 (c:Int),.int .i64 (p:Int)] (.tup []) K w:=by refine Eg7 ?_;unfold F206;simp only [Dc5,addr_add];unfold scO at h;refine Jm h (by show _<4;decide) λw1 u1 n1 _=>?_;let O:Nat->Nat->Nat->Nat->Obj:=λa f q j=>.cells #[.int .i64 (a:Int),.int .i64 (f:Int),.int .i64 (q:Int),.int .i64 (j:Int)] 205 (0,0);have n1:w1.heap[b]?=some (O c s.flags s.pict s.conj):=n1;refine Ae (λ_ W=>Upd (λk=>k=b) w W/\W.heap[b]?=some (O c (s.note c p).flags s.pict s.conj)) ?_ ?_;{refine Ac (λhc=>?_) (λhc=>?_);{simp only [jM] at hc;have hc:c=6:=(by omega);refine Ce n1 (x:=(s.flags:Int)) rfl (Jm n1 (by show _<4;decide) λw2 u2 n2 _=>⟨u1.trans u2,?_⟩);have e:(s.note c p).flags=s.flags+1:=(by simp [Sc.note,hc]);rw [e,n2,wrap64 (by omega) (by omega)];rfl};{simp only [jO,ne_eq] at hc;have hc:c≠6:=(by omega);refine Jm n1 (by show _<4;decide) λw2 u2 n2 _=>⟨u1.trans u2,?_⟩;have e:(s.note c p).flags=0:=(by simp [Sc.note,hc]);rw [e,n2];rfl}};rintro _ w2 ⟨u2,n2⟩;refine Ae (λ_ W=>Upd (λk=>k=b) w W/\W.heap[b]?=some (O c (s.note c p).flags (s.note c p).pict s.conj)) ?_ ?_;{have hp:(s.note c p).pict=if c=14 then 1 else if s.pict=1/\c=5 then 2 else if s.pict=1/\c=4 then s.pict else 0:=rfl;refine Ac (λhc=>?_) (λhc=>?_);{simp only [jM] at hc;rw [hp,aF (by omega)];exact Jm n2 (by show _<4;decide) λw3 u3 n3 _=>⟨u2.trans u3,n3⟩};simp only [jO,ne_eq] at hc;rw [hp,aJ (by omega)];refine Ae (λx W=>x=(decide (s.pict=1/\c=5),())/\w2=W) ?_ ?_;{refine Ce n2 (x:=(s.pict:Int)) rfl (Ac (λh=>⟨Az ?_,rfl⟩) (λh=>⟨Az ?_,rfl⟩));(all_goals simp only [jM,jO,ne_eq,iI,dO,lS] at *);all_goals omega};rintro _ _ ⟨rfl,rfl⟩;refine Ac (λh=>?_) (λh=>?_);{simp only [iI] at h;rw [aF h];exact Jm n2 (by show _<4;decide) λw3 u3 n3 _=>⟨u2.trans u3,n3⟩};simp only [iH] at h;rw [aJ h];refine Ae (λx W=>x=(decide (s.pict=1/\c=4),())/\w2=W) ?_ ?_;{refine Ce n2 (x:=(s.pict:Int)) rfl (Ac (λh=>⟨Az ?_,rfl⟩) (λh=>⟨Az ?_,rfl⟩));(all_goals simp only [jM,jO,ne_eq,iI,dO,lS] at *);all_goals omega};rintro _ _ ⟨rfl,rfl⟩;refine Ac (λh=>?_) (λh=>?_);{simp only [iI] at h;rw [aF h];exact ⟨u2,n2⟩};{simp only [iH] at h;rw [aJ h];exact Jm n2 (by show _<4;decide) λw3 u3 n3 _=>⟨u2.trans u3,n3⟩}};rintro _ w3 ⟨u3,n3⟩;have hj:(s.note c p).conj=if p=1 then 1 else if 0<s.conj/\p=3 then 2 else if 0<s.conj/\p=2 then s.conj else 0:=rfl;have fin:∀{q:Nat} {W:World},(s.note c p).conj=q->Upd (λk=>k=b) w W->W.heap[b]?=some (O c (s.note c p).flags (s.note c p).pict q)->K () W:=λe u n=>hK _ u (by subst e;exact n);refine Ac (λhc=>?_) (λhc=>?_);{simp only [jM] at hc;exact Jm n3 (by show _<4;decide) λw4 u4 n4 _=>fin (q:=1) (by rw [hj,aF (by omega)]) (u3.trans u4) n4};simp only [jO,ne_eq] at hc;rw [aJ (by omega)] at hj;refine Ae (λx W=>x=(decide (0<s.conj/\p=3),())/\w3=W) ?_ ?_;{refine Ce n3 (x:=(s.conj:Int)) rfl (Ac (λh=>⟨Az ?_,rfl⟩) (λh=>⟨Az ?_,rfl⟩));(all_goals simp only [jM,iI,iH,dO,lS,kG] at *);all_goals omega};rintro _ _ ⟨rfl,rfl⟩;refine Ac (λh=>?_) (λh=>?_);{simp only [iI] at h;exact Jm n3 (by show _<4;decide) λw4 u4 n4 _=>fin (q:=2) (by rw [hj,aF h]) (u3.trans u4) n4};simp only [iH] at h;rw [aJ h] at hj;refine Ae (λx W=>x=(decide (0<s.conj/\p=2),())/\w3=W) ?_ ?_;{refine Ce n3 (x:=(s.conj:Int)) rfl (Ac (λh=>⟨Az ?_,rfl⟩) (λh=>⟨Az ?_,rfl⟩));(all_goals simp only [jM,iI,iH,dO,lS,kG] at *);all_goals omega};rintro _ _ ⟨rfl,rfl⟩;refine Ac (λh=>?_) (λh=>?_);{simp only [iI] at h;exact fin (q:=s.conj) (by rw [hj,aF h]) u3 n3};{simp only [iH] at h;exact Jm n3 (by show _<4;decide) λw4 u4 n4 _=>fin (q:=0) (by rw [hj,aJ h]) (u3.trans u4) n4}
theorem Bt2 {a:Int}{K:Cells.T Ap3->Wp}(hK:∀w',Ext w w'->K (scT (sc [a])) w'):Aa Tryz.prog 201 #[.int .i64 a] (.one (.agg Ap3)) K w:=by refine Eh1 ?_;unfold F201;refine (St.start w).Af λb1 w1 S1 e1=>S1.Am1 λb2 w2 S2 e2 hb2=>L8 λw3 e3=>G7 λw4 e4=>?_;have S4:=(S2.ext e3).ext e4;refine Au7 (s:=Sc.zero) (S4.at_ 0 rfl) (by decide) λw5 u5 n5=>?_;have S5:=Ah2 S4 (i:=0) rfl u5 n5;have e:Sc.zero.note (cls a) (cnj a)=sc [a]:=(Aj2 a).symm;rw [e] at S5;refine S5.lds 0 (scT (sc [a])) rfl (S5.Ad 1 rfl rfl rfl rfl λw6 S6 _=>S6.lds 1 (scT (sc [a])) rfl (hK w6 S6.upd))
theorem Bm5 {b:Nat}{s:Sc}{a:Int}(h:w.heap[b]?=some (scO s)) (hf:s.flags<2^60){K:Bool->Wp}
  (hK:∀w',Upd (λk=>k=b) w w'->w'.heap[b]?=some (scO (if joins s (cls a) (cnj a) then s.note (cls a) (cnj a) else s))->K (joins s (cls a) (cnj a)) w') :
  Aa Tryz.prog 202 #[.pointer (some (at0 b)),.int .i64 a] rB K w:=by
 refine Eh0 ?_;unfold F202;simp only [Dc5,addr_add];refine L8 λw1 e1=>G7 λw2 e2=>?_;have e12:=e1.trans e2;have h2:=e12.ext_get h;generalize hc:cls a=c at *;generalize hp:cnj a=p at *;refine Ae (λx W=>x=(joins s c p,())/\w2=W) ?_ ?_
 ·have hj:joins s c p=if s.last=1/\c=2 then true else if apart s.last=true\/apart c=true then false else if c=4\/c=5\/c=8\/s.last=7 then true else if Nb s.last c then true
   else if p=1/\s.conj=2 then true else if c=14 then s.pict==2 else if c=6 then s.flags%2==1 else false:=rfl
  unfold scO at h2;have l0:∀{K:Int->Wp},K (s.last:Int) w2->ld (.int .i64) (at0 b) K w2:=λhk=>Ce h2 (x:=(s.last:Int)) rfl hk;refine Ae (λx W=>x=(decide (s.last=1/\c=2),())/\w2=W) ?_ ?_;{refine l0 (Ac (λh=>⟨Az ?_,rfl⟩) (λh=>⟨Az ?_,rfl⟩));(all_goals simp only [jM,jO,ne_eq,iI,dO,lS] at *);all_goals omega};rintro _ _ ⟨rfl,rfl⟩;refine Ac (λh=>?_) (λh=>?_);{simp only [iI] at h;exact ⟨by rw [hj,aF h],rfl⟩};simp only [iH] at h;rw [aJ h] at hj;refine Ae (λx W=>x=(decide (apart s.last=true\/apart c=true),())/\w2=W) ?_ ?_;{refine l0 (Aq4 (Ac (λh=>⟨Az ?_,rfl⟩) (λh=>Aq4 ⟨Az ?_,rfl⟩)));(all_goals simp only [iI] at *);all_goals simp [h]};rintro _ _ ⟨rfl,rfl⟩;refine Ac (λh=>?_) (λh=>?_);{simp only [iI] at h;exact ⟨by rw [hj,aF h],rfl⟩};simp only [iH] at h;rw [aJ h] at hj;refine Ae (λx W=>x=(decide (c=4\/c=5\/c=8\/s.last=7),())/\w2=W) ?_ ?_;{refine Ac (λh=>⟨Az ?_,rfl⟩) (λh1=>Ac (λh=>⟨Az ?_,rfl⟩) (λh3=>Ac (λh=>⟨Az ?_,rfl⟩) (λh4=>l0 ⟨Az ?_,rfl⟩)));(all_goals simp only [jM,jO,ne_eq,iI] at *);all_goals omega};rintro _ _ ⟨rfl,rfl⟩;refine Ac (λh=>?_) (λh=>?_);{simp only [iI] at h;exact ⟨by rw [hj,aF h],rfl⟩};simp only [iH] at h;rw [aJ h] at hj;refine l0 (Bh9 (Ac (λh=>?_) (λh=>?_)));{exact ⟨by rw [hj,aF h],rfl⟩};rw [aJ (by rw [h];decide)] at hj;refine Ae (λx W=>x=(decide (p=1/\s.conj=2),())/\w2=W) ?_ ?_;{refine Ac (λh=>Ce h2 (x:=(s.conj:Int)) rfl ⟨Az ?_,rfl⟩) (λh=>⟨Az ?_,rfl⟩);(all_goals simp only [jM,jO,ne_eq,iI,dO,lS] at *);all_goals omega};rintro _ _ ⟨rfl,rfl⟩;refine Ac (λh=>?_) (λh=>?_);{simp only [iI] at h;exact ⟨by rw [hj,aF h],rfl⟩};simp only [iH] at h;rw [aJ h] at hj;refine Ac (λh=>?_) (λh=>?_);{simp only [jM] at h;rw [aF (by omega)] at hj;refine Ce h2 (x:=(s.pict:Int)) rfl ⟨?_,rfl⟩;rw [hj];exact Az (by simp only [jM];omega)};simp only [jO,ne_eq] at h;rw [aJ (by omega)] at hj;refine Ac (λh=>?_) (λh=>?_);{simp only [jM] at h;rw [aF (by omega)] at hj;refine Ce h2 (x:=(s.flags:Int)) rfl (Dc (by decide) ⟨?_,rfl⟩);rw [hj,mW (by omega)];exact Az (by simp only [jM];omega)};{simp only [jO,ne_eq] at h;rw [aJ (by omega)] at hj;exact ⟨by rw [hj],rfl⟩}
 rintro _ _ ⟨rfl,rfl⟩;refine Ae (λ_ W=>Upd (λk=>k=b) w W/\W.heap[b]?=some (scO (if joins s c p then s.note c p else s))) ?_ (λ_ W h=>hK W h.1 h.2);refine Ac (λh=>?_) (λh=>?_);{have h:joins s c p=true:=h;rw [aF h];exact Au7 h2 hf λw3 u3 n3=>⟨(Upd.Ed e12).trans u3,n3⟩};{have h:joins s c p=false:=h;rw [aJ (by rw [h];decide)];exact ⟨Upd.Ed e12,h2⟩}
theorem Bs1 {A:List Int}{s:Sl}{t:TypeId}{at_:Nat}{y:Value}(hb:bk A at_=true) (hl:A.length<2^59) (Inv:Nat->Wp) (Brk:World->Prop)
  (hs:∀k W,Inv k W->Bl W s t 1 (iv A)) (hx:∀k W W',Inv k W->Ext W W'->Inv k W')
  (hy:∀(i j:Nat) (W:World) (K:Bool->Wp),Inv i W->i<j->bk A j=true->(∀k,i<k->k<j->bk A k=false)->(∀c W',(c=true->Inv j W')->(c=false->Brk W')->K c W') ->
   Cj Tryz.prog (do let d ←Deferred.ofValue y #[.int .i64 (j:Int)];invoke d.target d.args:Sem Next) (.one (.one .bool)) K W)
  (h0:Inv at_ w) {K:Unit->Wp} (hK:∀W,Inv A.length W\/Brk W->K () W) :
  Aa Tryz.prog 177 #[s.v,.int .i64 (at_:Int),y] (.tup []) K w:=by
 refine Ej2 ?_;unfold F177;(have hlen:A.length=s.len:=by have:=(hs _ _ h0).len1;rwa [gW] at this);refine Ba (λx W=>∃i,i<=A.length/\x=((i:Int),())/\bk A i=true/\Inv i W) (λx _=>((A.length:Int)-x.1).toNat) ⟨at_,Aw9 hb,rfl,hb,h0⟩ ?_;rintro _ W ⟨i,hi,rfl,hbi,hI⟩;refine Ac (λhc=>?_) (λhc=>?_)
 ·simp only [iI] at hc;have hil:i<A.length:=(by omega);have ha:A[i]?=some A[i]:=jC hil;refine Ew (c:=.int .i64) (xs:=A) (hs _ _ hI) (by omega) (x:=A[i]) (by rw [dF];exact ha) λp=>Bt2 λw1 e1=>?_;refine Cm λb w2 e2 n2 hb2 _=>Zy n2 rfl rfl (by decide) λw3 u3 n3 _=>?_;(have e3:Ext W w3:=(e1.trans e2).step u3 λk hk=>by have:=e1.size;omega);(have n3:w3.heap[b]?=some (scO (sc (A.take (i+1)))):=by rw [Di5 hbi ha];exact n3);(have bW:W.heap.size<=b:=by have:=e1.size;omega);(have ew:W64 ((i:Int)+1)=((i+1:Nat):Int):=by rw [wrap64 (by omega) (by omega)];omega);rw [ew];refine Ae (λ_ W'=>Inv i W'/\∀k,i<k->k<A.length->bk A k=false) ?_ ?_;{refine Ba (λx W'=>∃k,i<k/\k<=A.length/\x=((k:Int),())/\Ext W W'/\W'.heap[b]?=some (scO (sc (A.take k)))/\∀q,i<q->q<k->bk A q=false) (λx _=>((A.length:Int)-x.1).toNat) ⟨i+1,by omega,by omega,rfl,e3,n3,λq h1 h2=>by omega⟩ ?_;rintro _ W4 ⟨k,hik,hkl,rfl,e4,n4,hno⟩;refine Ac (λhc=>?_) (λhc=>?_);{simp only [iI] at hc;have hkl:k<A.length:=(by omega);have hk:A[k]?=some A[k]:=jC hkl;have hI4:=hx _ _ _ hI e4;have hfl:=Cr3 (A.take k);rw [gI] at hfl;refine Ew (c:=.int .i64) (xs:=A) (hs _ _ hI4) (by omega) (x:=A[k]) (by rw [dF];exact hk) λp=>Bm5 n4 (by omega) λw5 u5 n5=>?_;have e5:Ext W w5:=e4.step u5 λq hq=>(by omega);have hbk:=By9 hk (by omega);refine Ac (λhj=>?_) (λhj=>?_);{(have ew:W64 ((k:Int)+1)=((k+1:Nat):Int):=by rw [wrap64 (by omega) (by omega)];omega);rw [aF hj,←As9 hj] at n5;(have e:sc (A.take (k+1))=stp (sc (A.take k)) A[k]:=by rw [kT,hk];exact P8 _ _);rw [←e] at n5;refine ⟨⟨k+1,by omega,by omega,by rw [ew],e5,n5,λq h1 h2=>?_⟩,by rw [ew];omega⟩;by_cases hq:q=k;{rw [hq,hbk,hj];rfl};{exact hno q h1 (by omega)}};{rw [hj] at hbk;refine hy i k w5 _ (hx _ _ _ hI e5) hik hbk hno λc W' h1 h2=>Ac (λhn=>?_) (λhn=>?_);{have hc:c=false:=(by cases c<;>simp_all);exact hK W' (.inr (h2 hc))};{have hc:c=true:=(by cases c<;>simp_all);exact ⟨⟨k,by omega,rfl,hbk,h1 hc⟩,by omega⟩}}};{simp only [iH] at hc;exact ⟨hx _ _ _ hI e4,λq h1 h2=>hno q h1 (by omega)⟩}}
  ·rintro _ W5 ⟨hI5,hno⟩;rw [←hlen];exact hy i A.length W5 _ hI5 hil (Bc9 A) hno λc W' h1 h2=>hK W' (by cases c with
    |true=>exact .inl (h1 rfl)
    |false=>exact .inr (h2 rfl))
 {simp only [iH] at hc;have:i=A.length:=(by omega);subst this;exact hK W (.inl hI)}
abbrev nv (l:List Nat):List Value:=l.map λ(n:Nat)=>Value.int .i64 (n:Int)
theorem Bc5 {A:List Int}{s:Sl}{t:TypeId}(hs:Bl w s t 1 (iv A)) (hl:A.length<2^40){K:Sl->Wp}(hK:∀s' w',Ar w' w.heap.size s' 3 1 (nv (cuts A))->Ext w w'->K s' w') :
  Aa Tryz.prog 131 #[s.v] rS K w:=by
 refine En4 ?_;unfold F131;refine Cm λb1 w1 e1 n1 hb1 _=>Cm λb2 w2 e2 n2 hb2 _=>Jm n2 Nat.one_pos λw3 u3 n3 _=>?_;(have e3:Ext w w3:=(e1.trans e2).step u3 λk hk=>by have:=e1.size;omega);(have hb12:w.heap.size<=b2:=by have:=e1.size;omega);(have hlt:b1≠b2:=by have:=lt_of_heap n1;omega);have o3:Ar w3 w.heap.size ⟨some (at0 b1),1,1⟩ 3 1 (nv [0]):=by
  refine ⟨rfl,fJ _,.inr ⟨b1,0,#[.int .i64 0],rfl,by omega,u3.get (e2.ext_get n1) hlt,by show 0+1*1<=1;decide,λi v hv=>?_⟩⟩
  rw [dU]
  simpa using hv
 refine Bs1 (A:=A) (s:=s) (t:=t) (at_:=0) (Y7 A) (by omega) (λk W=>∃o,W.heap[b2]?=some (.cells #[.slice o.a o.len o.cap] 43 (0,0))/\Ar W w.heap.size o 3 1 (nv (Oc A k))/\Ext w W/\k<=A.length) (λ_=>False) ?_ ?_ ?_ ?_ ?_;{rintro k W ⟨o,_,_,e,_⟩;exact hs.ext e};{rintro k W W' ⟨o,h1,h2,h3,h4⟩ e;exact ⟨o,e.ext_get h1,h2.ext e,h3.trans e,h4⟩}
 ·rintro i j W K' ⟨o,h1,h2,h3,h4⟩ hij hbj hno hK';have hol:=h2.len1;rw [gW] at hol;have hcl:=Ao7 A i;refine func_x (caps:=#[.pointer (some (at0 b2))]) (by kernel_rfl) ?_;refine Ej1 ?_;unfold F178;refine Ce h1 (x:=o) rfl (Cm λb4 w4 e4 n4 hb4 _=>?_);refine En Qi Qi.ts_ (x:=⟨some (at0 b4),1,1⟩) (h2.ext e4) (Ab6 n4) (λv hv=>by rw [iT.1 hv];rfl) (by
   show (o.len+1+(o.len+1)/4+512)*8<=2^48
   omega) (by have:=h3.size;have:=e4.size;omega) λo' w5 o5 l5 u5 k5=>?_
  have n5:w5.heap[b2]?=some (.cells #[.slice o.a o.len o.cap] 43 (0,0)):=u5.get (e4.ext_get h1) λhb=>by
   obtain ⟨c,fr,hc⟩:=(h2.ext e4).in.Fv hb
   rw [e4.ext_get h1] at hc;cases hc
  refine Jm n5 Nat.one_pos λw6 u6 n6 _=>hK' true w6 (λ_=>⟨o',n6,?_,?_,Aw9 hbj⟩) (λh=>by cases h);{have:=o5.box n5 (by decide) u6;(have e:nv (Oc A j)=nv (Oc A i)++[.int .i64 (j:Int)]:=by rw [Bj2 hij hbj hno];simp);rw [e];exact this};{exact ((h3.trans e4).step u5 λk hk=>h2.Fq hk).step u6 λk hk=>by omega}
 {refine ⟨⟨some (at0 b1),1,1⟩,n3,?_,e3,iW _⟩;rw [Bj1];exact o3};{rintro W (⟨o,h1,h2,h3,h4⟩|h);{exact Ce h1 (x:=o) rfl (hK o W h2 h3)};{exact h.elim}}
end
end
section
open Trx Gly Clu
namespace Lns
structure Ln where
 from_:Nat
 to_:Nat
 next:Nat
 kind:Nat
 deriving DecidableEq
def isb (A:List Int) (n:Nat):Bool:=match A[n]? with
 |some a=>isE a (A.drop (n+1))
 |none=>false
theorem Tt:∀(A:List Int) (n:Nat),nb A (n+1)=nb A n+(if isb A n then 1 else 0)
 |[],n=>by cases n<;>simp [nb,isb]
 |a::r,0=>by simp [nb,Pm,isb]
 |a::r,n+1=>by
  have ih:=Tt r n
  rw [nb,ih,nb]
  have:isb (a::r) (n+1)=isb r n:=by simp [isb]
  rw [this];omega
theorem Ku {A:List Int}{n:Nat}{a:Int}(h:A[n]?=some a):isb A n=true↔a=10\/(a=13/\A[n+1]?≠some 10):=by unfold isb;rw [h];simp only [isE,bM,jM,aV,mY,ne_eq,kZ]
theorem Dg2 {A:List Int}{n:Nat}(h:isb A n=true):n<A.length:=by unfold isb at h;split at h;{rename_i a ha;exact (fG.1 ha).1};{cases h}
theorem Rf {A:List Int}{k m:Nat}(h:sk A k=some m):k<=brs A/\m<=A.length/\nb A m=k/\∀j,j<m->nb A j<k:=by by_cases hk:k<=brs A;{obtain ⟨m',h1,h2,h3,h4⟩:=Ay6 A k hk;rw [h] at h1;cases h1;exact ⟨hk,h2,h3,h4⟩};{rw [Zg A k (by omega)] at h;cases h}
theorem At5 {A:List Int}{k:Nat}(h:k<=brs A):∃m,sk A k=some m:=by obtain ⟨m,h1,_⟩:=Ay6 A k h;exact ⟨m,h1⟩
theorem Ah0 (A:List Int):sk A 0=some 0:=by cases A<;>rfl
theorem Dc2 {A:List Int}{i j m x:Nat}(h1:sk A i=some m) (h2:sk A j=some x) (hij:i<j):m<x:=by obtain ⟨_,_,g1,_⟩:=Rf h1;obtain ⟨_,_,g2,g3⟩:=Rf h2;rcases lT m x with h|h;{exact h};{have:=Ny A x m h;omega}
theorem De1 {A:List Int}{k m:Nat}(h:sk A (k+1)=some m):0<m/\isb A (m-1)=true:=by
 obtain ⟨_,_,h3,h4⟩:=Rf h;cases m with
 |zero=>rw [Pm] at h3;omega
 |succ m =>
  refine ⟨by omega,?_⟩;have:=h4 m (by omega);rw [Tt] at h3;rw [nR];cases hb:isb A m with
  |true=>rfl
  |false=>rw [hb] at h3;simp at h3;omega
def lnC (A:List Int) (f x:Nat):Ln:=if A[x-1]?=some 13 then ⟨f,x-1,x,3⟩ else if f+1<x/\A[x-2]?=some 13 then ⟨f,x-2,x,2⟩ else ⟨f,x-1,x,1⟩
def Oy (A:List Int) (i:Nat):Option Ln:=match sk A i with
 |none=>none
 |some f=>some (match sk A (i+1) with|some x=>lnC A f x|none=>⟨f,A.length,A.length,0⟩)
def lnI (A:List Int) (i:Int):Option Ln:=if i<0 then none else Oy A i.toNat
def ended (A:List Int):Bool:=decide (0<A.length)&&sk A (brs A)==some A.length
def lnN (A:List Int):Nat:=brs A+(if ended A then 0 else 1)
theorem Qs {A:List Int}{i:Nat}{l:Ln}(h:Oy A i=some l):i<=brs A/\sk A i=some l.from_:=by unfold Oy at h;split at h;{cases h};{rename_i f hf;cases h;refine ⟨(Rf hf).1,?_⟩;split;{unfold lnC;split;{exact hf};{split<;>exact hf}};{exact hf}}
theorem Bw9 {A:List Int}{i:Nat}(h:i<=brs A):∃l,Oy A i=some l:=by obtain ⟨m,hm⟩:=At5 h;unfold Oy;rw [hm];exact ⟨_,rfl⟩
structure Dh6 (A:List Int) (i:Nat) (l:Ln):Prop where
 ft:l.from_<=l.to_
 tn:l.to_<=l.next
 nl:l.next<=A.length
 nbf:∀k,l.from_<=k->k<l.next->nb A k=i
 nbF:nb A l.from_=i
 tail:sk A (i+1)=none->l.kind=0/\l.to_=A.length/\l.next=A.length
 brk:∀x,sk A (i+1)=some x->l.next=x/\l.to_<l.next/\l.kind≠0/\nb A x=i+1
 plain:∀j a,l.from_<=j->j<l.to_->A[j]?=some a->a≠10/\a≠13
 atTo:∀a,l.to_<l.next->A[l.to_]?=some a->a=10\/a=13
 noLF:∀j,l.from_<=j->j<l.to_->A[j]?≠some 13
theorem Cp5 {A:List Int} {i:Nat} {l:Ln} (h:Oy A i=some l):Dh6 A i l:=by
 obtain ⟨hi,hf⟩:=Qs h;obtain ⟨_,hfl,hnf,hfmin⟩:=Rf hf;unfold Oy at h;rw [hf] at h;simp only [dN] at h;cases hx:sk A (i+1) with
 | none =>
  rw [hx] at h;simp only at h;have hbr:brs A<=i:=by
   rcases lT i (brs A) with h1|h1
   ·obtain ⟨m,hm⟩:=At5 (A:=A) (k:=i+1) (by omega)
    rw [hm] at hx;cases hx
   ·exact h1
  have hall:∀k,l.from_<=k->nb A k=i:=λk hk=>by
   have h1:=Ny A _ _ hk
   have h2:=Ny A k (max k A.length) (by omega)
   rw [Am4 A (max k A.length) (by omega)] at h2
   omega
  have pl:∀j a,l.from_<=j->j<A.length->A[j]?=some a->a≠10/\a≠13:=by
   have no:∀j,l.from_<=j->isb A j=false:=λj hj=>by
    have h1:=hall j hj
    have h2:=hall (j+1) (by omega)
    rw [Tt,h1] at h2
    cases hb:isb A j with
    |false=>rfl
    |true=>rw [hb] at h2;simp at h2
   intro j a hj hjl ha
   have h1:=no j hj
   constructor
   ·intro e
    have:=(Ku ha).2 (.inl e)
    rw [h1] at this;cases this
   ·intro e
    have h2:=no (j+1) (by omega)
    by_cases h10:A[j+1]?=some 10
    ·have:=(Ku h10).2 (.inl rfl)
     rw [h2] at this;cases this
    ·have:=(Ku ha).2 (.inr ⟨e,h10⟩)
     rw [h1] at this;cases this
  have el:l=⟨l.from_,A.length,A.length,0⟩:=h.symm;have e1:l.to_=A.length:=(by rw [el]);have e2:l.next=A.length:=(by rw [el]);have e3:l.kind=0:=(by rw [el]);exact ⟨by omega,by omega,by omega,λk h1 _=>hall k h1,hnf,λ_=>⟨e3,e1,e2⟩,(λx hx'=>by rw [hx] at hx';cases hx'),λj a h1 h2=>pl j a h1 (by omega),λa h1=>by omega,λj h1 h2 h3=>(pl j 13 h1 (by omega) h3).2 rfl⟩
 | some x =>
  rw [hx] at h;simp only at h;obtain ⟨hib,hxl,hnx,hxmin⟩:=Rf hx;obtain ⟨hx0,hxe⟩:=De1 hx;have hfx:=Dc2 hf hx (by omega);have hmid:∀k,l.from_<=k->k<x->nb A k=i:=λk h1 h2=>by
   have:=Ny A _ _ h1
   have:=hxmin k h2
   omega
  have no:∀j,l.from_<=j->j+1<x->isb A j=false:=λj hj hjx=>by
   have h1:=hmid j hj (by omega)
   have h2:=hmid (j+1) (by omega) hjx
   rw [Tt,h1] at h2
   cases hb:isb A j with
   |false=>rfl
   |true=>rw [hb] at h2;simp at h2
  obtain ⟨a,ha⟩:∃a,A[x-1]?=some a:=⟨_,jC (by omega)⟩;have hend:=(Ku ha).1 hxe;have nx:x-1+1=x:=(by omega);have fin:∀t,l.to_=t->l.next=x->l.from_<=t->t<x->l.kind≠0->(∀a,A[t]?=some a->a=10\/a=13)->(t+1=x\/(t+2=x/\A[t]?=some 13))->(t+1=x->∀j,j+1=t->l.from_<=j->A[t]?=some 10->A[j]?≠some 13)->Dh6 A i l:=by
   intro t e1 e2 h1 h2 h3 h4 h5 h6
   have pl:∀j a,l.from_<=j->j<t->A[j]?=some a->a≠10/\a≠13:=by
    intro j a hj hjt ha
    have g1:=no j hj (by omega)
    refine ⟨λe=>?_,λe=>?_⟩
    ·have:=(Ku ha).2 (.inl e)
     rw [g1] at this;cases this
    ·by_cases h10:A[j+1]?=some 10
     ·by_cases hj2:j+2<x
      ·have g2:=no (j+1) (by omega) (by omega)
       have:=(Ku h10).2 (.inl rfl)
       rw [g2] at this;cases this
      ·rcases h5 with h5|h5
       ·have ht:t=j+1:=by omega
        subst ht
        exact h6 h5 j rfl hj h10 (by rw [ha,e])
       ·omega
     ·have:=(Ku ha).2 (.inr ⟨e,h10⟩)
      rw [g1] at this;cases this
   exact ⟨by omega,by omega,by omega,λk g1 g2=>hmid k g1 (by omega),hnf,(λhn=>by rw [hx] at hn;cases hn),(λy hy=>by rw [hx] at hy;cases hy;exact ⟨e2,by omega,h3,hnx⟩),λj a g1 g2=>pl j a g1 (by omega),λa _ g=>h4 a (by rw [←e1];exact g),λj g1 g2 g3=>(pl j 13 g1 (by omega) g3).2 rfl⟩
  unfold lnC at h;split at h;{rename_i h13;have el:l=⟨l.from_,x-1,x,3⟩:=h.symm;refine fin (x-1) (by rw [el]) (by rw [el]) (by omega) (by omega) (by rw [el];exact (by decide:(3:Nat)≠0)) (λa h=>by rw [h13] at h;cases h;exact .inr rfl) (.inl (by omega)) (λ_ j _ _ h=>by rw [h13] at h;cases h)}
  ·rename_i h13;have ha10:a=10:=by
    rcases hend with h|h
    ·exact h
    ·exact absurd (by rw [ha,h.1]) h13
   split at h;{rename_i h2;have el:l=⟨l.from_,x-2,x,2⟩:=h.symm;exact fin (x-2) (by rw [el]) (by rw [el]) (by omega) (by omega) (by rw [el];exact (by decide:(2:Nat)≠0)) (λa h=>by rw [h2.2] at h;cases h;exact .inr rfl) (.inr ⟨by omega,h2.2⟩) (λh=>by omega)};{rename_i h2;have el:l=⟨l.from_,x-1,x,1⟩:=h.symm;refine fin (x-1) (by rw [el]) (by rw [el]) (by omega) (by omega) (by rw [el];exact (by decide:(1:Nat)≠0)) (λb h=>by rw [ha] at h;cases h;exact .inl ha10) (.inl (by omega)) (λ_ j hj hfj _ h=>h2 ⟨by omega,?_⟩);rw [←h];congr 1;omega}
theorem Dj7 (A:List Int){at_:Nat}(h:at_<=A.length):∃l,Oy A (nb A at_)=some l/\l.from_<=at_/\(at_<l.next\/(sk A (nb A at_+1)=none/\l.next=A.length)):=by
 (have hle:nb A at_<=brs A:=by rw [Nh];exact Ny A _ _ h);obtain ⟨l,hl⟩:=Bw9 hle;obtain ⟨_,hf⟩:=Qs hl;obtain ⟨_,_,g1,g2⟩:=Rf hf;have ok:=Cp5 hl;refine ⟨l,hl,?_,?_⟩;{rcases lT at_ l.from_ with h1|h1;{have:=g2 at_ h1;omega};{exact h1}}
 ·cases hx:sk A (nb A at_+1) with
  |none=>exact .inr ⟨rfl,(ok.tail hx).2.2⟩
  |some x=>obtain ⟨e1,_,_,e2⟩:=ok.brk x hx;left;rcases lT at_ l.next with h1|h1;{exact h1};{have:=Ny A l.next at_ h1;rw [e1,e2] at this;omega}
end Lns
end
section
open Trx Gly Clu Lns
namespace Obx
structure Cel where
 from_:Nat
 to_:Nat
 kind:Nat
 alone:Bool
 atom:Int
def Bj9 (A:List Int) (off i j:Nat):Cel:=⟨off+i,off+j,wrd (A[i]?.getD 0),decide (j=i+1),A[i]?.getD 0⟩
def Ap2 (A:List Int) (off:Nat):List Nat->List Cel
 |i::j::r=>Bj9 A off i j::Ap2 A off (j::r)
 |_=>[]
def Xj (A:List Int) (off:Nat):List Cel:=Ap2 A off (cuts A)
theorem Ac6 (A:List Int) (off:Nat):∀L:List Nat,(Ap2 A off L).length=L.length-1
 |[]=>rfl
 |[_]=>rfl
 |i::j::r=>by rw [Ap2,dB,Ac6 A off (j::r)];simp
theorem Aw5 (A:List Int) (off:Nat):∀(L:List Nat) (m i j:Nat),L[m]?=some i->L[m+1]?=some j->(Ap2 A off L)[m]?=some (Bj9 A off i j)
 |[],_,_,_,h,_=>by simp at h
 |[_],m,_,_,_,h=>by simp at h
 |i::j::r,0,_,_,h,h'=>by
  simp at h h'
  subst h h'
  rfl
 |i::j::r,m+1,x,y,h,h'=>by
  rw [Ap2,nD]
  exact Aw5 A off (j::r) m x y (by simpa using h) (by simpa using h')
theorem Ct2 (A:List Int) (off:Nat):∀(L:List Nat) (m:Nat) (c:Cel),(Ap2 A off L)[m]?=some c->∃i j,L[m]?=some i/\L[m+1]?=some j/\c=Bj9 A off i j:=by intro L m c h;have hl:=(fG.1 h).1;rw [Ac6] at hl;have h1:L[m]?=some L[m]:=jC (by omega);have h2:L[m+1]?=some L[m+1]:=jC (by omega);have:=Aw5 A off L m _ _ h1 h2;rw [h] at this;exact ⟨_,_,h1,h2,kS this⟩
theorem Ac5 (A:List Int):(cuts A)[0]?=some 0:=by unfold cuts Oc;rw [List.range_succ_eq_map,nH (Y7 A)];rfl
theorem Bj0 {A:List Int}{m n i j:Nat}(hmn:m<n) (h:(cuts A)[m]?=some i) (h':(cuts A)[n]?=some j):i<j:=by have hp:=Da5 (A:=A);obtain ⟨h1,rfl⟩:=fG.1 h;obtain ⟨h2,rfl⟩:=fG.1 h';exact List.pairwise_iff_getElem.1 hp m n h1 h2 hmn
theorem Ai0 {A:List Int}{m i:Nat}(h:(cuts A)[m]?=some i):bk A i=true:=Am6.1 (eY h)
theorem Ac4 (A:List Int):(cuts A)[(cuts A).length-1]?=some A.length:=by have h:A.length∈cuts A:=Am6.2 (Bc9 A);obtain ⟨m,hm⟩:=gZ h;have hl:=(fG.1 hm).1;by_cases he:m=(cuts A).length-1;{rw [←he];exact hm};{have h2:(cuts A)[(cuts A).length-1]?=some (cuts A)[(cuts A).length-1]:=jC (by omega);have:=Bj0 (by omega) hm h2;have:=Aw9 (Ai0 h2);omega}
theorem Ao6 (A:List Int):0<(cuts A).length:=by have:=(fG.1 (Ac5 A)).1;exact this
structure Dl8 (A:List Int) (off m:Nat) (c:Cel):Prop where
 ex:∃i j,(cuts A)[m]?=some i/\(cuts A)[m+1]?=some j/\i<j/\j<=A.length/\c.from_=off+i/\c.to_=off+j/\bk A i=true/\bk A j=true/\A[i]?=some c.atom/\c.kind=wrd c.atom/\(c.alone=true↔j=i+1)
theorem Uf {A:List Int}{off m:Nat}{c:Cel}(h:(Xj A off)[m]?=some c):Dl8 A off m c:=by obtain ⟨i,j,h1,h2,rfl⟩:=Ct2 A off _ m c h;have hij:=Bj0 (by omega) h1 h2;have hj:=Aw9 (Ai0 h2);have ha:A[i]?=some A[i]:=jC (by omega);refine ⟨i,j,h1,h2,hij,hj,rfl,rfl,Ai0 h1,Ai0 h2,?_,rfl,by simp [Bj9]⟩;simp [Bj9,ha]
theorem Vu (A:List Int) (off:Nat):(Xj A off).length=(cuts A).length-1:=Ac6 A off _
theorem Ci5 {A:List Int}{off m:Nat}{c d:Cel}(h:(Xj A off)[m]?=some c) (h':(Xj A off)[m+1]?=some d):c.to_=d.from_:=by obtain ⟨i,j,h1,h2,h3,h4,h5,h6,_⟩:=(Uf h).ex;obtain ⟨i',j',g1,g2,g3,g4,g5,g6,_⟩:=(Uf h').ex;rw [h2] at g1;have:j=i':=kS g1;omega
theorem Bs6 {A:List Int}{off:Nat}{c:Cel}(h:(Xj A off)[0]?=some c):c.from_=off:=by obtain ⟨i,j,h1,h2,h3,h4,h5,h6,_⟩:=(Uf h).ex;rw [Ac5] at h1;have:0=i:=kS h1;omega
theorem Ci6 {A:List Int}{off m:Nat}{c:Cel}(h:(Xj A off)[m]?=some c) (hm:m+1=(Xj A off).length):c.to_=off+A.length:=by obtain ⟨i,j,h1,h2,h3,h4,h5,h6,_⟩:=(Uf h).ex;have:=Ao6 A;rw [Vu] at hm;have e:m+1=(cuts A).length-1:=hm;rw [e,Ac4] at h2;have:A.length=j:=kS h2;omega
theorem Da9 (A:List Int) (off:Nat):(Xj A off).length<=A.length:=by rw [Vu];have:=Ao7 A A.length;unfold cuts;omega
def Dj (C:List Cel) (at_:Int):Nat:=C.findIdx λc=>decide (at_<(c.to_:Int))
theorem Qu (C:List Cel) (at_:Int):Dj C at_<=C.length:=List.findIdx_le_length
theorem Ac1 {C:List Cel}{at_:Int}{i:Nat}(hi:i<=C.length) (h1:∀(j:Nat) (c:Cel),j<i->C[j]?=some c->(c.to_:Int)<=at_) (h2:∀c,C[i]?=some c->at_<(c.to_:Int)):Dj C at_=i:=by unfold Dj;by_cases he:i=C.length;{subst he;rw [nS];intro c hc;obtain ⟨j,hj⟩:=gZ hc;have:=h1 j c (fG.1 hj).1 hj;rw [iH];omega};{have hlt:i<C.length:=(by omega);rw [List.findIdx_eq hlt];refine ⟨jP (h2 _ (jC hlt)),λj hj=>?_⟩;have:=h1 j _ hj (jC (by omega));rw [iH];omega}
theorem Ue {C:List Cel}{at_:Int}:(∀(j:Nat) (c:Cel),j<Dj C at_->C[j]?=some c->(c.to_:Int)<=at_)/\(∀c,C[Dj C at_]?=some c->at_<(c.to_:Int)):=by constructor;{intro j c hj hc;have:=List.not_of_lt_findIdx hj;obtain ⟨h,rfl⟩:=fG.1 hc;simpa using this};{intro c hc;obtain ⟨h,rfl⟩:=fG.1 hc;have:=nT (w:=h);exact cO this}
end Obx
end
section
open Trx Gly Clu Lns Obx
namespace Obx
def Bx1 (A:List Int) (l:Ln):List Cel:=Xj ((A.drop l.from_).take (l.to_-l.from_)) l.from_
end Obx
namespace Obx
def frm (C:List Cel) (j:Nat):Nat:=(C[j]?.map (·.from_)).getD 0
theorem Hg {C:List Cel}{j:Nat}{c:Cel}(h:C[j]?=some c):frm C j=c.from_:=by unfold frm;rw [h];rfl
structure Ea8 (A:List Int) (l:Ln) (c:Cel) (ci cj:Nat):Prop where
 from_:c.from_=l.from_+ci
 to_:c.to_=l.from_+cj
 lt:ci<cj
 le:c.to_<=l.to_
 atom:A[c.from_]?=some c.atom
 kind:c.kind=wrd c.atom
 alone:c.alone=decide (c.to_=c.from_+1)
theorem Yq {A:List Int}{l:Ln}(h1:l.from_<=l.to_) (h2:l.to_<=A.length){i:Nat}{c:Cel}(hc:(Bx1 A l)[i]?=some c):∃ci cj,(cuts ((A.drop l.from_).take (l.to_-l.from_)))[i]?=some ci/\(cuts ((A.drop l.from_).take (l.to_-l.from_)))[i+1]?=some cj/\Ea8 A l c ci cj:=by obtain ⟨ci,cj,g1,g2,g3,g4,g5,g6,_,_,g9,g10,g11⟩:=(Uf hc).ex;rw [gI,gJ] at g4;refine ⟨ci,cj,g1,g2,g5,g6,g3,by omega,?_,g10,?_⟩;{rw [gQ,aF (by omega),gU] at g9;rw [g5];exact g9};{rw [gV,g11];simp;omega}
end Obx
namespace Obx
structure Chain (C:List Cel):Prop where
 pos:∀(i:Nat) c,C[i]?=some c->c.from_<c.to_
 next:∀(i:Nat) c d,C[i]?=some c->C[i+1]?=some d->c.to_=d.from_
theorem Chain.mono {C:List Cel}(h:Chain C):∀(d i:Nat) c e,C[i]?=some c->C[i+1+d]?=some e->c.to_<=e.from_
 |0,i,c,e,h1,h2=>lK (h.next i c e h1 h2)
 |d+1,i,c,e,h1,h2=>by
  obtain ⟨x,hx⟩:∃x,C[i+1]?=some x:=⟨_,jC (by have:=(fG.1 h2).1;omega)⟩
  have e1:=h.next i c x h1 hx
  have:=h.mono d (i+1) x e hx (by rw [show i+1+1+d=i+1+(d+1) by omega];exact h2)
  have:=h.pos _ x hx
  omega
theorem Chain.lt {C:List Cel}(h:Chain C){i j:Nat}{c e:Cel}(hij:i<j) (h1:C[i]?=some c) (h2:C[j]?=some e):c.to_<=e.from_:=h.mono (j-i-1) i c e h1 (by rw [show i+1+(j-i-1)=j by omega];exact h2)
theorem Bs7 (A:List Int) (off:Nat):Chain (Xj A off):=⟨λi c h=>by obtain ⟨a,b,_,_,g,_,g1,g2,_⟩:=(Uf h).ex;omega,λi c d h h'=>Ci5 h h'⟩
end Obx
end
end Go.Proofs.YtolhlldgnfbemaaGreatDoor
