/- YtmooldhpiopcgaaGreatDoorSAg4: parts of the proof, put together by program. -/
import Derived.Test.YtmooldhpiopcgaaGreatDoorSAg3
set_option linter.unusedVariables false
set_option linter.unusedSimpArgs false
set_option linter.unusedSectionVars false
noncomputable section
set_option maxRecDepth 100000
namespace Go.Proofs.YtmooldhpiopcgaaGreatDoor
open Go Go.Vx
def F24 (a0:Sl) (K:(Int×Int×Unit)->Wp):Wp:=jB (λJ1=>sif (decide (((a0.len:Nat):Int)>=3)) (ixl (.int .u8) a0 0 1 λ(x4:Int)=>sif (x4==239) (ixl (.int .u8) a0 1 1 λ(x6:Int)=>sif (x6==187) (ixl (.int .u8) a0 2 1 λ(x8:Int)=>J1 ((x8==191),())) (J1 (false,()))) (J1 (false,()))) (J1 (false,()))) λs2=>sif s2.1 (K (1,3,())) (jB (λJ9=>sif (decide (((a0.len:Nat):Int)>=2)) (ixl (.int .u8) a0 0 1 λ(x12:Int)=>sif (x12==255) (ixl (.int .u8) a0 1 1 λ(x14:Int)=>J9 ((x14==254),())) (J9 (false,()))) (J9 (false,()))) λs10=>sif s10.1 (K (2,2,())) (jB (λJ15=>sif (decide (((a0.len:Nat):Int)>=2)) (ixl (.int .u8) a0 0 1 λ(x18:Int)=>sif (x18==254) (ixl (.int .u8) a0 1 1 λ(x20:Int)=>J15 ((x20==255),())) (J15 (false,()))) (J15 (false,()))) λs16=>sif s16.1 (K (3,2,())) (K (0,0,()))))
def h24:Hint:=(hS (hR 2) (hS (.block (hJ (67108848,[(4,tB)]) (.region [] (.ops 4 (.split 8 (.ops 6 (.split 14 (.ops 6 (.split 20 (hO 6) (.skips 4 (hO 2)))) (.skips 4 (.ops 2 (.skips 4 (hO 2)))))) (.skips 4 (.ops 2 (.skips 4 (.ops 2 (.skips 4 (hO 2))))))))) (hC (hS (hR 2) hL) (hJ (0x3fffc000000,[(26,tB)]) (.region [] (.ops 4 (.split 30 (.ops 6 (.split 36 (hO 6) (.skips 4 (hO 2)))) (.skips 4 (.ops 2 (.skips 4 (hO 2))))))) (hC (hS (hR 2) hL) (hJ ((mR [(42,58)]),[(42,tB)]) (.region [] (.ops 4 (.split 46 (.ops 6 (.split 52 (hO 6) (.skips 4 (hO 2)))) (.skips 4 (.ops 2 (.skips 4 (hO 2))))))) (hC (hS (hR 2) hL) hL))))))) (hS (hR 2) hL)))
theorem j24 {a0:Sl}{K:(Int×Int×Unit)->Wp}{w:World}(h:F24 a0 K w):Aa Tryz.prog 24 #[a0.v] (.tup [(.one cI),(.one cI)]) K w:=tied Am Tryz.func24 h24 _ h
def F25 (a0:Int) (K:Sl->Wp):Wp:=sif (a0==1) (Ad (.cells #[(.int .u8 239),(.int .u8 187),(.int .u8 191)] 5) λb1=>K ⟨(some (at0 b1)),3,3⟩) (sif (a0==2) (Ad (.cells #[(.int .u8 255),(.int .u8 254)] 5) λb2=>K ⟨(some (at0 b2)),2,2⟩) (sif (a0==3) (Ad (.cells #[(.int .u8 254),(.int .u8 255)] 5) λb3=>K ⟨(some (at0 b3)),2,2⟩) (K ⟨none,0,0⟩)))
def h25:Hint:=(hS (hR 1) (hS (hS (hR 1) (.block (hS (hR 2) (hC (hS (hR 2) hL) (hS (hR 2) (hC (hS (hR 2) hL) (hS (hR 2) (hC (hS (hR 2) hL) hL)))))))) (hS (hR 1) hL)))
theorem j25 {a0:Int}{K:Sl->Wp}{w:World}(h:F25 a0 K w):Aa Tryz.prog 25 #[(vI a0)] rS K w:=tied Am Tryz.func25 h25 _ h
def F39 (a0:Option Addr) (K:Sl->Wp):Wp:=cN 69 #[(.pointer a0)] λx1=>Dp Tryz.prog rS (Instr.makeSlice 30 (vI x1) (vI x1)) λ(x2:Sl)=>Ad (.cells #[(.slice none 0 0)] 30) λb3=>stC (at0 b3) x2.v<|Ad (.cells #[(vI 0)] 3) λb4=>stC (at0 b4) (vI 0)<|nn a0 λp5=>lds c139 (p5.add 2) λ(x6:(Option Addr×Unit))=>Aa Tryz.prog 70 #[(vA c139 x6),(vI 0)] (.one (.one .any)) λ(x7:Value)=>Xv (S:=(Sl×Int×Int×Int×Int×Bool×Bool×Unit)×Unit) Tryz.prog (Slots.vals [(14,(.agg c146))]) x7 (λl8 rc9 R10 (s11:(Sl×Int×Int×Int×Int×Bool×Bool×Unit)×Unit)=>Ad (.cells #[(.slice none 0 0),(vI 0),(vI 0),(vI 0),(vI 0),(.bool false),(.bool false)] 146) λb13=>Ae (at0 b13) (vA c146 s11.1) 7<|Cb1 l8 rc9<|drew<|lI (at0 b4) λx14=>ld (.sl) (at0 b3) λ(x15:Sl)=>lI (at0 b4) λx16=>slc x15.a x16 ((x15.len:Nat):Int) ((x15.cap:Nat):Int) x15.cap 1 λx17=>ld (.sl) (at0 b13) λ(x18:Sl)=>Dp Tryz.prog rI (Builtin.copy_ #[30,30] 3 #[x17.v,x18.v]) λ(x19:Int)=>keep (λw=>w.cell? (at0 b4)=some (Cell.val cI x14))<|stC (at0 b4) (vI (IntKind.wrap .i64 (x14+x19)))<|Ak6 l8 rc9 none R10) λD12=>aft (ld (.sl) (at0 b3) λ(x22:Sl)=>Ry D12<|K x22) (λi20=>onE i20 0 (ld (.sl) (at0 b3) λ(x21:Sl)=>Ry D12<|K x21) (λ_=>False)) (Ry D12<|K ⟨none,0,0⟩)
def h39:Hint:=(hS (hR 1) (hS (hR 5) (hS (hR 2) (hS (hS (hR 5) (.block (.range [(14,(.agg c146))] (hR 2) (.block (.region (lR 9) (hO 9)))))) (hS (hR 2) hL)))))
theorem j39 {a0:Option Addr}{K:Sl->Wp}{w:World}(h:F39 a0 K w):Aa Tryz.prog 39 #[(.pointer a0)] rS K w:=tied Am Tryz.func39 h39 _ h
def F46 (a0:Option Addr) (a1:Sl) (K:Int->Wp):Wp:=cN 81 #[(.pointer a0),a1.v] λx1=>sif (x1 !=0) (K x1) (jU (λJ2=>sI (λs4 again5=>sif (decide (s4.1>=0)) (jU (λJ6=>ixs c89 a1 s4.1 3 λ(x9:(Int×Int×Sl×Unit))=>Ad (.cells #[(vI 0),(vI 0),(.slice none 0 0)] 89) λb10=>Ae (at0 b10) (vA c89 x9) 3<|jB (λJ11=>lI (at0 b10) λx13=>lI (ad b10 1) λx14=>sif (decide (x13<x14)) (J11 (true,())) (ld (.sl) (ad b10 2) λ(x15:Sl)=>J11 ((decide (((x15.len:Nat):Int)>0)),()))) λs12=>sif s12.1 (lI (at0 b10) λx16=>lI (ad b10 1) λx17=>ld (.sl) (ad b10 2) λ(x18:Sl)=>Aa Tryz.prog 82 #[(.pointer a0),(vI x16),(vI x17),x18.v] (.tup []) λ(x19:(Unit))=>J6 ()) (J6 ())) λs7=>again5 ((IntKind.wrap .i64 (s4.1-1)),())) (J2 ())) ((IntKind.wrap .i64 (((a1.len:Nat):Int)-1)),())) λs3=>K 0)
def h46:Hint:=(hS (hR 1) (hS (hS (hR 4) (hS (hR 2) (hC (hS (hR 2) hL) hL))) (hJ (0xfffffffc0c0,[]) (hS (hR 4) (.block (.loop 0xffffffe00c0 [(6,tI)] (hS (hS (hR 2) (hC hL hL)) (hJ (0xfffffe00080,[]) (.block (hS (hR 6) (hJ (0xffe000000,[(35,tB)]) (.region [] (.ops 6 (.split 30 (.skips 4 (hO 1)) (hO 5)))) (hC (hR 8) hL)))) (hR 3)))))) (hS (hR 1) hL))))
theorem j46 {a0:Option Addr}{a1:Sl}{K:Int->Wp}{w:World}(h:F46 a0 a1 K w):Aa Tryz.prog 46 #[(.pointer a0),a1.v] rI K w:=tied Am Tryz.func46 h46 _ h
def F47 (a0:Option Addr) (K:Int->Wp):Wp:=nn a0 λp1=>lds c139 (p1.add 2) λ(x2:(Option Addr×Unit))=>Aa Tryz.prog 83 #[(vA c139 x2)] (.one (.agg Bf)) λ(x3:(Int×Int×Int×Bool×Bool×Unit))=>K x3.1
def h47:Hint:=(hS (hR 1) (hS (hR 7) hL))
theorem j47 {a0:Option Addr}{K:Int->Wp}{w:World}(h:F47 a0 K w):Aa Tryz.prog 47 #[(.pointer a0)] rI K w:=tied Am Tryz.func47 h47 _ h
def F48 (a0:Int) (a1:Sl) (a2:Int) (K:(Option Addr×Int×Unit)->Wp):Wp:=jB (λJ1=>sif (decide (a0<1)) (J1 (true,())) (J1 ((decide (a0>4)),()))) λs2=>sif s2.1 (K (none,10,())) (jB (λJ3=>sif (decide (a2<0)) (J3 (true,())) (J3 ((decide (a2>65536)),()))) λs4=>sif s4.1 (K (none,1,())) (sif (decide (((a1.len:Nat):Int)>a2)) (K (none,50,())) (Dp Tryz.prog rS (Instr.makeSlice 30 (vI ((a1.len:Nat):Int)) (vI ((a1.len:Nat):Int))) λ(x5:Sl)=>Dp Tryz.prog rI (Builtin.copy_ #[30,30] 3 #[x5.v,a1.v]) λ(x6:Int)=>Ad (.cells #[(vI a0),(vI a2),(.pointer none),(.slice none 0 0)] 141) λb7=>jS (λJ8=>Jv (S:=Sl×Int×Unit) (λs10 again11=>sif (decide (s10.2.1<((x5.len:Nat):Int))) (jI (λJ12=>sN (λs14 again15=>jB (λJ16=>sif (decide (s14.1<((x5.len:Nat):Int))) (J16 ((decide (s14.2.1<128)),())) (J16 (false,()))) λs17=>sif s17.1 (Aa Tryz.prog 84 #[(vI a0),x5.v,(vI s14.1)] (.tup [(.one cI),(.one cI)]) λ(x18:(Int×Int×Unit))=>again15 ((IntKind.wrap .i64 (s14.1+x18.2.1)),(IntKind.wrap .i64 (s14.2.1+1)),())) (J12 (s14.1,()))) (s10.2.1,0,())) λs13=>slc x5.a s10.2.1 s13.1 s13.1 x5.cap 1 λx19=>Aa Tryz.prog 85 #[(vI a0),x19.v,(vI s10.2.1)] (.one (.agg c146)) λ(x20:(Sl×Int×Int×Int×Int×Bool×Bool×Unit))=>Ad (.cells #[x20.1.v,(vI x20.2.1),(vI x20.2.2.1),(vI x20.2.2.2.1),(vI x20.2.2.2.2.1),(.bool x20.2.2.2.2.2.1),(.bool x20.2.2.2.2.2.2.1)] 146) λb21=>Dp Tryz.prog rS (Builtin.append_ #[165,165] 165 #[s10.1.v,(.slice (some (at0 b21)) 1 1)]) λ(x22:Sl)=>again11 (x22,s13.1,())) (J8 (s10.1,()))) (⟨none,0,0⟩,0,())) λs9=>Aa Tryz.prog 86 #[s9.1.v] (.one (.agg c139)) λ(x23:(Option Addr×Unit))=>nn (some (at0 b7)) λp24=>Ae (p24.add 2) (vA c139 x23) 1<|K ((some (at0 b7)),0,()))))
def h48:Hint:=(hS (hR 2) (hS (.block (hJ (8323072,[(16,tB)]) (.region [] (.ops 3 (.split 19 (.skips 2 (hO 2)) (hO 4)))) (hC (hS (hR 2) hL) (hJ (0x3f800000,[(23,tB)]) (.region [] (.ops 3 (.split 26 (.skips 2 (hO 2)) (hO 4)))) (hC (hS (hR 2) hL) (hS (hR 5) (hC (hS (hR 2) hL) hL))))))) (hS (hR 4) (hS (hR 3) (hS (hR 5) (hS (hR 1) (hJ (0x3ffffffffe0000000fc00,[(10,tS)]) (hS (hR 1) (.block (.loop 0x3ffffffffe0000000fc00 [(10,tS),(11,tI)] (hS (hS (hR 4) (hC hL hL)) (.block (hS (hR 3) (hJ (0x3ffffc00000000f000,[(12,tI)]) (.block (.loop 0x3ffffc00000000f000 [(12,tI),(13,tI)] (hS (hJ ((mR [(50,58)]),[(57,tB)]) (.region [] (.ops 5 (.split 54 (hO 3) (.skips 2 (hO 1))))) (hC hL hL)) (hS (.block (hS (hR 9) (hR 4))) (hR 3))))) (hS (hR 12) (hR 2))))))))) (hS (hR 6) (hS (hR 3) hL)))))))))
theorem j48 {a0:Int}{a1:Sl}{a2:Int}{K:(Option Addr×Int×Unit)->Wp}{w:World}(h:F48 a0 a1 a2 K w):Aa Tryz.prog 48 #[(vI a0),a1.v,(vI a2)] (.tup [(.one .ptr),(.one cI)]) K w:=tied Am Tryz.func48 h48 _ h
def F55 (a0:Sl) (K:(Int×Value×Unit)->Wp):Wp:=Aa Tryz.prog 24 #[a0.v] (.tup [(.one cI),(.one cI)]) λ(x1:(Int×Int×Unit))=>sif (x1.1 !=0) (K (x1.1,(Value.float FloatKind.f64 4607182418800017408),())) (jU (λJ2=>chk ((2:Int)≠0)<|sif (decide ((IntKind.wrap .i64 (Int.tdiv ((a0.len:Nat):Int) 2))>0)) (Aa Tryz.prog 94 #[a0.v,(vI 0),(vI (IntKind.wrap .i64 (Int.tdiv ((a0.len:Nat):Int) 2)))] (.one (.one .any)) λ(x4:Value)=>Aa Tryz.prog 94 #[a0.v,(vI 1),(vI (IntKind.wrap .i64 (Int.tdiv ((a0.len:Nat):Int) 2)))] (.one (.one .any)) λ(x5:Value)=>jB (λJ6=>rdB Tryz.prog (do eqGuard .geq 112 (Operand.tmp 35) (Operand.const (Value.float FloatKind.f64 4602678819172646912)) x5 (Value.float FloatKind.f64 4602678819172646912);binOp .geq 112 x5 (Value.float FloatKind.f64 4602678819172646912):Sem Value) λr8=>sif r8 (rdB Tryz.prog (do eqGuard .leq 112 (Operand.tmp 38) (Operand.const (Value.float FloatKind.f64 4593671619917905920)) x4 (Value.float FloatKind.f64 4593671619917905920);binOp .leq 112 x4 (Value.float FloatKind.f64 4593671619917905920):Sem Value) λr9=>J6 (r9,())) (J6 (false,()))) λs7=>sif s7.1 (K (2,x5,())) (jB (λJ10=>rdB Tryz.prog (do eqGuard .geq 112 (Operand.tmp 43) (Operand.const (Value.float FloatKind.f64 4602678819172646912)) x4 (Value.float FloatKind.f64 4602678819172646912);binOp .geq 112 x4 (Value.float FloatKind.f64 4602678819172646912):Sem Value) λr12=>sif r12 (rdB Tryz.prog (do eqGuard .leq 112 (Operand.tmp 46) (Operand.const (Value.float FloatKind.f64 4593671619917905920)) x5 (Value.float FloatKind.f64 4593671619917905920);binOp .leq 112 x5 (Value.float FloatKind.f64 4593671619917905920):Sem Value) λr13=>J10 (r13,())) (J10 (false,()))) λs11=>sif s11.1 (K (3,x4,())) (J2 ()))) (J2 ())) λs3=>jN (λJ14=>Jv (S:=Int×Int×Int×Unit) (λs16 again17=>sif (decide (s16.2.2.1<((a0.len:Nat):Int))) (slc a0.a s16.2.2.1 ((a0.len:Nat):Int) ((a0.cap:Nat):Int) a0.cap 1 λx18=>Aa Tryz.prog 95 #[(.agg #[]),x18.v] (.tup [(.one cI),(.one cI)]) λ(x19:(Int×Int×Unit))=>jI (λJ20=>sif (decide (x19.1<0)) (J20 ((IntKind.wrap .i64 (s16.2.1+1)),())) (J20 (s16.2.1,()))) λs21=>jI (λJ22=>ixl (.int .u8) a0 s16.2.2.1 1 λ(x25:Int)=>sif (decide (x25>=128)) (J22 ((IntKind.wrap .i64 (s16.1+x19.2.1)),())) (J22 (s16.1,()))) λs23=>again17 (s23.1,s21.1,(IntKind.wrap .i64 (s16.2.2.1+x19.2.1)),())) (J14 (s16.1,s16.2.1,()))) (0,0,0,())) λs15=>sif (s15.2.1==0) (K (1,(Value.float FloatKind.f64 4607182418800017408),())) (rdV Tryz.prog (convert 3 112 (vI (IntKind.wrap .i64 (s15.1-s15.2.1)))) λx26=>rdV Tryz.prog (convert 3 112 (vI s15.1)) λx27=>rdV Tryz.prog (do eqGuard .quo 112 (Operand.tmp 82) (Operand.tmp 84) x26 x27;binOp .quo 112 x26 x27:Sem Value) λr28=>rdB Tryz.prog (do eqGuard .geq 112 (Operand.tmp 86) (Operand.const (Value.float FloatKind.f64 4604930618986332160)) r28 (Value.float FloatKind.f64 4604930618986332160);binOp .geq 112 r28 (Value.float FloatKind.f64 4604930618986332160):Sem Value) λr29=>sif r29 (K (1,r28,())) (rdV Tryz.prog (do eqGuard .sub 112 (Operand.const (Value.float FloatKind.f64 4607182418800017408)) (Operand.tmp 89) (Value.float FloatKind.f64 4607182418800017408) r28;binOp .sub 112 (Value.float FloatKind.f64 4607182418800017408) r28:Sem Value) λr30=>K (4,r30,()))))
def h55:Hint:=(hS (hR 2) (hS (hS (hR 7) (hS (hR 2) (hC (hS (hR 3) hL) hL))) (hJ (0x3ffffff8001cc,[]) (hS (hR 4) (hS (hR 2) (hC (hS (hR 8) (.block (hJ (0x1fc00000000,[(34,tB)]) (.region [] (.ops 3 (.split 37 (hO 4) (.skips 2 (hO 2))))) (hC (hS (hR 3) hL) (hJ ((mR [(42,49)]),[(42,tB)]) (.region [] (.ops 3 (.split 45 (hO 4) (.skips 2 (hO 2))))) (hC (hS (hR 3) hL) hL)))))) hL))) (hS (hR 2) (hJ (0x1ffffffc000000003e00,[(9,tI),(10,tI)]) (hS (hR 1) (.block (.loop 0x1ffffffc000000003e00 [(9,tI),(10,tI),(11,tI)] (hS (hS (hR 4) (hC hL hL)) (.block (hS (hR 10) (hJ (0x3c000000000000400,[(10,tI)]) (hS (hR 2) (hC (hR 3) hL)) (hJ (0x3fc0000000000000200,[(9,tI)]) (hS (hR 5) (hC (hR 4) hL)) (hR 4))))))))) (hS (hS (hR 2) (hC (hS (hR 2) hL) hL)) (hS (hR 8) (hS (hS (hR 2) (hC (hS (hR 3) hL) hL)) (hS (hR 4) hL)))))))))
theorem j55 {a0:Sl}{K:(Int×Value×Unit)->Wp}{w:World}(h:F55 a0 K w):Aa Tryz.prog 55 #[a0.v] (.tup [(.one cI),(.one .any)]) K w:=tied Am Tryz.func55 h55 _ h
def F69 (a0:Option Addr) (K:Int->Wp):Wp:=nn a0 λp1=>lds c139 (p1.add 2) λ(x2:(Option Addr×Unit))=>Aa Tryz.prog 83 #[(vA c139 x2)] (.one (.agg Bf)) λ(x3:(Int×Int×Int×Bool×Bool×Unit))=>K x3.2.1
def h69:Hint:=(hS (hR 1) (hS (hR 7) hL))
theorem j69 {a0:Option Addr}{K:Int->Wp}{w:World}(h:F69 a0 K w):Aa Tryz.prog 69 #[(.pointer a0)] rI K w:=tied Am Tryz.func69 h69 _ h
def F70 (a0:(Option Addr×Unit)) (a1:Int) (K:Value->Wp):Wp:=Ad (.cells #[(.pointer a0.1)] 139) λb1=>Ad (.cells #[(vI a1)] 3) λb2=>K (.func (Fn.func 98) #[] #[(.pointer (some (at0 b1))),(.pointer (some (at0 b2)))])
def h70:Hint:=(hS (hR 3) (hS (hR 2) hL))
theorem j70 {a0:(Option Addr×Unit)}{a1:Int}{K:Value->Wp}{w:World}(h:F70 a0 a1 K w):Aa Tryz.prog 70 #[(vA c139 a0),(vI a1)] (.one (.one .any)) K w:=tied Am Tryz.func70 h70 _ h
def F81 (a0:Option Addr) (a1:Sl) (K:Int->Wp):Wp:=sif (decide (((a1.len:Nat):Int)>70000)) (K 3) (cN 47 #[(.pointer a0)] λx1=>jU (λJ2=>sN (λs4 again5=>sif (decide (s4.2.1<((a1.len:Nat):Int))) (ixs c89 a1 s4.2.1 3 λ(x7:(Int×Int×Sl×Unit))=>Ad (.cells #[(vI 0),(vI 0),(.slice none 0 0)] 89) λb8=>Ae (at0 b8) (vA c89 x7) 3<|jB (λJ9=>lI (at0 b8) λx11=>sif (decide (x11<s4.1)) (J9 (true,())) (lI (ad b8 1) λx12=>lI (at0 b8) λx13=>sif (decide (x12<x13)) (J9 (true,())) (lI (ad b8 1) λx14=>J9 ((decide (x14>x1)),())))) λs10=>sif s10.1 (K 2) (lI (ad b8 1) λx15=>again5 (x15,(IntKind.wrap .i64 (s4.2.1+1)),()))) (J2 ())) (0,0,())) λs3=>cN 69 #[(.pointer a0)] λx16=>jI (λJ17=>sN (λs19 again20=>sif (decide (s19.2.1<((a1.len:Nat):Int))) (jI (λJ21=>ixs c89 a1 s19.2.1 3 λ(x24:(Int×Int×Sl×Unit))=>Ad (.cells #[(vI 0),(vI 0),(.slice none 0 0)] 89) λb25=>Ae (at0 b25) (vA c89 x24) 3<|ld (.sl) (ad b25 2) λ(x26:Sl)=>sN (λs27 again28=>sif (decide (s27.2.1<((x26.len:Nat):Int))) (ixI x26 s27.2.1 1 λx30=>nn a0 λp31=>lI p31 λx32=>cN 118 #[(vI x32),(vI x30)] λx33=>sif (x33==0) (K 11) (again28 ((IntKind.wrap .i64 (s27.1+x33)),(IntKind.wrap .i64 (s27.2.1+1)),()))) (J21 (s27.1,()))) (s19.1,0,())) λs22=>again20 (s22.1,(IntKind.wrap .i64 (s19.2.1+1)),())) (J17 (s19.1,()))) (x16,0,())) λs18=>jI (λJ34=>sN (λs36 again37=>sif (decide (s36.2.1<((a1.len:Nat):Int))) (jI (λJ38=>ixs c89 a1 s36.2.1 3 λ(x41:(Int×Int×Sl×Unit))=>Ad (.cells #[(vI 0),(vI 0),(.slice none 0 0)] 89) λb42=>Ae (at0 b42) (vA c89 x41) 3<|lI (ad b42 1) λx43=>lI (at0 b42) λx44=>sif (decide (x43>x44)) (drew<|lI (ad b42 1) λx45=>lI (at0 b42) λx46=>Aa Tryz.prog 119 #[(.pointer a0),(vI x45)] (.one (.agg Bf)) λ(x47:(Int×Int×Int×Bool×Bool×Unit))=>keep (λw=>w.cell? (at0 b42)=some (Cell.val cI x46))<|Aa Tryz.prog 119 #[(.pointer a0),(vI x46)] (.one (.agg Bf)) λ(x48:(Int×Int×Int×Bool×Bool×Unit))=>J38 ((IntKind.wrap .i64 (s36.1-(IntKind.wrap .i64 (x47.2.1-x48.2.1)))),())) (J38 (s36.1,()))) λs39=>again37 (s39.1,(IntKind.wrap .i64 (s36.2.1+1)),())) (J34 (s36.1,()))) (s18.1,0,())) λs35=>nn a0 λp49=>ld cI (p49.add 1) λ(x50:Int)=>sif (decide (s35.1>x50)) (K 50) (K 0))
def h81:Hint:=(hS (hR 1) (hS (hS (hR 3) (hC (hS (hR 1) hL) hL)) (hS (hR 4) (hJ (0xffffffc00130,[]) (hS (hR 3) (.block (.loop 0xffffff000130 [(5,tI),(24,tI)] (hS (hR 1) (hS (hC hL hL) (hS (.block (hS (hR 4) (hS (hJ (0x1ffff0000000,[(44,tB)]) (.region [] (.ops 5 (.split 32 (.skips 5 (.ops 2 (.skips 4 (hO 1)))) (.ops 7 (.split 39 (.skips 4 (hO 1)) (hO 5)))))) (hC (hS (hR 1) hL) hL)) (hR 3)))) (hR 2))))))) (hS (hR 3) (hJ (0xffffffc000000006a10,[(9,tI)]) (hS (hR 3) (.block (.loop 0xffffff0000000006a10 [(9,tI),(52,tI)] (hS (hR 1) (hS (hC hL hL) (hJ (0x7ffffc0000000006a10,[(9,tI)]) (.block (hS (hR 4) (hS (hR 4) (.block (.loop 0x7fff800000000006210 [(9,tI),(59,tI)] (hS (hR 1) (hS (hC hL hL) (hS (.block (hS (hR 3) (hS (hR 7) (hS (hS (hR 2) (hC (hS (hR 1) hL) hL)) (hR 4))))) (hR 2))))))))) (hR 2))))))) (hJ (0x1ffffff0000000000000010200,[(9,tI)]) (hS (hR 3) (.block (.loop 0x1fffffc0000000000000010200 [(9,tI),(78,tI)] (hS (hR 1) (hS (hC hL hL) (hJ (0xfffff00000000000000010200,[(9,tI)]) (.block (hS (hR 4) (hS (hR 5) (hC (.region [0,1,2,3,6,7,8,4,5,9,10,11,12,13] (hO 14)) hL)))) (hR 2))))))) (hS (hS (hR 6) (hC (hS (hR 1) hL) hL)) (hS (hR 1) hL)))))))))
theorem j81 {a0:Option Addr}{a1:Sl}{K:Int->Wp}{w:World}(h:F81 a0 a1 K w):Aa Tryz.prog 81 #[(.pointer a0),a1.v] rI K w:=tied Am Tryz.func81 h81 _ h
def F82 (a0:Option Addr) (a1:Int) (a2:Int) (a3:Sl) (K:Unit->Wp):Wp:=Aa Tryz.prog 120 #[(.pointer a0),(vI a1)] (.tup [(.one cI),(.one cI)]) λ(x1:(Int×Int×Unit))=>Aa Tryz.prog 120 #[(.pointer a0),(vI a2)] (.tup [(.one cI),(.one cI)]) λ(x2:(Int×Int×Unit))=>jS (λJ3=>nn a0 λp5=>lds c139 (p5.add 2) λ(x6:(Option Addr×Unit))=>Aa Tryz.prog 121 #[(vA c139 x6),(vI x1.1)] (.tup [(.agg c146),(.one .bool)]) λ(x7:((Sl×Int×Int×Int×Int×Bool×Bool×Unit)×Bool×Unit))=>Ad (.cells #[(.slice none 0 0),(vI 0),(vI 0),(vI 0),(vI 0),(.bool false),(.bool false)] 146) λb8=>Ae (at0 b8) (vA c146 x7.1) 7<|jB (λJ9=>sif x7.2.1 (J9 ((decide (x1.2.1>0)),())) (J9 (false,()))) λs10=>sif s10.1 (join (S:=Addr×Unit) (λJ11=>drew<|lds c146 (at0 b8) λ(x13:(Sl×Int×Int×Int×Int×Bool×Bool×Unit))=>nn a0 λp14=>lI p14 λx15=>both (Ad (.cells #[(.slice none 0 0),(vI 0),(vI 0),(vI 0),(vI 0),(.bool false),(.bool false)] 146) λb16=>keep (λw=>w.cell? p14=some (Cell.val cI x15))<|keep (λw=>Aw w (at0 b8) 0 (Cells.vals c146 x13))<|both (Ad (.cells #[(.slice none 0 0),(vI 0),(vI 0),(vI 0),(vI 0),(.bool false),(.bool false)] 146) λb17=>keep (λw=>w.cell? p14=some (Cell.val cI x15))<|keep (λw=>Aw w (at0 b8) 0 (Cells.vals c146 x13))<|Aa Tryz.prog 122 #[(vA c146 x13),(vI x15),(vI x1.2.1)] (.tup [(.agg c146),(.agg c146)]) λ(x18:((Sl×Int×Int×Int×Int×Bool×Bool×Unit)×(Sl×Int×Int×Int×Int×Bool×Bool×Unit)×Unit))=>Ae (at0 b16) (vA c146 x18.1) 7<|Ae (at0 b17) (vA c146 x18.2.1) 7<|J11 ((at0 b16),()))<|Aa Tryz.prog 122 #[(vA c146 x13),(vI x15),(vI x1.2.1)] (.tup [(.agg c146),(.agg c146)]) λ(x19:((Sl×Int×Int×Int×Int×Bool×Bool×Unit)×(Sl×Int×Int×Int×Int×Bool×Bool×Unit)×Unit))=>both (Ad (.cells #[(.slice none 0 0),(vI 0),(vI 0),(vI 0),(vI 0),(.bool false),(.bool false)] 146) λb20=>keep (λw=>w.cell? p14=some (Cell.val cI x15))<|keep (λw=>Aw w (at0 b8) 0 (Cells.vals c146 x13))<|Ae (at0 b16) (vA c146 x19.1) 7<|Ae (at0 b20) (vA c146 x19.2.1) 7<|J11 ((at0 b16),()))<|nothing)<|both (Ad (.cells #[(.slice none 0 0),(vI 0),(vI 0),(vI 0),(vI 0),(.bool false),(.bool false)] 146) λb21=>keep (λw=>w.cell? p14=some (Cell.val cI x15))<|keep (λw=>Aw w (at0 b8) 0 (Cells.vals c146 x13))<|both (Ad (.cells #[(.slice none 0 0),(vI 0),(vI 0),(vI 0),(vI 0),(.bool false),(.bool false)] 146) λb22=>keep (λw=>w.cell? p14=some (Cell.val cI x15))<|keep (λw=>Aw w (at0 b8) 0 (Cells.vals c146 x13))<|Aa Tryz.prog 122 #[(vA c146 x13),(vI x15),(vI x1.2.1)] (.tup [(.agg c146),(.agg c146)]) λ(x23:((Sl×Int×Int×Int×Int×Bool×Bool×Unit)×(Sl×Int×Int×Int×Int×Bool×Bool×Unit)×Unit))=>Ae (at0 b22) (vA c146 x23.1) 7<|Ae (at0 b21) (vA c146 x23.2.1) 7<|J11 ((at0 b22),()))<|Aa Tryz.prog 122 #[(vA c146 x13),(vI x15),(vI x1.2.1)] (.tup [(.agg c146),(.agg c146)]) λ(x24:((Sl×Int×Int×Int×Int×Bool×Bool×Unit)×(Sl×Int×Int×Int×Int×Bool×Bool×Unit)×Unit))=>both (Ad (.cells #[(.slice none 0 0),(vI 0),(vI 0),(vI 0),(vI 0),(.bool false),(.bool false)] 146) λb25=>keep (λw=>w.cell? p14=some (Cell.val cI x15))<|keep (λw=>Aw w (at0 b8) 0 (Cells.vals c146 x13))<|Ae (at0 b25) (vA c146 x24.1) 7<|Ae (at0 b21) (vA c146 x24.2.1) 7<|J11 ((at0 b25),()))<|nothing)<|Aa Tryz.prog 122 #[(vA c146 x13),(vI x15),(vI x1.2.1)] (.tup [(.agg c146),(.agg c146)]) λ(x26:((Sl×Int×Int×Int×Int×Bool×Bool×Unit)×(Sl×Int×Int×Int×Int×Bool×Bool×Unit)×Unit))=>both (Ad (.cells #[(.slice none 0 0),(vI 0),(vI 0),(vI 0),(vI 0),(.bool false),(.bool false)] 146) λb27=>keep (λw=>w.cell? p14=some (Cell.val cI x15))<|keep (λw=>Aw w (at0 b8) 0 (Cells.vals c146 x13))<|both (Ad (.cells #[(.slice none 0 0),(vI 0),(vI 0),(vI 0),(vI 0),(.bool false),(.bool false)] 146) λb28=>keep (λw=>w.cell? p14=some (Cell.val cI x15))<|keep (λw=>Aw w (at0 b8) 0 (Cells.vals c146 x13))<|Ae (at0 b27) (vA c146 x26.1) 7<|Ae (at0 b28) (vA c146 x26.2.1) 7<|J11 ((at0 b27),()))<|nothing)<|both (Ad (.cells #[(.slice none 0 0),(vI 0),(vI 0),(vI 0),(vI 0),(.bool false),(.bool false)] 146) λb29=>keep (λw=>w.cell? p14=some (Cell.val cI x15))<|keep (λw=>Aw w (at0 b8) 0 (Cells.vals c146 x13))<|both (Ad (.cells #[(.slice none 0 0),(vI 0),(vI 0),(vI 0),(vI 0),(.bool false),(.bool false)] 146) λb30=>keep (λw=>w.cell? p14=some (Cell.val cI x15))<|keep (λw=>Aw w (at0 b8) 0 (Cells.vals c146 x13))<|Ae (at0 b30) (vA c146 x26.1) 7<|Ae (at0 b29) (vA c146 x26.2.1) 7<|J11 ((at0 b30),()))<|nothing)<|nothing) λs12=>lds c146 s12.1 λ(x31:(Sl×Int×Int×Int×Int×Bool×Bool×Unit))=>Ad (.cells #[x31.1.v,(vI x31.2.1),(vI x31.2.2.1),(vI x31.2.2.2.1),(vI x31.2.2.2.2.1),(.bool x31.2.2.2.2.2.1),(.bool x31.2.2.2.2.2.2.1)] 146) λb32=>Dp Tryz.prog rS (Builtin.append_ #[165,165] 165 #[(.slice none 0 0),(.slice (some (at0 b32)) 1 1)]) λ(x33:Sl)=>J3 (x33,())) (J3 (⟨none,0,0⟩,()))) λs4=>cS 123 #[(.pointer a0),a3.v] λx34=>Dp Tryz.prog rS (Builtin.append_ #[165,165] 165 #[s4.1.v,x34.v]) λ(x35:Sl)=>jS (λJ36=>nn a0 λp38=>lds c139 (p38.add 2) λ(x39:(Option Addr×Unit))=>Aa Tryz.prog 121 #[(vA c139 x39),(vI x2.1)] (.tup [(.agg c146),(.one .bool)]) λ(x40:((Sl×Int×Int×Int×Int×Bool×Bool×Unit)×Bool×Unit))=>Ad (.cells #[(.slice none 0 0),(vI 0),(vI 0),(vI 0),(vI 0),(.bool false),(.bool false)] 146) λb41=>Ae (at0 b41) (vA c146 x40.1) 7<|sif x40.2.1 (join (S:=Addr×Unit) (λJ42=>drew<|lds c146 (at0 b41) λ(x44:(Sl×Int×Int×Int×Int×Bool×Bool×Unit))=>nn a0 λp45=>lI p45 λx46=>both (Ad (.cells #[(.slice none 0 0),(vI 0),(vI 0),(vI 0),(vI 0),(.bool false),(.bool false)] 146) λb47=>keep (λw=>w.cell? p45=some (Cell.val cI x46))<|keep (λw=>Aw w (at0 b41) 0 (Cells.vals c146 x44))<|both (Ad (.cells #[(.slice none 0 0),(vI 0),(vI 0),(vI 0),(vI 0),(.bool false),(.bool false)] 146) λb48=>keep (λw=>w.cell? p45=some (Cell.val cI x46))<|keep (λw=>Aw w (at0 b41) 0 (Cells.vals c146 x44))<|Aa Tryz.prog 122 #[(vA c146 x44),(vI x46),(vI x2.2.1)] (.tup [(.agg c146),(.agg c146)]) λ(x49:((Sl×Int×Int×Int×Int×Bool×Bool×Unit)×(Sl×Int×Int×Int×Int×Bool×Bool×Unit)×Unit))=>Ae (at0 b47) (vA c146 x49.1) 7<|Ae (at0 b48) (vA c146 x49.2.1) 7<|J42 ((at0 b48),()))<|Aa Tryz.prog 122 #[(vA c146 x44),(vI x46),(vI x2.2.1)] (.tup [(.agg c146),(.agg c146)]) λ(x50:((Sl×Int×Int×Int×Int×Bool×Bool×Unit)×(Sl×Int×Int×Int×Int×Bool×Bool×Unit)×Unit))=>both (Ad (.cells #[(.slice none 0 0),(vI 0),(vI 0),(vI 0),(vI 0),(.bool false),(.bool false)] 146) λb51=>keep (λw=>w.cell? p45=some (Cell.val cI x46))<|keep (λw=>Aw w (at0 b41) 0 (Cells.vals c146 x44))<|Ae (at0 b47) (vA c146 x50.1) 7<|Ae (at0 b51) (vA c146 x50.2.1) 7<|J42 ((at0 b51),()))<|nothing)<|both (Ad (.cells #[(.slice none 0 0),(vI 0),(vI 0),(vI 0),(vI 0),(.bool false),(.bool false)] 146) λb52=>keep (λw=>w.cell? p45=some (Cell.val cI x46))<|keep (λw=>Aw w (at0 b41) 0 (Cells.vals c146 x44))<|both (Ad (.cells #[(.slice none 0 0),(vI 0),(vI 0),(vI 0),(vI 0),(.bool false),(.bool false)] 146) λb53=>keep (λw=>w.cell? p45=some (Cell.val cI x46))<|keep (λw=>Aw w (at0 b41) 0 (Cells.vals c146 x44))<|Aa Tryz.prog 122 #[(vA c146 x44),(vI x46),(vI x2.2.1)] (.tup [(.agg c146),(.agg c146)]) λ(x54:((Sl×Int×Int×Int×Int×Bool×Bool×Unit)×(Sl×Int×Int×Int×Int×Bool×Bool×Unit)×Unit))=>Ae (at0 b53) (vA c146 x54.1) 7<|Ae (at0 b52) (vA c146 x54.2.1) 7<|J42 ((at0 b52),()))<|Aa Tryz.prog 122 #[(vA c146 x44),(vI x46),(vI x2.2.1)] (.tup [(.agg c146),(.agg c146)]) λ(x55:((Sl×Int×Int×Int×Int×Bool×Bool×Unit)×(Sl×Int×Int×Int×Int×Bool×Bool×Unit)×Unit))=>both (Ad (.cells #[(.slice none 0 0),(vI 0),(vI 0),(vI 0),(vI 0),(.bool false),(.bool false)] 146) λb56=>keep (λw=>w.cell? p45=some (Cell.val cI x46))<|keep (λw=>Aw w (at0 b41) 0 (Cells.vals c146 x44))<|Ae (at0 b56) (vA c146 x55.1) 7<|Ae (at0 b52) (vA c146 x55.2.1) 7<|J42 ((at0 b52),()))<|nothing)<|Aa Tryz.prog 122 #[(vA c146 x44),(vI x46),(vI x2.2.1)] (.tup [(.agg c146),(.agg c146)]) λ(x57:((Sl×Int×Int×Int×Int×Bool×Bool×Unit)×(Sl×Int×Int×Int×Int×Bool×Bool×Unit)×Unit))=>both (Ad (.cells #[(.slice none 0 0),(vI 0),(vI 0),(vI 0),(vI 0),(.bool false),(.bool false)] 146) λb58=>keep (λw=>w.cell? p45=some (Cell.val cI x46))<|keep (λw=>Aw w (at0 b41) 0 (Cells.vals c146 x44))<|both (Ad (.cells #[(.slice none 0 0),(vI 0),(vI 0),(vI 0),(vI 0),(.bool false),(.bool false)] 146) λb59=>keep (λw=>w.cell? p45=some (Cell.val cI x46))<|keep (λw=>Aw w (at0 b41) 0 (Cells.vals c146 x44))<|Ae (at0 b58) (vA c146 x57.1) 7<|Ae (at0 b59) (vA c146 x57.2.1) 7<|J42 ((at0 b59),()))<|nothing)<|both (Ad (.cells #[(.slice none 0 0),(vI 0),(vI 0),(vI 0),(vI 0),(.bool false),(.bool false)] 146) λb60=>keep (λw=>w.cell? p45=some (Cell.val cI x46))<|keep (λw=>Aw w (at0 b41) 0 (Cells.vals c146 x44))<|both (Ad (.cells #[(.slice none 0 0),(vI 0),(vI 0),(vI 0),(vI 0),(.bool false),(.bool false)] 146) λb61=>keep (λw=>w.cell? p45=some (Cell.val cI x46))<|keep (λw=>Aw w (at0 b41) 0 (Cells.vals c146 x44))<|Ae (at0 b61) (vA c146 x57.1) 7<|Ae (at0 b60) (vA c146 x57.2.1) 7<|J42 ((at0 b60),()))<|nothing)<|nothing) λs43=>ld cI (s43.1.add 2) λ(x62:Int)=>sif (decide (x62>0)) (lds c146 s43.1 λ(x63:(Sl×Int×Int×Int×Int×Bool×Bool×Unit))=>Ad (.cells #[x63.1.v,(vI x63.2.1),(vI x63.2.2.1),(vI x63.2.2.2.1),(vI x63.2.2.2.2.1),(.bool x63.2.2.2.2.2.1),(.bool x63.2.2.2.2.2.2.1)] 146) λb64=>Dp Tryz.prog rS (Builtin.append_ #[165,165] 165 #[x35.v,(.slice (some (at0 b64)) 1 1)]) λ(x65:Sl)=>J36 (x65,())) (J36 (x35,()))) (J36 (x35,()))) λs37=>drew<|nn a0 λp66=>lds c139 (p66.add 2) λ(x67:(Option Addr×Unit))=>nn a0 λp68=>lds c139 (p68.add 2) λ(x69:(Option Addr×Unit))=>cN 125 #[(vA c139 x69)] λx70=>keep (λw=>Aw w (p66.add 2) 0 (Cells.vals c139 x67))<|Aa Tryz.prog 124 #[(vA c139 x67),(vI x1.1),(vI (if x70<(IntKind.wrap .i64 (x2.1+1)) then x70 else (IntKind.wrap .i64 (x2.1+1)))),s37.1.v] (.tup [(.agg c139),(.one cI)]) λ(x71:((Option Addr×Unit)×Int×Unit))=>nn a0 λp72=>Ae (p72.add 2) (vA c139 x71.1) 1<|K ()
def h82:Hint:=(hS (hR 8) (hS (hR 8) (hS (hR 1) (hJ (0x1ffffffe0001f000,[(12,tS)]) (hS (hR 12) (hJ (0x7c0000000000,[(46,tB)]) (.region [] (.ops 2 (.split 43 (hO 3) (.skips 2 (hO 1))))) (hC (hJ (0x1ff800000018000,[(15,(.one .addr))]) (.region [0,1,2,3,4,5,6,7,8,9,12,13] (.float [10,11] (.ops 6 (.alt none (.alt none (.plain (hO 6)) (.ops 4 (.alt none (.plain (hO 2)) .stop))) (.alt none (.alt none (.plain (hO 6)) (.ops 4 (.alt none (.plain (hO 2)) .stop))) (.ops 4 (.alt none (.alt none (.plain (hO 2)) .stop) (.alt none (.alt none (.plain (hO 2)) .stop) .stop)))))))) (hR 5)) hL))) (hS (hR 6) (hJ (0x3ffffffc00000000001e1000,[(12,tS)]) (hS (hR 12) (hS (hR 1) (hC (hJ (0x3ff0000000000000180000,[(20,(.one .addr))]) (.region [0,1,2,3,4,5,6,7,8,9,12,13] (.float [10,11] (.ops 6 (.alt none (.alt none (.plain (hO 6)) (.ops 4 (.alt none (.plain (hO 2)) .stop))) (.alt none (.alt none (.plain (hO 6)) (.ops 4 (.alt none (.plain (hO 2)) .stop))) (.ops 4 (.alt none (.alt none (.plain (hO 2)) .stop) (.alt none (.alt none (.plain (hO 2)) .stop) .stop)))))))) (hS (hR 4) (hC (hR 5) hL))) hL))) (.region [0,1,2,3,4,5,6,7,8,9,10,11,14,12,13,15,16,17,18,19,20,21] (hO 22))))))))
theorem j82 {a0:Option Addr}{a1:Int}{a2:Int}{a3:Sl}{K:Unit->Wp}{w:World}(h:F82 a0 a1 a2 a3 K w):Aa Tryz.prog 82 #[(.pointer a0),(vI a1),(vI a2),a3.v] (.tup []) K w:=tied Am Tryz.func82 h82 _ h
def F83 (a0:(Option Addr×Unit)) (K:(Int×Int×Int×Bool×Bool×Unit)->Wp):Wp:=Ad (.cells #[(.pointer a0.1)] 139) λb1=>Ad (.cells #[(vI 0),(vI 0),(vI 0),(.bool false),(.bool false)] 144) λb2=>ld (.ptr) (at0 b1) λ(x3:Option Addr)=>sif (Option.isNone x3) (Ad (.cells #[(vI 0),(vI 0),(vI 0),(.bool false),(.bool false)] 144) λb4=>lds Bf (at0 b4) λ(x5:(Int×Int×Int×Bool×Bool×Unit))=>Ae (at0 b2) (vA Bf x5) 5<|lds Bf (at0 b2) λ(x6:(Int×Int×Int×Bool×Bool×Unit))=>K x6) (ld (.ptr) (at0 b1) λ(x7:Option Addr)=>nn x7 λp8=>lds Bf (p8.add 11) λ(x9:(Int×Int×Int×Bool×Bool×Unit))=>Ae (at0 b2) (vA Bf x9) 5<|lds Bf (at0 b2) λ(x10:(Int×Int×Int×Bool×Bool×Unit))=>K x10)
def h83:Hint:=(hS (hR 2) (hS (hS (hR 3) (hC (hS (hR 1) (hS (hR 2) hL)) hL)) (hS (hR 6) hL)))
theorem j83 {a0:(Option Addr×Unit)}{K:(Int×Int×Int×Bool×Bool×Unit)->Wp}{w:World}(h:F83 a0 K w):Aa Tryz.prog 83 #[(vA c139 a0)] (.one (.agg Bf)) K w:=tied Am Tryz.func83 h83 _ h
def F84 (a0:Int) (a1:Sl) (a2:Int) (K:(Int×Int×Unit)->Wp):Wp:=Aa Tryz.prog 126 #[(vI a0)] (.one (.one .any)) λ(x1:Value)=>jB (λJ2=>rdB Tryz.prog (do eqGuard .eql 204 (Operand.tmp 11) (Operand.const Value.nilIface) x1 .nilIface;binOp .eql 204 x1 .nilIface:Sem Value) λr4=>sif r4 (J2 (true,())) (sif (decide (a2<0)) (J2 (true,())) (J2 ((decide (a2>=((a1.len:Nat):Int))),())))) λs3=>sif s3.1 (K (0,0,())) (drew<|slc a1.a a2 ((a1.len:Nat):Int) ((a1.cap:Nat):Int) a1.cap 1 λx5=>chk (Ax7 Tryz.prog x1 "copyist/codec.first")<|Bg Tryz.prog (invoke (.fn (.method "copyist/codec.first") #[]) (#[x1]++#[x5.v])) (.tup [(.one cI),(.one cI)]) λ(x6:(Int×Int×Unit))=>K (x6.1,x6.2.1,()))
def h84:Hint:=(hS (hR 2) (hS (hR 3) (hS (hJ (8386560,[(22,tB)]) (.region [] (.ops 3 (.split 13 (.skips 2 (.ops 2 (.skips 4 (hO 1)))) (.ops 4 (.split 17 (.skips 4 (hO 1)) (hO 5)))))) (hC (hS (hR 2) hL) hL)) (hS (.region (lR 12) (hO 12)) hL))))
theorem j84 {a0:Int}{a1:Sl}{a2:Int}{K:(Int×Int×Unit)->Wp}{w:World}(h:F84 a0 a1 a2 K w):Aa Tryz.prog 84 #[(vI a0),a1.v,(vI a2)] (.tup [(.one cI),(.one cI)]) K w:=tied Am Tryz.func84 h84 _ h
def F85 (a0:Int) (a1:Sl) (a2:Int) (K:(Sl×Int×Int×Int×Int×Bool×Bool×Unit)->Wp):Wp:=Ad (.cells #[(.slice none 0 0),(vI 0),(vI 0),(vI 0),(vI 0),(.bool false),(.bool false)] 146) λb1=>Ad (.cells #[(.slice none 0 0),(vI 0),(vI 0),(vI 0),(vI 0),(.bool false),(.bool false)] 146) λb2=>Ae (at0 b2) (.agg #[a1.v,(vI a2),(vI 0),(vI 0),(vI 0),(.bool false),(.bool false)]) 7<|jU (λJ3=>sI (λs5 again6=>sif (decide (s5.1<((a1.len:Nat):Int))) (Aa Tryz.prog 84 #[(vI a0),a1.v,(vI s5.1)] (.tup [(.one cI),(.one cI)]) λ(x7:(Int×Int×Unit))=>drew<|lds Bf (ad b2 2) λ(x8:(Int×Int×Int×Bool×Bool×Unit))=>Aa Tryz.prog 128 #[(vI x7.1),(vI x7.2.1)] (.one (.agg Bf)) λ(x9:(Int×Int×Int×Bool×Bool×Unit))=>keep (λw=>Aw w (ad b2 2) 0 (Cells.vals Bf x8))<|Aa Tryz.prog 127 #[(vA Bf x8),(vA Bf x9)] (.one (.agg Bf)) λ(x10:(Int×Int×Int×Bool×Bool×Unit))=>Ae (ad b2 2) (vA Bf x10) 5<|again6 ((IntKind.wrap .i64 (s5.1+x7.2.1)),())) (J3 ())) (0,())) λs4=>lds c146 (at0 b2) λ(x11:(Sl×Int×Int×Int×Int×Bool×Bool×Unit))=>Ae (at0 b1) (vA c146 x11) 7<|lds c146 (at0 b1) λ(x12:(Sl×Int×Int×Int×Int×Bool×Bool×Unit))=>K x12
def h85:Hint:=(hS (hR 1) (hS (hR 5) (hJ (0x7ffffc700,[]) (hS (hR 1) (.block (.loop 0x7ffffc700 [(8,tI)] (hS (hS (hR 4) (hC hL hL)) (.block (hS (hR 9) (hS (.region (lR 8) (hO 8)) (hR 4)))))))) (hS (hR 2) hL))))
theorem j85 {a0:Int}{a1:Sl}{a2:Int}{K:(Sl×Int×Int×Int×Int×Bool×Bool×Unit)->Wp}{w:World}(h:F85 a0 a1 a2 K w):Aa Tryz.prog 85 #[(vI a0),a1.v,(vI a2)] (.one (.agg c146)) K w:=tied Am Tryz.func85 h85 _ h
def F86 (a0:Sl) (K:(Option Addr×Unit)->Wp):Wp:=Ad (.cells #[(.pointer none)] 139) λb1=>Aa Tryz.prog 129 #[a0.v] rP λ(x2:Option Addr)=>Ae (at0 b1) (.agg #[(.pointer x2)]) 1<|lds c139 (at0 b1) λ(x3:(Option Addr×Unit))=>K x3
def h86:Hint:=(hS (hR 1) (hS (hR 4) hL))
theorem j86 {a0:Sl}{K:(Option Addr×Unit)->Wp}{w:World}(h:F86 a0 K w):Aa Tryz.prog 86 #[a0.v] (.one (.agg c139)) K w:=tied Am Tryz.func86 h86 _ h
def F94 (a0:Sl) (a1:Int) (a2:Int) (K:Value->Wp):Wp:=jI (λJ1=>sN (λs3 again4=>sif (decide (s3.2.1<(IntKind.wrap .i64 (2*a2)))) (jI (λJ5=>ixl (.int .u8) a0 s3.2.1 1 λ(x8:Int)=>sif (x8==0) (J5 ((IntKind.wrap .i64 (s3.1+1)),())) (J5 (s3.1,()))) λs6=>again4 (s6.1,(IntKind.wrap .i64 (s3.2.1+2)),())) (J1 (s3.1,()))) (0,a1,())) λs2=>rdV Tryz.prog (convert 3 112 (vI s2.1)) λx9=>rdV Tryz.prog (convert 3 112 (vI a2)) λx10=>rdV Tryz.prog (do eqGuard .quo 112 (Operand.tmp 24) (Operand.tmp 26) x9 x10;binOp .quo 112 x9 x10:Sem Value) λr11=>K r11
def h94:Hint:=(hS (hR 1) (hS (hR 1) (hJ (8388480,[(7,tI)]) (hS (hR 2) (.block (.loop 8387968 [(7,tI),(8,tI)] (hS (hS (hR 4) (hC hL hL)) (hJ (8323200,[(7,tI)]) (.block (hS (hR 5) (hC (hR 3) hL))) (hR 3)))))) (hS (hR 6) hL))))
theorem j94 {a0:Sl}{a1:Int}{a2:Int}{K:Value->Wp}{w:World}(h:F94 a0 a1 a2 K w):Aa Tryz.prog 94 #[a0.v,(vI a1),(vI a2)] (.one (.one .any)) K w:=tied Am Tryz.func94 h94 _ h
def F95 (a0:(Unit)) (a1:Sl) (K:(Int×Int×Unit)->Wp):Wp:=Ad (.cells #[] 180) λb1=>Aa Tryz.prog 135 #[a1.v] (.tup [(.one cI),(.one cI)]) λ(x2:(Int×Int×Unit))=>jB (λJ3=>sif (x2.2.1==0) (J3 (true,())) (J3 ((decide (x2.1<x2.2.1)),()))) λs4=>sif s4.1 (ixl (.int .u8) a1 0 1 λ(x6:Int)=>K ((IntKind.wrap .i64 ((-1)-(IntKind.wrap .i64 x6))),1,())) (ixl (.int .u8) a1 0 1 λ(x8:Int)=>jI (λJ9=>sif (x2.2.1==2) (J9 ((IntKind.wrap .i64 ((BitVec.toNat (BitVec.ofInt (IntKind.bits .i64) (IntKind.wrap .i64 x8) &&& BitVec.ofInt (IntKind.bits .i64) 31):Nat):Int)),())) (sif (x2.2.1==3) (J9 ((IntKind.wrap .i64 ((BitVec.toNat (BitVec.ofInt (IntKind.bits .i64) (IntKind.wrap .i64 x8) &&& BitVec.ofInt (IntKind.bits .i64) 15):Nat):Int)),())) (sif (x2.2.1==4) (J9 ((IntKind.wrap .i64 ((BitVec.toNat (BitVec.ofInt (IntKind.bits .i64) (IntKind.wrap .i64 x8) &&& BitVec.ofInt (IntKind.bits .i64) 7):Nat):Int)),())) (J9 ((IntKind.wrap .i64 x8),()))))) λs10=>jI (λJ11=>slc a1.a 1 x2.2.1 ((a1.cap:Nat):Int) a1.cap 1 λx13=>sN (λs14 again15=>sif (decide (s14.2.1<((x13.len:Nat):Int))) (ixl (.int .u8) x13 s14.2.1 1 λ(x17:Int)=>chk (0<=(6:Int))<|again15 ((IntKind.wrap .i64 ((BitVec.toNat (BitVec.ofInt (IntKind.bits .i64) (IntKind.wrap .i64 (s14.1*2^(min (Int.toNat 6) (IntKind.bits .i64)))) ||| BitVec.ofInt (IntKind.bits .i64) (IntKind.wrap .i64 (IntKind.wrap .u8 ((BitVec.toNat (BitVec.ofInt (IntKind.bits .u8) x17 &&& BitVec.ofInt (IntKind.bits .u8) 63):Nat):Int)))):Nat):Int)),(IntKind.wrap .i64 (s14.2.1+1)),())) (J11 (s14.1,()))) (s10.1,0,())) λs12=>K (s12.1,x2.2.1,()))
def h95:Hint:=(hS (hR 3) (hS (hR 7) (hS (hJ (8323072,[(22,tB)]) (.region [] (.ops 3 (.split 18 (.skips 3 (hO 1)) (hO 4)))) (hC (hS (hR 7) hL) hL)) (hS (hR 5) (hJ (0x1fff00000100,[(8,tI)]) (hS (hR 1) (.block (hS (hR 2) (hC (hR 3) (hS (hR 2) (hC (hR 3) (hS (hR 2) (hC (hR 3) hL)))))))) (hJ (0xfffe00000000500,[(8,tI)]) (hS (hR 5) (.block (.loop 0xffe000000000500 [(8,tI),(49,tI)] (hS (hR 1) (hS (hC hL hL) (hS (.block (hS (hR 3) (hR 7))) (hR 2))))))) (hS (hR 4) hL)))))))
theorem j95 {a0:(Unit)}{a1:Sl}{K:(Int×Int×Unit)->Wp}{w:World}(h:F95 a0 a1 K w):Aa Tryz.prog 95 #[(vA Ba1 a0),a1.v] (.tup [(.one cI),(.one cI)]) K w:=tied Am Tryz.func95 h95 _ h
def F98 (a0:Value) (v0:Addr) (v1:Addr) (K:Unit->Wp):Wp:=chk (Ph [a0]=true)<|Ad (.cells #[a0] 183) λb1=>Ad (.cells #[.nilFunc] 184) λb2=>chk (Du (.func (Fn.func 99) #[] #[(.pointer (some (at0 b2))),(.pointer (some (at0 b1)))])=true)<|stC (at0 b2) (.func (Fn.func 99) #[] #[(.pointer (some (at0 b2))),(.pointer (some (at0 b1)))])<|ld (.any) (at0 b2) λ(x3:Value)=>ld (.ptr) v0 λ(x4:Option Addr)=>lI v1 λx5=>Bg Tryz.prog (do let d ←Deferred.ofValue x3 #[(.pointer x4),(vI (if x5>0 then x5 else 0))];invoke d.target d.args:Sem Next) rB λ(x6:Bool)=>K ()
def h98:Hint:=(hS (hR 1) (hS (hR 1) (hS (hR 2) (hR 6))))
theorem j98 {a0:Value}{v0:Addr}{v1:Addr}{K:Unit->Wp}{w:World}(h:F98 a0 v0 v1 K w):Aa Tryz.prog 98 #[a0,(.pointer (some v0)),(.pointer (some v1))] (.tup []) K w:=tied Am Tryz.func98 h98 _ h
def F99 (a0:Option Addr) (a1:Int) (v0:Addr) (v1:Addr) (K:Bool->Wp):Wp:=jB (λJ1=>sif (Option.isNone a0) (J1 (true,())) (nn a0 λp3=>ld cI (p3.add 9) λ(x4:Int)=>J1 ((decide (a1>=x4)),()))) λs2=>sif s2.1 (K true) (nn a0 λp5=>ld (.ptr) p5 λ(x6:Option Addr)=>cN 100 #[(.pointer x6)] λx7=>jB (λJ8=>drew<|sif (decide (a1<x7)) (ld (.any) v0 λ(x10:Value)=>nn a0 λp11=>ld (.ptr) p11 λ(x12:Option Addr)=>Bg Tryz.prog (do let d ←Deferred.ofValue x10 #[(.pointer x12),(vI a1)];invoke d.target d.args:Sem Next) rB λ(x13:Bool)=>J8 ((!x13),())) (J8 (false,()))) λs9=>sif s9.1 (K false) (jB (λJ14=>drew<|sif (decide (a1<=x7)) (ld (.any) v1 λ(x16:Value)=>nn a0 λp17=>lds c146 (p17.add 2) λ(x18:(Sl×Int×Int×Int×Int×Bool×Bool×Unit))=>Bg Tryz.prog (do let d ←Deferred.ofValue x16 #[(vA c146 x18)];invoke d.target d.args:Sem Next) rB λ(x19:Bool)=>J14 ((!x19),())) (J14 (false,()))) λs15=>sif s15.1 (K false) (drew<|ld (.any) v0 λ(x20:Value)=>nn a0 λp21=>ld (.ptr) (p21.add 1) λ(x22:Option Addr)=>Bg Tryz.prog (do let d ←Deferred.ofValue x20 #[(.pointer x22),(vI (if (IntKind.wrap .i64 ((IntKind.wrap .i64 (a1-x7))-1))>0 then (IntKind.wrap .i64 ((IntKind.wrap .i64 (a1-x7))-1)) else 0))];invoke d.target d.args:Sem Next) rB λ(x23:Bool)=>K x23)))
def h99:Hint:=(hS (hR 1) (hS (hJ (261888,[(17,tB)]) (.region [] (.ops 3 (.split 10 (.skips 6 (hO 1)) (hO 7)))) (hC (hS (hR 1) hL) hL)) (hS (hR 6) (hS (hJ (0xfff800000,[(35,tB)]) (.region (lR 13) (.ops 4 (.split 26 (hO 9) (.skips 8 (hO 1))))) (hC (hS (hR 1) hL) hL)) (hS (hJ (0xfff000000000,[(47,tB)]) (.region (lR 12) (.ops 4 (.split 39 (hO 8) (.skips 7 (hO 1))))) (hC (hS (hR 1) hL) hL)) (hS (.region (lR 12) (hO 12)) hL))))))
theorem j99 {a0:Option Addr}{a1:Int}{v0:Addr}{v1:Addr}{K:Bool->Wp}{w:World}(h:F99 a0 a1 v0 v1 K w):Aa Tryz.prog 99 #[(.pointer a0),(vI a1),(.pointer (some v0)),(.pointer (some v1))] rB K w:=tied Am Tryz.func99 h99 _ h
def F100 (a0:Option Addr) (K:Int->Wp):Wp:=sif (Option.isNone a0) (K 0) (nn a0 λp1=>ld cI (p1.add 9) λ(x2:Int)=>K x2)
def Cy9:Hint:=(hS (hR 1) (hS (hS (hR 2) (hC (hS (hR 1) hL) hL)) (hS (hR 5) hL)))
theorem j100 {a0:Option Addr}{K:Int->Wp}{w:World}(h:F100 a0 K w):Aa Tryz.prog 100 #[(.pointer a0)] rI K w:=tied Am Tryz.func100 Cy9 _ h
def F118 (a0:Int) (a1:Int) (K:Int->Wp):Wp:=Aa Tryz.prog 126 #[(vI a0)] (.one (.one .any)) λ(x1:Value)=>rdB Tryz.prog (do eqGuard .eql 204 (Operand.tmp 8) (Operand.const Value.nilIface) x1 .nilIface;binOp .eql 204 x1 .nilIface:Sem Value) λr2=>sif r2 (K 0) (Bg Tryz.prog (invoke (.fn (.method "copyist/codec.size") #[]) (#[x1]++#[(vI a1)])) rI λ(x3:Int)=>K x3)
def Cy4:Hint:=(hS (hR 1) (hS (hR 3) (hS (hS (hR 2) (hC (hS (hR 1) hL) hL)) (hS (hR 4) hL))))
theorem j118 {a0:Int}{a1:Int}{K:Int->Wp}{w:World}(h:F118 a0 a1 K w):Aa Tryz.prog 118 #[(vI a0),(vI a1)] rI K w:=tied Am Tryz.func118 Cy4 _ h
def F119 (a0:Option Addr) (a1:Int) (K:(Int×Int×Int×Bool×Bool×Unit)->Wp):Wp:=Ad (.cells #[(vI 0),(vI 0),(vI 0),(.bool false),(.bool false)] 144) λb1=>Aa Tryz.prog 120 #[(.pointer a0),(vI a1)] (.tup [(.one cI),(.one cI)]) λ(x2:(Int×Int×Unit))=>nn a0 λp3=>lds c139 (p3.add 2) λ(x4:(Option Addr×Unit))=>Aa Tryz.prog 152 #[(vA c139 x4),(vI x2.1)] (.one (.agg Bf)) λ(x5:(Int×Int×Int×Bool×Bool×Unit))=>Ad (.cells #[(vI 0),(vI 0),(vI 0),(.bool false),(.bool false)] 144) λb6=>Ae (at0 b6) (vA Bf x5) 5<|jU (λJ7=>nn a0 λp9=>lds c139 (p9.add 2) λ(x10:(Option Addr×Unit))=>Aa Tryz.prog 121 #[(vA c139 x10),(vI x2.1)] (.tup [(.agg c146),(.one .bool)]) λ(x11:((Sl×Int×Int×Int×Int×Bool×Bool×Unit)×Bool×Unit))=>Ad (.cells #[(.slice none 0 0),(vI 0),(vI 0),(vI 0),(vI 0),(.bool false),(.bool false)] 146) λb12=>Ae (at0 b12) (vA c146 x11.1) 7<|sif x11.2.1 (join (S:=Addr×Unit) (λJ13=>drew<|lds c146 (at0 b12) λ(x15:(Sl×Int×Int×Int×Int×Bool×Bool×Unit))=>nn a0 λp16=>lI p16 λx17=>both (Ad (.cells #[(.slice none 0 0),(vI 0),(vI 0),(vI 0),(vI 0),(.bool false),(.bool false)] 146) λb18=>keep (λw=>w.cell? p16=some (Cell.val cI x17))<|keep (λw=>Aw w (at0 b12) 0 (Cells.vals c146 x15))<|both (Ad (.cells #[(.slice none 0 0),(vI 0),(vI 0),(vI 0),(vI 0),(.bool false),(.bool false)] 146) λb19=>keep (λw=>w.cell? p16=some (Cell.val cI x17))<|keep (λw=>Aw w (at0 b12) 0 (Cells.vals c146 x15))<|Aa Tryz.prog 122 #[(vA c146 x15),(vI x17),(vI x2.2.1)] (.tup [(.agg c146),(.agg c146)]) λ(x20:((Sl×Int×Int×Int×Int×Bool×Bool×Unit)×(Sl×Int×Int×Int×Int×Bool×Bool×Unit)×Unit))=>Ae (at0 b18) (vA c146 x20.1) 7<|Ae (at0 b19) (vA c146 x20.2.1) 7<|J13 ((at0 b18),()))<|Aa Tryz.prog 122 #[(vA c146 x15),(vI x17),(vI x2.2.1)] (.tup [(.agg c146),(.agg c146)]) λ(x21:((Sl×Int×Int×Int×Int×Bool×Bool×Unit)×(Sl×Int×Int×Int×Int×Bool×Bool×Unit)×Unit))=>both (Ad (.cells #[(.slice none 0 0),(vI 0),(vI 0),(vI 0),(vI 0),(.bool false),(.bool false)] 146) λb22=>keep (λw=>w.cell? p16=some (Cell.val cI x17))<|keep (λw=>Aw w (at0 b12) 0 (Cells.vals c146 x15))<|Ae (at0 b18) (vA c146 x21.1) 7<|Ae (at0 b22) (vA c146 x21.2.1) 7<|J13 ((at0 b18),()))<|nothing)<|both (Ad (.cells #[(.slice none 0 0),(vI 0),(vI 0),(vI 0),(vI 0),(.bool false),(.bool false)] 146) λb23=>keep (λw=>w.cell? p16=some (Cell.val cI x17))<|keep (λw=>Aw w (at0 b12) 0 (Cells.vals c146 x15))<|both (Ad (.cells #[(.slice none 0 0),(vI 0),(vI 0),(vI 0),(vI 0),(.bool false),(.bool false)] 146) λb24=>keep (λw=>w.cell? p16=some (Cell.val cI x17))<|keep (λw=>Aw w (at0 b12) 0 (Cells.vals c146 x15))<|Aa Tryz.prog 122 #[(vA c146 x15),(vI x17),(vI x2.2.1)] (.tup [(.agg c146),(.agg c146)]) λ(x25:((Sl×Int×Int×Int×Int×Bool×Bool×Unit)×(Sl×Int×Int×Int×Int×Bool×Bool×Unit)×Unit))=>Ae (at0 b24) (vA c146 x25.1) 7<|Ae (at0 b23) (vA c146 x25.2.1) 7<|J13 ((at0 b24),()))<|Aa Tryz.prog 122 #[(vA c146 x15),(vI x17),(vI x2.2.1)] (.tup [(.agg c146),(.agg c146)]) λ(x26:((Sl×Int×Int×Int×Int×Bool×Bool×Unit)×(Sl×Int×Int×Int×Int×Bool×Bool×Unit)×Unit))=>both (Ad (.cells #[(.slice none 0 0),(vI 0),(vI 0),(vI 0),(vI 0),(.bool false),(.bool false)] 146) λb27=>keep (λw=>w.cell? p16=some (Cell.val cI x17))<|keep (λw=>Aw w (at0 b12) 0 (Cells.vals c146 x15))<|Ae (at0 b27) (vA c146 x26.1) 7<|Ae (at0 b23) (vA c146 x26.2.1) 7<|J13 ((at0 b27),()))<|nothing)<|Aa Tryz.prog 122 #[(vA c146 x15),(vI x17),(vI x2.2.1)] (.tup [(.agg c146),(.agg c146)]) λ(x28:((Sl×Int×Int×Int×Int×Bool×Bool×Unit)×(Sl×Int×Int×Int×Int×Bool×Bool×Unit)×Unit))=>both (Ad (.cells #[(.slice none 0 0),(vI 0),(vI 0),(vI 0),(vI 0),(.bool false),(.bool false)] 146) λb29=>keep (λw=>w.cell? p16=some (Cell.val cI x17))<|keep (λw=>Aw w (at0 b12) 0 (Cells.vals c146 x15))<|both (Ad (.cells #[(.slice none 0 0),(vI 0),(vI 0),(vI 0),(vI 0),(.bool false),(.bool false)] 146) λb30=>keep (λw=>w.cell? p16=some (Cell.val cI x17))<|keep (λw=>Aw w (at0 b12) 0 (Cells.vals c146 x15))<|Ae (at0 b29) (vA c146 x28.1) 7<|Ae (at0 b30) (vA c146 x28.2.1) 7<|J13 ((at0 b29),()))<|nothing)<|both (Ad (.cells #[(.slice none 0 0),(vI 0),(vI 0),(vI 0),(vI 0),(.bool false),(.bool false)] 146) λb31=>keep (λw=>w.cell? p16=some (Cell.val cI x17))<|keep (λw=>Aw w (at0 b12) 0 (Cells.vals c146 x15))<|both (Ad (.cells #[(.slice none 0 0),(vI 0),(vI 0),(vI 0),(vI 0),(.bool false),(.bool false)] 146) λb32=>keep (λw=>w.cell? p16=some (Cell.val cI x17))<|keep (λw=>Aw w (at0 b12) 0 (Cells.vals c146 x15))<|Ae (at0 b32) (vA c146 x28.1) 7<|Ae (at0 b31) (vA c146 x28.2.1) 7<|J13 ((at0 b32),()))<|nothing)<|nothing) λs14=>lds Bf (at0 b6) λ(x33:(Int×Int×Int×Bool×Bool×Unit))=>lds Bf (s14.1.add 2) λ(x34:(Int×Int×Int×Bool×Bool×Unit))=>Aa Tryz.prog 127 #[(vA Bf x33),(vA Bf x34)] (.one (.agg Bf)) λ(x35:(Int×Int×Int×Bool×Bool×Unit))=>Ae (at0 b6) (vA Bf x35) 5<|J7 ()) (J7 ())) λs8=>lds Bf (at0 b6) λ(x36:(Int×Int×Int×Bool×Bool×Unit))=>Ae (at0 b1) (vA Bf x36) 5<|lds Bf (at0 b1) λ(x37:(Int×Int×Int×Bool×Bool×Unit))=>K x37
def h119:Hint:=(hS (hR 1) (hS (hR 8) (hS (hR 8) (hJ (0xffffff000f00,[]) (hS (hR 12) (hS (hR 1) (hC (hJ (0xffc00000c00,[(10,(.one .addr))]) (.region [0,1,2,3,4,5,6,7,8,9,12,13] (.float [10,11] (.ops 6 (.alt none (.alt none (.plain (hO 6)) (.ops 4 (.alt none (.plain (hO 2)) .stop))) (.alt none (.alt none (.plain (hO 6)) (.ops 4 (.alt none (.plain (hO 2)) .stop))) (.ops 4 (.alt none (.alt none (.plain (hO 2)) .stop) (.alt none (.alt none (.plain (hO 2)) .stop) .stop)))))))) (hR 5)) hL))) (hS (hR 2) hL)))))
theorem j119 {a0:Option Addr}{a1:Int}{K:(Int×Int×Int×Bool×Bool×Unit)->Wp}{w:World}(h:F119 a0 a1 K w):Aa Tryz.prog 119 #[(.pointer a0),(vI a1)] (.one (.agg Bf)) K w:=tied Am Tryz.func119 h119 _ h
def F120 (a0:Option Addr) (a1:Int) (K:(Int×Int×Unit)->Wp):Wp:=sif (decide (a1<=0)) (K (0,0,())) (nn a0 λp1=>lds c139 (p1.add 2) λ(x2:(Option Addr×Unit))=>cN 153 #[(vA c139 x2),(vI 0),(vI a1)] λx3=>nn a0 λp4=>lds c139 (p4.add 2) λ(x5:(Option Addr×Unit))=>Aa Tryz.prog 152 #[(vA c139 x5),(vI (IntKind.wrap .i64 (x3-1)))] (.one (.agg Bf)) λ(x6:(Int×Int×Int×Bool×Bool×Unit))=>K ((IntKind.wrap .i64 (x3-1)),(IntKind.wrap .i64 (a1-x6.1)),()))
def Cy3:Hint:=(hS (hR 2) (hS (hS (hR 2) (hC (hS (hR 2) hL) hL)) (hS (hR 8) (hS (hR 12) hL))))
theorem j120 {a0:Option Addr}{a1:Int}{K:(Int×Int×Unit)->Wp}{w:World}(h:F120 a0 a1 K w):Aa Tryz.prog 120 #[(.pointer a0),(vI a1)] (.tup [(.one cI),(.one cI)]) K w:=tied Am Tryz.func120 Cy3 _ h
def F121 (a0:(Option Addr×Unit)) (a1:Int) (K:((Sl×Int×Int×Int×Int×Bool×Bool×Unit)×Bool×Unit)->Wp):Wp:=Ad (.cells #[(.pointer a0.1)] 139) λb1=>Ad (.cells #[(.slice none 0 0),(vI 0),(vI 0),(vI 0),(vI 0),(.bool false),(.bool false)] 146) λb2=>jU (λJ3=>ld (.ptr) (at0 b1) λ(x5:Option Addr)=>Jv (S:=Int×Option Addr×Unit) (λs6 again7=>jB (λJ8=>sif (!(Option.isNone s6.2.1)) (J8 ((decide (s6.1>=0)),())) (J8 (false,()))) λs9=>sif s9.1 (nn s6.2.1 λp10=>ld (.ptr) p10 λ(x11:Option Addr)=>cN 100 #[(.pointer x11)] λx12=>sif (s6.1==x12) (nn s6.2.1 λp13=>lds c146 (p13.add 2) λ(x14:(Sl×Int×Int×Int×Int×Bool×Bool×Unit))=>Ae (at0 b2) (vA c146 x14) 7<|lds c146 (at0 b2) λ(x15:(Sl×Int×Int×Int×Int×Bool×Bool×Unit))=>K (x15,true,())) (sif (decide (s6.1<x12)) (nn s6.2.1 λp16=>ld (.ptr) p16 λ(x17:Option Addr)=>again7 (s6.1,x17,())) (nn s6.2.1 λp18=>ld (.ptr) (p18.add 1) λ(x19:Option Addr)=>again7 ((IntKind.wrap .i64 ((IntKind.wrap .i64 (s6.1-x12))-1)),x19,())))) (J3 ())) (a1,x5,())) λs4=>Ad (.cells #[(.slice none 0 0),(vI 0),(vI 0),(vI 0),(vI 0),(.bool false),(.bool false)] 146) λb20=>lds c146 (at0 b20) λ(x21:(Sl×Int×Int×Int×Int×Bool×Bool×Unit))=>Ae (at0 b2) (vA c146 x21) 7<|lds c146 (at0 b2) λ(x22:(Sl×Int×Int×Int×Int×Bool×Bool×Unit))=>K (x22,false,())
def Cy2:Hint:=(hS (hR 3) (hJ (0x3ffffffffee2,[]) (hS (hR 3) (.block (.loop 0x3ffffffff8e2 [(1,tI),(6,tP)] (hS (hJ (129024,[(16,tB)]) (.region [] (.ops 3 (.split 13 (hO 3) (.skips 2 (hO 1))))) (hC hL hL)) (.block (hS (hR 6) (.block (hS (hR 4) (hC (hS (hR 6) hL) (hS (hR 4) (hC (hR 5) (hR 10)))))))))))) (hS (hR 1) (hS (hR 3) hL))))
theorem j121 {a0:(Option Addr×Unit)}{a1:Int}{K:((Sl×Int×Int×Int×Int×Bool×Bool×Unit)×Bool×Unit)->Wp}{w:World}(h:F121 a0 a1 K w):Aa Tryz.prog 121 #[(vA c139 a0),(vI a1)] (.tup [(.agg c146),(.one .bool)]) K w:=tied Am Tryz.func121 Cy2 _ h
def F122 (a0:(Sl×Int×Int×Int×Int×Bool×Bool×Unit)) (a1:Int) (a2:Int) (K:((Sl×Int×Int×Int×Int×Bool×Bool×Unit)×(Sl×Int×Int×Int×Int×Bool×Bool×Unit)×Unit)->Wp):Wp:=Ad (.cells #[a0.1.v,(vI a0.2.1),(vI a0.2.2.1),(vI a0.2.2.2.1),(vI a0.2.2.2.2.1),(.bool a0.2.2.2.2.2.1),(.bool a0.2.2.2.2.2.2.1)] 146) λb1=>Ad (.cells #[(.slice none 0 0),(vI 0),(vI 0),(vI 0),(vI 0),(.bool false),(.bool false)] 146) λb2=>Ad (.cells #[(.slice none 0 0),(vI 0),(vI 0),(vI 0),(vI 0),(.bool false),(.bool false)] 146) λb3=>jI (λJ4=>sN (λs6 again7=>jB (λJ8=>sif (decide (s6.1>0)) (ld (.sl) (at0 b1) λ(x10:Sl)=>J8 ((decide (s6.2.1<((x10.len:Nat):Int))),())) (J8 (false,()))) λs9=>sif s9.1 (ld (.sl) (at0 b1) λ(x11:Sl)=>Aa Tryz.prog 84 #[(vI a1),x11.v,(vI s6.2.1)] (.tup [(.one cI),(.one cI)]) λ(x12:(Int×Int×Unit))=>again7 ((IntKind.wrap .i64 (s6.1-1)),(IntKind.wrap .i64 (s6.2.1+x12.2.1)),())) (J4 (s6.2.1,()))) (a2,0,())) λs5=>lI (ad b1 1) λx13=>jI (λJ14=>sif (decide (x13>=0)) (J14 ((IntKind.wrap .i64 (x13+s5.1)),())) (J14 (x13,()))) λs15=>drew<|ld (.sl) (at0 b1) λ(x16:Sl)=>slc x16.a 0 s5.1 s5.1 x16.cap 1 λx17=>lI (ad b1 1) λx18=>ld (.sl) (at0 b1) λ(x19:Sl)=>slc x19.a s5.1 ((x19.len:Nat):Int) ((x19.cap:Nat):Int) x19.cap 1 λx20=>Aa Tryz.prog 85 #[(vI a1),x17.v,(vI x18)] (.one (.agg c146)) λ(x21:(Sl×Int×Int×Int×Int×Bool×Bool×Unit))=>keep (λw=>w.cell? (at0 b1)=some (Cell.val (.sl) x19))<|Aa Tryz.prog 85 #[(vI a1),x20.v,(vI s15.1)] (.one (.agg c146)) λ(x22:(Sl×Int×Int×Int×Int×Bool×Bool×Unit))=>Ae (at0 b2) (vA c146 x21) 7<|Ae (at0 b3) (vA c146 x22) 7<|lds c146 (at0 b2) λ(x23:(Sl×Int×Int×Int×Int×Bool×Bool×Unit))=>lds c146 (at0 b3) λ(x24:(Sl×Int×Int×Int×Int×Bool×Bool×Unit))=>K (x23,x24,())
def h122:Hint:=(hS (hR 3) (hS (hR 1) (hJ (0x3fffff704,[(8,tI)]) (.block (.loop 0x3fffff704 [(2,tI),(8,tI)] (hS (hJ (2093056,[(20,tB)]) (.region [] (.ops 3 (.split 14 (hO 6) (.skips 5 (hO 1))))) (hC hL hL)) (hS (.block (hS (hR 10) (hR 4))) (hR 3))))) (hS (hR 3) (hJ (0x1f000000800,[(11,tI)]) (hS (hR 2) (hC (hR 4) hL)) (hS (.region [0,1,2,3,4,5,6,7,9,10,11,12,13,14,8,15,16,17] (hO 18)) hL))))))
theorem j122 {a0:(Sl×Int×Int×Int×Int×Bool×Bool×Unit)}{a1:Int}{a2:Int}{K:((Sl×Int×Int×Int×Int×Bool×Bool×Unit)×(Sl×Int×Int×Int×Int×Bool×Bool×Unit)×Unit)->Wp}{w:World}(h:F122 a0 a1 a2 K w):Aa Tryz.prog 122 #[(vA c146 a0),(vI a1),(vI a2)] (.tup [(.agg c146),(.agg c146)]) K w:=tied Am Tryz.func122 h122 _ h
def F123 (a0:Option Addr) (a1:Sl) (K:Sl->Wp):Wp:=Ad (.cells #[(.pointer a0)] 51) λb1=>Ad (.cells #[(.slice none 0 0)] 165) λb2=>ld (.ptr) (at0 b1) λ(x3:Option Addr)=>nn x3 λp4=>ld (.sl) (p4.add 3) λ(x5:Sl)=>Ad (.cells #[(vI 0)] 3) λb6=>stC (at0 b6) (vI ((x5.len:Nat):Int))<|Ad (.cells #[(vI 0)] 3) λb7=>stC (at0 b7) (vI 0)<|jU (λJ8=>sI (λs10 again11=>sif (decide (s10.1<((a1.len:Nat):Int))) (jU (λJ12=>ixI a1 s10.1 1 λx15=>jB (λJ16=>sif (decide (x15>=0)) (sif (decide (x15<55296)) (J16 (true,())) (J16 ((decide (x15>57343)),()))) (J16 (false,()))) λs17=>jU (λJ18=>jB (λJ20=>sif (!s17.1) (J20 (true,())) (lI (at0 b7) λx22=>J20 ((x22==128),()))) λs21=>sif s21.1 (Bg Tryz.prog (do let d ←Deferred.ofValue (.func (Fn.func 154) #[] #[(.pointer (some (at0 b1))),(.pointer (some (at0 b6))),(.pointer (some (at0 b2))),(.pointer (some (at0 b7)))]) #[];invoke d.target d.args:Sem Next) (.tup []) λ(x23:(Unit))=>J18 ()) (J18 ())) λs19=>ld (.ptr) (at0 b1) λ(x24:Option Addr)=>nn x24 λp25=>lI p25 λx26=>Ad (.cells #[(vI x15)] 3) λb27=>Aa Tryz.prog 155 #[(vI x26),(.slice (some (at0 b27)) 1 1)] (.tup [(.one .sl),(.one cI),(.one cI)]) λ(x28:(Sl×Int×Int×Unit))=>drew<|ld (.ptr) (at0 b1) λ(x29:Option Addr)=>ld (.ptr) (at0 b1) λ(x30:Option Addr)=>nn x30 λp31=>ld (.sl) (p31.add 3) λ(x32:Sl)=>Dp Tryz.prog rS (Builtin.append_ #[30,30] 30 #[x32.v,x28.1.v]) λ(x33:Sl)=>keep (λw=>w.cell? (at0 b1)=some (Cell.val (.ptr) x29))<|nn x29 λp34=>stC (p34.add 3) x33.v<|lI (at0 b7) λx35=>stC (at0 b7) (vI (IntKind.wrap .i64 (x35+1)))<|sif (!s17.1) (Bg Tryz.prog (do let d ←Deferred.ofValue (.func (Fn.func 154) #[] #[(.pointer (some (at0 b1))),(.pointer (some (at0 b6))),(.pointer (some (at0 b2))),(.pointer (some (at0 b7)))]) #[];invoke d.target d.args:Sem Next) (.tup []) λ(x36:(Unit))=>J12 ()) (J12 ())) λs13=>again11 ((IntKind.wrap .i64 (s10.1+1)),())) (J8 ())) (0,())) λs9=>Bg Tryz.prog (do let d ←Deferred.ofValue (.func (Fn.func 154) #[] #[(.pointer (some (at0 b1))),(.pointer (some (at0 b6))),(.pointer (some (at0 b2))),(.pointer (some (at0 b7)))]) #[];invoke d.target d.args:Sem Next) (.tup []) λ(x37:(Unit))=>ld (.sl) (at0 b2) λ(x38:Sl)=>K x38
def Cy1:Hint:=(hS (hR 2) (hS (hR 1) (hS (hR 7) (hS (hR 2) (hS (hR 2) (hJ (0xffffffffffffe07c00,[]) (hS (hR 3) (.block (.loop 0xffffffffffff807c00 [(23,tI)] (hS (hR 1) (hS (hC hL hL) (hJ (0x7ffffffffffe007c00,[]) (.block (hS (hR 3) (hJ (0x1ff8000800,[(11,tB)]) (.region [] (.ops 3 (.split 29 (.ops 3 (.split 32 (.skips 2 (hO 3)) (hO 5))) (.skips 6 (hO 2))))) (hJ (0x1fe000000000,[]) (hJ (0x7e000000000,[(42,tB)]) (.region [] (.ops 3 (.split 39 (.skips 2 (hO 1)) (hO 3)))) (hC (hR 2) hL)) (hS (hR 14) (hS (.region (lR 10) (hO 10)) (hS (hR 3) (hS (hR 2) (hC (hR 2) hL))))))))) (hR 2))))))) (hS (hR 2) (hS (hR 2) hL))))))))
theorem j123 {a0:Option Addr}{a1:Sl}{K:Sl->Wp}{w:World}(h:F123 a0 a1 K w):Aa Tryz.prog 123 #[(.pointer a0),a1.v] rS K w:=tied Am Tryz.func123 Cy1 _ h
def F124 (a0:(Option Addr×Unit)) (a1:Int) (a2:Int) (a3:Sl) (K:((Option Addr×Unit)×Int×Unit)->Wp):Wp:=Ad (.cells #[(.pointer a0.1)] 139) λb1=>Ad (.cells #[(.pointer none)] 139) λb2=>jB (λJ3=>sif (decide (a1<0)) (J3 (true,())) (sif (decide (a1>a2)) (J3 (true,())) (lds c139 (at0 b1) λ(x5:(Option Addr×Unit))=>cN 125 #[(vA c139 x5)] λx6=>J3 ((decide (a2>x6)),())))) λs4=>sif s4.1 (Ae (at0 b2) (.agg #[(.pointer none)]) 1<|lds c139 (at0 b2) λ(x7:(Option Addr×Unit))=>K (x7,1,())) (ld (.ptr) (at0 b1) λ(x8:Option Addr)=>Aa Tryz.prog 156 #[(.pointer x8),(vI a1)] (.tup [(.one .ptr),(.one .ptr)]) λ(x9:(Option Addr×Option Addr×Unit))=>ld (.ptr) (at0 b1) λ(x10:Option Addr)=>Aa Tryz.prog 156 #[(.pointer x10),(vI a2)] (.tup [(.one .ptr),(.one .ptr)]) λ(x11:(Option Addr×Option Addr×Unit))=>Aa Tryz.prog 129 #[a3.v] rP λ(x12:Option Addr)=>Aa Tryz.prog 157 #[(.pointer x9.1),(.pointer x12)] rP λ(x13:Option Addr)=>Aa Tryz.prog 157 #[(.pointer x13),(.pointer x11.2.1)] rP λ(x14:Option Addr)=>Ae (at0 b2) (.agg #[(.pointer x14)]) 1<|lds c139 (at0 b2) λ(x15:(Option Addr×Unit))=>K (x15,0,()))
def Cy0:Hint:=(hS (hR 3) (hS (hJ (0x7ffc000,[(26,tB)]) (.region [] (.ops 3 (.split 16 (.skips 3 (.ops 2 (.skips 4 (hO 1)))) (.ops 5 (.split 21 (.skips 4 (hO 1)) (hO 5)))))) (hC (hS (hR 3) hL) hL)) (hS (hR 9) (hS (hR 9) (hS (hR 9) hL)))))
theorem j124 {a0:(Option Addr×Unit)}{a1:Int}{a2:Int}{a3:Sl}{K:((Option Addr×Unit)×Int×Unit)->Wp}{w:World}(h:F124 a0 a1 a2 a3 K w):Aa Tryz.prog 124 #[(vA c139 a0),(vI a1),(vI a2),a3.v] (.tup [(.agg c139),(.one cI)]) K w:=tied Am Tryz.func124 Cy0 _ h
def F125 (a0:(Option Addr×Unit)) (K:Int->Wp):Wp:=Ad (.cells #[(.pointer a0.1)] 139) λb1=>ld (.ptr) (at0 b1) λ(x2:Option Addr)=>cN 100 #[(.pointer x2)] λx3=>K x3
def Cx9:Hint:=(hS (hR 2) (hS (hR 4) hL))
theorem j125 {a0:(Option Addr×Unit)}{K:Int->Wp}{w:World}(h:F125 a0 K w):Aa Tryz.prog 125 #[(vA c139 a0)] rI K w:=tied Am Tryz.func125 Cx9 _ h
def F126 (a0:Int) (K:Value->Wp):Wp:=sif (a0==1) (K (.iface 180 (.agg #[]))) (sif (a0==2) (K (.iface 263 (.agg #[(vI 0)]))) (sif (a0==3) (K (.iface 263 (.agg #[(vI 1)]))) (sif (a0==4) (K (.iface 264 (.agg #[]))) (K .nilIface))))
def Cx8:Hint:=(hS (hR 1) (hS (hS (hR 1) (.block (hS (hR 2) (hC (hS (hR 3) hL) (hS (hR 2) (hC (hS (hR 3) hL) (hS (hR 2) (hC (hS (hR 3) hL) (hS (hR 2) (hC (hS (hR 3) hL) hL)))))))))) (hS (hR 1) hL)))
theorem j126 {a0:Int}{K:Value->Wp}{w:World}(h:F126 a0 K w):Aa Tryz.prog 126 #[(vI a0)] (.one (.one .any)) K w:=tied Am Tryz.func126 Cx8 _ h
def F127 (a0:(Int×Int×Int×Bool×Bool×Unit)) (a1:(Int×Int×Int×Bool×Bool×Unit)) (K:(Int×Int×Int×Bool×Bool×Unit)->Wp):Wp:=Ad (.cells #[(vI a0.1),(vI a0.2.1),(vI a0.2.2.1),(.bool a0.2.2.2.1),(.bool a0.2.2.2.2.1)] 144) λb1=>Ad (.cells #[(vI a1.1),(vI a1.2.1),(vI a1.2.2.1),(.bool a1.2.2.2.1),(.bool a1.2.2.2.2.1)] 144) λb2=>Ad (.cells #[(vI 0),(vI 0),(vI 0),(.bool false),(.bool false)] 144) λb3=>lI (at0 b1) λx4=>sif (x4==0) (lds Bf (at0 b2) λ(x5:(Int×Int×Int×Bool×Bool×Unit))=>Ae (at0 b3) (vA Bf x5) 5<|lds Bf (at0 b3) λ(x6:(Int×Int×Int×Bool×Bool×Unit))=>K x6) (lI (at0 b2) λx7=>sif (x7==0) (lds Bf (at0 b1) λ(x8:(Int×Int×Int×Bool×Bool×Unit))=>Ae (at0 b3) (vA Bf x8) 5<|lds Bf (at0 b3) λ(x9:(Int×Int×Int×Bool×Bool×Unit))=>K x9) (lI (at0 b1) λx10=>lI (at0 b2) λx11=>lI (ad b1 1) λx12=>lI (ad b2 1) λx13=>lI (ad b1 2) λx14=>lI (ad b2 2) λx15=>ld (.bool) (ad b1 3) λ(x16:Bool)=>ld (.bool) (ad b2 4) λ(x17:Bool)=>Ad (.cells #[(vI 0),(vI 0),(vI 0),(.bool false),(.bool false)] 144) λb18=>Ae (at0 b18) (.agg #[(vI (IntKind.wrap .i64 (x10+x11))),(vI (IntKind.wrap .i64 (x12+x13))),(vI (IntKind.wrap .i64 (x14+x15))),(.bool x16),(.bool x17)]) 5<|jU (λJ19=>jB (λJ21=>ld (.bool) (ad b1 4) λ(x23:Bool)=>sif x23 (ld (.bool) (ad b2 3) λ(x24:Bool)=>J21 (x24,())) (J21 (false,()))) λs22=>sif s22.1 (lI (ad b18 2) λx25=>stC (ad b18 2) (vI (IntKind.wrap .i64 (x25-1)))<|J19 ()) (J19 ())) λs20=>lds Bf (at0 b18) λ(x26:(Int×Int×Int×Bool×Bool×Unit))=>Ae (at0 b3) (vA Bf x26) 5<|lds Bf (at0 b3) λ(x27:(Int×Int×Int×Bool×Bool×Unit))=>K x27))
def h127:Hint:=(hS (hR 3) (hS (hS (hR 3) (hC (hS (hR 2) hL) hL)) (hS (hS (hR 3) (hC (hS (hR 2) hL) hL)) (hS (hR 22) (hJ (0xffc00000000,[]) (hJ (0xfc00000000,[(39,tB)]) (.region [] (.ops 3 (.split 36 (hO 3) (.skips 2 (hO 1))))) (hC (hR 5) hL)) (hS (hR 2) hL))))))
theorem j127 {a0:(Int×Int×Int×Bool×Bool×Unit)}{a1:(Int×Int×Int×Bool×Bool×Unit)}{K:(Int×Int×Int×Bool×Bool×Unit)->Wp}{w:World}(h:F127 a0 a1 K w):Aa Tryz.prog 127 #[(vA Bf a0),(vA Bf a1)] (.one (.agg Bf)) K w:=tied Am Tryz.func127 h127 _ h
def F128 (a0:Int) (a1:Int) (K:(Int×Int×Int×Bool×Bool×Unit)->Wp):Wp:=Ad (.cells #[(vI 0),(vI 0),(vI 0),(.bool false),(.bool false)] 144) λb1=>Ad (.cells #[(vI 0),(vI 0),(vI 0),(.bool false),(.bool false)] 144) λb2=>Ae (at0 b2) (.agg #[(vI 1),(vI a1),(vI 0),(.bool (a0==10)),(.bool (a0==13))]) 5<|jU (λJ3=>jB (λJ5=>ld (.bool) (ad b2 3) λ(x7:Bool)=>sif x7 (J5 (true,())) (ld (.bool) (ad b2 4) λ(x8:Bool)=>J5 (x8,()))) λs6=>sif s6.1 (stC (ad b2 2) (vI 1)<|J3 ()) (J3 ())) λs4=>lds Bf (at0 b2) λ(x9:(Int×Int×Int×Bool×Bool×Unit))=>Ae (at0 b1) (vA Bf x9) 5<|lds Bf (at0 b1) λ(x10:(Int×Int×Int×Bool×Bool×Unit))=>K x10
def h128:Hint:=(hS (hR 1) (hS (hR 8) (hJ (520192,[]) (hJ (258048,[(17,tB)]) (.region [] (.ops 3 (.split 14 (.skips 2 (hO 1)) (hO 3)))) (hC (hR 2) hL)) (hS (hR 2) hL))))
theorem j128 {a0:Int}{a1:Int}{K:(Int×Int×Int×Bool×Bool×Unit)->Wp}{w:World}(h:F128 a0 a1 K w):Aa Tryz.prog 128 #[(vI a0),(vI a1)] (.one (.agg Bf)) K w:=tied Am Tryz.func128 h128 _ h
def F129 (a0:Sl) (K:Option Addr->Wp):Wp:=sif (((a0.len:Nat):Int)==0) (K none) (chk ((2:Int)≠0)<|drew<|slc a0.a 0 (IntKind.wrap .i64 (Int.tdiv ((a0.len:Nat):Int) 2)) ((a0.cap:Nat):Int) a0.cap 7 λx1=>ix a0.a a0.len (IntKind.wrap .i64 (Int.tdiv ((a0.len:Nat):Int) 2)) λp2=>lds c146 (p2.add (scaled (Int.toNat (IntKind.wrap .i64 (Int.tdiv ((a0.len:Nat):Int) 2))) 7)) λ(x3:(Sl×Int×Int×Int×Int×Bool×Bool×Unit))=>slc a0.a (IntKind.wrap .i64 ((IntKind.wrap .i64 (Int.tdiv ((a0.len:Nat):Int) 2))+1)) ((a0.len:Nat):Int) ((a0.cap:Nat):Int) a0.cap 7 λx4=>Aa Tryz.prog 129 #[x1.v] rP λ(x5:Option Addr)=>keep (λw=>Aw w (p2.add (scaled (Int.toNat (IntKind.wrap .i64 (Int.tdiv ((a0.len:Nat):Int) 2))) 7)) 0 (Cells.vals c146 x3))<|Aa Tryz.prog 129 #[x4.v] rP λ(x6:Option Addr)=>keep (λw=>Aw w (p2.add (scaled (Int.toNat (IntKind.wrap .i64 (Int.tdiv ((a0.len:Nat):Int) 2))) 7)) 0 (Cells.vals c146 x3))<|Aa Tryz.prog 158 #[(.pointer x5),(vA c146 x3),(.pointer x6)] rP λ(x7:Option Addr)=>K x7)
def Cx7:Hint:=(hS (hR 1) (hS (hS (hR 3) (hC (hS (hR 1) hL) hL)) (hS (hR 4) (hS (.region [0,1,2,4,5,6,7,8,9,10,11,3,12,13,14] (hO 15)) hL))))
theorem j129 {a0:Sl}{K:Option Addr->Wp}{w:World}(h:F129 a0 K w):Aa Tryz.prog 129 #[a0.v] rP K w:=tied Am Tryz.func129 Cx7 _ h
def F135 (a0:Sl) (K:(Int×Int×Unit)->Wp):Wp:=ixl (.int .u8) a0 0 1 λ(x2:Int)=>Aa Tryz.prog 165 #[(.int .u8 x2)] (.tup [(.one cI),(.one (.int .u8)),(.one (.int .u8))]) λ(x3:I3)=>sif (decide (x3.1<2)) (K (x3.1,x3.1,())) (jB (λJ4=>sif (decide (((a0.len:Nat):Int)<2)) (J4 (true,())) (ixl (.int .u8) a0 1 1 λ(x7:Int)=>sif (decide (x7<x3.2.1)) (J4 (true,())) (ixl (.int .u8) a0 1 1 λ(x9:Int)=>J4 ((decide (x9>x3.2.2.1)),())))) λs5=>sif s5.1 (K (1,x3.1,())) (jI (λJ10=>sI (λs12 again13=>jB (λJ14=>sif (decide (s12.1<x3.1)) (sif (decide (s12.1<((a0.len:Nat):Int))) (ixl (.int .u8) a0 s12.1 1 λ(x17:Int)=>J14 (((IntKind.wrap .u8 ((BitVec.toNat (BitVec.ofInt (IntKind.bits .u8) x17 &&& BitVec.ofInt (IntKind.bits .u8) 192):Nat):Int))==128),())) (J14 (false,()))) (J14 (false,()))) λs15=>sif s15.1 (again13 ((IntKind.wrap .i64 (s12.1+1)),())) (J10 (s12.1,()))) (2,())) λs11=>K (s11.1,x3.1,())))
def Cx4:Hint:=(hS (hR 2) (hS (hR 11) (hS (hS (hR 2) (hC (hS (hR 4) hL) hL)) (hS (hJ (0x1ffff00000,[(36,tB)]) (.region [] (.ops 4 (.split 23 (.skips 5 (.ops 2 (.skips 5 (hO 1)))) (.ops 7 (.split 30 (.skips 5 (hO 1)) (hO 6)))))) (hC (hS (hR 3) hL) hL)) (hS (hR 1) (hJ (0x1ffffc000000080,[(7,tI)]) (.block (.loop 0x1ffffc000000080 [(7,tI)] (hS (hJ ((mR [(38,55)]),[(54,tB)]) (.region [] (.ops 4 (.split 41 (.ops 6 (.split 47 (hO 7) (.skips 6 (hO 1)))) (.skips 4 (.ops 2 (.skips 6 (hO 1))))))) (hC hL hL)) (.block (hR 3))))) (hS (hR 4) hL)))))))
theorem j135 {a0:Sl}{K:(Int×Int×Unit)->Wp}{w:World}(h:F135 a0 K w):Aa Tryz.prog 135 #[a0.v] (.tup [(.one cI),(.one cI)]) K w:=tied Am Tryz.func135 Cx4 _ h
def F152 (a0:(Option Addr×Unit)) (a1:Int) (K:(Int×Int×Int×Bool×Bool×Unit)->Wp):Wp:=Ad (.cells #[(.pointer a0.1)] 139) λb1=>Ad (.cells #[(vI 0),(vI 0),(vI 0),(.bool false),(.bool false)] 144) λb2=>Ad (.cells #[(vI 0),(vI 0),(vI 0),(.bool false),(.bool false)] 144) λb3=>lds c139 (at0 b1) λ(x4:(Option Addr×Unit))=>cN 125 #[(vA c139 x4)] λx5=>jU (λJ6=>ld (.ptr) (at0 b1) λ(x8:Option Addr)=>Jv (S:=Int×Option Addr×Unit) (λs9 again10=>jB (λJ11=>sif (!(Option.isNone s9.2.1)) (J11 ((decide (s9.1>0)),())) (J11 (false,()))) λs12=>sif s12.1 (nn s9.2.1 λp13=>ld (.ptr) p13 λ(x14:Option Addr)=>cN 100 #[(.pointer x14)] λx15=>sif (decide (s9.1<=x15)) (nn s9.2.1 λp16=>ld (.ptr) p16 λ(x17:Option Addr)=>again10 (s9.1,x17,())) (jU (λJ18=>nn s9.2.1 λp20=>ld (.ptr) p20 λ(x21:Option Addr)=>sif (!(Option.isNone x21)) (drew<|lds Bf (at0 b3) λ(x22:(Int×Int×Int×Bool×Bool×Unit))=>nn s9.2.1 λp23=>ld (.ptr) p23 λ(x24:Option Addr)=>nn x24 λp25=>lds Bf (p25.add 11) λ(x26:(Int×Int×Int×Bool×Bool×Unit))=>Bg Tryz.prog (invoke (.fn (.method "Add") #[]) (#[(.iface 144 (vA Bf x22))]++#[(vA Bf x26)])) (.one (.agg Bf)) λ(x27:(Int×Int×Int×Bool×Bool×Unit))=>Ae (at0 b3) (vA Bf x27) 5<|J18 ()) (J18 ())) λs19=>drew<|lds Bf (at0 b3) λ(x28:(Int×Int×Int×Bool×Bool×Unit))=>nn s9.2.1 λp29=>lds c146 (p29.add 2) λ(x30:(Sl×Int×Int×Int×Int×Bool×Bool×Unit))=>Bg Tryz.prog (invoke (.fn (.method "Measure") #[]) (#[(.iface 146 (vA c146 x30))]++#[])) (.one (.agg Bf)) λ(x31:(Int×Int×Int×Bool×Bool×Unit))=>keep (λw=>Aw w (at0 b3) 0 (Cells.vals Bf x28))<|Bg Tryz.prog (invoke (.fn (.method "Add") #[]) (#[(.iface 144 (vA Bf x28))]++#[(vA Bf x31)])) (.one (.agg Bf)) λ(x32:(Int×Int×Int×Bool×Bool×Unit))=>Ae (at0 b3) (vA Bf x32) 5<|nn s9.2.1 λp33=>ld (.ptr) (p33.add 1) λ(x34:Option Addr)=>again10 ((IntKind.wrap .i64 ((IntKind.wrap .i64 (s9.1-x15))-1)),x34,()))) (J6 ())) ((if x5<a1 then x5 else a1),x8,())) λs7=>lds Bf (at0 b3) λ(x35:(Int×Int×Int×Bool×Bool×Unit))=>Ae (at0 b2) (vA Bf x35) 5<|lds Bf (at0 b2) λ(x36:(Int×Int×Int×Bool×Bool×Unit))=>K x36
def Cw9:Hint:=(hS (hR 2) (hS (hR 1) (hS (hR 5) (hJ (0xfffffffffffff0c2,[]) (hS (hR 3) (.block (.loop 0xffffffffffffc0c2 [(1,tI),(6,tP)] (hS (hJ (0xfc000,[(19,tB)]) (.region [] (.ops 3 (.split 16 (hO 3) (.skips 2 (hO 1))))) (hC hL hL)) (.block (hS (hR 6) (hS (hS (hR 3) (hC (hS (hR 5) hL) hL)) (hJ (0x7fff00000000,[]) (hS (hR 5) (hC (.region (lR 11) (hO 11)) hL)) (hS (.region (lR 10) (hO 10)) (hR 10)))))))))) (hS (hR 2) hL)))))
theorem Cs8 {a0:(Option Addr×Unit)}{a1:Int}{K:(Int×Int×Int×Bool×Bool×Unit)->Wp}{w:World}(h:F152 a0 a1 K w):Aa Tryz.prog 152 #[(vA c139 a0),(vI a1)] (.one (.agg Bf)) K w:=tied Am Tryz.func152 Cw9 _ h
def F153 (a0:(Option Addr×Unit)) (a1:Int) (a2:Int) (K:Int->Wp):Wp:=Ad (.cells #[(.pointer a0.1)] 139) λb1=>sif (decide (a2<=0)) (K 0) (Ad (.cells #[(vI 0),(vI 0),(vI 0),(.bool false),(.bool false)] 144) λb2=>jI (λJ3=>ld (.ptr) (at0 b1) λ(x5:Option Addr)=>Jv (S:=Int×Option Addr×Unit) (λs6 again7=>sif (!(Option.isNone s6.2.1)) (lds Bf (at0 b2) λ(x8:(Int×Int×Int×Bool×Bool×Unit))=>Ad (.cells #[(vI 0),(vI 0),(vI 0),(.bool false),(.bool false)] 144) λb9=>Ae (at0 b9) (vA Bf x8) 5<|jU (λJ10=>nn s6.2.1 λp12=>ld (.ptr) p12 λ(x13:Option Addr)=>sif (!(Option.isNone x13)) (drew<|lds Bf (at0 b2) λ(x14:(Int×Int×Int×Bool×Bool×Unit))=>nn s6.2.1 λp15=>ld (.ptr) p15 λ(x16:Option Addr)=>nn x16 λp17=>lds Bf (p17.add 11) λ(x18:(Int×Int×Int×Bool×Bool×Unit))=>Bg Tryz.prog (invoke (.fn (.method "Add") #[]) (#[(.iface 144 (vA Bf x14))]++#[(vA Bf x18)])) (.one (.agg Bf)) λ(x19:(Int×Int×Int×Bool×Bool×Unit))=>Ae (at0 b9) (vA Bf x19) 5<|J10 ()) (J10 ())) λs11=>lds Bf (at0 b9) λ(x20:(Int×Int×Int×Bool×Bool×Unit))=>Bg Tryz.prog (invoke (.fn (.method "Key") #[]) (#[(.iface 144 (vA Bf x20))]++#[(vI a1)])) rI λ(x21:Int)=>sif (decide (x21>=a2)) (nn s6.2.1 λp22=>ld (.ptr) p22 λ(x23:Option Addr)=>again7 (s6.1,x23,())) (nn s6.2.1 λp24=>ld (.ptr) p24 λ(x25:Option Addr)=>cN 100 #[(.pointer x25)] λx26=>drew<|lds Bf (at0 b9) λ(x27:(Int×Int×Int×Bool×Bool×Unit))=>nn s6.2.1 λp28=>lds c146 (p28.add 2) λ(x29:(Sl×Int×Int×Int×Int×Bool×Bool×Unit))=>Bg Tryz.prog (invoke (.fn (.method "Measure") #[]) (#[(.iface 146 (vA c146 x29))]++#[])) (.one (.agg Bf)) λ(x30:(Int×Int×Int×Bool×Bool×Unit))=>keep (λw=>Aw w (at0 b9) 0 (Cells.vals Bf x27))<|Bg Tryz.prog (invoke (.fn (.method "Add") #[]) (#[(.iface 144 (vA Bf x27))]++#[(vA Bf x30)])) (.one (.agg Bf)) λ(x31:(Int×Int×Int×Bool×Bool×Unit))=>Ae (at0 b2) (vA Bf x31) 5<|lds Bf (at0 b2) λ(x32:(Int×Int×Int×Bool×Bool×Unit))=>Bg Tryz.prog (invoke (.fn (.method "Key") #[]) (#[(.iface 144 (vA Bf x32))]++#[(vI a1)])) rI λ(x33:Int)=>sif (decide (x33>=a2)) (K (IntKind.wrap .i64 (s6.1+(IntKind.wrap .i64 (x26+1))))) (nn s6.2.1 λp34=>ld (.ptr) (p34.add 1) λ(x35:Option Addr)=>again7 ((IntKind.wrap .i64 (s6.1+(IntKind.wrap .i64 (x26+1)))),x35,())))) (J3 (s6.1,()))) (0,x5,())) λs4=>K (IntKind.wrap .i64 (s4.1+1)))
def Cw8:Hint:=(hS (hR 2) (hS (hS (hR 2) (hC (hS (hR 1) hL) hL)) (hS (hR 1) (hS (hR 1) (hJ (0x7fffffffffffffe740,[(8,tI)]) (hS (hR 3) (.block (.loop 0x7fffffffffffff8740 [(8,tI),(9,tP)] (hS (hS (hR 2) (hC hL hL)) (.block (hS (hR 3) (hJ (8589672448,[]) (hS (hR 5) (hC (.region (lR 11) (hO 11)) hL)) (hS (hS (hR 6) (hC (hS (hR 5) hL) hL)) (hS (hR 9) (hS (.region (lR 10) (hO 10)) (hS (hS (hR 6) (hC (hS (hR 2) hL) hL)) (hR 5)))))))))))) (hS (hR 3) hL))))))
theorem Cs7 {a0:(Option Addr×Unit)}{a1:Int}{a2:Int}{K:Int->Wp}{w:World}(h:F153 a0 a1 a2 K w):Aa Tryz.prog 153 #[(vA c139 a0),(vI a1),(vI a2)] rI K w:=tied Am Tryz.func153 Cw8 _ h
def F154 (v0:Addr) (v1:Addr) (v2:Addr) (v3:Addr) (K:Unit->Wp):Wp:=ld (.ptr) v0 λ(x1:Option Addr)=>nn x1 λp2=>ld (.sl) (p2.add 3) λ(x3:Sl)=>lI v1 λx4=>sif (decide (((x3.len:Nat):Int)>x4)) (drew<|ld (.sl) v2 λ(x5:Sl)=>ld (.ptr) v0 λ(x6:Option Addr)=>nn x6 λp7=>lI p7 λx8=>ld (.ptr) v0 λ(x9:Option Addr)=>nn x9 λp10=>ld (.sl) (p10.add 3) λ(x11:Sl)=>lI v1 λx12=>slc x11.a x12 ((x3.len:Nat):Int) ((x3.len:Nat):Int) x11.cap 1 λx13=>Aa Tryz.prog 85 #[(vI x8),x13.v,(vI (-1))] (.one (.agg c146)) λ(x14:(Sl×Int×Int×Int×Int×Bool×Bool×Unit))=>keep (λw=>w.cell? v2=some (Cell.val (.sl) x5))<|Ad (.cells #[x14.1.v,(vI x14.2.1),(vI x14.2.2.1),(vI x14.2.2.2.1),(vI x14.2.2.2.2.1),(.bool x14.2.2.2.2.2.1),(.bool x14.2.2.2.2.2.2.1)] 146) λb15=>keep (λw=>w.cell? v2=some (Cell.val (.sl) x5))<|Dp Tryz.prog rS (Builtin.append_ #[165,165] 165 #[x5.v,(.slice (some (at0 b15)) 1 1)]) λ(x16:Sl)=>stC v2 x16.v<|stC v1 (vI ((x3.len:Nat):Int))<|stC v3 (vI 0)<|K ()) (K ())
def Cw7:Hint:=(hS (hR 6) (hS (hR 3) (hC (hS (.region (lR 17) (hO 17)) (hR 3)) hL)))
theorem Cs6 {v0:Addr}{v1:Addr}{v2:Addr}{v3:Addr}{K:Unit->Wp}{w:World}(h:F154 v0 v1 v2 v3 K w):Aa Tryz.prog 154 #[(.pointer (some v0)),(.pointer (some v1)),(.pointer (some v2)),(.pointer (some v3))] (.tup []) K w:=tied Am Tryz.func154 Cw7 _ h
def F155 (a0:Int) (a1:Sl) (K:(Sl×Int×Int×Unit)->Wp):Wp:=Aa Tryz.prog 126 #[(vI a0)] (.one (.one .any)) λ(x1:Value)=>rdB Tryz.prog (do eqGuard .eql 204 (Operand.tmp 13) (Operand.const Value.nilIface) x1 .nilIface;binOp .eql 204 x1 .nilIface:Sem Value) λr2=>sif r2 (K (⟨none,0,0⟩,0,10,())) (jS (λJ3=>Jv (S:=Sl×Int×Unit) (λs5 again6=>sif (decide (s5.2.1<((a1.len:Nat):Int))) (ixI a1 s5.2.1 1 λx8=>Bg Tryz.prog (invoke (.fn (.method "copyist/codec.size") #[]) (#[x1]++#[(vI x8)])) rI λ(x9:Int)=>sif (x9==0) (K (⟨none,0,0⟩,s5.2.1,11,())) (Bg Tryz.prog (invoke (.fn (.method "copyist/codec.put") #[]) (#[x1]++#[s5.1.v,(vI x8)])) rS λ(x10:Sl)=>again6 (x10,(IntKind.wrap .i64 (s5.2.1+1)),()))) (J3 (s5.1,()))) (⟨none,0,0⟩,0,())) λs4=>K (s4.1,0,0,()))
def Cw6:Hint:=(hS (hR 3) (hS (hR 3) (hS (hS (hR 2) (hC (hS (hR 3) hL) hL)) (hS (hR 1) (hJ (0xffff8770,[(8,tS)]) (hS (hR 3) (.block (.loop 0xfffe0770 [(8,tS),(17,tI)] (hS (hR 1) (hS (hC hL hL) (hS (.block (hS (hR 5) (hS (hS (hR 4) (hC (hS (hR 4) hL) hL)) (hR 5)))) (hR 2))))))) (hS (hR 4) hL))))))
theorem Cs5 {a0:Int}{a1:Sl}{K:(Sl×Int×Int×Unit)->Wp}{w:World}(h:F155 a0 a1 K w):Aa Tryz.prog 155 #[(vI a0),a1.v] (.tup [(.one .sl),(.one cI),(.one cI)]) K w:=tied Am Tryz.func155 Cw6 _ h
def F156 (a0:Option Addr) (a1:Int) (K:(Option Addr×Option Addr×Unit)->Wp):Wp:=sif (Option.isNone a0) (K (none,none,())) (nn a0 λp1=>ld (.ptr) p1 λ(x2:Option Addr)=>cN 100 #[(.pointer x2)] λx3=>sif (decide (a1<=x3)) (nn a0 λp4=>ld (.ptr) p4 λ(x5:Option Addr)=>Aa Tryz.prog 156 #[(.pointer x5),(vI a1)] (.tup [(.one .ptr),(.one .ptr)]) λ(x6:(Option Addr×Option Addr×Unit))=>drew<|nn a0 λp7=>lds c146 (p7.add 2) λ(x8:(Sl×Int×Int×Int×Int×Bool×Bool×Unit))=>nn a0 λp9=>ld (.ptr) (p9.add 1) λ(x10:Option Addr)=>Aa Tryz.prog 196 #[(.pointer x6.2.1),(vA c146 x8),(.pointer x10)] rP λ(x11:Option Addr)=>K (x6.1,x11,())) (nn a0 λp12=>ld (.ptr) (p12.add 1) λ(x13:Option Addr)=>Aa Tryz.prog 156 #[(.pointer x13),(vI (IntKind.wrap .i64 ((IntKind.wrap .i64 (a1-x3))-1)))] (.tup [(.one .ptr),(.one .ptr)]) λ(x14:(Option Addr×Option Addr×Unit))=>drew<|nn a0 λp15=>ld (.ptr) p15 λ(x16:Option Addr)=>nn a0 λp17=>lds c146 (p17.add 2) λ(x18:(Sl×Int×Int×Int×Int×Bool×Bool×Unit))=>Aa Tryz.prog 196 #[(.pointer x16),(vA c146 x18),(.pointer x14.1)] rP λ(x19:Option Addr)=>K (x19,x14.2.1,())))
def Cw5:Hint:=(hS (hR 2) (hS (hS (hR 2) (hC (hS (hR 2) hL) hL)) (hS (hR 6) (hS (hR 3) (hC (hS (hR 11) (hS (.region (lR 13) (hO 13)) hL)) (hS (hR 14) (hS (.region [0,1,2,3,4,5,6,7,8,10,9,11,12] (hO 13)) hL)))))))
theorem Cl5 {a0:Option Addr}{a1:Int}{K:(Option Addr×Option Addr×Unit)->Wp}{w:World}(h:F156 a0 a1 K w):Aa Tryz.prog 156 #[(.pointer a0),(vI a1)] (.tup [(.one .ptr),(.one .ptr)]) K w:=tied Am Tryz.func156 Cw5 _ h
def F157 (a0:Option Addr) (a1:Option Addr) (K:Option Addr->Wp):Wp:=sif (Option.isNone a1) (K a0) (Aa Tryz.prog 197 #[(.pointer a1)] (.tup [(.agg c146),(.one .ptr)]) λ(x1:((Sl×Int×Int×Int×Int×Bool×Bool×Unit)×Option Addr×Unit))=>Ad (.cells #[(.slice none 0 0),(vI 0),(vI 0),(vI 0),(vI 0),(.bool false),(.bool false)] 146) λb2=>Ae (at0 b2) (vA c146 x1.1) 7<|lds c146 (at0 b2) λ(x3:(Sl×Int×Int×Int×Int×Bool×Bool×Unit))=>Aa Tryz.prog 196 #[(.pointer a0),(vA c146 x3),(.pointer x1.2.1)] rP λ(x4:Option Addr)=>K x4)
def Cw4:Hint:=(hS (hR 1) (hS (hS (hR 2) (hC (hS (hR 2) hL) hL)) (hS (hR 8) (hS (hR 5) hL))))
theorem Cs4 {a0:Option Addr}{a1:Option Addr}{K:Option Addr->Wp}{w:World}(h:F157 a0 a1 K w):Aa Tryz.prog 157 #[(.pointer a0),(.pointer a1)] rP K w:=tied Am Tryz.func157 Cw4 _ h
def F158 (a0:Option Addr) (a1:(Sl×Int×Int×Int×Int×Bool×Bool×Unit)) (a2:Option Addr) (K:Option Addr->Wp):Wp:=Ad (.cells #[a1.1.v,(vI a1.2.1),(vI a1.2.2.1),(vI a1.2.2.2.1),(vI a1.2.2.2.2.1),(.bool a1.2.2.2.2.2.1),(.bool a1.2.2.2.2.2.2.1)] 146) λb1=>drew<|lds c146 (at0 b1) λ(x2:(Sl×Int×Int×Int×Int×Bool×Bool×Unit))=>cN 100 #[(.pointer a0)] λx3=>keep (λw=>Aw w (at0 b1) 0 (Cells.vals c146 x2))<|cN 100 #[(.pointer a2)] λx4=>keep (λw=>Aw w (at0 b1) 0 (Cells.vals c146 x2))<|cN 198 #[(.pointer a0)] λx5=>keep (λw=>Aw w (at0 b1) 0 (Cells.vals c146 x2))<|cN 198 #[(.pointer a2)] λx6=>keep (λw=>Aw w (at0 b1) 0 (Cells.vals c146 x2))<|Ad (.cells (Value.cells (.agg #[(.pointer a0),(.pointer a2),x2.1.v,(vI x2.2.1),(vI x2.2.2.1),(vI x2.2.2.2.1),(vI x2.2.2.2.2.1),(.bool x2.2.2.2.2.2.1),(.bool x2.2.2.2.2.2.2.1),(vI (IntKind.wrap .i64 ((IntKind.wrap .i64 (x3+1))+x4))),(vI (IntKind.wrap .i64 ((if x6>x5 then x6 else x5)+1))),(vI 0),(vI 0),(vI 0),(.bool false),(.bool false)])) 186) λb7=>lds c146 (at0 b1) λ(x8:(Sl×Int×Int×Int×Int×Bool×Bool×Unit))=>Bg Tryz.prog (invoke (.fn (.method "Measure") #[]) (#[(.iface 146 (vA c146 x8))]++#[])) (.one (.agg Bf)) λ(x9:(Int×Int×Int×Bool×Bool×Unit))=>nn (some (at0 b7)) λp10=>Ae (p10.add 11) (vA Bf x9) 5<|jU (λJ11=>sif (!(Option.isNone a0)) (drew<|nn a0 λp13=>lds Bf (p13.add 11) λ(x14:(Int×Int×Int×Bool×Bool×Unit))=>nn (some (at0 b7)) λp15=>lds Bf (p15.add 11) λ(x16:(Int×Int×Int×Bool×Bool×Unit))=>Bg Tryz.prog (invoke (.fn (.method "Add") #[]) (#[(.iface 144 (vA Bf x14))]++#[(vA Bf x16)])) (.one (.agg Bf)) λ(x17:(Int×Int×Int×Bool×Bool×Unit))=>nn (some (at0 b7)) λp18=>Ae (p18.add 11) (vA Bf x17) 5<|J11 ()) (J11 ())) λs12=>jU (λJ19=>sif (!(Option.isNone a2)) (drew<|nn (some (at0 b7)) λp21=>lds Bf (p21.add 11) λ(x22:(Int×Int×Int×Bool×Bool×Unit))=>nn a2 λp23=>lds Bf (p23.add 11) λ(x24:(Int×Int×Int×Bool×Bool×Unit))=>Bg Tryz.prog (invoke (.fn (.method "Add") #[]) (#[(.iface 144 (vA Bf x22))]++#[(vA Bf x24)])) (.one (.agg Bf)) λ(x25:(Int×Int×Int×Bool×Bool×Unit))=>nn (some (at0 b7)) λp26=>Ae (p26.add 11) (vA Bf x25) 5<|J19 ()) (J19 ())) λs20=>K (some (at0 b7))
def Cw3:Hint:=(hS (hR 2) (hS (.region [0,1,2,3,6,9,11,4,5,7,8,10,12,13,14,15,16,17] (hO 18)) (hS (hR 7) (hJ (0x3fff80000000,[]) (hS (hR 2) (hC (.region (lR 14) (hO 14)) hL)) (hJ ((mR [(46,61)]),[]) (hS (hR 2) (hC (.region (lR 14) (hO 14)) hL)) (hS (hR 2) hL))))))
theorem Cs3 {a0:Option Addr}{a1:(Sl×Int×Int×Int×Int×Bool×Bool×Unit)}{a2:Option Addr}{K:Option Addr->Wp}{w:World}(h:F158 a0 a1 a2 K w):Aa Tryz.prog 158 #[(.pointer a0),(vA c146 a1),(.pointer a2)] rP K w:=tied Am Tryz.func158 Cw3 _ h
def F165 (a0:Int) (K:I3->Wp):Wp:=sif (decide (a0<128)) (K (1,0,0,())) (sif (decide (a0<194)) (K (0,0,0,())) (sif (decide (a0<224)) (K (2,128,191,())) (sif (a0==224) (K (3,160,191,())) (sif (a0==237) (K (3,128,159,())) (sif (decide (a0<240)) (K (3,128,191,())) (sif (a0==240) (K (4,144,191,())) (sif (decide (a0<244)) (K (4,128,191,())) (sif (a0==244) (K (4,128,143,())) (K (0,0,0,()))))))))))
def Cw2:Hint:=(hS (hR 3) (hS (.block (hS (hR 3) (hC (hS (hR 3) hL) (hS (hR 3) (hC (hS (hR 3) hL) (hS (hR 3) (hC (hS (hR 3) hL) (hS (hR 3) (hC (hS (hR 3) hL) (hS (hR 3) (hC (hS (hR 3) hL) (hS (hR 3) (hC (hS (hR 3) hL) (hS (hR 3) (hC (hS (hR 3) hL) (hS (hR 3) (hC (hS (hR 3) hL) (hS (hR 3) (hC (hS (hR 3) hL) hL))))))))))))))))))) (hS (hR 3) hL)))
theorem Cs2 {a0:Int}{K:I3->Wp}{w:World}(h:F165 a0 K w):Aa Tryz.prog 165 #[(.int .u8 a0)] (.tup [(.one cI),(.one (.int .u8)),(.one (.int .u8))]) K w:=tied Am Tryz.func165 Cw2 _ h
def F168 (a0:Option Addr) (a1:Int) (K:Value->Wp):Wp:=Ad (.cells #[(vI a1)] 3) λb1=>nn a0 λp2=>lds c139 (p2.add 2) λ(x3:(Option Addr×Unit))=>Ad (.cells #[(.pointer none)] 139) λb4=>Ae (at0 b4) (vA c139 x3) 1<|K (.func (Fn.func 200) #[] #[(.pointer (some (at0 b1))),(.pointer (some (at0 b4)))])
def Cv9:Hint:=(hS (hR 2) (hS (hR 6) (hS (hR 2) hL)))
theorem Cr9 {a0:Option Addr}{a1:Int}{K:Value->Wp}{w:World}(h:F168 a0 a1 K w):Aa Tryz.prog 168 #[(.pointer a0),(vI a1)] (.one (.one .any)) K w:=tied Am Tryz.func168 Cv9 _ h
def F196 (a0:Option Addr) (a1:(Sl×Int×Int×Int×Int×Bool×Bool×Unit)) (a2:Option Addr) (K:Option Addr->Wp):Wp:=Ad (.cells #[a1.1.v,(vI a1.2.1),(vI a1.2.2.1),(vI a1.2.2.2.1),(vI a1.2.2.2.2.1),(.bool a1.2.2.2.2.2.1),(.bool a1.2.2.2.2.2.2.1)] 146) λb1=>cN 198 #[(.pointer a0)] λx2=>cN 198 #[(.pointer a2)] λx3=>sif (decide (x2>(IntKind.wrap .i64 (x3+1)))) (drew<|nn a0 λp4=>ld (.ptr) p4 λ(x5:Option Addr)=>nn a0 λp6=>lds c146 (p6.add 2) λ(x7:(Sl×Int×Int×Int×Int×Bool×Bool×Unit))=>nn a0 λp8=>ld (.ptr) (p8.add 1) λ(x9:Option Addr)=>lds c146 (at0 b1) λ(x10:(Sl×Int×Int×Int×Int×Bool×Bool×Unit))=>Aa Tryz.prog 196 #[(.pointer x9),(vA c146 x10),(.pointer a2)] rP λ(x11:Option Addr)=>keep (λw=>Aw w (p6.add 2) 0 (Cells.vals c146 x7))<|keep (λw=>w.cell? p4=some (Cell.val (.ptr) x5))<|Aa Tryz.prog 220 #[(.pointer x5),(vA c146 x7),(.pointer x11)] rP λ(x12:Option Addr)=>K x12) (cN 198 #[(.pointer a2)] λx13=>cN 198 #[(.pointer a0)] λx14=>sif (decide (x13>(IntKind.wrap .i64 (x14+1)))) (drew<|lds c146 (at0 b1) λ(x15:(Sl×Int×Int×Int×Int×Bool×Bool×Unit))=>nn a2 λp16=>ld (.ptr) p16 λ(x17:Option Addr)=>nn a2 λp18=>lds c146 (p18.add 2) λ(x19:(Sl×Int×Int×Int×Int×Bool×Bool×Unit))=>nn a2 λp20=>ld (.ptr) (p20.add 1) λ(x21:Option Addr)=>Aa Tryz.prog 196 #[(.pointer a0),(vA c146 x15),(.pointer x17)] rP λ(x22:Option Addr)=>keep (λw=>w.cell? (p20.add 1)=some (Cell.val (.ptr) x21))<|keep (λw=>Aw w (p18.add 2) 0 (Cells.vals c146 x19))<|Aa Tryz.prog 220 #[(.pointer x22),(vA c146 x19),(.pointer x21)] rP λ(x23:Option Addr)=>K x23) (lds c146 (at0 b1) λ(x24:(Sl×Int×Int×Int×Int×Bool×Bool×Unit))=>Aa Tryz.prog 158 #[(.pointer a0),(vA c146 x24),(.pointer a2)] rP λ(x25:Option Addr)=>K x25))
def Cv4:Hint:=(hS (hR 2) (hS (.block (hS (hR 7) (hC (hS (.region (lR 17) (hO 17)) hL) (hS (hR 7) (hC (hS (.region [0,1,2,3,4,5,7,8,9,10,11,12,13,14,6,15,16] (hO 17)) hL) hL))))) (hS (hR 5) hL)))
theorem Cl4 {a0:Option Addr}{a1:(Sl×Int×Int×Int×Int×Bool×Bool×Unit)}{a2:Option Addr}{K:Option Addr->Wp}{w:World}(h:F196 a0 a1 a2 K w):Aa Tryz.prog 196 #[(.pointer a0),(vA c146 a1),(.pointer a2)] rP K w:=tied Am Tryz.func196 Cv4 _ h
def F197 (a0:Option Addr) (K:((Sl×Int×Int×Int×Int×Bool×Bool×Unit)×Option Addr×Unit)->Wp):Wp:=Ad (.cells #[(.slice none 0 0),(vI 0),(vI 0),(vI 0),(vI 0),(.bool false),(.bool false)] 146) λb1=>nn a0 λp2=>ld (.ptr) p2 λ(x3:Option Addr)=>sif (Option.isNone x3) (drew<|nn a0 λp4=>lds c146 (p4.add 2) λ(x5:(Sl×Int×Int×Int×Int×Bool×Bool×Unit))=>nn a0 λp6=>ld (.ptr) (p6.add 1) λ(x7:Option Addr)=>Ae (at0 b1) (vA c146 x5) 7<|keep (λw=>w.cell? (p6.add 1)=some (Cell.val (.ptr) x7))<|lds c146 (at0 b1) λ(x8:(Sl×Int×Int×Int×Int×Bool×Bool×Unit))=>K (x8,x7,())) (nn a0 λp9=>ld (.ptr) p9 λ(x10:Option Addr)=>Aa Tryz.prog 197 #[(.pointer x10)] (.tup [(.agg c146),(.one .ptr)]) λ(x11:((Sl×Int×Int×Int×Int×Bool×Bool×Unit)×Option Addr×Unit))=>Ad (.cells #[(.slice none 0 0),(vI 0),(vI 0),(vI 0),(vI 0),(.bool false),(.bool false)] 146) λb12=>Ae (at0 b12) (vA c146 x11.1) 7<|drew<|lds c146 (at0 b12) λ(x13:(Sl×Int×Int×Int×Int×Bool×Bool×Unit))=>nn a0 λp14=>lds c146 (p14.add 2) λ(x15:(Sl×Int×Int×Int×Int×Bool×Bool×Unit))=>nn a0 λp16=>ld (.ptr) (p16.add 1) λ(x17:Option Addr)=>Aa Tryz.prog 220 #[(.pointer x11.2.1),(vA c146 x15),(.pointer x17)] rP λ(x18:Option Addr)=>keep (λw=>Aw w (at0 b12) 0 (Cells.vals c146 x13))<|Ae (at0 b1) (vA c146 x13) 7<|lds c146 (at0 b1) λ(x19:(Sl×Int×Int×Int×Int×Bool×Bool×Unit))=>K (x19,x18,()))
def Cv3:Hint:=(hS (hR 2) (hS (hS (hR 5) (hC (hS (.region (lR 10) (hO 10)) hL) hL)) (hS (hR 11) (hS (.region (lR 13) (hO 13)) hL))))
theorem Cl3 {a0:Option Addr}{K:((Sl×Int×Int×Int×Int×Bool×Bool×Unit)×Option Addr×Unit)->Wp}{w:World}(h:F197 a0 K w):Aa Tryz.prog 197 #[(.pointer a0)] (.tup [(.agg c146),(.one .ptr)]) K w:=tied Am Tryz.func197 Cv3 _ h
def F198 (a0:Option Addr) (K:Int->Wp):Wp:=sif (Option.isNone a0) (K 0) (nn a0 λp1=>ld cI (p1.add 10) λ(x2:Int)=>K x2)
def Cv2:Hint:=(hS (hR 1) (hS (hS (hR 2) (hC (hS (hR 1) hL) hL)) (hS (hR 5) hL)))
theorem Cr4 {a0:Option Addr}{K:Int->Wp}{w:World}(h:F198 a0 K w):Aa Tryz.prog 198 #[(.pointer a0)] rI K w:=tied Am Tryz.func198 Cv2 _ h
def F200 (a0:Value) (v0:Addr) (v1:Addr) (K:Unit->Wp):Wp:=chk (Ph [a0]=true)<|Ad (.cells #[a0] 304) λb1=>lI v0 λx2=>sif (decide (x2<1)) (K ()) (Ad (.cells #[(.slice none 0 0)] 30) λb3=>lds c139 v1 λ(x4:(Option Addr×Unit))=>Aa Tryz.prog 70 #[(vA c139 x4),(vI 0)] (.one (.one .any)) λ(x5:Value)=>Xv (S:=(Sl×Int×Int×Int×Int×Bool×Bool×Unit)×Unit) Tryz.prog (Slots.vals [(12,(.agg c146))]) x5 (λl6 rc7 R8 (s9:(Sl×Int×Int×Int×Int×Bool×Bool×Unit)×Unit)=>Ad (.cells #[(.slice none 0 0),(vI 0),(vI 0),(vI 0),(vI 0),(.bool false),(.bool false)] 146) λb11=>Ae (at0 b11) (vA c146 s9.1) 7<|Cb1 l6 rc7<|ld (.sl) (at0 b11) λ(x12:Sl)=>sS (λs13 again14=>sif (decide (((s13.1.len:Nat):Int)>0)) (lI v0 λx15=>ld (.sl) (at0 b3) λ(x16:Sl)=>drew<|ld (.sl) (at0 b3) λ(x17:Sl)=>slc s13.1.a 0 (if ((s13.1.len:Nat):Int)<(IntKind.wrap .i64 (x15-((x16.len:Nat):Int))) then ((s13.1.len:Nat):Int) else (IntKind.wrap .i64 (x15-((x16.len:Nat):Int)))) ((s13.1.cap:Nat):Int) s13.1.cap 1 λx18=>Dp Tryz.prog rS (Builtin.append_ #[30,30] 30 #[x17.v,x18.v]) λ(x19:Sl)=>stC (at0 b3) x19.v<|slc s13.1.a (if ((s13.1.len:Nat):Int)<(IntKind.wrap .i64 (x15-((x16.len:Nat):Int))) then ((s13.1.len:Nat):Int) else (IntKind.wrap .i64 (x15-((x16.len:Nat):Int)))) ((s13.1.len:Nat):Int) ((s13.1.cap:Nat):Int) s13.1.cap 1 λx20=>ld (.sl) (at0 b3) λ(x21:Sl)=>lI v0 λx22=>sif (((x21.len:Nat):Int)==x22) (ld (.any) (at0 b1) λ(x23:Value)=>ld (.sl) (at0 b3) λ(x24:Sl)=>Bg Tryz.prog (do let d ←Deferred.ofValue x23 #[x24.v];invoke d.target d.args:Sem Next) rB λ(x25:Bool)=>sif (!x25) (Ak6 l6 rc7 (some .ret) R8) (stC (at0 b3) (.slice none 0 0)<|again14 (x20,()))) (again14 (x20,()))) (Ak6 l6 rc7 none R8)) (x12,())) λD10=>aft (ld (.sl) (at0 b3) λ(x31:Sl)=>sif (decide (((x31.len:Nat):Int)>0)) (ld (.any) (at0 b1) λ(x32:Value)=>ld (.sl) (at0 b3) λ(x33:Sl)=>Bg Tryz.prog (do let d ←Deferred.ofValue x32 #[x33.v];invoke d.target d.args:Sem Next) rB λ(x34:Bool)=>Ry D10<|K ()) (Ry D10<|K ())) (λi26=>onE i26 0 (ld (.sl) (at0 b3) λ(x27:Sl)=>sif (decide (((x27.len:Nat):Int)>0)) (ld (.any) (at0 b1) λ(x28:Value)=>ld (.sl) (at0 b3) λ(x29:Sl)=>Bg Tryz.prog (do let d ←Deferred.ofValue x28 #[x29.v];invoke d.target d.args:Sem Next) rB λ(x30:Bool)=>Ry D10<|K ()) (Ry D10<|K ())) (λ_=>False)) (Ry D10<|K ()))
def Cv1:Hint:=(hS (hR 1) (hS (hS (hR 2) (hC hL hL)) (hS (hR 1) (hS (hS (hR 2) (.block (.range [(12,(.agg c146))] (hR 2) (.block (hS (hR 3) (.block (.loop 0x1ffffff80c0 [(6,tS)] (hS (hS (hR 3) (hC hL hL)) (.block (hS (hR 8) (hS (.region (lR 6) (hO 6)) (hS (hR 4) (hS (hR 4) (hC (hS (hS (hR 4) (hC hL hL)) (hR 1)) hL)))))))))))))) (hS (hR 3) (hC (hR 3) hL))))))
theorem Cr3 {a0:Value}{v0:Addr}{v1:Addr}{K:Unit->Wp}{w:World}(h:F200 a0 v0 v1 K w):Aa Tryz.prog 200 #[a0,(.pointer (some v0)),(.pointer (some v1))] (.tup []) K w:=tied Am Tryz.func200 Cv1 _ h
def F220 (a0:Option Addr) (a1:(Sl×Int×Int×Int×Int×Bool×Bool×Unit)) (a2:Option Addr) (K:Option Addr->Wp):Wp:=Ad (.cells #[a1.1.v,(vI a1.2.1),(vI a1.2.2.1),(vI a1.2.2.2.1),(vI a1.2.2.2.2.1),(.bool a1.2.2.2.2.2.1),(.bool a1.2.2.2.2.2.2.1)] 146) λb1=>cN 198 #[(.pointer a0)] λx2=>cN 198 #[(.pointer a2)] λx3=>sif (decide (x2>(IntKind.wrap .i64 (x3+1)))) (drew<|nn a0 λp4=>ld (.ptr) p4 λ(x5:Option Addr)=>nn a0 λp6=>ld (.ptr) (p6.add 1) λ(x7:Option Addr)=>cN 198 #[(.pointer x5)] λx8=>keep (λw=>w.cell? (p6.add 1)=some (Cell.val (.ptr) x7))<|cN 198 #[(.pointer x7)] λx9=>sif (decide (x8>=x9)) (drew<|nn a0 λp10=>ld (.ptr) p10 λ(x11:Option Addr)=>nn a0 λp12=>lds c146 (p12.add 2) λ(x13:(Sl×Int×Int×Int×Int×Bool×Bool×Unit))=>nn a0 λp14=>ld (.ptr) (p14.add 1) λ(x15:Option Addr)=>lds c146 (at0 b1) λ(x16:(Sl×Int×Int×Int×Int×Bool×Bool×Unit))=>Aa Tryz.prog 158 #[(.pointer x15),(vA c146 x16),(.pointer a2)] rP λ(x17:Option Addr)=>keep (λw=>Aw w (p12.add 2) 0 (Cells.vals c146 x13))<|keep (λw=>w.cell? p10=some (Cell.val (.ptr) x11))<|Aa Tryz.prog 158 #[(.pointer x11),(vA c146 x13),(.pointer x17)] rP λ(x18:Option Addr)=>K x18) (nn a0 λp19=>ld (.ptr) (p19.add 1) λ(x20:Option Addr)=>drew<|nn a0 λp21=>ld (.ptr) p21 λ(x22:Option Addr)=>nn a0 λp23=>lds c146 (p23.add 2) λ(x24:(Sl×Int×Int×Int×Int×Bool×Bool×Unit))=>nn x20 λp25=>ld (.ptr) p25 λ(x26:Option Addr)=>nn x20 λp27=>lds c146 (p27.add 2) λ(x28:(Sl×Int×Int×Int×Int×Bool×Bool×Unit))=>nn x20 λp29=>ld (.ptr) (p29.add 1) λ(x30:Option Addr)=>lds c146 (at0 b1) λ(x31:(Sl×Int×Int×Int×Int×Bool×Bool×Unit))=>Aa Tryz.prog 158 #[(.pointer x22),(vA c146 x24),(.pointer x26)] rP λ(x32:Option Addr)=>keep (λw=>Aw w (at0 b1) 0 (Cells.vals c146 x31))<|keep (λw=>w.cell? (p29.add 1)=some (Cell.val (.ptr) x30))<|keep (λw=>Aw w (p27.add 2) 0 (Cells.vals c146 x28))<|Aa Tryz.prog 158 #[(.pointer x30),(vA c146 x31),(.pointer a2)] rP λ(x33:Option Addr)=>keep (λw=>Aw w (p27.add 2) 0 (Cells.vals c146 x28))<|Aa Tryz.prog 158 #[(.pointer x32),(vA c146 x28),(.pointer x33)] rP λ(x34:Option Addr)=>K x34)) (cN 198 #[(.pointer a2)] λx35=>cN 198 #[(.pointer a0)] λx36=>sif (decide (x35>(IntKind.wrap .i64 (x36+1)))) (drew<|nn a2 λp37=>ld (.ptr) (p37.add 1) λ(x38:Option Addr)=>nn a2 λp39=>ld (.ptr) p39 λ(x40:Option Addr)=>cN 198 #[(.pointer x38)] λx41=>keep (λw=>w.cell? p39=some (Cell.val (.ptr) x40))<|cN 198 #[(.pointer x40)] λx42=>sif (decide (x41>=x42)) (drew<|lds c146 (at0 b1) λ(x43:(Sl×Int×Int×Int×Int×Bool×Bool×Unit))=>nn a2 λp44=>ld (.ptr) p44 λ(x45:Option Addr)=>nn a2 λp46=>lds c146 (p46.add 2) λ(x47:(Sl×Int×Int×Int×Int×Bool×Bool×Unit))=>nn a2 λp48=>ld (.ptr) (p48.add 1) λ(x49:Option Addr)=>Aa Tryz.prog 158 #[(.pointer a0),(vA c146 x43),(.pointer x45)] rP λ(x50:Option Addr)=>keep (λw=>w.cell? (p48.add 1)=some (Cell.val (.ptr) x49))<|keep (λw=>Aw w (p46.add 2) 0 (Cells.vals c146 x47))<|Aa Tryz.prog 158 #[(.pointer x50),(vA c146 x47),(.pointer x49)] rP λ(x51:Option Addr)=>K x51) (nn a2 λp52=>ld (.ptr) p52 λ(x53:Option Addr)=>drew<|lds c146 (at0 b1) λ(x54:(Sl×Int×Int×Int×Int×Bool×Bool×Unit))=>nn x53 λp55=>ld (.ptr) p55 λ(x56:Option Addr)=>nn x53 λp57=>lds c146 (p57.add 2) λ(x58:(Sl×Int×Int×Int×Int×Bool×Bool×Unit))=>nn x53 λp59=>ld (.ptr) (p59.add 1) λ(x60:Option Addr)=>nn a2 λp61=>lds c146 (p61.add 2) λ(x62:(Sl×Int×Int×Int×Int×Bool×Bool×Unit))=>nn a2 λp63=>ld (.ptr) (p63.add 1) λ(x64:Option Addr)=>Aa Tryz.prog 158 #[(.pointer a0),(vA c146 x54),(.pointer x56)] rP λ(x65:Option Addr)=>keep (λw=>w.cell? (p63.add 1)=some (Cell.val (.ptr) x64))<|keep (λw=>Aw w (p61.add 2) 0 (Cells.vals c146 x62))<|keep (λw=>w.cell? (p59.add 1)=some (Cell.val (.ptr) x60))<|keep (λw=>Aw w (p57.add 2) 0 (Cells.vals c146 x58))<|Aa Tryz.prog 158 #[(.pointer x60),(vA c146 x62),(.pointer x64)] rP λ(x66:Option Addr)=>keep (λw=>Aw w (p57.add 2) 0 (Cells.vals c146 x58))<|Aa Tryz.prog 158 #[(.pointer x65),(vA c146 x58),(.pointer x66)] rP λ(x67:Option Addr)=>K x67)) (lds c146 (at0 b1) λ(x68:(Sl×Int×Int×Int×Int×Bool×Bool×Unit))=>Aa Tryz.prog 158 #[(.pointer a0),(vA c146 x68),(.pointer a2)] rP λ(x69:Option Addr)=>K x69))
def Cu6:Hint:=(hS (hR 2) (hS (.block (hS (hR 7) (hC (hS (hS (.region [0,1,2,3,5,6,7,8,4,9,10] (hO 11)) (hC (hS (.region (lR 17) (hO 17)) hL) hL)) (hS (hR 5) (hS (.region [0,1,2,3,4,5,6,7,8,9,10,11,13,14,15,16,17,18,19,20,21,22,12,23,24,25] (hO 26)) hL))) (hS (hR 7) (hC (hS (hS (.region [0,1,2,3,5,6,7,8,4,9,10] (hO 11)) (hC (hS (.region [0,1,2,3,4,5,7,8,9,10,11,12,13,14,6,15,16] (hO 17)) hL) hL)) (hS (hR 5) (hS (.region [0,1,2,3,4,5,7,8,9,10,11,12,13,14,15,16,17,18,19,20,21,22,6,23,24,25] (hO 26)) hL))) hL))))) (hS (hR 5) hL)))
theorem Cq8 {a0:Option Addr}{a1:(Sl×Int×Int×Int×Int×Bool×Bool×Unit)}{a2:Option Addr}{K:Option Addr->Wp}{w:World}(h:F220 a0 a1 a2 K w):Aa Tryz.prog 220 #[(.pointer a0),(vA c146 a1),(.pointer a2)] rP K w:=tied Am Tryz.func220 Cu6 _ h
def F256 (a0:(Int×Int×Int×Bool×Bool×Unit)) (a1:Int) (K:Int->Wp):Wp:=Ad (.cells #[(vI a0.1),(vI a0.2.1),(vI a0.2.2.1),(.bool a0.2.2.2.1),(.bool a0.2.2.2.2.1)] 144) λb1=>sif (a1==0) (lI (at0 b1) λx2=>K x2) (sif (a1==1) (lI (ad b1 2) λx3=>K x3) (K 0))
def h256:Hint:=(hS (hR 2) (hS (hS (hR 1) (.block (hS (hR 2) (hC (hS (hR 3) hL) (hS (hR 2) (hC (hS (hR 3) hL) hL)))))) (hS (hR 1) hL)))
theorem Cq6 {a0:(Int×Int×Int×Bool×Bool×Unit)}{a1:Int}{K:Int->Wp}{w:World}(h:F256 a0 a1 K w):Aa Tryz.prog 256 #[(vA Bf a0),(vI a1)] rI K w:=tied Am Tryz.func256 h256 _ h
def F257 (a0:(Sl×Int×Int×Int×Int×Bool×Bool×Unit)) (K:(Int×Int×Int×Bool×Bool×Unit)->Wp):Wp:=Ad (.cells #[a0.1.v,(vI a0.2.1),(vI a0.2.2.1),(vI a0.2.2.2.1),(vI a0.2.2.2.2.1),(.bool a0.2.2.2.2.2.1),(.bool a0.2.2.2.2.2.2.1)] 146) λb1=>Ad (.cells #[(vI 0),(vI 0),(vI 0),(.bool false),(.bool false)] 144) λb2=>lds Bf (ad b1 2) λ(x3:(Int×Int×Int×Bool×Bool×Unit))=>Ae (at0 b2) (vA Bf x3) 5<|lds Bf (at0 b2) λ(x4:(Int×Int×Int×Bool×Bool×Unit))=>K x4
def Cu4:Hint:=(hS (hR 2) (hS (hR 3) hL))
theorem Cq5 {a0:(Sl×Int×Int×Int×Int×Bool×Bool×Unit)}{K:(Int×Int×Int×Bool×Bool×Unit)->Wp}{w:World}(h:F257 a0 K w):Aa Tryz.prog 257 #[(vA c146 a0)] (.one (.agg Bf)) K w:=tied Am Tryz.func257 Cu4 _ h
def F258 (a0:(Unit)) (a1:Sl) (a2:Int) (K:Sl->Wp):Wp:=Ad (.cells #[] 180) λb1=>lds Ba1 (at0 b1) λ(x2:(Unit))=>cN 259 #[(vA Ba1 x2),(vI a2)] λx3=>sif (decide (a2<0)) (Ad (.cells #[(.int .u8 (IntKind.wrap .u8 (IntKind.wrap .i64 ((-1)-a2))))] 5) λb4=>Dp Tryz.prog rS (Builtin.append_ #[30,30] 30 #[a1.v,(.slice (some (at0 b4)) 1 1)]) λ(x5:Sl)=>K x5) (sif (x3==1) (Ad (.cells #[(.int .u8 (IntKind.wrap .u8 a2))] 5) λb6=>Dp Tryz.prog rS (Builtin.append_ #[30,30] 30 #[a1.v,(.slice (some (at0 b6)) 1 1)]) λ(x7:Sl)=>K x7) (Ad (.cells #[(.int .u8 0),(.int .u8 0),(.int .u8 0),(.int .u8 0),(.int .u8 0)] 348) λb8=>Ae (at0 b8) (.agg #[(.int .u8 0),(.int .u8 0),(.int .u8 192),(.int .u8 224),(.int .u8 240)]) 5<|drew<|chk (0<=x3/\x3<((5:Nat):Int))<|ld (.int .u8) ((at0 b8).add (scaled (Int.toNat x3) 1)) λ(x9:Int)=>chk (0<=(IntKind.wrap .i64 (6*(IntKind.wrap .i64 (x3-1)))))<|Ad (.cells #[(.int .u8 (IntKind.wrap .u8 ((BitVec.toNat (BitVec.ofInt (IntKind.bits .u8) x9 ||| BitVec.ofInt (IntKind.bits .u8) (IntKind.wrap .u8 (Int.fdiv a2 (2^(min (Int.toNat (IntKind.wrap .i64 (6*(IntKind.wrap .i64 (x3-1))))) (IntKind.bits .i64)))))):Nat):Int)))] 5) λb10=>Dp Tryz.prog rS (Builtin.append_ #[30,30] 30 #[a1.v,(.slice (some (at0 b10)) 1 1)]) λ(x11:Sl)=>jS (λJ12=>Jv (S:=Sl×Int×Unit) (λs14 again15=>sif (decide (s14.2.1>=0)) (chk (0<=(IntKind.wrap .i64 (6*s14.2.1)))<|Ad (.cells #[(.int .u8 (IntKind.wrap .u8 ((BitVec.toNat (BitVec.ofInt (IntKind.bits .u8) 128 ||| BitVec.ofInt (IntKind.bits .u8) (IntKind.wrap .u8 ((BitVec.toNat (BitVec.ofInt (IntKind.bits .u8) (IntKind.wrap .u8 (Int.fdiv a2 (2^(min (Int.toNat (IntKind.wrap .i64 (6*s14.2.1))) (IntKind.bits .i64))))) &&& BitVec.ofInt (IntKind.bits .u8) 63):Nat):Int))):Nat):Int)))] 5) λb16=>Dp Tryz.prog rS (Builtin.append_ #[30,30] 30 #[s14.1.v,(.slice (some (at0 b16)) 1 1)]) λ(x17:Sl)=>again15 (x17,(IntKind.wrap .i64 (s14.2.1-1)),())) (J12 (s14.1,()))) (x11,(IntKind.wrap .i64 (x3-2)),())) λs13=>K s13.1))
def Cu3:Hint:=(hS (hR 2) (hS (hR 4) (hS (hS (hR 2) (hC (hS (hR 7) hL) hL)) (hS (hS (hR 2) (hC (hS (hR 6) hL) hL)) (hS (hR 3) (hS (.region (lR 14) (hO 14)) (hJ (0x3fffc0000000202,[(1,tS)]) (hS (hR 3) (.block (.loop 0x3fff00000000202 [(1,tS),(9,tI)] (hS (hS (hR 2) (hC hL hL)) (hS (.block (hR 11)) (hR 3)))))) (hS (hR 2) hL))))))))
theorem Cq4 {a0:(Unit)}{a1:Sl}{a2:Int}{K:Sl->Wp}{w:World}(h:F258 a0 a1 a2 K w):Aa Tryz.prog 258 #[(vA Ba1 a0),a1.v,(vI a2)] rS K w:=tied Am Tryz.func258 Cu3 _ h
def F259 (a0:(Unit)) (a1:Int) (K:Int->Wp):Wp:=Ad (.cells #[] 180) λb1=>jB (λJ2=>sif (decide (a1<(-256))) (J2 (true,())) (sif (decide (a1>(-129))) (sif (decide (a1<0)) (J2 (true,())) (sif (decide (a1>1114111)) (J2 (true,())) (sif (decide (a1>=55296)) (J2 ((decide (a1<=57343)),())) (J2 (false,()))))) (sif (decide (a1>1114111)) (J2 (true,())) (sif (decide (a1>=55296)) (J2 ((decide (a1<=57343)),())) (J2 (false,())))))) λs3=>sif s3.1 (K 0) (sif (decide (a1<128)) (K 1) (sif (decide (a1<2048)) (K 2) (sif (decide (a1<65536)) (K 3) (K 4))))
def Cu2:Hint:=(hS (hR 2) (hS (.block (hJ (0xfffffe0,[(5,tB)]) (.region [] (.ops 3 (.split 8 (.skips 6 (.ops 2 (.skips 2 (.ops 2 (.skips 6 (hO 2)))))) (.ops 3 (.split 11 (.ops 5 (.split 16 (.skips 2 (.ops 2 (.skips 6 (hO 2)))) (.ops 4 (.split 20 (.skips 6 (hO 2)) (.ops 3 (.split 23 (hO 5) (.skips 2 (hO 3)))))))) (.skips 2 (.ops 7 (.split 20 (.skips 6 (hO 2)) (.ops 3 (.split 23 (hO 5) (.skips 2 (hO 3)))))))))))) (hC (hS (hR 1) hL) (hS (hR 3) (hC (hS (hR 1) hL) (hS (hR 3) (hC (hS (hR 1) hL) (hS (hR 3) (hC (hS (hR 1) hL) hL))))))))) (hS (hR 1) hL)))
theorem Cq3 {a0:(Unit)}{a1:Int}{K:Int->Wp}{w:World}(h:F259 a0 a1 K w):Aa Tryz.prog 259 #[(vA Ba1 a0),(vI a1)] rI K w:=tied Am Tryz.func259 Cu2 _ h
def F275 (a0:(Int×Unit)) (a1:Sl) (K:(Int×Int×Unit)->Wp):Wp:=Ad (.cells #[(vI a0.1)] 263) λb1=>sif (((a1.len:Nat):Int)==1) (ixl (.int .u8) a1 0 1 λ(x3:Int)=>K ((IntKind.wrap .i64 ((-1)-(IntKind.wrap .i64 x3))),1,())) (lds Rz (at0 b1) λ(x4:(Int×Unit))=>cN 280 #[(vA Rz x4),a1.v] λx5=>jU (λJ6=>jB (λJ8=>cB 281 #[(vI x5)] λx10=>sif x10 (J8 ((decide (((a1.len:Nat):Int)>=4)),())) (J8 (false,()))) λs9=>sif s9.1 (drew<|lds Rz (at0 b1) λ(x11:(Int×Unit))=>slc a1.a 2 ((a1.len:Nat):Int) ((a1.cap:Nat):Int) a1.cap 1 λx12=>cN 280 #[(vA Rz x11),x12.v] λx13=>cB 282 #[(vI x13)] λx14=>sif x14 (chk (0<=(10:Int))<|K ((IntKind.wrap .i64 ((IntKind.wrap .i64 (65536+(IntKind.wrap .i64 ((IntKind.wrap .i64 ((BitVec.toNat (BitVec.ofInt (IntKind.bits .i64) x5 &&& BitVec.ofInt (IntKind.bits .i64) 1023):Nat):Int))*2^(min (Int.toNat 10) (IntKind.bits .i64))))))+(IntKind.wrap .i64 ((BitVec.toNat (BitVec.ofInt (IntKind.bits .i64) x13 &&& BitVec.ofInt (IntKind.bits .i64) 1023):Nat):Int)))),4,())) (J6 ())) (J6 ())) λs7=>K (x5,2,()))
def Cu1:Hint:=(hS (hR 3) (hS (hS (hR 3) (hC (hS (hR 7) hL) hL)) (hS (hR 4) (hJ (0x7ffff800b0,[]) (hJ (66584576,[(25,tB)]) (.region [] (.ops 3 (.split 21 (hO 4) (.skips 3 (hO 1))))) (hC (hS (.region (lR 5) (hO 5)) (hS (hR 2) (hC (hS (hR 9) hL) hL))) hL)) (hS (hR 3) hL)))))
theorem Cq2 {a0:(Int×Unit)}{a1:Sl}{K:(Int×Int×Unit)->Wp}{w:World}(h:F275 a0 a1 K w):Aa Tryz.prog 275 #[(vA Rz a0),a1.v] (.tup [(.one cI),(.one cI)]) K w:=tied Am Tryz.func275 Cu1 _ h
def F278 (a0:(Int×Unit)) (a1:Sl) (a2:Int) (K:Sl->Wp):Wp:=Ad (.cells #[(vI a0.1)] 263) λb1=>sif (decide (a2<0)) (Ad (.cells #[(.int .u8 (IntKind.wrap .u8 (IntKind.wrap .i64 ((-1)-a2))))] 5) λb2=>Dp Tryz.prog rS (Builtin.append_ #[30,30] 30 #[a1.v,(.slice (some (at0 b2)) 1 1)]) λ(x3:Sl)=>K x3) (sif (decide (a2<65536)) (lds Rz (at0 b1) λ(x4:(Int×Unit))=>cS 283 #[(vA Rz x4),a1.v,(vI a2)] λx5=>K x5) (drew<|lds Rz (at0 b1) λ(x6:(Int×Unit))=>lds Rz (at0 b1) λ(x7:(Int×Unit))=>chk (0<=(10:Int))<|cS 283 #[(vA Rz x7),a1.v,(vI (IntKind.wrap .i64 ((BitVec.toNat (BitVec.ofInt (IntKind.bits .i64) 55296 ||| BitVec.ofInt (IntKind.bits .i64) (Int.fdiv (IntKind.wrap .i64 (a2-65536)) (2^(min (Int.toNat 10) (IntKind.bits .i64))))):Nat):Int)))] λx8=>keep (λw=>Aw w (at0 b1) 0 (Cells.vals Rz x6))<|cS 283 #[(vA Rz x6),x8.v,(vI (IntKind.wrap .i64 ((BitVec.toNat (BitVec.ofInt (IntKind.bits .i64) 56320 ||| BitVec.ofInt (IntKind.bits .i64) (IntKind.wrap .i64 ((BitVec.toNat (BitVec.ofInt (IntKind.bits .i64) a2 &&& BitVec.ofInt (IntKind.bits .i64) 1023):Nat):Int))):Nat):Int)))] λx9=>K x9))
def Cu0:Hint:=(hS (hR 2) (hS (.block (hS (hR 3) (hC (hS (hR 7) hL) (hS (hR 3) (hC (hS (hR 5) hL) hL))))) (hS (.region [0,1,2,3,4,5,6,8,9,10,7,11,12] (hO 13)) hL)))
theorem Cq1 {a0:(Int×Unit)}{a1:Sl}{a2:Int}{K:Sl->Wp}{w:World}(h:F278 a0 a1 a2 K w):Aa Tryz.prog 278 #[(vA Rz a0),a1.v,(vI a2)] rS K w:=tied Am Tryz.func278 Cu0 _ h
def F279 (a0:(Int×Unit)) (a1:Int) (K:Int->Wp):Wp:=Ad (.cells #[(vI a0.1)] 263) λb1=>jB (λJ2=>sif (decide (a1<(-256))) (J2 (true,())) (J2 ((decide (a1>1114111)),()))) λs3=>sif s3.1 (K 0) (sif (decide (a1<0)) (K 1) (sif (decide (a1<65536)) (K 2) (K 4)))
def Ct9:Hint:=(hS (hR 2) (hS (.block (hJ (4064,[(5,tB)]) (.region [] (.ops 3 (.split 8 (.skips 2 (hO 2)) (hO 4)))) (hC (hS (hR 1) hL) (hS (hR 3) (hC (hS (hR 1) hL) (hS (hR 3) (hC (hS (hR 1) hL) hL))))))) (hS (hR 1) hL)))
theorem Cq0 {a0:(Int×Unit)}{a1:Int}{K:Int->Wp}{w:World}(h:F279 a0 a1 K w):Aa Tryz.prog 279 #[(vA Rz a0),(vI a1)] rI K w:=tied Am Tryz.func279 Ct9 _ h
def F280 (a0:(Int×Unit)) (a1:Sl) (K:Int->Wp):Wp:=Ad (.cells #[(vI a0.1)] 263) λb1=>drew<|lI (at0 b1) λx2=>ixl (.int .u8) a1 x2 1 λ(x4:Int)=>lI (at0 b1) λx5=>ixl (.int .u8) a1 (IntKind.wrap .i64 (1-x5)) 1 λ(x7:Int)=>chk (0<=(8:Int))<|K (IntKind.wrap .i64 ((BitVec.toNat (BitVec.ofInt (IntKind.bits .i64) (IntKind.wrap .i64 x4) ||| BitVec.ofInt (IntKind.bits .i64) (IntKind.wrap .i64 ((IntKind.wrap .i64 x7)*2^(min (Int.toNat 8) (IntKind.bits .i64))))):Nat):Int))
def Ct8:Hint:=(hS (hR 2) (hS (.region (lR 16) (hO 16)) hL))
theorem Cp9 {a0:(Int×Unit)}{a1:Sl}{K:Int->Wp}{w:World}(h:F280 a0 a1 K w):Aa Tryz.prog 280 #[(vA Rz a0),a1.v] rI K w:=tied Am Tryz.func280 Ct8 _ h
def F281 (a0:Int) (K:Bool->Wp):Wp:=K ((IntKind.wrap .i64 ((BitVec.toNat (BitVec.ofInt (IntKind.bits .i64) a0 &&& ~~~(BitVec.ofInt (IntKind.bits .i64) 1023)):Nat):Int))==55296)
def Ct7:Hint:=(hS (hR 1) (hS (hR 4) hL))
theorem Cp8 {a0:Int}{K:Bool->Wp}{w:World}(h:F281 a0 K w):Aa Tryz.prog 281 #[(vI a0)] rB K w:=tied Am Tryz.func281 Ct7 _ h
def F282 (a0:Int) (K:Bool->Wp):Wp:=K ((IntKind.wrap .i64 ((BitVec.toNat (BitVec.ofInt (IntKind.bits .i64) a0 &&& ~~~(BitVec.ofInt (IntKind.bits .i64) 1023)):Nat):Int))==56320)
def Ct6:Hint:=(hS (hR 1) (hS (hR 4) hL))
theorem Cp7 {a0:Int}{K:Bool->Wp}{w:World}(h:F282 a0 K w):Aa Tryz.prog 282 #[(vI a0)] rB K w:=tied Am Tryz.func282 Ct6 _ h
def F283 (a0:(Int×Unit)) (a1:Sl) (a2:Int) (K:Sl->Wp):Wp:=Ad (.cells #[(vI a0.1)] 263) λb1=>Ad (.cells #[(.int .u8 0),(.int .u8 0)] 352) λb2=>drew<|lI (at0 b1) λx3=>lI (at0 b1) λx4=>chk (0<=(8:Int))<|chk (0<=x3/\x3<((2:Nat):Int))<|stC ((at0 b2).add (scaled (Int.toNat x3) 1)) (.int .u8 (IntKind.wrap .u8 a2))<|keep (λw=>w.cell? (at0 b1)=some (Cell.val cI x4))<|chk (0<=(IntKind.wrap .i64 (1-x4))/\(IntKind.wrap .i64 (1-x4))<((2:Nat):Int))<|stC ((at0 b2).add (scaled (Int.toNat (IntKind.wrap .i64 (1-x4))) 1)) (.int .u8 (IntKind.wrap .u8 (Int.fdiv a2 (2^(min (Int.toNat 8) (IntKind.bits .i64))))))<|slc (some (at0 b2)) 0 ((2:Nat):Int) ((2:Nat):Int) 2 1 λx5=>Dp Tryz.prog rS (Builtin.append_ #[30,30] 30 #[a1.v,x5.v]) λ(x6:Sl)=>K x6
def Ct5:Hint:=(hS (hR 2) (hS (hR 1) (hS (.region (lR 14) (hO 14)) (hS (hR 4) hL))))
theorem Cp6 {a0:(Int×Unit)}{a1:Sl}{a2:Int}{K:Sl->Wp}{w:World}(h:F283 a0 a1 a2 K w):Aa Tryz.prog 283 #[(vA Rz a0),a1.v,(vI a2)] rS K w:=tied Am Tryz.func283 Ct5 _ h
def F284 (a0:(Unit)) (a1:Sl) (K:(Int×Int×Unit)->Wp):Wp:=Ad (.cells #[] 264) λb1=>ixl (.int .u8) a1 0 1 λ(x3:Int)=>K ((IntKind.wrap .i64 x3),1,())
def Ct4:Hint:=(hS (hR 3) (hS (hR 6) hL))
theorem Cp5 {a0:(Unit)}{a1:Sl}{K:(Int×Int×Unit)->Wp}{w:World}(h:F284 a0 a1 K w):Aa Tryz.prog 284 #[(vA Bt4 a0),a1.v] (.tup [(.one cI),(.one cI)]) K w:=tied Am Tryz.func284 Ct4 _ h
def F287 (a0:(Unit)) (a1:Sl) (a2:Int) (K:Sl->Wp):Wp:=Ad (.cells #[] 264) λb1=>Ad (.cells #[(.int .u8 (IntKind.wrap .u8 a2))] 5) λb2=>Dp Tryz.prog rS (Builtin.append_ #[30,30] 30 #[a1.v,(.slice (some (at0 b2)) 1 1)]) λ(x3:Sl)=>K x3
def Ct3:Hint:=(hS (hR 2) (hS (hR 6) hL))
theorem Cp4 {a0:(Unit)}{a1:Sl}{a2:Int}{K:Sl->Wp}{w:World}(h:F287 a0 a1 a2 K w):Aa Tryz.prog 287 #[(vA Bt4 a0),a1.v,(vI a2)] rS K w:=tied Am Tryz.func287 Ct3 _ h
def F288 (a0:(Unit)) (a1:Int) (K:Int->Wp):Wp:=Ad (.cells #[] 264) λb1=>jB (λJ2=>sif (decide (a1<0)) (J2 (true,())) (J2 ((decide (a1>255)),()))) λs3=>sif s3.1 (K 0) (K 1)
def Ct2:Hint:=(hS (hR 2) (hS (hJ (2016,[(10,tB)]) (.region [] (.ops 3 (.split 7 (.skips 2 (hO 1)) (hO 3)))) (hC (hS (hR 1) hL) hL)) (hS (hR 1) hL)))
theorem Cp3 {a0:(Unit)}{a1:Int}{K:Int->Wp}{w:World}(h:F288 a0 a1 K w):Aa Tryz.prog 288 #[(vA Bt4 a0),(vI a1)] rI K w:=tied Am Tryz.func288 Ct2 _ h
end Go.Proofs.YtmooldhpiopcgaaGreatDoor
namespace Go.Proofs.YtmooldhpiopcgaaGreatDoor
open Go Go.Vx Cdc
section
variable {w w':World}
theorem func_x {g:FuncId}{caps args:Array Value}{t:RTy}{K:t.T->Wp}(hf:((Tryz.prog.funcs[g]?).map λfn=>(fn.body.isNone,fn.name == "runtime.NumGoroutine"))=some (false,false)) (h:Aa Tryz.prog g (args++caps) t K w) :
  Bg Tryz.prog (do let d ←Deferred.ofValue (.func (.func g) #[] caps) args;invoke d.target d.args:Sem Next) t K w:=by
 refine .inl ⟨g,args++caps,?_,h⟩
 have:=Gg (P:=Tryz.prog) (f:=g) (args:=args++caps) hf w
 simp only [Deferred.ofValue,pure_bind,invoke]
 have e:(#[]++args++caps:Array Value)=args++caps:=by simp
 first
  |exact this
  |(rw [e];exact this)
theorem Hr {ty:TypeId}{v v':Value}{name:String}{f:FuncId}{a:Value}{t:RTy}{K:t.T->Wp}(hm:∀w,(Go.method (Tryz.prog.types.size+Made.depth) ty v name).run Tryz.prog w=.ok (f,v') w)
  (hf:((Tryz.prog.funcs[f]?).map λfn=>(fn.body.isNone,fn.name == "runtime.NumGoroutine"))=some (false,false)) (h:Aa Tryz.prog f #[v',a] t K w) :
  Bg Tryz.prog (invoke (.fn (.method name) #[]) (#[.iface ty v]++#[a])) t K w:=by
 refine .inl ⟨f,#[v',a],?_,h⟩
 have h:=Gg (P:=Tryz.prog) (f:=f) (args:=#[v',a]) hf w
 have e:invoke (.fn (.method name) #[]) (#[.iface ty v]++#[a])=callMethod (.iface ty v) name #[a]:=rfl
 rw [e]
 simp only [callMethod,Sem.run_bind,program,Sem.run,Result.andThen_ok,hm]
 exact h
theorem D7 {ty:TypeId}{v v':Value}{name:String}{f:FuncId}{a b:Value}{t:RTy}{K:t.T->Wp}(hm:∀w,(Go.method (Tryz.prog.types.size+Made.depth) ty v name).run Tryz.prog w=.ok (f,v') w)
  (hf:((Tryz.prog.funcs[f]?).map λfn=>(fn.body.isNone,fn.name == "runtime.NumGoroutine"))=some (false,false)) (h:Aa Tryz.prog f #[v',a,b] t K w) :
  Bg Tryz.prog (invoke (.fn (.method name) #[]) (#[.iface ty v]++#[a,b])) t K w:=by
 refine .inl ⟨f,#[v',a,b],?_,h⟩
 have h:=Gg (P:=Tryz.prog) (f:=f) (args:=#[v',a,b]) hf w
 have e:invoke (.fn (.method name) #[]) (#[.iface ty v]++#[a,b])=callMethod (.iface ty v) name #[a,b]:=rfl
 rw [e]
 simp only [callMethod,Sem.run_bind,program,Sem.run,Result.andThen_ok,hm]
 exact h
abbrev By (w:World) (s:Sl) (l:Bs):Prop:=Cj w s 5 1 (bv l)
theorem By.len {s:Sl}{l:Bs}(h:By w s l):l.length=s.len:=by have:=h.len1;rwa [List.length_map] at this
theorem Ci1 (l:Bs):bv l=(l.map λb=>(b.toNat:Int)).map (Cell.int .u8).val:=by
 rw [List.map_map];rfl
theorem Oj {s:Sl}{l:Bs}{n:Int}{K:Addr->Int->Wp}(h:By w s l) (h0:0<=n){b:UInt8}(hb:l[n.toNat]?=some b) (hK:∀p,K p (b.toNat:Int) w) :
  ix s.a s.len n (λp=>ld (.int .u8) (p.add (scaled (Int.toNat n) 1)) (K p)) w:=by
 have h':Cj w s 5 1 ((l.map λb=>(b.toNat:Int)).map (Cell.int .u8).val):=by rw [←Ci1];exact h
 exact Zg h' h0 (x:=(b.toNat:Int)) (by rw [List.getElem?_map,hb];rfl) hK
theorem Ca7 (l:Bs) (n:Nat):(bv l).drop n=bv (l.drop n):=by simp [bv]
theorem Ca6 (l:Bs) (n:Nat):(bv l).take n=bv (l.take n):=by simp [bv]
theorem Xp {s:Sl}{l:Bs}{a b m:Int}{K:Sl->Wp}(hs:By w s l) (h0:0<=a) (h1:a<=b) (h2:b<=s.len) (h3:b<=m) (h4:m<=s.cap)
  (hK:∀s',By w s' ((l.drop a.toNat).take (b.toNat-a.toNat))->s'.len=b.toNat-a.toNat->(∀k,s'.blk k->s.blk k)->K s' w):slc s.a a b m s.cap 1 K w :=
 Qa hs h0 h1 h2 h3 h4 λs' hs' hl _ hb=>hK s' (by
  rw [Nat.mul_one,Nat.mul_one,Ca7,Ca6] at hs';exact hs') hl hb
theorem As9 {c:UInt8}{K:Int×Int×Int×Unit->Wp}(hK:K (((Io c.toNat).1:Nat),((Io c.toNat).2.1:Nat),((Io c.toNat).2.2:Nat),()) w) :
  Aa Tryz.prog 165 #[.int .u8 (c.toNat:Int)] (.tup [(.one (.int .i64)),(.one (.int .u8)),(.one (.int .u8))]) K w:=by
 refine Cs2 ?_
 unfold F165
 have hlt:=c.toNat_lt
 unfold Io at hK
 repeat' refine Ac (λh=>?_) (λh=>?_)
 all_goals simp only [decide_eq_true_eq,decide_eq_false_iff_not,beq_iff_eq,beq_eq_false_iff_ne] at *
 all_goals
  repeat rw [if_pos (by omega)] at hK
  repeat rw [if_neg (by omega)] at hK
  repeat rw [if_pos (by omega)] at hK
  exact hK
theorem Ae7 {c:UInt8}:∀{m:Nat}{r:Bs}{j:Nat},j<=more m r->(j<m/\r[j]?=some c/\cont c=true->j<more m r)
 |0,r,j,_=>λh=>absurd h.1 (by omega)
 |m+1,[],j,_=>λh=>by simp at h
 |m+1,b::r,0,_=>λh=>by
  simp at h
  simp [more,h]
 | m+1,b::r,j+1,hj=>λh=>by
  simp only [more] at hj ⊢
  split at hj
  ·rename_i hb
   rw [if_pos hb]
   have:=Ae7 (c:=c) (m:=m) (r:=r) (j:=j) (by omega) ⟨by omega,by simpa using h.2.1,h.2.2⟩
   omega
  ·omega
theorem Ae8:∀{m:Nat}{r:Bs}{j:Nat},j<more m r->∃c,r[j]?=some c/\cont c=true
 |0,r,j,h=>by cases r<;>simp [more] at h
 |m+1,[],j,h=>by simp [more] at h
 |m+1,b::r,0,h=>by
  simp only [more] at h
  split at h
  ·rename_i hb;exact ⟨b,rfl,hb⟩
  ·omega
 | m+1,b::r,j+1,h=>by
  simp only [more] at h
  split at h
  ·obtain ⟨c,hc⟩:=Ae8 (m:=m) (r:=r) (j:=j) (by omega)
   exact ⟨c,by simpa using hc⟩
  ·omega
theorem Bk0:∀c:UInt8,((IntKind.wrap .u8 ((BitVec.toNat (BitVec.ofInt (IntKind.bits .u8) (c.toNat:Int) &&& BitVec.ofInt (IntKind.bits .u8) (192:Int)):Nat):Int))==(128:Int))=cont c:=by
 intro c
 have h:∀n:Fin 256,((IntKind.wrap .u8 ((BitVec.toNat (BitVec.ofInt (IntKind.bits .u8) (n.val:Int) &&& BitVec.ofInt (IntKind.bits .u8) (192:Int)):Nat):Int))==(128:Int))=(n.val/64==2):=by decide +kernel
 exact h ⟨c.toNat,c.toNat_lt⟩
theorem Bo1 {s:Sl} {b:UInt8} {r:Bs} (hB:By w s (b::r)) {K:Int×Int×Unit->Wp} (hK:K (((rowOf (b::r)).1:Nat),((rowOf (b::r)).2:Nat),()) w) :
  Aa Tryz.prog 135 #[s.v] (.tup [(.one (.int .i64)),(.one (.int .i64))]) K w:=by
 refine j135 ?_
 unfold F135
 have hlen:r.length+1=s.len:=hB.len
 refine Oj hB (by decide) (b:=b) rfl λp=>As9 ?_
 have h4:=Al5 b.toNat
 have hbr:=Oc b r
 refine Ac (λh=>?_) (λh=>?_)
 ·simp only [decide_eq_true_eq] at h
  have h2:(Io b.toNat).1<2:=by omega
  simp only [rowOf,if_pos h2] at hK
  exact hK
 simp only [decide_eq_false_iff_not] at h
 have h2:¬(Io b.toNat).1<2:=by omega
 cases r with
 | nil =>
  simp only [rowOf,if_neg h2] at hK
  have:s.len=1:=by simpa using hlen.symm
  refine Ag (λx w'=>x=(true,())/\w=w') (Ac (λ_=>⟨rfl,rfl⟩) (λh=>?_)) ?_
  ·simp only [decide_eq_false_iff_not] at h;omega
  ·rintro _ w' ⟨rfl,rfl⟩
   exact Di hK
 | cons c r =>
  have hl2:r.length+2=s.len:=by simpa using hlen
  refine Ag (λx w'=>x=(decide (c.toNat<(Io b.toNat).2.1\/(Io b.toNat).2.2<c.toNat),())/\w=w') (Ac (λh=>?_) (λ_=>?_)) ?_
  ·simp only [decide_eq_true_eq] at h;omega
  ·refine Oj hB (by decide) (b:=c) rfl λp=>Ac (λh=>?_) (λh=>Oj hB (by decide) (b:=c) rfl λp=>?_)
   ·simp only [decide_eq_true_eq] at h
    exact ⟨by rw [decide_eq_true (by omega)],rfl⟩
   ·simp only [decide_eq_false_iff_not] at h
    refine ⟨Dx ?_,rfl⟩
    simp only [decide_eq_true_eq]
    omega
  ·rintro _ w' ⟨rfl,rfl⟩
   refine Ac (λh=>?_) (λh=>?_)
   ·simp only [decide_eq_true_eq] at h
    simp only [rowOf,if_neg h2,if_pos h] at hK
    exact hK
   ·simp only [decide_eq_false_iff_not] at h
    simp only [rowOf,if_neg h2,if_neg h] at hK
    generalize hm:(Io b.toNat).1-2=m at hK
    have hn:(Io b.toNat).1=m+2:=by omega
    rw [hn] at hK ⊢
    refine Ag (λx w'=>x=(((2+more m r:Nat):Int),())/\w=w') ?_ ?_
    ·refine Bz (λx w'=>(∃j:Nat,x=(((2+j:Nat):Int),())/\j<=more m r)/\w=w') (λx _=>(m+2-x.1.toNat)) ⟨⟨0,rfl,Nat.zero_le _⟩,rfl⟩ ?_
     rintro _ w' ⟨⟨j,rfl,hj⟩,rfl⟩
     have hmo:=Aj6 m r
     refine Ag (λx w'=>x=(decide (j<more m r),())/\w=w') ?_ ?_
     ·refine Ac (λh=>?_) (λh=>?_)
      ·simp only [decide_eq_true_eq] at h
       refine Ac (λh'=>?_) (λh'=>?_)
       ·simp only [decide_eq_true_eq] at h'
        have hjl:j<r.length:=by omega
        have hx:(b::c::r)[((2+j:Nat):Int).toNat]?=some r[j]:=by
         have:((2+j:Nat):Int).toNat=j+2:=by omega
         rw [this];simp [hjl]
        refine Oj hB (by omega) hx λp=>⟨?_,rfl⟩
        rw [Bk0]
        refine Dx ?_
        simp only [decide_eq_true_eq]
        refine ⟨λhc=>Ae7 (c:=r[j]) hj ⟨by omega,by simp [hjl],hc⟩,λhc=>?_⟩
        obtain ⟨c',h1,h2⟩:=Ae8 hc
        rw [List.getElem?_eq_getElem hjl] at h1
        cases h1;exact h2
       ·simp only [decide_eq_false_iff_not] at h'
        exact ⟨by rw [decide_eq_false (by omega)],rfl⟩
      ·simp only [decide_eq_false_iff_not] at h
       exact ⟨by rw [decide_eq_false (by omega)],rfl⟩
     ·rintro _ w' ⟨rfl,rfl⟩
      refine Ac (λh=>?_) (λh=>?_)
      ·simp only [decide_eq_true_eq] at h
       have e:IntKind.wrap .i64 (((2+j:Nat):Int)+1)=((2+(j+1):Nat):Int):=by rw [wrap64 (by omega) (by omega)];omega
       rw [e]
       exact ⟨⟨⟨j+1,rfl,h⟩,rfl⟩,by simp only;omega⟩
      ·simp only [decide_eq_false_iff_not] at h
       have:j=more m r:=by omega
       exact ⟨by rw [this],rfl⟩
    ·rintro _ w' ⟨rfl,rfl⟩
     exact hK
theorem Bg2 (a:Nat) (l:Bs) (c:UInt8):rest a (l++[c])=rest a l*64+c.toNat%64:=by simp [rest]
theorem Bc0:∀(l:Bs) (a:Nat),rest a l<(a+1)*64^l.length
 |[],a=>by simp [rest]
 | c::l,a=>by
  have:=Bc0 l (a*64+c.toNat%64)
  have e:rest a (c::l)=rest (a*64+c.toNat%64) l:=rfl
  rw [e,List.length_cons,Nat.pow_succ]
  refine Nat.lt_of_lt_of_le this ?_
  have h:a*64+c.toNat%64+1<=(a+1)*64:=by omega
  calc (a*64+c.toNat%64+1)*64^l.length<=(a+1)*64*64^l.length:=Nat.mul_le_mul_right _ h
   _=(a+1)*(64^l.length*64):=by rw [Nat.mul_assoc,Nat.mul_comm 64]
theorem Xz (c:UInt8) (k:Nat) (hk:k<=8):IntKind.wrap .i64 ((BitVec.toNat (BitVec.ofInt (IntKind.bits .i64) (IntKind.wrap .i64 (c.toNat:Int)) &&& BitVec.ofInt (IntKind.bits .i64) (2^k-1)):Nat):Int)=((c.toNat%2^k:Nat):Int):=by
 have hc:=c.toNat_lt
 rw [wrap64 (a:=(c.toNat:Int)) (by omega) (by omega)]
 have h:=Yj (b:=IntKind.bits .i64) (k:=k) (a:=(c.toNat:Int)) (m:=2^k-1) (by omega) (by show (c.toNat:Int)<2^64;omega) rfl (by show k<=64;omega)
 rw [h,Int.natCast_emod]
 have e:((2^k:Nat):Int)=(2:Int)^k:=by simp
 rw [e]
 have h0:(0:Int)<2^k:=Int.pow_pos (by decide)
 have h1:(c.toNat:Int)%2^k<=(c.toNat:Int):=by
  rw [←e,←Int.natCast_emod]
  exact_mod_cast Nat.mod_le _ _
 have h2:=Int.emod_nonneg (c.toNat:Int) (Int.ne_of_gt h0)
 exact wrap64 (by omega) (by omega)
theorem Ck8 (c:UInt8):IntKind.wrap .i64 ((BitVec.toNat (BitVec.ofInt (IntKind.bits .i64) (IntKind.wrap .i64 (c.toNat:Int)) &&& BitVec.ofInt (IntKind.bits .i64) (31:Int)):Nat):Int)=((c.toNat%32:Nat):Int):=Xz c 5 (by decide)
theorem Ck9 (c:UInt8):IntKind.wrap .i64 ((BitVec.toNat (BitVec.ofInt (IntKind.bits .i64) (IntKind.wrap .i64 (c.toNat:Int)) &&& BitVec.ofInt (IntKind.bits .i64) (15:Int)):Nat):Int)=((c.toNat%16:Nat):Int):=Xz c 4 (by decide)
theorem Cl0 (c:UInt8):IntKind.wrap .i64 ((BitVec.toNat (BitVec.ofInt (IntKind.bits .i64) (IntKind.wrap .i64 (c.toNat:Int)) &&& BitVec.ofInt (IntKind.bits .i64) (7:Int)):Nat):Int)=((c.toNat%8:Nat):Int):=Xz c 3 (by decide)
theorem go_bits (a:Nat) (c:UInt8) (ha:a<2^40):IntKind.wrap .i64 ((BitVec.toNat (BitVec.ofInt (IntKind.bits .i64) (IntKind.wrap .i64 ((a:Int)*2^(min (Int.toNat (6:Int)) (IntKind.bits .i64)))) ||| BitVec.ofInt (IntKind.bits .i64) (IntKind.wrap .i64 (IntKind.wrap .u8 ((BitVec.toNat (BitVec.ofInt (IntKind.bits .u8) (c.toNat:Int) &&& BitVec.ofInt (IntKind.bits .u8) (63:Int)):Nat):Int)))):Nat):Int)=((a*64+c.toNat%64:Nat):Int):=by
 have hc:=c.toNat_lt
 have h1:=Yj (b:=IntKind.bits .u8) (k:=6) (a:=(c.toNat:Int)) (m:=63) (by omega) (by show (c.toNat:Int)<2^8;omega) rfl (by decide)
 rw [h1,Vs (by omega) (by omega),wrap64 (a:=(c.toNat:Int)%2^6) (by omega) (by omega)]
 have e:((2:Int)^(min (Int.toNat (6:Int)) (IntKind.bits .i64)))=2^6:=rfl
 rw [e,wrap64 (a:=(a:Int)*2^6) (by omega) (by omega)]
 have h2:=Qc (b:=IntKind.bits .i64) (k:=6) (a:=(a:Int)) (c:=(c.toNat:Int)%2^6) (by omega) (by omega) (by omega) (by show _<(2:Int)^64;omega)
 rw [h2,wrap64 (by omega) (by omega)]
 omega
theorem Zj {s:Sl}{b:UInt8}{r:Bs}(hB:By w s (b::r)){K:Int×Int×Unit->Wp}(hK:∀w',Ext w w'->K ((nx8 (b::r)).1,((nx8 (b::r)).2:Nat),()) w') :
  Aa Tryz.prog 95 #[.agg #[],s.v] (.tup [(.one (.int .i64)),(.one (.int .i64))]) K w:=by
 refine j95 (a0:=()) ?_
 unfold F95
 have hlen:r.length+1=s.len:=hB.len
 have hb:=b.toNat_lt
 refine Aq λ_ w1 e1 _ _ _=>?_
 have hB1:By w1 s (b::r):=hB.ext e1
 refine Bo1 hB1 ?_
 have hro:=O6 b r
 have hrb:=Oc b r
 have h4:=Al5 b.toNat
 have hcap:=hB.le
 replace hK:=hK w1 e1
 simp only [nx8] at hK
 generalize hn:(rowOf (b::r)).2=n at *
 generalize hh:(rowOf (b::r)).1=h at *
 refine Ag (λx w'=>x=(decide (n=0\/h<n),())/\w1=w') (Ac (λhc=>?_) (λhc=>?_)) ?_
 ·simp only [beq_iff_eq] at hc
  exact ⟨by rw [decide_eq_true (by omega)],rfl⟩
 ·simp only [beq_eq_false_iff_ne] at hc
  refine ⟨Dx ?_,rfl⟩
  simp only [decide_eq_true_eq];omega
 rintro _ w' ⟨rfl,rfl⟩
 refine Ac (λhc=>?_) (λhc=>?_)
 ·simp only [decide_eq_true_eq] at hc
  rw [if_pos hc] at hK
  refine Oj hB1 (by decide) (b:=b) rfl λp=>?_
  rw [wrap64 (a:=(b.toNat:Int)) (by omega) (by omega),wrap64 (by omega) (by omega)]
  exact hK
 simp only [decide_eq_false_iff_not] at hc
 rw [if_neg hc] at hK
 refine Oj hB1 (by decide) (b:=b) rfl λp=>?_
 have hlt:lead n b.toNat<256:=by unfold lead;(repeat' split)<;>omega
 refine Ag (λx w'=>x=(((lead n b.toNat:Nat):Int),())/\w1=w') ?_ ?_
 ·unfold lead
  refine Ac (λhc=>?_) (λhc=>Ac (λhc=>?_) (λhc=>Ac (λhc=>?_) (λhc=>?_)))
  all_goals simp only [beq_iff_eq,beq_eq_false_iff_ne] at *
  ·rw [Ck8,if_pos (by omega)];exact ⟨rfl,trivial⟩
  ·rw [Ck9,if_neg (by omega),if_pos (by omega)];exact ⟨rfl,trivial⟩
  ·rw [Cl0,if_neg (by omega),if_neg (by omega),if_pos (by omega)];exact ⟨rfl,trivial⟩
  ·rw [if_neg (by omega),if_neg (by omega),if_neg (by omega),wrap64 (by omega) (by omega)];exact ⟨rfl,trivial⟩
 rintro _ w' ⟨rfl,rfl⟩
 simp only
 generalize hld:lead n b.toNat=ld at *
 refine Ag (λx w'=>x=(((rest ld (r.take (n-1)):Nat):Int),())/\w1=w') ?_ ?_
 ·simp only [List.length_cons] at hro
  refine Xp hB1 (by decide) (by omega) (by omega) (by omega) (by omega) λs' hs' hl' _=>?_
  have hR:((b::r).drop (Int.toNat 1)).take (((n:Nat):Int).toNat-Int.toNat 1)=r.take (n-1):=by
   have:((n:Nat):Int).toNat-Int.toNat 1=n-1:=by omega
   rw [this];rfl
  rw [hR] at hs'
  generalize hRR:r.take (n-1)=R at *
  have hRl:R.length=s'.len:=hs'.len
  have hR3:R.length<=3:=by rw [←hRR,List.length_take];omega
  refine Bz (λx w'=>(∃i:Nat,x=(((rest ld (R.take i):Nat):Int),(i:Int),())/\i<=R.length)/\w1=w') (λx _=>R.length-x.2.1.toNat) ⟨⟨0,by simp [rest],Nat.zero_le _⟩,rfl⟩ ?_
  rintro _ w' ⟨⟨i,rfl,hi⟩,rfl⟩
  refine Ac (λhc=>?_) (λhc=>?_)
  ·simp only [decide_eq_true_eq] at hc
   have hiR:i<R.length:=by omega
   refine Oj hs' (by simp only;omega) (b:=R[i]) (by simp [hiR]) λp=>Gf (by decide) ?_
   have hlt2:=Bc0 (R.take i) ld
   have hb2:rest ld (R.take i)<2^40:=by
    refine Nat.lt_of_lt_of_le hlt2 ?_
    have h1:64^(R.take i).length<=64^3:=Nat.pow_le_pow_right (by decide) (by rw [List.length_take];omega)
    calc (ld+1)*64^(R.take i).length<=256*64^3:=Nat.mul_le_mul (by omega) h1
     _<=2^40:=by decide
   dsimp only
   rw [go_bits _ _ hb2]
   have e:rest ld (R.take i)*64+R[i].toNat%64=rest ld (R.take (i+1)):=by
    rw [←Bg2,List.take_append_getElem]
   rw [e,wrap64 (by omega) (by omega)]
   exact ⟨⟨⟨i+1,rfl,hiR⟩,rfl⟩,by omega⟩
  ·simp only [decide_eq_false_iff_not] at hc
   have:i=R.length:=by omega
   subst this
   rw [List.take_length]
   exact ⟨rfl,rfl⟩
 rintro _ w' ⟨rfl,rfl⟩
 exact hK
end
end Go.Proofs.YtmooldhpiopcgaaGreatDoor
namespace Go.Proofs.YtmooldhpiopcgaaGreatDoor
open Go Go.Vx Trx
section
variable {w w':World}
def smT (s:Ee):Cells.T Bf:=((s.atoms:Int),(s.bytes:Int),(s.breaks:Int),s.lf,s.cr,())
def pcT (x:Pc):Cells.T c146:=(x.bytes,x.tag,(x.sm.atoms:Int),(x.sm.bytes:Int),(x.sm.breaks:Int),x.sm.lf,x.sm.cr,())
abbrev smV (s:Ee):Value:=.agg (Cells.vals Bf (smT s)).toArray
abbrev pcV (x:Pc):Value:=.agg (Cells.vals c146 (pcT x)).toArray
theorem By7 {ty:TypeId}{v v':Value}{name:String}{f:FuncId}{t:RTy}{K:t.T->Wp}(hm:∀w,(Go.method (Tryz.prog.types.size+Made.depth) ty v name).run Tryz.prog w=.ok (f,v') w)
  (hf:((Tryz.prog.funcs[f]?).map λfn=>(fn.body.isNone,fn.name == "runtime.NumGoroutine"))=some (false,false)) (h:Aa Tryz.prog f #[v'] t K w) :
  Bg Tryz.prog (invoke (.fn (.method name) #[]) (#[.iface ty v]++#[])) t K w:=by
 refine .inl ⟨f,#[v'],?_,h⟩
 have h:=Gg (P:=Tryz.prog) (f:=f) (args:=#[v']) hf w
 have e:invoke (.fn (.method name) #[]) (#[.iface ty v]++#[])=callMethod (.iface ty v) name #[]:=rfl
 rw [e]
 simp only [callMethod,Sem.run_bind,program,Sem.run,Result.andThen_ok,hm]
 exact h
theorem Aa4 {s o:Ee}(hs:s.Ok) (ho:o.Ok) (hb:s.bytes+o.bytes<2^60){K:Cells.T Bf->Wp}(hK:∀w',Ext w w'->K (smT (s.add o)) w') :
  Aa Tryz.prog 127 #[smV s,smV o] (.one (.agg Bf)) K w:=by
 have h1:=hs.byt;have h2:=hs.brk;have h3:=ho.byt;have h4:=ho.brk
 refine j127 (a0:=smT s) (a1:=smT o) ?_
 unfold F127
 refine (St.start w).Ad λb1 w1 S1 e1=>S1.Ad λb2 w2 S2 e2=>S2.Ad λb3 w3 S3 e3=>?_
 refine S3.ld 2 rfl (x:=((s.atoms:Nat):Int)) rfl ?_
 refine Ac (λh=>?_) (λh=>?_)
 ·have h0:s.atoms=0:=by simp only [beq_iff_eq] at h;omega
  refine S3.lds 1 (smT o) rfl (S3.Ae 0 rfl rfl rfl rfl λw4 S4 u4=>S4.lds 0 (smT o) rfl ?_)
  have:=hK w4 S4.upd
  rwa [show s.add o=o by unfold Ee.add;rw [if_pos h0]] at this
 have h0:¬s.atoms=0:=by simp only [beq_eq_false_iff_ne] at h;omega
 refine S3.ld 1 rfl (x:=((o.atoms:Nat):Int)) rfl (Ac (λh=>?_) (λh=>?_))
 ·have h0':o.atoms=0:=by simp only [beq_iff_eq] at h;omega
  refine S3.lds 2 (smT s) rfl (S3.Ae 0 rfl rfl rfl rfl λw4 S4 u4=>S4.lds 0 (smT s) rfl ?_)
  have:=hK w4 S4.upd
  rwa [show s.add o=s by unfold Ee.add;rw [if_neg h0,if_pos h0']] at this
 have h0':¬o.atoms=0:=by simp only [beq_eq_false_iff_ne] at h;omega
 refine S3.ld 2 rfl (x:=((s.atoms:Nat):Int)) rfl (S3.ld 1 rfl (x:=((o.atoms:Nat):Int)) rfl (S3.ld 2 rfl (x:=((s.bytes:Nat):Int)) rfl (S3.ld 1 rfl (x:=((o.bytes:Nat):Int)) rfl
  (S3.ld 2 rfl (x:=((s.breaks:Nat):Int)) rfl (S3.ld 1 rfl (x:=((o.breaks:Nat):Int)) rfl (S3.ld 2 rfl (x:=s.lf) rfl (S3.ld 1 rfl (x:=o.cr) rfl ?_)))))))
 rw [wrap64 (a:=((s.atoms:Nat):Int)+((o.atoms:Nat):Int)) (by omega) (by omega),wrap64 (a:=((s.bytes:Nat):Int)+((o.bytes:Nat):Int)) (by omega) (by omega),wrap64 (a:=((s.breaks:Nat):Int)+((o.breaks:Nat):Int)) (by omega) (by omega)]
 refine S3.Ia rfl rfl rfl λb4 w4 S4 e4=>?_
 refine Ag (λ_ w'=>St (λ_=>False) w w' [(b4,.cells (Cells.vals Bf (smT (s.add o))).toArray 144 (0,0)),(b3,.cells #[(.int .i64 0),(.int .i64 0),(.int .i64 0),(.bool false),(.bool false)] 144 (0,0))]) ?_ ?_
 ·refine Ag (λx w'=>x=(s.cr&&o.lf,())/\w4=w') (S4.ld 3 rfl (x:=s.cr) rfl (Ac (λh=>S4.ld 2 rfl (x:=o.lf) rfl ⟨by rw [h];rfl,rfl⟩) (λh=>⟨by rw [h];rfl,rfl⟩))) ?_
  rintro _ w' ⟨rfl,rfl⟩
  have lf:=hs.cr;have lf':=ho.lf
  refine Ac (λh=>?_) (λh=>?_)
  ·have h':(s.cr&&o.lf)=true:=h
   simp only [Bool.and_eq_true] at h'
   have:=lf h'.1;have:=lf' h'.2
   refine S4.ld 0 rfl (x:=((s.breaks:Nat):Int)+((o.breaks:Nat):Int)) rfl ?_
   rw [wrap64 (by omega) (by omega)]
   refine S4.stC 0 rfl (by simp) λw5 S5 u5=>?_
   have e:s.add o=⟨s.atoms+o.atoms,s.bytes+o.bytes,s.breaks+o.breaks-1,s.lf,o.cr⟩:=by unfold Ee.add;rw [if_neg h0,if_neg h0',if_pos h]
   rw [e]
   have e2:((s.breaks:Nat):Int)+((o.breaks:Nat):Int)-1=((s.breaks+o.breaks-1:Nat):Int):=by omega
   rw [e2] at S5
   exact ⟨S5.upd,S5.old,λx hx=>S5.loc x (by
    rcases List.mem_cons.1 hx with rfl|hx
    ·exact List.mem_cons_self
    ·rw [List.mem_singleton.1 hx];exact List.mem_cons_of_mem _ List.mem_cons_self),by
    have:=S5.nd
    simp at this ⊢
    exact this.1.1⟩
  ·have e:s.add o=⟨s.atoms+o.atoms,s.bytes+o.bytes,s.breaks+o.breaks,s.lf,o.cr⟩:=by
    have h':¬(s.cr&&o.lf)=true:=λhh=>by
     have hf:(s.cr&&o.lf)=false:=h
     rw [hh] at hf;cases hf
    unfold Ee.add;rw [if_neg h0,if_neg h0',if_neg h'];rfl
   rw [e]
   exact ⟨S4.upd,S4.old,λx hx=>S4.loc x (by
    rcases List.mem_cons.1 hx with rfl|hx
    ·exact List.mem_cons_self
    ·rw [List.mem_singleton.1 hx];exact List.mem_cons_of_mem _ List.mem_cons_self),by
    have:=S4.nd
    simp at this ⊢
    exact this.1.1⟩
 ·intro _ w5 S5
  exact S5.lds 0 (smT (s.add o)) rfl (S5.Ae 1 rfl rfl rfl rfl λw6 S6 u6=>S6.lds 1 (smT (s.add o)) rfl (hK w6 S6.upd))
theorem Ag6 {s o:Ee}(hs:s.Ok) (ho:o.Ok) (hb:s.bytes+o.bytes<2^60){K:Cells.T Bf->Wp}(hK:∀w',Ext w w'->K (smT (s.add o)) w') :
  Bg Tryz.prog (invoke (.fn (.method "Add") #[]) (#[.iface 144 (smV s)]++#[smV o])) (.one (.agg Bf)) K w :=
 Hr (f:=127) (v':=smV s) (λw=>by kernel_rfl) (by kernel_rfl) (Aa4 hs ho hb hK)
theorem Xy {x:Pc}{K:Cells.T Bf->Wp}(hK:∀w',Ext w w'->K (smT x.sm) w') :
  Bg Tryz.prog (invoke (.fn (.method "Measure") #[]) (#[.iface 146 (pcV x)]++#[])) (.one (.agg Bf)) K w:=by
 refine By7 (f:=257) (v':=pcV x) (λw=>by kernel_rfl) (by kernel_rfl) ?_
 refine Cq5 (a0:=pcT x) ?_
 unfold F257
 refine (St.start w).Ad λb1 w1 S1 e1=>S1.Ad λb2 w2 S2 e2=>?_
 refine Gi (S2.at_ 1 rfl) (x:=smT x.sm) (λi v hv=>?_) (S2.Ae 0 rfl rfl rfl rfl λw3 S3 u3=>S3.lds 0 (smT x.sm) rfl (hK w3 S3.upd))
 match i,hv with
 |0,hv=>exact hv
 |1,hv=>exact hv
 |2,hv=>exact hv
 |3,hv=>exact hv
 |4,hv=>exact hv
 |i+5,hv=>cases hv
theorem Cl2 {s:Ee}{k:Nat}(hk:k<2){K:Int->Wp}(hK:∀w',Ext w w'->K (if k=0 then (s.atoms:Int) else (s.breaks:Int)) w') :
  Bg Tryz.prog (invoke (.fn (.method "Key") #[]) (#[.iface 144 (smV s)]++#[.int .i64 (k:Int)])) (.one (.one (.int .i64))) K w:=by
 refine Hr (f:=256) (v':=smV s) (λw=>by kernel_rfl) (by kernel_rfl) ?_
 refine Cq6 (a0:=smT s) ?_
 unfold F256
 refine (St.start w).Ad λb1 w1 S1 e1=>?_
 have:=hK w1 e1
 match k,hk with
 |0,_=>exact Ac (λ_=>S1.ld 0 rfl (x:=((s.atoms:Nat):Int)) rfl this) (λh=>by cases h)
 |1,_=>exact Ac (λh=>by cases h) (λ_=>Ac (λ_=>S1.ld 0 rfl (x:=((s.breaks:Nat):Int)) rfl this) (λh=>by cases h))
end
section
variable {w w':World}{S:Nat->Prop}
theorem _root_.Go.Vx.St.Cc8 {M:Nat->Prop}{w0:World}{ls:List (Nat×Obj)}(S:St M w0 w ls) (i:Nat){b off n:Nat}{vs:Array Value}{K:World->Prop}{c:Array Value}{t:TypeId}(hi:ls[i]?=some (b,.cells c t (0,0))) (hn:vs.size=n) (h1:vs.toList.all Du=true) (ho:off+n<=c.size)
  (h:∀w1,St M w0 w1 (ls.set i (b,.cells (setRow c off vs.toList) t (0,0)))->K w1):Go.Vx.Ae ⟨b,off,none⟩ (.agg vs) n K w :=
 Fb (S.at_ i hi) hn h1 ho λw1 u hb _=>h w1 (Ai1 S hi u hb)
def Og (l r:Option Addr) (x:Pc) (n h:Nat) (s:Ee):Array Value :=
 #[.pointer l,.pointer r,.slice x.bytes.a x.bytes.len x.bytes.cap,.int .i64 x.tag,.int .i64 (x.sm.atoms:Int),.int .i64 (x.sm.bytes:Int),.int .i64 (x.sm.breaks:Int),.bool x.sm.lf,.bool x.sm.cr,
  .int .i64 (n:Int),.int .i64 (h:Int),.int .i64 (s.atoms:Int),.int .i64 (s.bytes:Int),.int .i64 (s.breaks:Int),.bool s.lf,.bool s.cr]
def Trx.Tr.In (w:World):Tr->Prop
 |.nil=>True
 |.node b l x r=>w.heap[b]?=some (.cells (Og l.ptr r.ptr x (Tr.node b l x r).size (Tr.node b l x r).Hg (tot (Tr.node b l x r).items)) 186 (0,0))/\l.In w/\r.In w
theorem Trx.Tr.In.ext:∀{t:Tr},t.In w->Ext w w'->t.In w'
 |.nil,_,_=>trivial
 |.node _ _ _ _,h,e=>⟨e.ext_get h.1,h.2.1.ext e,h.2.2.ext e⟩
theorem Trx.Tr.In.ty:∀{t:Tr},t.In w->Upd S w w'->Cc w S 186->t.In w'
 |.nil,_,_,_=>trivial
 |.node _ _ _ _,h,u,hS=>⟨u.get h.1 λhk=>hS _ hk _ _ h.1,h.2.1.ty u hS,h.2.2.ty u hS⟩
theorem Oy {b:Nat}{l r:Tr}{x:Pc}(h:(Tr.node b l x r).In w){j:Nat}{v:Value}(hv:(Og l.ptr r.ptr x (Tr.node b l x r).size (Tr.node b l x r).Hg (tot (Tr.node b l x r).items))[j]?=some v):w.cell? ((at0 b).add j)=some v:=by
 rw [addr_add,Nat.zero_add];exact cell_of h.1 hv
theorem Q9 {b:Nat}{l r:Tr}{x:Pc}(h:(Tr.node b l x r).In w):w.cell? (at0 b)=some (.pointer l.ptr):=cell_of h.1 rfl
theorem Ef {b:Nat}{l r:Tr}{x:Pc}(h:(Tr.node b l x r).In w){K:Addr->Option Addr->Wp}(hK:K (at0 b) l.ptr w):nn (Tr.node b l x r).ptr (λp=>ld .ptr p (K p)) w :=
 Af (Ah h.1 (x:=l.ptr) rfl hK)
theorem Fp {b:Nat}{l r:Tr}{x:Pc}(h:(Tr.node b l x r).In w){K:Addr->Option Addr->Wp}(hK:K (at0 b) r.ptr w):nn (Tr.node b l x r).ptr (λp=>ld .ptr (p.add 1) (K p)) w :=
 Af (by rw [addr_add];exact Ah h.1 (x:=r.ptr) rfl hK)
theorem Lm {b:Nat}{l r:Tr}{x:Pc}(h:(Tr.node b l x r).In w):Aw w ((at0 b).add 2) 0 (Cells.vals c146 (pcT x)):=by
 rw [addr_add]
 refine Fz _ 0 λj v hv=>cell_of h.1 ?_
 match j,hv with
 |0,hv=>exact hv
 |1,hv=>exact hv
 |2,hv=>exact hv
 |3,hv=>exact hv
 |4,hv=>exact hv
 |5,hv=>exact hv
 |6,hv=>exact hv
 |j+7,hv=>cases hv
theorem Cd7 {b:Nat}{l r:Tr}{x:Pc}(h:(Tr.node b l x r).In w):Aw w ((at0 b).add 11) 0 (Cells.vals Bf (smT (tot (Tr.node b l x r).items))):=by
 rw [addr_add]
 refine Fz _ 0 λj v hv=>cell_of h.1 ?_
 match j,hv with
 |0,hv=>exact hv
 |1,hv=>exact hv
 |2,hv=>exact hv
 |3,hv=>exact hv
 |4,hv=>exact hv
 |j+5,hv=>cases hv
theorem Ht {b:Nat}{l r:Tr}{x:Pc}(h:(Tr.node b l x r).In w){K:Addr->Cells.T c146->Wp}(hK:K (at0 b) (pcT x) w):nn (Tr.node b l x r).ptr (λp=>lds c146 (p.add 2) (K p)) w :=
 Af ⟨pcT x,Lm h,hK⟩
theorem Q8 {b:Nat}{l r:Tr}{x:Pc}(h:(Tr.node b l x r).In w){K:Addr->Cells.T Bf->Wp}(hK:K (at0 b) (smT (tot (Tr.node b l x r).items)) w):nn (Tr.node b l x r).ptr (λp=>lds Bf (p.add 11) (K p)) w :=
 Af ⟨_,Cd7 h,hK⟩
theorem Ir {t:Tr}(h:t.In w){K:Int->Wp}(hK:K (t.size:Int) w):Aa Tryz.prog 100 #[.pointer t.ptr] rI K w:=by
 refine j100 ?_
 unfold F100
 cases t with
 |nil=>exact Ac (λ_=>hK) (λh=>by cases h)
 |node b l x r=>exact Ac (λh=>by cases h) (λ_=>Af (by rw [addr_add];exact Ah h.1 (x:=((Tr.node b l x r).size:Int)) rfl hK))
theorem Ep {t:Tr}(h:t.In w){K:Int->Wp}(hK:K (t.Hg:Int) w):Aa Tryz.prog 198 #[.pointer t.ptr] rI K w:=by
 refine Cr4 ?_
 unfold F198
 cases t with
 |nil=>exact Ac (λ_=>hK) (λh=>by cases h)
 |node b l x r=>exact Ac (λh=>by cases h) (λ_=>Af (by rw [addr_add];exact Ah h.1 (x:=((Tr.node b l x r).Hg:Int)) rfl hK))
structure Fine (l:List Pc):Prop where
 ok:Dz l
 few:l.length<2^60
 small:(tot l).bytes<2^60
theorem Eh {l m:List Pc}(h:Dz l) (h':Dz m):(tot (l++m)).bytes=(tot l).bytes+(tot m).bytes:=by
 rw [Hz h h'];exact (Ee.Nz _ _ (Ii h) (Ii h')).1
theorem Fine.left {l m:List Pc}(h:Fine (l++m)):Fine l:=⟨h.ok.left,by have:=h.few;rw [List.length_append] at this;omega,by
 have:=h.small;rw [Eh h.ok.left h.ok.right] at this;omega⟩
theorem Fine.right {l m:List Pc}(h:Fine (l++m)):Fine m:=⟨h.ok.right,by have:=h.few;rw [List.length_append] at this;omega,by
 have:=h.small;rw [Eh h.ok.left h.ok.right] at this;omega⟩
theorem Bw1 (l r:Option Addr) (x:Pc) (n h:Nat) (s s':Ee):setRow (Og l r x n h s) 11 (Cells.vals Bf (smT s')).toArray.toList=Og l r x n h s':=rfl
theorem Al7 {M:Nat->Prop}{w0:World}{ls:List (Nat×Obj)}{b:Nat}{l r:Option Addr}{x:Pc}{n h:Nat}{s s':Ee}{K:World->Prop}(S:St M w0 w ((b,.cells (Og l r x n h s) 186 (0,0))::ls))
  (hK:∀w1,St M w0 w1 ((b,.cells (Og l r x n h s') 186 (0,0))::ls)->K w1):Ae ((at0 b).add 11) (.agg (Cells.vals Bf (smT s')).toArray) 5 K w:=by
 rw [addr_add]
 refine S.Cc8 0 (c:=Og l r x n h s) rfl rfl rfl (by show 0+11+5<=16;decide) λw1 S1=>hK w1 ?_
 rw [Nat.zero_add,Bw1] at S1
 exact S1
theorem Bh6 {l r:Tr}{x:Pc}(hl:l.In w) (hr:r.In w) (hf:Fine (l.items++x::r.items)){K:Option Addr->Wp}(hK:∀b w',(Tr.node b l x r).In w'->Ext w w'->K (some (at0 b)) w') :
  Aa Tryz.prog 158 #[.pointer l.ptr,pcV x,.pointer r.ptr] rP K w:=by
 refine Cs3 (a1:=pcT x) ?_
 unfold F158
 have okl:=hf.ok.left
 have okx:=hf.ok.right.head
 have okr:=hf.ok.right.tail
 have sl:=Ej l;have sr:=Ej r
 have tl:=Ov l;have tr:=Ov r
 have few:=hf.few
 rw [List.length_append,List.length_cons] at few
 have small:=hf.small
 have ex:x::r.items=[x]++r.items:=rfl
 rw [ex,Eh okl (Dz.append (Dz.one okx) okr),Eh (Dz.one okx) okr,Ue okx] at small
 refine (St.start w).Ad λb1 w1 S1 e1=>S1.drew λw2 S2 e2 _=>S2.lds 0 (pcT x) rfl ?_
 have e12:=e1.trans e2
 have hl2:=hl.ext e12;have hr2:=hr.ext e12
 refine Ir hl2 (S2.keeps 0 rfl (Ir hr2 (S2.keeps 0 rfl (Ep hl2 (S2.keeps 0 rfl (Ep hr2 (S2.keeps 0 rfl ?_)))))))
 have es:IntKind.wrap .i64 (IntKind.wrap .i64 ((l.size:Int)+1)+(r.size:Int))=(((l.size+1+r.size:Nat)):Int):=by
  rw [wrap64 (a:=(l.size:Int)+1) (by omega) (by omega),wrap64 (by omega) (by omega)];omega
 have et:IntKind.wrap .i64 ((if (r.Hg:Int)>(l.Hg:Int) then (r.Hg:Int) else (l.Hg:Int))+1)=((max l.Hg r.Hg+1:Nat):Int):=by
  have e:(if (r.Hg:Int)>(l.Hg:Int) then (r.Hg:Int) else (l.Hg:Int))=((max l.Hg r.Hg:Nat):Int):=by split<;>omega
  rw [e,wrap64 (by omega) (by omega)];omega
 rw [es,et]
 refine S2.Ad λb7 w3 S3 e3=>S3.lds 1 (pcT x) rfl (Xy λw4 e4=>Af ?_)
 have S4:=S3.ext e4
 have e14:=(e12.trans e3).trans e4
 have S4':St (λ_=>False) w w4 [(b7,.cells (Og l.ptr r.ptr x (l.size+1+r.size) (max l.Hg r.Hg+1) .zero) 186 (0,0)),(b1,.cells (Cells.vals c146 (pcT x)).toArray 146 (0,0))]:=S4
 refine Al7 (s':=x.sm) S4' λw5 S5=>?_
 have J0:∀(w':World) (s:Ee),St (λ_=>False) w w' [(b7,.cells (Og l.ptr r.ptr x (l.size+1+r.size) (max l.Hg r.Hg+1) s) 186 (0,0)),(b1,.cells (Cells.vals c146 (pcT x)).toArray 146 (0,0))] ->
   Aw w' ((at0 b7).add 11) 0 (Cells.vals Bf (smT s)):=by
  intro w' s S'
  rw [addr_add]
  refine Fz _ 0 λj v hv=>cell_of (S'.at_ 0 rfl) ?_
  match j,hv with
  |0,hv=>exact hv
  |1,hv=>exact hv
  |2,hv=>exact hv
  |3,hv=>exact hv
  |4,hv=>exact hv
  |j+5,hv=>cases hv
 have okt:=Ii okl;have okt':=Ii okr
 refine Ag (λ_ w'=>St (λ_=>False) w w' [(b7,.cells (Og l.ptr r.ptr x (l.size+1+r.size) (max l.Hg r.Hg+1) ((tot l.items).add x.sm)) 186 (0,0)),(b1,.cells (Cells.vals c146 (pcT x)).toArray 146 (0,0))]) ?_ ?_
 ·cases l with
  |nil=>exact Ac (λh=>by cases h) (λ_=>S5)
  |node bl ll xl rl =>
   refine Ac (λ_=>S5.drew λw6 S6 e6 _=>?_) (λh=>by cases h)
   refine Q8 (hl.ext S6.upd) (Af ⟨_,J0 w6 x.sm S6,?_⟩)
   exact Ag6 okt okx (by omega) λw7 e7=>Af (Al7 (S6.ext e7) λw8 S8=>S8)
 intro _ w6 S6
 have okm:=Ee.Yk okt okx
 have bm:=(Ee.Nz _ _ okt okx).1
 have fin:(tot (l.items++x::r.items))=((tot l.items).add x.sm).add (tot r.items):=by
  rw [ex,Hz okl (Dz.append (Dz.one okx) okr),Hz (Dz.one okx) okr,Ue okx,Ee.add_assoc okt okx okt']
 refine Ag (λ_ w'=>St (λ_=>False) w w' [(b7,.cells (Og l.ptr r.ptr x (l.size+1+r.size) (max l.Hg r.Hg+1) (((tot l.items).add x.sm).add (tot r.items))) 186 (0,0)),(b1,.cells (Cells.vals c146 (pcT x)).toArray 146 (0,0))]) ?_ ?_
 ·cases r with
  |nil =>
   have e:((tot l.items).add x.sm).add (tot (Tr.nil).items)=(tot l.items).add x.sm:=Ee.add_zero okm
   rw [e]
   exact Ac (λh=>by cases h) (λ_=>S6)
  |node br lr xr rr =>
   refine Ac (λ_=>S6.drew λw7 S7 e7 _=>?_) (λh=>by cases h)
   refine Af ⟨_,J0 w7 _ S7,Q8 (hr.ext S7.upd) ?_⟩
   exact Ag6 okm okt' (by omega) λw8 e8=>Af (Al7 (S7.ext e8) λw9 S9=>S9)
 intro _ w7 S7
 refine hK b7 w7 ⟨?_,hl.ext S7.upd,hr.ext S7.upd⟩ S7.upd
 have:=S7.at_ 0 rfl
 rw [←fin] at this
 exact this
end
section
variable {w w':World}{S:Nat->Prop}
abbrev Uc (w:World) (l:List Pc) (K:Option Addr->Wp):Prop:=∀(t:Tr) (w':World),t.In w'->t.items=l->Ext w w'->K t.ptr w'
theorem Uc.ext {l:List Pc}{K:Option Addr->Wp}(h:Uc w l K) (e:Ext w w'):Uc w' l K:=λt w2 h1 h2 e2=>h t w2 h1 h2 (e.trans e2)
theorem Fine.mid {a l b:List Pc}(h:Fine (a++(l++b))):Fine l:=h.right.left
theorem Fa {l r:Tr}{x:Pc}{L:List Pc}(hl:l.In w) (hr:r.In w) (hf:Fine L) (hL:l.items++x::r.items=L){K:Option Addr->Wp}(hK:Uc w L K) :
  Aa Tryz.prog 158 #[.pointer l.ptr,pcV x,.pointer r.ptr] rP K w :=
 Bh6 hl hr (hL▸hf) λb w' h1 e1=>hK _ _ h1 hL e1
theorem Uf {a b:Tr}(h:decide ((a.Hg:Int)>IntKind.wrap .i64 ((b.Hg:Int)+1))=true) (hb:b.Hg<2^60):b.Hg+1<a.Hg:=by
 rw [wrap64 (by omega) (by omega)] at h
 simp only [decide_eq_true_eq] at h
 omega
theorem Ye {l r:Tr}{x:Pc}(hl:l.In w) (hr:r.In w) (hf:Fine (l.items++x::r.items)){K:Option Addr->Wp}(hK:Uc w (l.items++x::r.items) K) :
  Aa Tryz.prog 220 #[.pointer l.ptr,pcV x,.pointer r.ptr] rP K w:=by
 refine Cq8 (a1:=pcT x) ?_
 unfold F220
 have few:=hf.few
 rw [List.length_append,List.length_cons,Ej,Ej] at few
 have tl:=Ov l;have tr:=Ov r
 refine (St.start w).Ad λb1 w1 S1 e1=>?_
 have hl1:=hl.ext e1;have hr1:=hr.ext e1
 refine Ep hl1 (Ep hr1 (Ac (λh=>?_) (λh=>?_)))
 ·have hgt:=Uf h (by omega)
  obtain ⟨bl,ll,lx,lr,rfl⟩:=Pz (t:=l) (by omega)
  refine S1.drew λw2 S2 e2 _=>?_
  have hl2:=hl1.ext e2;have hr2:=hr1.ext e2
  refine Ef hl2 (Fp hl2 (Ep hl2.2.1 (Ar (Oy hl2 rfl) (Ep hl2.2.2 (Ac (λh2=>?_) (λh2=>?_))))))
  ·refine S2.drew λw3 S3 e3 _=>?_
   have hl3:=hl2.ext e3;have hr3:=hr2.ext e3
   refine Ef hl3 (Ht hl3 (Fp hl3 (S3.lds 0 (pcT x) rfl ?_)))
   have e03:=(e1.trans e2).trans e3
   have eq:(Tr.node bl ll lx lr).items++x::r.items=(ll.items++[lx])++(lr.items++x::r.items):=by simp [Tr.items]
   refine Fa hl3.2.2 hr3 (L:=lr.items++x::r.items) ((eq▸hf).right) rfl λt w4 ht hti e4=>?_
   refine Ar (Lm (hl3.ext e4)) (Ar (Q9 (hl3.ext e4)) ?_)
   exact Fa (hl3.ext e4).2.1 ht hf (by rw [hti,eq];simp) (hK.ext (e03.trans e4))
  ·simp only [decide_eq_false_iff_not,ge_iff_le] at h2
   obtain ⟨bm,ml,mx,mr,rfl⟩:=Pz (t:=lr) (by omega)
   refine Fp hl2 (S2.drew λw3 S3 e3 _=>?_)
   have hl3:=hl2.ext e3;have hr3:=hr2.ext e3
   have hm3:=hl3.2.2
   refine Ef hl3 (Ht hl3 (Ef hm3 (Ht hm3 (Fp hm3 (S3.lds 0 (pcT x) rfl ?_)))))
   have e03:=(e1.trans e2).trans e3
   have eq:(Tr.node bl ll lx (Tr.node bm ml mx mr)).items++x::r.items=(ll.items++lx::ml.items)++([mx]++(mr.items++x::r.items)):=by simp [Tr.items]
   have hf':=eq▸hf
   refine Fa hl3.2.1 hm3.2.1 (L:=ll.items++lx::ml.items) hf'.left rfl λt w4 ht hti e4=>?_
   have S4:=S3.ext e4
   have hm4:=hm3.ext e4
   refine S4.keeps 0 rfl (Ar (Oy hm4 rfl) (Ar (Lm hm4) ?_))
   refine Fa hm4.2.2 (hr3.ext e4) (L:=mr.items++x::r.items) hf'.right.right rfl λt2 w5 ht2 hti2 e5=>?_
   refine Ar (Lm (hm4.ext e5)) ?_
   exact Fa (ht.ext e5) ht2 hf (by rw [hti,hti2,eq];simp) (hK.ext ((e03.trans e4).trans e5))
 refine Ep hr1 (Ep hl1 (Ac (λh=>?_) (λh=>?_)))
 ·have hgt:=Uf h (by omega)
  obtain ⟨br,rl,rx,rr,rfl⟩:=Pz (t:=r) (by omega)
  refine S1.drew λw2 S2 e2 _=>?_
  have hl2:=hl1.ext e2;have hr2:=hr1.ext e2
  refine Fp hr2 (Ef hr2 (Ep hr2.2.2 (Ar (Q9 hr2) (Ep hr2.2.1 (Ac (λh2=>?_) (λh2=>?_))))))
  ·refine S2.drew λw3 S3 e3 _=>?_
   have hl3:=hl2.ext e3;have hr3:=hr2.ext e3
   refine S3.lds 0 (pcT x) rfl (Ef hr3 (Ht hr3 (Fp hr3 ?_)))
   have e03:=(e1.trans e2).trans e3
   have eq:l.items++x::(Tr.node br rl rx rr).items=(l.items++x::rl.items)++(rx::rr.items):=by simp [Tr.items]
   refine Fa hl3 hr3.2.1 (L:=l.items++x::rl.items) ((eq▸hf).left) rfl λt w4 ht hti e4=>?_
   refine Ar (Oy (hr3.ext e4) rfl) (Ar (Lm (hr3.ext e4)) ?_)
   exact Fa ht (hr3.ext e4).2.2 hf (by rw [hti,eq]) (hK.ext (e03.trans e4))
  ·simp only [decide_eq_false_iff_not,ge_iff_le] at h2
   obtain ⟨bm,ml,mx,mr,rfl⟩:=Pz (t:=rl) (by omega)
   refine Ef hr2 (S2.drew λw3 S3 e3 _=>?_)
   have hl3:=hl2.ext e3;have hr3:=hr2.ext e3
   have hm3:=hr3.2.1
   refine S3.lds 0 (pcT x) rfl (Ef hm3 (Ht hm3 (Fp hm3 (Ht hr3 (Fp hr3 ?_)))))
   have e03:=(e1.trans e2).trans e3
   have eq:l.items++x::(Tr.node br (Tr.node bm ml mx mr) rx rr).items=(l.items++x::ml.items)++([mx]++(mr.items++rx::rr.items)):=by simp [Tr.items]
   have hf':=eq▸hf
   refine Fa hl3 hm3.2.1 (L:=l.items++x::ml.items) hf'.left rfl λt w4 ht hti e4=>?_
   have hm4:=hm3.ext e4;have hr4:=hr3.ext e4
   refine Ar (Oy hr4 rfl) (Ar (Lm hr4) (Ar (Oy hm4 rfl) (Ar (Lm hm4) ?_)))
   refine Fa hm4.2.2 hr4.2.2 (L:=mr.items++rx::rr.items) hf'.right.right rfl λt2 w5 ht2 hti2 e5=>?_
   refine Ar (Lm (hm4.ext e5)) ?_
   exact Fa (ht.ext e5) ht2 hf (by rw [hti,hti2,eq];simp) (hK.ext ((e03.trans e4).trans e5))
 exact S1.lds 0 (pcT x) rfl (Fa hl1 hr1 hf rfl (hK.ext e1))
theorem Ya:∀(n:Nat){l r:Tr}{w:World}{x:Pc},l.Hg+r.Hg<=n->l.In w->r.In w->Fine (l.items++x::r.items)->∀{K:Option Addr->Wp},Uc w (l.items++x::r.items) K ->
  Aa Tryz.prog 196 #[.pointer l.ptr,pcV x,.pointer r.ptr] rP K w:=by
 intro n
 induction n with
 |zero =>
  intro l r w x hn hl hr hf K hK
  refine Cl4 (a1:=pcT x) ?_
  unfold F196
  have h0:l.Hg=0:=by omega
  have h1:r.Hg=0:=by omega
  refine (St.start w).Ad λb1 w1 S1 e1=>?_
  have hl1:=hl.ext e1;have hr1:=hr.ext e1
  refine Ep hl1 (Ep hr1 (Ac (λh=>?_) (λ_=>Ep hr1 (Ep hl1 (Ac (λh=>?_) (λ_=>?_))))))
  ·have:=Uf h (by omega);omega
  ·have:=Uf h (by omega);omega
  ·exact S1.lds 0 (pcT x) rfl (Fa hl1 hr1 hf rfl (hK.ext e1))
 | succ n ih =>
  intro l r w x hn hl hr hf K hK
  refine Cl4 (a1:=pcT x) ?_
  unfold F196
  have few:=hf.few
  rw [List.length_append,List.length_cons,Ej,Ej] at few
  have tl:=Ov l;have tr:=Ov r
  refine (St.start w).Ad λb1 w1 S1 e1=>?_
  have hl1:=hl.ext e1;have hr1:=hr.ext e1
  refine Ep hl1 (Ep hr1 (Ac (λh=>?_) (λ_=>Ep hr1 (Ep hl1 (Ac (λh=>?_) (λ_=>?_))))))
  ·have hgt:=Uf h (by omega)
   obtain ⟨bl,ll,lx,lr,rfl⟩:=Pz (t:=l) (by omega)
   refine S1.drew λw2 S2 e2 _=>?_
   have hl2:=hl1.ext e2;have hr2:=hr1.ext e2
   refine Ef hl2 (Ht hl2 (Fp hl2 (S2.lds 0 (pcT x) rfl ?_)))
   have eq:(Tr.node bl ll lx lr).items++x::r.items=(ll.items++[lx])++(lr.items++x::r.items):=by simp [Tr.items]
   have ht:(Tr.node bl ll lx lr).Hg=max ll.Hg lr.Hg+1:=rfl
   refine ih (l:=lr) (r:=r) (by omega) hl2.2.2 hr2 ((eq▸hf).right) λt w3 ht3 hti e3=>?_
   refine Ar (Lm (hl2.ext e3)) (Ar (Q9 (hl2.ext e3)) ?_)
   have eq2:ll.items++lx::t.items=(Tr.node bl ll lx lr).items++x::r.items:=by rw [hti,eq];simp
   exact Ye (hl2.ext e3).2.1 ht3 (eq2▸hf) (eq2▸hK.ext ((e1.trans e2).trans e3))
  ·have hgt:=Uf h (by omega)
   obtain ⟨br,rl,rx,rr,rfl⟩:=Pz (t:=r) (by omega)
   refine S1.drew λw2 S2 e2 _=>?_
   have hl2:=hl1.ext e2;have hr2:=hr1.ext e2
   refine S2.lds 0 (pcT x) rfl (Ef hr2 (Ht hr2 (Fp hr2 ?_)))
   have eq:l.items++x::(Tr.node br rl rx rr).items=(l.items++x::rl.items)++(rx::rr.items):=by simp [Tr.items]
   have ht:(Tr.node br rl rx rr).Hg=max rl.Hg rr.Hg+1:=rfl
   refine ih (l:=l) (r:=rl) (by omega) hl2 hr2.2.1 ((eq▸hf).left) λt w3 ht3 hti e3=>?_
   refine Ar (Oy (hr2.ext e3) rfl) (Ar (Lm (hr2.ext e3)) ?_)
   have eq2:t.items++rx::rr.items=l.items++x::(Tr.node br rl rx rr).items:=by rw [hti,eq]
   exact Ye ht3 (hr2.ext e3).2.2 (eq2▸hf) (eq2▸hK.ext ((e1.trans e2).trans e3))
  ·exact S1.lds 0 (pcT x) rfl (Fa hl1 hr1 hf rfl (hK.ext e1))
end
section
variable {w w':World}{S:Nat->Prop}
theorem Xg:∀(t:Tr) (w:World) (n:Nat),t.In w->Fine t.items->n<2^61->∀{K:Option Addr×Option Addr×Unit->Wp},
  (∀(a b:Tr) (w':World),a.In w'->b.In w'->a.items=t.items.take n->b.items=t.items.drop n->Ext w w'->K (a.ptr,b.ptr,()) w') ->
  Aa Tryz.prog 156 #[.pointer t.ptr,.int .i64 (n:Int)] (.tup [(.one .ptr),(.one .ptr)]) K w:=by
 intro t
 induction t with
 |nil =>
  intro w n ht hf hn K hK
  refine Cl5 ?_
  unfold F156
  exact Ac (λ_=>hK .nil .nil w trivial trivial (by simp [Tr.items]) (by simp [Tr.items]) (Ext.refl w)) (λh=>by cases h)
 | node b l x r ihl ihr =>
  intro w n ht hf hn K hK
  refine Cl5 ?_
  unfold F156
  have hfl:Fine l.items:=hf.left
  have hfr:Fine r.items:=Fine.right (l:=[x]) hf.right
  have sl:=Ej l
  have few:=hfl.few
  refine Ac (λh=>by cases h) (λ_=>Ef ht (Ir ht.2.1 (Ac (λh=>?_) (λh=>?_))))
  ·simp only [decide_eq_true_eq] at h
   refine Ef ht (ihl w n ht.2.1 hfl hn λp q w1 hp hq hpi hqi e1=>Dh λw2 e2 _=>?_)
   have ht2:=(ht.ext e1).ext e2
   refine Ht ht2 (Fp ht2 ?_)
   have hle:n<=l.items.length:=by omega
   have eq:q.items++x::r.items=(Tr.node b l x r).items.drop n:=by
    show _=(l.items++x::r.items).drop n
    rw [List.drop_append_of_le_length hle,hqi]
   have hfq:Fine (q.items++x::r.items):=by
    rw [eq]
    have e:=List.take_append_drop n (Tr.node b l x r).items
    exact Fine.right (l:=(Tr.node b l x r).items.take n) (e.symm▸hf)
   refine Ya _ (Nat.le_refl _) (hq.ext e2) ht2.2.2 hfq λt3 w3 h3 h3i e3=>?_
   refine hK p t3 w3 ((hp.ext e2).ext e3) h3 ?_ (by rw [h3i,eq]) ((e1.trans e2).trans e3)
   show _=(l.items++x::r.items).take n
   rw [List.take_append_of_le_length hle,hpi]
  ·simp only [decide_eq_false_iff_not] at h
   obtain ⟨m,rfl⟩:∃m,n=l.items.length+1+m:=⟨n-l.items.length-1,by omega⟩
   have ew:IntKind.wrap .i64 (IntKind.wrap .i64 (((l.items.length+1+m:Nat):Int)-(l.size:Int))-1)=(m:Int):=by
    rw [wrap64 (a:=((l.items.length+1+m:Nat):Int)-(l.size:Int)) (by omega) (by omega),wrap64 (by omega) (by omega)];omega
   rw [ew]
   refine Fp ht (ihr w m ht.2.2 hfr (by omega) λp q w1 hp hq hpi hqi e1=>Dh λw2 e2 _=>?_)
   have ht2:=(ht.ext e1).ext e2
   refine Ef ht2 (Ht ht2 ?_)
   have tk:(l.items++x::r.items).take (l.items.length+1+m)=l.items++x::r.items.take m:=by
    rw [Nat.add_assoc,List.take_length_add_append,Nat.add_comm 1 m,List.take_succ_cons]
   have dr:(l.items++x::r.items).drop (l.items.length+1+m)=r.items.drop m:=by
    rw [Nat.add_assoc,List.drop_length_add_append,Nat.add_comm 1 m,List.drop_succ_cons]
   have eq:l.items++x::p.items=(Tr.node b l x r).items.take (l.items.length+1+m):=by
    show _=(l.items++x::r.items).take _
    rw [tk,hpi]
   have hfq:Fine (l.items++x::p.items):=by
    rw [eq]
    have e:=List.take_append_drop (l.items.length+1+m) (Tr.node b l x r).items
    exact Fine.left (m:=(Tr.node b l x r).items.drop (l.items.length+1+m)) (e.symm▸hf)
   refine Ya _ (Nat.le_refl _) ht2.2.1 (hp.ext e2) hfq λt3 w3 h3 h3i e3=>?_
   refine hK t3 q w3 h3 ((hq.ext e2).ext e3) (by rw [h3i,eq]) ?_ ((e1.trans e2).trans e3)
   show _=(l.items++x::r.items).drop _
   rw [dr,hqi]
theorem Az0:∀(l:Tr) (b:Nat) (x:Pc) (r:Tr) (w:World),(Tr.node b l x r).In w->Fine (Tr.node b l x r).items->∀{K:Cells.T c146×Option Addr×Unit->Wp},
  (∀(y:Pc) (t:Tr) (w':World),t.In w'->y::t.items=(Tr.node b l x r).items->Ext w w'->K (pcT y,t.ptr,()) w') ->
  Aa Tryz.prog 197 #[.pointer (Tr.node b l x r).ptr] (.tup [(.agg c146),(.one .ptr)]) K w:=by
 intro l
 induction l with
 |nil =>
  intro b x r w ht hf K hK
  refine Cl3 ?_
  unfold F197
  refine (St.start w).Ad λb1 w1 S1 e1=>Ef (ht.ext e1) (Ac (λ_=>S1.drew λw2 S2 e2 _=>?_) (λh=>by cases h))
  have ht2:=(ht.ext e1).ext e2
  refine Ht ht2 (Fp ht2 (S2.Ae 0 rfl rfl rfl rfl λw3 S3 u3=>?_))
  exact Ar (Oy (ht.ext S3.upd) rfl) (S3.lds 0 (pcT x) rfl (hK x r w3 (ht.ext S3.upd).2.2 rfl S3.upd))
 | node bl ll lx lr ih _ =>
  intro b x r w ht hf K hK
  refine Cl3 ?_
  unfold F197
  have hfl:Fine (Tr.node bl ll lx lr).items:=hf.left
  refine (St.start w).Ad λb1 w1 S1 e1=>Ef (ht.ext e1) (Ac (λh=>by cases h) (λ_=>Ef (ht.ext e1) ?_))
  refine ih bl lx lr w1 (ht.ext e1).2.1 hfl λy t w2 h2 h2i e2=>?_
  refine (S1.ext e2).Ia rfl rfl rfl λb2 w3 S3 e3=>S3.drew λw4 S4 e4 _=>S4.lds 0 (pcT y) rfl ?_
  have e14:=((e1.trans e2).trans e3).trans e4
  have ht4:=ht.ext e14
  have eq:(Tr.node b (Tr.node bl ll lx lr) x r).items=[y]++(t.items++x::r.items):=by
   show (Tr.node bl ll lx lr).items++x::r.items=_
   rw [←h2i];rfl
  refine Ht ht4 (Fp ht4 (Ye ((h2.ext e3).ext e4) ht4.2.2 ((eq▸hf).right) λt5 w5 h5 h5i e5=>?_))
  have S5:=S4.ext e5
  refine S5.keeps 0 rfl (S5.Ae 1 rfl rfl rfl rfl λw6 S6 u6=>S6.lds 1 (pcT y) rfl ?_)
  refine hK y t5 w6 (h5.ty u6 ?_) (by rw [h5i,eq];rfl) S6.upd
  rintro k rfl c fr hc
  have:=S5.at_ 1 rfl
  rw [hc] at this;cases this
theorem Ag4 {l r:Tr}(hl:l.In w) (hr:r.In w) (hf:Fine (l.items++r.items)){K:Option Addr->Wp}(hK:Uc w (l.items++r.items) K) :
  Aa Tryz.prog 157 #[.pointer l.ptr,.pointer r.ptr] rP K w:=by
 refine Cs4 ?_
 unfold F157
 cases r with
 |nil=>exact Ac (λ_=>hK l w hl (by simp [Tr.items]) (Ext.refl w)) (λh=>by cases h)
 |node b rl rx rr =>
  refine Ac (λh=>by cases h) (λ_=>Az0 rl b rx rr w hr hf.right λy t w1 h1 h1i e1=>?_)
  refine (St.start w1).Ia rfl rfl rfl λb2 w2 S2 e2=>S2.lds 0 (pcT y) rfl ?_
  have eq:l.items++y::t.items=l.items++(Tr.node b rl rx rr).items:=by rw [h1i]
  exact Ya _ (Nat.le_refl _) (hl.ext (e1.trans e2)) (h1.ext e2) (eq▸hf) (eq▸hK.ext (e1.trans e2))
end
section
variable {w w':World}{S:Nat->Prop}
theorem Af6 (cs:List Cell):∀(xs:List (Cells.T cs)) (n:Nat),(flat cs xs).drop (n*cs.length)=flat cs (xs.drop n)
 |xs,0=>by simp
 |[],n+1=>by simp [flat]
 |x::xs,n+1=>by
  have e:flat cs (x::xs)=Cells.vals cs x++flat cs xs:=rfl
  rw [e,Nat.add_mul,Nat.one_mul,Nat.add_comm,←List.drop_drop,←Hf cs x,List.drop_left,List.drop_succ_cons,Hf cs x]
  exact Af6 cs xs n
theorem Af5 (cs:List Cell):∀(xs:List (Cells.T cs)) (n:Nat),(flat cs xs).take (n*cs.length)=flat cs (xs.take n)
 |xs,0=>by simp [flat]
 |[],n+1=>by simp [flat]
 |x::xs,n+1=>by
  have e:flat cs (x::xs)=Cells.vals cs x++flat cs xs:=rfl
  have e2:flat cs ((x::xs).take (n+1))=Cells.vals cs x++flat cs (xs.take n):=rfl
  rw [e,e2,Nat.add_mul,Nat.one_mul,Nat.add_comm,←Hf cs x,List.take_length_add_append,Hf cs x,Af5 cs xs n]
abbrev Ps (w:World) (s:Sl) (l:List Pc):Prop:=Cj w s 146 7 (flat c146 (l.map pcT))
theorem Ps.len {s:Sl}{l:List Pc}(h:Ps w s l):l.length=s.len:=by
 have:=Cj.Oi (cs:=c146) h (by decide)
 rwa [List.length_map] at this
theorem Bn5 {s:Sl}{l:List Pc}{a b m:Int}{K:Sl->Wp}(hs:Ps w s l) (h0:0<=a) (h1:a<=b) (h2:b<=s.len) (h3:b<=m) (h4:m<=s.cap)
  (hK:∀s',Ps w s' ((l.drop a.toNat).take (b.toNat-a.toNat))->K s' w):slc s.a a b m s.cap 7 K w :=
 Qa hs h0 h1 h2 h3 h4 λs' hs' _ _ _=>hK s' (by
  have e1:=Af6 c146 (l.map pcT) a.toNat
  have e2:=Af5 c146 ((l.map pcT).drop a.toNat) (b.toNat-a.toNat)
  rw [show c146.length=7 from rfl] at e1 e2
  rw [e1,e2,←List.map_drop,←List.map_take] at hs'
  exact hs')
theorem Bz2 {cs:List Cell}{s:Sl}{t:TypeId}{xs:List (Cells.T cs)}{n:Int}{K:Addr->Cells.T cs->Wp}(h:Cj w s t cs.length (flat cs xs)) (hc:0<cs.length) (h0:0<=n){x:Cells.T cs}(hx:xs[n.toNat]?=some x)
  (hK:∀p,(∀w',Ext w w'->Aw w' (p.add (scaled (Int.toNat n) cs.length)) 0 (Cells.vals cs x))->K p x w) :
  ix s.a s.len n (λp=>lds cs (p.add (scaled (Int.toNat n) cs.length)) (K p)) w:=by
 have hlt:=(List.getElem?_eq_some_iff.1 hx).1
 have hl:=h.Oi hc
 have key:∀{w':World},Cj w' s t cs.length (flat cs xs)->∀b off,s.a=some ⟨b,off,none⟩->Aw w' ((⟨b,off,none⟩:Addr).add (scaled (Int.toNat n) cs.length)) 0 (Cells.vals cs x):=by
  intro w' h' b off ha
  rcases h'.at_ with ⟨hn,_⟩|⟨b',off',c,fr,ha',hb,_,hv⟩
  ·rw [hn] at ha;cases ha
  ·rw [ha'] at ha;cases ha
   rw [addr_add]
   refine Fz _ 0 λj v hj=>?_
   have hjl:j<cs.length:=by
    have:=(List.getElem?_eq_some_iff.1 hj).1
    rwa [Hf] at this
   have h2:=hv (n.toNat*cs.length+j) v (by rw [flat_get cs xs _ j x hx hjl];exact hj)
   refine cell_of hb ?_
   rw [Gm,show off+n.toNat*cs.length+(0+j)=off+(n.toNat*cs.length+j) by omega]
   exact h2
 refine h.ix h0 (by omega) hc λb off ha hv=>⟨x,key h b off ha,hK _ λw' e=>key (h.ext e) b off ha⟩
theorem Aa2:∀(n:Nat) (l:List Pc) (s:Sl) (w:World),l.length<=n->Ps w s l->Fine l->∀{K:Option Addr->Wp},Uc w l K->Aa Tryz.prog 129 #[s.v] rP K w:=by
 intro n
 induction n with
 |zero =>
  intro l s w hn hs hf K hK
  obtain rfl:l=[]:=List.length_eq_zero_iff.1 (by omega)
  have hl:=hs.len
  refine j129 ?_
  unfold F129
  exact Ac (λ_=>hK .nil w trivial rfl (Ext.refl w)) (λh=>by simp at hl;simp [←hl] at h)
 | succ n ih =>
  intro l s w hn hs hf K hK
  have hl:=hs.len
  have hcap:=hs.le
  have few:=hf.few
  refine j129 ?_
  unfold F129
  refine Ac (λh=>?_) (λh=>Gf (by decide) (Dh λw1 e1 _=>?_))
  ·simp only [beq_iff_eq] at h
   obtain rfl:l=[]:=List.length_eq_zero_iff.1 (by omega)
   exact hK .nil w trivial rfl (Ext.refl w)
  simp only [beq_eq_false_iff_ne] at h
  have hs1:Ps w1 s l:=hs.ext e1
  obtain ⟨k,hk⟩:∃k,k=l.length/2:=⟨_,rfl⟩
  have ek:IntKind.wrap .i64 (Int.tdiv ((s.len:Nat):Int) 2)=(k:Int):=by
   rw [Int.tdiv_eq_ediv_of_nonneg (by omega),wrap64 (by omega) (by omega)];omega
  have ek1:IntKind.wrap .i64 ((k:Int)+1)=((k+1:Nat):Int):=by rw [wrap64 (by omega) (by omega)];omega
  rw [ek,ek1]
  have hkl:k<l.length:=by omega
  refine Bn5 hs1 (by decide) (by omega) (by omega) (by omega) (by omega) λs1 h1=>?_
  refine Bz2 (cs:=c146) (xs:=l.map pcT) hs1 (by decide) (by omega) (x:=pcT l[k]) (by rw [Int.toNat_natCast,List.getElem?_map,List.getElem?_eq_getElem hkl];rfl) λp hp=>?_
  refine Bn5 hs1 (by omega) (by omega) (by omega) (by omega) (by omega) λs2 h2=>?_
  have t1:(l.drop (0:Int).toNat).take ((k:Int).toNat-(0:Int).toNat)=l.take k:=by simp
  have t2:(l.drop ((k+1:Nat):Int).toNat).take (((s.len:Nat):Int).toNat-((k+1:Nat):Int).toNat)=l.drop (k+1):=by
   rw [Int.toNat_natCast,Int.toNat_natCast]
   have:s.len-(k+1)=(l.drop (k+1)).length:=by rw [List.length_drop];omega
   rw [this,List.take_length]
  rw [t1] at h1
  rw [t2] at h2
  have eq:l.take k++l[k]::l.drop (k+1)=l:=by rw [←List.drop_eq_getElem_cons hkl,List.take_append_drop]
  have hf':=eq.symm▸hf
  refine ih (l.take k) s1 w1 (by rw [List.length_take];omega) h1 hf'.left λa w2 ha hai e2=>Ar (hp w2 e2) ?_
  refine ih (l.drop (k+1)) s2 w2 (by rw [List.length_drop];omega) (Cj.ext h2 e2) (Fine.right (l:=[l[k]]) hf'.right) λb w3 hb hbi e3=>Ar (hp w3 (e2.trans e3)) ?_
  exact Fa (ha.ext e3) hb hf (by rw [hai,hbi,eq]) (hK.ext ((e1.trans e2).trans e3))
abbrev trV (t:Tr):Value:=.agg (Cells.vals c139 (t.ptr,())).toArray
theorem Am9 {l:List Pc}{s:Sl}(hs:Ps w s l) (hf:Fine l){K:Cells.T c139->Wp}(hK:∀(t:Tr) (w':World),t.In w'->t.items=l->Ext w w'->K (t.ptr,()) w') :
  Aa Tryz.prog 86 #[s.v] (.one (.agg c139)) K w:=by
 refine j86 ?_
 unfold F86
 refine (St.start w).Ad λb1 w1 S1 e1=>Aa2 _ l s w1 (Nat.le_refl _) (Cj.ext hs e1) hf λt w2 ht hti e2=>?_
 refine (S1.ext e2).Ae 0 rfl rfl rfl rfl λw3 S3 u3=>S3.lds 0 (t.ptr,()) rfl (hK t w3 (ht.ty u3 ?_) hti S3.upd)
 rintro k rfl c fr hc
 have:=(S1.ext e2).at_ 0 rfl
 rw [hc] at this;cases this
theorem Vf {t:Tr}(ht:t.In w){K:Int->Wp}(hK:∀w',Ext w w'->K (t.items.length:Int) w'):Aa Tryz.prog 125 #[trV t] rI K w:=by
 refine j125 (a0:=(t.ptr,())) ?_
 unfold F125
 refine (St.start w).Ad λb1 w1 S1 e1=>S1.ld 0 rfl (x:=t.ptr) rfl (Ir (ht.ext e1) ?_)
 rw [←Ej]
 exact hK w1 e1
theorem Ac5 {t:Tr}(ht:t.In w){K:Cells.T Bf->Wp}(hK:∀w',Ext w w'->K (smT (tot t.items)) w'):Aa Tryz.prog 83 #[trV t] (.one (.agg Bf)) K w:=by
 refine j83 (a0:=(t.ptr,())) ?_
 unfold F83
 refine (St.start w).Ad λb1 w1 S1 e1=>S1.Ad λb2 w2 S2 e2=>S2.ld 1 rfl (x:=t.ptr) rfl ?_
 cases t with
 |nil =>
  refine Ac (λ_=>S2.Ad λb3 w3 S3 e3=>S3.lds 0 (smT .zero) rfl (S3.Ae 1 rfl rfl rfl rfl λw4 S4 u4=>S4.lds 1 (smT .zero) rfl (hK w4 S4.upd))) (λh=>by cases h)
 |node b l x r =>
  refine Ac (λh=>by cases h) (λ_=>S2.ld 1 rfl (x:=(Tr.node b l x r).ptr) rfl (Q8 (ht.ext S2.upd) ?_))
  exact S2.Ae 0 rfl rfl rfl rfl λw3 S3 u3=>S3.lds 0 (smT (tot (Tr.node b l x r).items)) rfl (hK w3 S3.upd)
theorem Qs {t:Tr}{n m:Nat}{l:List Pc}{s:Sl}(ht:t.In w) (hs:Ps w s l) (hf:Fine t.items) (hfl:Fine l) (hnm:n<=m) (hm:m<=t.items.length) (hF:Fine (t.items.take n++l++t.items.drop m))
  {K:Cells.T c139×Int×Unit->Wp} (hK:∀(t':Tr) (w':World),t'.In w'->t'.items=t.items.take n++l++t.items.drop m->Ext w w'->K ((t'.ptr,()),0,()) w') :
  Aa Tryz.prog 124 #[trV t,.int .i64 (n:Int),.int .i64 (m:Int),s.v] (.tup [(.agg c139),(.one (.int .i64))]) K w:=by
 refine j124 (a0:=(t.ptr,())) ?_
 unfold F124
 have few:=hf.few
 refine (St.start w).Ad λb1 w1 S1 e1=>S1.Ad λb2 w2 S2 e2=>?_
 refine Ag (λx w'=>x=(false,())/\Ext w2 w') (Ac (λh=>?_) (λ_=>Ac (λh=>?_) (λ_=>S2.lds 1 (t.ptr,()) rfl (Vf (ht.ext S2.upd) λw3 e3=>⟨?_,e3⟩)))) ?_
 ·simp only [decide_eq_true_eq] at h;omega
 ·simp only [decide_eq_true_eq,gt_iff_lt] at h;omega
 ·rw [decide_eq_false (by omega)]
 rintro _ w3 ⟨rfl,e3⟩
 have S3:=S2.ext e3
 refine Ac (λh=>by cases h) (λ_=>S3.ld 1 rfl (x:=t.ptr) rfl ?_)
 refine Xg t w3 n (ht.ext S3.upd) hf (by omega) λa a' w4 ha _ hai _ e4=>?_
 have S4:=S3.ext e4
 refine S4.ld 1 rfl (x:=t.ptr) rfl (Xg t w4 m (ht.ext S4.upd) hf (by omega) λc' c w5 _ hc _ hci e5=>?_)
 have S5:=S4.ext e5
 refine Aa2 _ l s w5 (Nat.le_refl _) (Cj.ext hs S5.upd) hfl λp w6 hp hpi e6=>?_
 refine Ag4 ((ha.ext e5).ext e6) hp (by rw [hai,hpi];exact hF.left) λq w7 hq hqi e7=>?_
 refine Ag4 hq ((hc.ext e6).ext e7) (by rw [hqi,hai,hpi,hci];exact hF) λt' w8 ht' hti e8=>?_
 have S8:=S5.ext ((e6.trans e7).trans e8)
 refine S8.Ae 0 rfl rfl rfl rfl λw9 S9 u9=>S9.lds 0 (t'.ptr,()) rfl (hK t' w9 (ht'.ty u9 ?_) (by rw [hti,hqi,hai,hpi,hci]) S9.upd)
 rintro k rfl c fr hc
 have:=S8.at_ 0 rfl
 rw [hc] at this;cases this
end
section
variable {w w':World}{S:Nat->Prop}
def Bv7 (w:World):Option Addr->Nat
 |none=>0
 |some a=>match w.cell? (a.add 9) with
  |some (.int _ n)=>n.toNat
  |_=>0
theorem Jk {t:Tr}(h:t.In w):Bv7 w t.ptr=t.size:=by
 cases t with
 |nil=>rfl
 |node b l x r =>
  have:=Oy h (j:=9) (v:=.int .i64 ((Tr.node b l x r).size:Int)) rfl
  show (match w.cell? ((at0 b).add 9) with|some (.int _ n)=>n.toNat|_=>0)=_
  rw [this]
  exact Int.toNat_natCast _
theorem Fine.part {a l b:List Pc}{L:List Pc}(h:Fine L) (e:L=a++(l++b)):Fine l:=(e▸h).mid
theorem Ac3 {t:Tr}{n:Nat}(ht:t.In w) (hf:Fine t.items) (hn:n<2^62){K:Cells.T Bf->Wp}(hK:∀w',Ext w w'->K (smT (tot (t.items.take n))) w') :
  Aa Tryz.prog 152 #[trV t,.int .i64 (n:Int)] (.one (.agg Bf)) K w:=by
 refine Cs8 (a0:=(t.ptr,())) ?_
 unfold F152
 have few:=hf.few
 refine (St.start w).Ad λb1 w1 S1 e1=>S1.Ad λb2 w2 S2 e2=>S2.Ad λb3 w3 S3 e3=>S3.lds 2 (t.ptr,()) rfl (Vf (ht.ext S3.upd) λw4 e4=>?_)
 have S4:=S3.ext e4
 have e0:(if ((t.items.length:Nat):Int)<(n:Int) then ((t.items.length:Nat):Int) else (n:Int))=((min n t.items.length:Nat):Int):=by split<;>omega
 rw [e0]
 have tk:t.items.take n=t.items.take (min n t.items.length):=List.take_eq_take_iff.2 (by omega)
 rw [tk] at hK
 generalize hm:min n t.items.length=m at *
 have hml:m<=t.items.length:=by omega
 let z2:Nat×Obj:=(b2,.cells #[(.int .i64 (0:Int)),(.int .i64 (0:Int)),(.int .i64 (0:Int)),(.bool false),(.bool false)] 144 (0,0))
 let z1:Nat×Obj:=(b1,.cells (Cells.vals c139 (t.ptr,())).toArray 139 (0,0))
 refine Ag (λ_ w'=>St (λ_=>False) w w' [(b3,.cells (Cells.vals Bf (smT (tot (t.items.take m)))).toArray 144 (0,0)),z2,z1]) ?_ ?_
 ·refine S4.ld 2 rfl (x:=t.ptr) rfl ?_
  refine Bz (λx w'=>∃(i:Nat) (t':Tr) (a:List Pc) (r:List Pc),x=((i:Int),t'.ptr,())/\t'.In w/\t.items=a++(t'.items++r)/\i<=t'.items.length/\t.items.take m=a++t'.items.take i /\
   St (λ_=>False) w w' [(b3,.cells (Cells.vals Bf (smT (tot a))).toArray 144 (0,0)),z2,z1]) (λx w'=>Bv7 w' x.2.1) ⟨m,t,[],[],rfl,ht,by simp,hml,by simp,S4⟩ ?_
  rintro _ w5 ⟨i,t',a,r,rfl,htw,eq,hi,etk,S5⟩
  have ht':=htw.ext S5.upd
  have hfa:=(eq▸hf.ok).left
  have hft:Fine t'.items:=Fine.part hf eq
  have small:=hf.small
  rw [eq,Eh hfa (eq▸hf.ok).right,Eh (eq▸hf.ok).right.left (eq▸hf.ok).right.right] at small
  refine Ag (λx w'=>x=(decide (0<i),())/\w5=w') ?_ ?_
  ·cases t' with
   |nil =>
    have:i=0:=by simpa [Tr.items] using hi
    exact Ac (λh=>by cases h) (λ_=>⟨by rw [decide_eq_false (by omega)],rfl⟩)
   |node b l x rr =>
    refine Ac (λ_=>⟨Dx ?_,rfl⟩) (λh=>by cases h)
    simp only [decide_eq_true_eq,gt_iff_lt];omega
  rintro _ w' ⟨rfl,rfl⟩
  refine Ac (λh=>?_) (λh=>?_)
  ·simp only [decide_eq_true_eq] at h
   obtain ⟨b,l,x,rr,rfl⟩:∃b l x rr,t'=.node b l x rr:=by
    cases t' with
    |nil=>simp [Tr.items] at hi;omega
    |node b l x rr=>exact ⟨b,l,x,rr,rfl⟩
   have sl:=Ej l
   have srr:=Ej rr
   have hti:(Tr.node b l x rr).items=l.items++x::rr.items:=rfl
   have hlen:(Tr.node b l x rr).items.length=l.items.length+1+rr.items.length:=by rw [hti];simp;omega
   have few':=hft.few
   have okl:Dz l.items:=hft.ok.left
   have okx:x.sm.Ok:=hft.ok.right.head
   have okr:Dz rr.items:=hft.ok.right.tail
   have sm2:(tot (Tr.node b l x rr).items).bytes=(tot l.items).bytes+(x.sm.bytes+(tot rr.items).bytes):=by
    rw [hti,Eh okl (Dz.cons okx okr)]
    have ex:x::rr.items=[x]++rr.items:=rfl
    rw [ex,Eh (Dz.one okx) okr,Ue okx]
   have okta:=Ii hfa
   refine Ef ht' (Ir ht'.2.1 (Ac (λh2=>?_) (λh2=>?_)))
   ·simp only [decide_eq_true_eq] at h2
    refine Ef ht' ⟨⟨i,l,a,x::rr.items++r,rfl,htw.2.1,by rw [eq,hti];simp,by omega,?_,S5⟩,?_⟩
    ·rw [etk,hti,List.take_append_of_le_length (by omega)]
    ·dsimp only
     rw [Jk ht',Jk ht'.2.1]
     show l.size<l.size+1+rr.size
     omega
   ·simp only [decide_eq_false_iff_not] at h2
    refine Ag (λ_ w'=>St (λ_=>False) w w' [(b3,.cells (Cells.vals Bf (smT ((tot a).add (tot l.items)))).toArray 144 (0,0)),z2,z1]) ?_ ?_
    ·refine Ef ht' ?_
     cases l with
     |nil =>
      have e:(tot a).add (tot (Tr.nil).items)=tot a:=Ee.add_zero okta
      rw [e]
      exact Ac (λh=>by cases h) (λ_=>S5)
     |node bl ll lx lr =>
      refine Ac (λ_=>S5.drew λw6 S6 e6 _=>S6.lds 0 (smT (tot a)) rfl ?_) (λh=>by cases h)
      have ht6:=ht'.ext e6
      refine Ef ht6 (Q8 ht6.2.1 (Ag6 okta (Ii okl) (by omega) λw7 e7=>?_))
      exact (S6.ext e7).Ae 0 rfl rfl rfl rfl λw8 S8 u8=>S8
    ·intro _ w6 S6
     have okm:=Ee.Yk okta (Ii okl)
     have bm:=(Ee.Nz _ _ okta (Ii okl)).1
     refine S6.drew λw7 S7 e7 _=>S7.lds 0 (smT _) rfl (Ht (htw.ext S7.upd) (Xy λw8 e8=>?_))
     have S8:=S7.ext e8
     refine S8.keeps 0 rfl (Ag6 okm okx (by omega) λw9 e9=>(S8.ext e9).Ae 0 rfl rfl rfl rfl λw10 S10 u10=>Fp (htw.ext S10.upd) ?_)
     have ew:IntKind.wrap .i64 (IntKind.wrap .i64 ((i:Int)-(l.size:Int))-1)=((i-l.items.length-1:Nat):Int):=by
      rw [wrap64 (a:=(i:Int)-(l.size:Int)) (by omega) (by omega),wrap64 (by omega) (by omega)];omega
     rw [ew]
     have es:((tot a).add (tot l.items)).add x.sm=tot (a++(l.items++[x])):=by
      rw [Hz hfa (Dz.append okl (Dz.one okx)),Hz okl (Dz.one okx),Ue okx,Ee.add_assoc okta (Ii okl) okx]
     rw [es] at S10
     refine ⟨⟨i-l.items.length-1,rr,a++(l.items++[x]),r,rfl,htw.2.2,by rw [eq,hti];simp,by omega,?_,S10⟩,?_⟩
     ·rw [etk,hti]
      obtain ⟨j,hj⟩:∃j,i=l.items.length+(1+j):=⟨i-l.items.length-1,by omega⟩
      have ej:i-l.items.length-1=j:=by omega
      rw [ej,hj,List.take_length_add_append,Nat.add_comm 1 j,List.take_succ_cons]
      simp
     ·dsimp only
      rw [Jk (htw.ext S10.upd).2.2,Jk ht']
      show rr.size<l.size+1+rr.size
      omega
  ·simp only [decide_eq_false_iff_not] at h
   have:i=0:=by omega
   subst this
   rw [etk]
   simpa using S5
 ·intro _ w5 S5
  exact S5.lds 0 (smT _) rfl (S5.Ae 1 rfl rfl rfl rfl λw6 S6 u6=>S6.lds 1 (smT _) rfl (hK w6 S6.upd))
def atI (l:List Pc) (n:Nat):Pc×Bool:=match l[n]? with|some x=>(x,true)|none=>(Pc.zero,false)
theorem Al6 {t:Tr}{n:Nat}(ht:t.In w) (hf:Fine t.items) (hn:n<2^62){K:Cells.T c146×Bool×Unit->Wp}(hK:∀w',Ext w w'->K (pcT (atI t.items n).1,(atI t.items n).2,()) w') :
  Aa Tryz.prog 121 #[trV t,.int .i64 (n:Int)] (.tup [(.agg c146),(.one .bool)]) K w:=by
 refine j121 (a0:=(t.ptr,())) ?_
 unfold F121
 refine (St.start w).Ad λb1 w1 S1 e1=>S1.Ad λb2 w2 S2 e2=>?_
 let z2:Nat×Obj:=(b2,.cells (Cells.vals c146 (pcT Pc.zero)).toArray 146 (0,0))
 let z1:Nat×Obj:=(b1,.cells (Cells.vals c139 (t.ptr,())).toArray 139 (0,0))
 refine Ag (λ_ w'=>St (λ_=>False) w w' [z2,z1]/\t.items.length<=n) ?_ ?_
 ·refine S2.ld 1 rfl (x:=t.ptr) rfl ?_
  refine Bz (λx w'=>∃(i:Nat) (t':Tr) (a r:List Pc),x=((i:Int),t'.ptr,())/\t'.In w/\Fine t'.items/\t.items=a++(t'.items++r)/\n=a.length+i/\(t'.items.length<=i->r=[]) /\
   St (λ_=>False) w w' [z2,z1]) (λx w'=>Bv7 w' x.2.1) ⟨n,t,[],[],rfl,ht,hf,by simp,by simp,λ_=>rfl,S2⟩ ?_
  rintro _ w5 ⟨i,t',a,r,rfl,htw,hft,eq,hi,hr,S5⟩
  have ht':=htw.ext S5.upd
  cases t' with
  |nil =>
   refine Ag (λx w'=>x=(false,())/\w5=w') (Ac (λh=>by cases h) (λ_=>⟨rfl,rfl⟩)) ?_
   rintro _ w' ⟨rfl,rfl⟩
   refine Ac (λh=>by cases h) (λ_=>⟨S5,?_⟩)
   have:=hr (Nat.zero_le _)
   rw [eq,this]
   simp [Tr.items];omega
  | node b l x rr =>
   refine Ag (λx w'=>x=(true,())/\w5=w') (Ac (λ_=>⟨by rw [decide_eq_true (by omega)],rfl⟩) (λh=>by cases h)) ?_
   rintro _ w' ⟨rfl,rfl⟩
   have hti:(Tr.node b l x rr).items=l.items++x::rr.items:=rfl
   have sl:=Ej l
   have few':=hft.few
   have hlen:(Tr.node b l x rr).items.length=l.items.length+1+rr.items.length:=by rw [hti];simp;omega
   have hfl:Fine l.items:=hft.left
   have hfr:Fine rr.items:=Fine.right (l:=[x]) hft.right
   refine Ac (λ_=>Ef ht' (Ir ht'.2.1 (Ac (λh2=>?_) (λh2=>Ac (λh3=>?_) (λh3=>?_))))) (λh=>by cases h)
   ·simp only [beq_iff_eq] at h2
    have hil:i=l.items.length:=by omega
    refine Ht ht' (S5.Ae 0 rfl rfl rfl rfl λw6 S6 u6=>S6.lds 0 (pcT x) rfl ?_)
    have e:atI t.items n=(x,true):=by
     unfold atI
     rw [eq,hi,hil,hti]
     have:(a++(l.items++x::rr.items++r))[a.length+l.items.length]?=some x:=by
      rw [List.getElem?_append_right (by omega),Nat.add_sub_cancel_left,List.append_assoc,List.getElem?_append_right (by omega),Nat.sub_self];rfl
     rw [this]
    have:=hK w6 S6.upd
    rw [e] at this
    exact this
   ·simp only [beq_eq_false_iff_ne] at h2
    simp only [decide_eq_true_eq] at h3
    refine Ef ht' ⟨⟨i,l,a,x::rr.items++r,rfl,htw.2.1,hfl,by rw [eq,hti];simp,hi,λh=>by omega,S5⟩,?_⟩
    dsimp only
    rw [Jk ht',Jk ht'.2.1]
    show l.size<l.size+1+rr.size
    omega
   ·simp only [beq_eq_false_iff_ne] at h2
    simp only [decide_eq_false_iff_not] at h3
    have ew:IntKind.wrap .i64 (IntKind.wrap .i64 ((i:Int)-(l.size:Int))-1)=((i-l.items.length-1:Nat):Int):=by
     rw [wrap64 (a:=(i:Int)-(l.size:Int)) (by omega) (by omega),wrap64 (by omega) (by omega)];omega
    rw [ew]
    refine Fp ht' ⟨⟨i-l.items.length-1,rr,a++(l.items++[x]),r,rfl,htw.2.2,hfr,by rw [eq,hti];simp,by simp;omega,λh=>hr (by omega),S5⟩,?_⟩
    dsimp only
    rw [Jk ht',Jk ht'.2.2]
    show rr.size<l.size+1+rr.size
    omega
 ·rintro _ w5 ⟨S5,hle⟩
  refine S5.Ad λb6 w6 S6 e6=>S6.lds 0 (pcT Pc.zero) rfl (S6.Ae 1 rfl rfl rfl rfl λw7 S7 u7=>S7.lds 1 (pcT Pc.zero) rfl ?_)
  have e:atI t.items n=(Pc.zero,false):=by unfold atI;rw [List.getElem?_eq_none hle]
  have:=hK w7 S7.upd
  rw [e] at this
  exact this
def keyOf (k:Nat) (s:Ee):Nat:=if k=0 then s.atoms else s.breaks
def Zk (k n:Nat) (l:List Pc):Nat:=((List.range (l.length+1)).find? λi=>decide (n<=keyOf k (tot (l.take i)))).getD (l.length+1)
theorem Br6 {s:Ee}{k:Nat}(hk:k<2){K:Int->Wp}(hK:∀w',Ext w w'->K ((keyOf k s:Nat):Int) w') :
  Bg Tryz.prog (invoke (.fn (.method "Key") #[]) (#[.iface 144 (smV s)]++#[.int .i64 (k:Int)])) (.one (.one (.int .i64))) K w :=
 Cl2 hk λw' e=>by
  have:=hK w' e
  unfold keyOf at this
  split at this
  ·rename_i h;rw [if_pos h];exact this
  ·rename_i h;rw [if_neg h];exact this
theorem Ay0 {k:Nat}{a b:Ee}(ha:a.Ok) (hb:b.Ok):keyOf k a<=keyOf k (a.add b):=by
 unfold keyOf Ee.add
 have h1:=ha.nil
 have h2:=hb.lf
 split
 ·split
  ·rename_i h;omega
  ·split
   ·exact Nat.le_refl _
   ·show a.atoms<=a.atoms+b.atoms;omega
 ·split
  ·rename_i h;rw [h1 h];exact Nat.zero_le _
  ·split
   ·exact Nat.le_refl _
   ·show a.breaks<=a.breaks+b.breaks-_
    split
    ·rename_i h
     simp only [Bool.and_eq_true] at h
     have:=h2 h.2;omega
    ·omega
theorem Ar6 {k n:Nat}{l:List Pc}{j:Nat}(hj:j<=l.length) (h1:n<=keyOf k (tot (l.take j))) (h0:∀i,i<j->keyOf k (tot (l.take i))<n):Zk k n l=j:=by
 unfold Zk
 have:(List.range (l.length+1)).find? (λi=>decide (n<=keyOf k (tot (l.take i))))=some j:=by
  rw [List.find?_range_eq_some]
  refine ⟨by simpa using h1,by simp;omega,λi hi=>?_⟩
  have:=h0 i hi
  simp;omega
 rw [this];rfl
theorem Az1 {k n:Nat}{l:List Pc}(h0:∀i,i<=l.length->keyOf k (tot (l.take i))<n):Zk k n l=l.length+1:=by
 unfold Zk
 have:(List.range (l.length+1)).find? (λi=>decide (n<=keyOf k (tot (l.take i))))=none:=by
  rw [List.find?_range_eq_none]
  intro i hi
  have:=h0 i (by omega)
  simp;omega
 rw [this];rfl
end
section
variable {w w':World}{S:Nat->Prop}
theorem Jf {t:Tr} {k n:Nat} (hk:k<2) (hn:0<n) (ht:t.In w) (hf:Fine t.items) {K:Int->Wp} (hK:∀w',Ext w w'->K ((Zk k n t.items:Nat):Int) w') :
  Aa Tryz.prog 153 #[trV t,.int .i64 (k:Int),.int .i64 (n:Int)] rI K w:=by
 refine Cs7 (a0:=(t.ptr,())) ?_
 unfold F153
 have few:=hf.few
 refine (St.start w).Ad λb1 w1 S1 e1=>Ac (λh=>?_) (λ_=>S1.Ad λb2 w2 S2 e2=>?_)
 ·simp only [decide_eq_true_eq] at h;omega
 let z1:Nat×Obj:=(b1,.cells (Cells.vals c139 (t.ptr,())).toArray 139 (0,0))
 refine Ag (λx w'=>x=((t.items.length:Int),())/\Zk k n t.items=t.items.length+1/\Ext w w') ?_ ?_
 ·refine S2.ld 1 rfl (x:=t.ptr) rfl ?_
  refine Bz (λx w'=>∃(t':Tr) (a r:List Pc),x=((a.length:Int),t'.ptr,())/\t'.In w/\t.items=a++(t'.items++r)/\(∀i,i<=a.length->keyOf k (tot (t.items.take i))<n)/\(r=[]\/n<=keyOf k (tot (a++t'.items))) /\
   St (λ_=>False) w w' [(b2,.cells (Cells.vals Bf (smT (tot a))).toArray 144 (0,0)),z1]) (λx w'=>Bv7 w' x.2.1) ⟨t,[],[],rfl,ht,by simp,λi hi=>?_,.inl rfl,S2⟩ ?_
  ·have:i=0:=by simpa using hi
   subst this
   unfold keyOf;split<;>exact hn
  rintro _ w5 ⟨t',a,r,rfl,htw,eq,hlow,hr,S5⟩
  have ht':=htw.ext S5.upd
  have hfa:=(eq▸hf.ok).left
  have okta:=Ii hfa
  cases t' with
  | nil =>
   refine Ac (λh=>by cases h) (λ_=>?_)
   have hr':r=[]:=by
    rcases hr with h|h
    ·exact h
    ·have:=hlow a.length (Nat.le_refl _)
     rw [eq,List.take_left] at this
     simp only [Tr.items,List.append_nil] at h
     omega
   subst hr'
   have el:t.items=a:=by rw [eq];simp [Tr.items]
   refine ⟨by rw [el],?_,S5.upd⟩
   exact Az1 λi hi=>hlow i (by rw [←el];exact hi)
  | node b l x rr =>
   have hti:(Tr.node b l x rr).items=l.items++x::rr.items:=rfl
   have hft:Fine (Tr.node b l x rr).items:=Fine.part hf eq
   have okl:Dz l.items:=hft.ok.left
   have okx:x.sm.Ok:=hft.ok.right.head
   have okr:Dz rr.items:=hft.ok.right.tail
   have sl:=Ej l
   have small:=hf.small
   rw [eq,Eh hfa (eq▸hf.ok).right,Eh (eq▸hf.ok).right.left (eq▸hf.ok).right.right] at small
   have sm2:(tot (Tr.node b l x rr).items).bytes=(tot l.items).bytes+(x.sm.bytes+(tot rr.items).bytes):=by
    rw [hti,Eh okl (Dz.cons okx okr)]
    have ex:x::rr.items=[x]++rr.items:=rfl
    rw [ex,Eh (Dz.one okx) okr,Ue okx]
   have lens:t.items.length=a.length+(l.items.length+(1+rr.items.length)+r.length):=by rw [eq,hti];simp;omega
   have okm:=Ee.Yk okta (Ii okl)
   have bm:=(Ee.Nz _ _ okta (Ii okl)).1
   have el:(tot a).add (tot l.items)=tot (a++l.items):=(Hz hfa okl).symm
   refine Ac (λ_=>S5.lds 0 (smT (tot a)) rfl (S5.Ia rfl rfl rfl λb9 w6 S6 e6=>?_)) (λh=>by cases h)
   let z2:Nat×Obj:=(b2,.cells (Cells.vals Bf (smT (tot a))).toArray 144 (0,0))
   refine Ag (λ_ w'=>St (λ_=>False) w w' [(b9,.cells (Cells.vals Bf (smT ((tot a).add (tot l.items)))).toArray 144 (0,0)),z2,z1]) ?_ ?_
   ·refine Ef (htw.ext S6.upd) ?_
    cases l with
    |nil =>
     have e:(tot a).add (tot (Tr.nil).items)=tot a:=Ee.add_zero okta
     rw [e]
     exact Ac (λh=>by cases h) (λ_=>S6)
    |node bl ll lx lr =>
     refine Ac (λ_=>S6.drew λw7 S7 e7 _=>S7.lds 1 (smT (tot a)) rfl ?_) (λh=>by cases h)
     have ht7:=htw.ext S7.upd
     refine Ef ht7 (Q8 ht7.2.1 (Ag6 okta (Ii okl) (by omega) λw8 e8=>?_))
     exact (S7.ext e8).Ae 0 rfl rfl rfl rfl λw9 S9 u9=>S9
   ·intro _ w7 S7
    refine S7.lds 0 (smT _) rfl (Br6 hk λw8 e8=>?_)
    have S8:=S7.ext e8
    rw [el]
    refine Ac (λh=>?_) (λh=>?_)
    ·simp only [decide_eq_true_eq,ge_iff_le] at h
     refine Ef (htw.ext S8.upd) ⟨⟨l,a,x::rr.items++r,rfl,htw.2.1,by rw [eq,hti];simp,hlow,.inr (by omega),S8.tail⟩,?_⟩
     dsimp only
     rw [Jk (htw.ext S8.upd).2.1,Jk ht']
     show l.size<l.size+1+rr.size
     omega
    ·simp only [decide_eq_false_iff_not,ge_iff_le] at h
     have hlt:keyOf k (tot (a++l.items))<n:=by omega
     have S8':=S8
     rw [el] at S8'
     refine Ef (htw.ext S8.upd) (Ir (htw.ext S8.upd).2.1 (S8'.drew λw9 S9 e9 _=>S9.lds 0 (smT _) rfl (Ht (htw.ext S9.upd) (Xy λw10 e10=>?_))))
     have S10:=S9.ext e10
     refine S10.keeps 0 rfl (Ag6 (el▸okm) okx (by rw [←el];omega) λw11 e11=>(S10.ext e11).Ae 1 rfl rfl rfl rfl λw12 S12 u12=>?_)
     have es:(tot (a++l.items)).add x.sm=tot (a++(l.items++[x])):=by
      rw [←List.append_assoc,Hz (Dz.append hfa okl) (Dz.one okx),Ue okx]
     rw [es] at S12
     refine S12.lds 1 (smT _) rfl (Br6 hk λw13 e13=>?_)
     have S13:=S12.ext e13
     have ew:IntKind.wrap .i64 ((a.length:Int)+IntKind.wrap .i64 ((l.size:Int)+1))=((a.length+l.items.length+1:Nat):Int):=by
      rw [wrap64 (a:=(l.size:Int)+1) (by omega) (by omega),wrap64 (by omega) (by omega)];omega
     rw [ew]
     have hlow2:∀i,i<=a.length+l.items.length->keyOf k (tot (t.items.take i))<n:=by
      intro i hi
      by_cases h1:i<=a.length
      ·exact hlow i h1
      ·obtain ⟨j,rfl⟩:∃j,i=a.length+j:=⟨i-a.length,by omega⟩
       have e1:t.items.take (a.length+j)=a++l.items.take j:=by
        rw [eq,List.take_length_add_append,hti,List.append_assoc,List.take_append_of_le_length (by omega)]
       have e2:a++l.items=(a++l.items.take j)++l.items.drop j:=by simp
       have okt:Dz (l.items.take j):=λy hy=>okl y (List.mem_of_mem_take hy)
       have okd:Dz (l.items.drop j):=λy hy=>okl y (List.mem_of_mem_drop hy)
       rw [e1]
       rw [e2,Hz (Dz.append hfa okt) okd] at hlt
       exact Nat.lt_of_le_of_lt (Ay0 (Ii (Dz.append hfa okt)) (Ii okd)) hlt
     have etk:t.items.take (a.length+l.items.length+1)=a++(l.items++[x]):=by
      rw [eq,hti,Nat.add_assoc,List.take_length_add_append,List.append_assoc,List.take_length_add_append]
      rfl
     refine Ac (λh2=>?_) (λh2=>?_)
     ·simp only [decide_eq_true_eq,ge_iff_le] at h2
      have:=Ar6 (k:=k) (n:=n) (l:=t.items) (j:=a.length+l.items.length+1) (by omega) (by rw [etk];omega) λi hi=>hlow2 i (by omega)
      rw [←this]
      exact hK w13 S13.upd
     ·simp only [decide_eq_false_iff_not,ge_iff_le] at h2
      refine Fp (htw.ext S13.upd) ⟨⟨rr,a++(l.items++[x]),r,by simp;omega,htw.2.2,by rw [eq,hti];simp,λi hi=>?_,?_,S13.tail⟩,?_⟩
      ·by_cases h1:i<=a.length+l.items.length
       ·exact hlow2 i h1
       ·have:i=a.length+l.items.length+1:=by simp at hi;omega
        rw [this,etk];omega
      ·rcases hr with h|h
       ·exact .inl h
       ·refine .inr ?_
        have:a++(l.items++[x])++rr.items=a++(Tr.node b l x rr).items:=by rw [hti];simp
        rw [this];exact h
      ·dsimp only
       rw [Jk (htw.ext S13.upd).2.2,Jk ht']
       show rr.size<l.size+1+rr.size
       omega
 ·rintro _ w5 ⟨rfl,hfi,he⟩
  have ew:IntKind.wrap .i64 ((t.items.length:Int)+1)=((Zk k n t.items:Nat):Int):=by rw [hfi,wrap64 (by omega) (by omega)];omega
  show K (IntKind.wrap .i64 ((t.items.length:Int)+1)) w5
  rw [ew]
  exact hK w5 he
end
end Go.Proofs.YtmooldhpiopcgaaGreatDoor
