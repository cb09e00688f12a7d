/- YtmooldhpiopcgaaGreatDoorSOp4: parts of the proof, put together by program. -/
import Derived.Test.YtmooldhpiopcgaaGreatDoorSOp3
set_option linter.unusedVariables false
set_option linter.defProp false
set_option linter.unusedSimpArgs false
set_option linter.unusedSectionVars false
noncomputable section
set_option maxHeartbeats 2000000
set_option maxRecDepth 100000
namespace Go.Proofs.YtmooldhpiopcgaaGreatDoor
open Go.Proofs.Tryz
section
open Go Go.Vx
def F24 (x:Sl) (K:aI->Wp):Wp:=jB (λy=>sif (decide (((x.len:Nat):Int)>=3)) (ixl (.int .u8) x 0 1 λ(b:Int)=>sif (b==239) (ixl (.int .u8) x 1 1 λ(c:Int)=>sif (c==187) (ixl (.int .u8) x 2 1 λ(d:Int)=>y ((d==191),())) (y (false,()))) (y (false,()))) (y (false,()))) λe=>sif e.1 (K (1,3,())) (jB (λz=>sif (decide (((x.len:Nat):Int)>=2)) (ixl (.int .u8) x 0 1 λ(f:Int)=>sif (f==255) (ixl (.int .u8) x 1 1 λ(g:Int)=>z ((g==254),())) (z (false,()))) (z (false,()))) λh=>sif h.1 (K (2,2,())) (jB (λa=>sif (decide (((x.len:Nat):Int)>=2)) (ixl (.int .u8) x 0 1 λ(i:Int)=>sif (i==254) (ixl (.int .u8) x 1 1 λ(j:Int)=>a ((j==255),())) (a (false,()))) (a (false,()))) λk=>sif k.1 (K (3,2,())) (K (0,0,()))))
def h24:Hint:=(hS (hR 2) (hS (.block (hJ (67108848,[(4,tB)]) (.region [] (.ops 4 (.split 8 (.ops 6 (.split 14 (.ops 6 (.split 20 (hO 6) fE)) fQ)) (.skips 4 (.ops 2 fQ))))) (hC dX (hJ (0x3fffc000000,[(26,tB)]) (.region [] (.ops 4 (.split 30 (.ops 6 (.split 36 (hO 6) fE)) fQ))) (hC dX (hJ ((mR [(42,58)]),[(42,tB)]) (.region [] (.ops 4 (.split 46 (.ops 6 (.split 52 (hO 6) fE)) fQ))) gI)))))) dX))
def j24 {a0 K w}(h:F24 a0 K w):Aa prog 24 #[a0.v] bI K w:=tied Ap func24 h24 _ h
def F25 (x:Int) (K:Sl->Wp):Wp:=sif (x==1) (Ak (.cells #[(.int .u8 239),(.int .u8 187),(.int .u8 191)] 5) λy=>K ⟨(some (at0 y)),3,3⟩) (sif (x==2) (Ak (.cells #[(.int .u8 255),(.int .u8 254)] 5) λz=>K ⟨(some (at0 z)),2,2⟩) (sif (x==3) (Ak (.cells #[(.int .u8 254),(.int .u8 255)] 5) λa=>K ⟨(some (at0 a)),2,2⟩) (K ⟨none,0,0⟩)))
def h25:Hint:=(hS (hR 1) (hS (hS (hR 1) (.block (hS (hR 2) (hC dX (hS (hR 2) (hC dX fA)))))) eH))
def j25 {a0 K w}(h:F25 a0 K w):Aa prog 25 #[(vI a0)] rS K w:=tied Ap func25 h25 _ h
def F39 (c:xM) (K:Sl->Wp):Wp:=cN 69 #[(dR c)] λd=>Dy prog rS (Instr.makeSlice 30 (vI d) (vI d)) λ(i:Sl)=>Ak dN λy=>stC (at0 y) i.v<|Ak dO λx=>stC (at0 x) (vI 0)<|nn c λj=>lds c139 (j.add 2) λ(k:aN)=>Aa prog 70 #[(vA c139 k),(vI 0)] (.one (.one .any)) λ(l:Value)=>Xp (S:=aK×Unit) prog (Slots.vals [(14,(.agg c146))]) l (λe f m (n:aK×Unit)=>Ak dM λg=>Ah (at0 g) (vA c146 n.1) 7<|Cf2 e f<|drew<|lI (at0 x) λh=>ld (.sl) (at0 y) λ(z:Sl)=>lI (at0 x) λo=>slc z.a o ((z.len:Nat):Int) ((z.cap:Nat):Int) z.cap 1 λp=>ld (.sl) (at0 g) λ(q:Sl)=>Dy prog rI (Builtin.copy_ #[30,30] 3 #[p.v,q.v]) λ(r:Int)=>aA (at0 x) h<|stC (at0 x) (vI (W64 (h+r)))<|Ag2 e f none m) λb=>aft (ld (.sl) (at0 y) λ(s:Sl)=>Sj b<|K s) (λt=>onE t 0 (ld (.sl) (at0 y) λ(u:Sl)=>Sj b<|K u) (λ_=>False)) (Sj b<|K ⟨none,0,0⟩)
def h39:Hint:=(hS (hR 1) (hS (hR 5) (hS (hR 2) (hS (hS (hR 5) (.block (.range [(14,(.agg c146))] (hR 2) (.block (.region (lR 9) (hO 9)))))) dX))))
def j39 {a0 K w}(h:F39 a0 K w):Aa prog 39 #[(dR a0)] rS K w:=tied Ap func39 h39 _ h
def F47 (x:xM) (K:Int->Wp):Wp:=nn x λy=>lds c139 (y.add 2) λ(z:aN)=>Aa prog 83 #[(vA c139 z)] (.one (.agg Cm)) λ(a:aF)=>K a.1
def h47:Hint:=(hS (hR 1) fU)
def j47 {a0 K w}(h:F47 a0 K w):Aa prog 47 #[(dR a0)] rI K w:=tied Ap func47 h47 _ h
def F48 (c:Int) (d:Sl) (e:Int) (K:aY->Wp):Wp:=jB (λg=>sif (decide (c<1)) (g (true,())) (g ((decide (c>4)),()))) λk=>sif k.1 (K (none,10,())) (jB (λh=>sif (decide (e<0)) (h (true,())) (h ((decide (e>65536)),()))) λl=>sif l.1 (K (none,1,())) (sif (decide (((d.len:Nat):Int)>e)) (K (none,50,())) (Dy prog rS (Instr.makeSlice 30 (vI ((d.len:Nat):Int)) (vI ((d.len:Nat):Int))) λ(y:Sl)=>Dy prog rI (Builtin.copy_ #[30,30] 3 #[y.v,d.v]) λ(D:Int)=>Ak (.cells #[(vI c),(vI e),(dR none),dS] 141) λi=>jS (λm=>Jh (S:=Sl×Int×Unit) (λz n=>sif (decide (z.2.1<((y.len:Nat):Int))) (jI (λo=>sN (λb p=>jB (λj=>sif (decide (b.1<((y.len:Nat):Int))) (j ((decide (b.2.1<128)),())) (j (false,()))) λq=>sif q.1 (Aa prog 84 #[(vI c),y.v,(vI b.1)] bI λ(r:aI)=>p ((W64 (b.1+r.2.1)),(W64 (b.2.1+1)),())) (o (b.1,()))) (z.2.1,0,())) λf=>slc y.a z.2.1 f.1 f.1 y.cap 1 λs=>Aa prog 85 #[(vI c),s.v,(vI z.2.1)] (.one (.agg c146)) λ(x:aK)=>Ak (.cells #[x.1.v,(vI x.2.1),(vI x.2.2.1),(vI x.2.2.2.1),(vI x.2.2.2.2.1),(.bool x.2.2.2.2.2.1),(.bool x.2.2.2.2.2.2.1)] 146) λt=>Dy prog rS (Builtin.append_ #[165,165] 165 #[z.1.v,(.slice (some (at0 t)) 1 1)]) λ(u:Sl)=>n (u,f.1,())) (m (z.1,()))) (⟨none,0,0⟩,0,())) λA=>Aa prog 86 #[A.1.v] (.one (.agg c139)) λ(B:aN)=>nn (some (at0 i)) λC=>Ah (C.add 2) (vA c139 B) 1<|K ((some (at0 i)),0,()))))
def h48:Hint:=(hS (hR 2) (hS (.block (hJ (8323072,[(16,tB)]) (.region [] (.ops 3 (.split 19 dY (hO 4)))) (hC dX (hJ (0x3f800000,[(23,tB)]) (.region [] (.ops 3 (.split 26 dY (hO 4)))) (hC dX (hS (hR 5) gI)))))) (hS (hR 4) (hS (hR 3) (hS (hR 5) (hS (hR 1) (hJ (0x3ffffffffe0000000fc00,[(10,tS)]) (hS (hR 1) (.block (.loop 0x3ffffffffe0000000fc00 [(10,tS),(11,tI)] (hS fJ (.block (hS (hR 3) (hJ (0x3ffffc00000000f000,[(12,tI)]) (.block (.loop 0x3ffffc00000000f000 [(12,tI),(13,tI)] (hS (hJ ((mR [(50,58)]),[(57,tB)]) (.region [] (.ops 5 (.split 54 (hO 3) fD))) eG) (hS (.block (hS (hR 9) (hR 4))) (hR 3))))) (hS (hR 12) (hR 2))))))))) (hS (hR 6) dZ))))))))
def j48 {a0 a1 a2 K w}(h:F48 a0 a1 a2 K w):Aa prog 48 #[(vI a0),a1.v,(vI a2)] bY K w:=tied Ap func48 h48 _ h
def F55 (x:Sl) (K:aQ->Wp):Wp:=Aa prog 24 #[x.v] bI λ(e:aI)=>sif (e.1 !=0) (K (e.1,(Value.float FloatKind.f64 4607182418800017408),())) (jU (λf=>chk ((2:Int)≠0)<|sif (decide ((W64 (Int.tdiv ((x.len:Nat):Int) 2))>0)) (Aa prog 94 #[x.v,(vI 0),(vI (W64 (Int.tdiv ((x.len:Nat):Int) 2)))] (.one (.one .any)) λ(z:Value)=>Aa prog 94 #[x.v,(vI 1),(vI (W64 (Int.tdiv ((x.len:Nat):Int) 2)))] (.one (.one .any)) λ(b:Value)=>jB (λg=>rdB prog (do eqGuard .geq 112 (Operand.tmp 35) (Operand.const (Value.float FloatKind.f64 4602678819172646912)) b (Value.float FloatKind.f64 4602678819172646912);binOp .geq 112 b (Value.float FloatKind.f64 4602678819172646912):Sem Value) λr8=>sif r8 (rdB prog (do eqGuard .leq 112 (Operand.tmp 38) (Operand.const (Value.float FloatKind.f64 4593671619917905920)) z (Value.float FloatKind.f64 4593671619917905920);binOp .leq 112 z (Value.float FloatKind.f64 4593671619917905920):Sem Value) λr9=>g (r9,())) (g (false,()))) λm=>sif m.1 (K (2,b,())) (jB (λh=>rdB prog (do eqGuard .geq 112 (Operand.tmp 43) (Operand.const (Value.float FloatKind.f64 4602678819172646912)) z (Value.float FloatKind.f64 4602678819172646912);binOp .geq 112 z (Value.float FloatKind.f64 4602678819172646912):Sem Value) λr12=>sif r12 (rdB prog (do eqGuard .leq 112 (Operand.tmp 46) (Operand.const (Value.float FloatKind.f64 4593671619917905920)) b (Value.float FloatKind.f64 4593671619917905920);binOp .leq 112 b (Value.float FloatKind.f64 4593671619917905920):Sem Value) λr13=>h (r13,())) (h (false,()))) λn=>sif n.1 (K (3,z,())) (f ()))) (f ())) λu=>jN (λo=>Jh (S:=Int×Int×Int×Unit) (λy p=>sif (decide (y.2.2.1<((x.len:Nat):Int))) (slc x.a y.2.2.1 ((x.len:Nat):Int) ((x.cap:Nat):Int) x.cap 1 λq=>Aa prog 95 #[(.agg #[]),q.v] bI λ(d:aI)=>jI (λi=>sif (decide (d.1<0)) (i ((W64 (y.2.1+1)),())) (i (y.2.1,()))) λr=>jI (λj=>ixl (.int .u8) x y.2.2.1 1 λ(s:Int)=>sif (decide (s>=128)) (j ((W64 (y.1+d.2.1)),())) (j (y.1,()))) λt=>p (t.1,r.1,(W64 (y.2.2.1+d.2.1)),())) (o (y.1,y.2.1,()))) (0,0,0,())) λc=>sif (c.2.1==0) (K (1,(Value.float FloatKind.f64 4607182418800017408),())) (rdV prog (convert 3 112 (vI (W64 (c.1-c.2.1)))) λk=>rdV prog (convert 3 112 (vI c.1)) λl=>rdV prog (do eqGuard .quo 112 (Operand.tmp 82) (Operand.tmp 84) k l;binOp .quo 112 k l:Sem Value) λr28=>rdB prog (do eqGuard .geq 112 (Operand.tmp 86) (Operand.const (Value.float FloatKind.f64 4604930618986332160)) r28 (Value.float FloatKind.f64 4604930618986332160);binOp .geq 112 r28 (Value.float FloatKind.f64 4604930618986332160):Sem Value) λr29=>sif r29 (K (1,r28,())) (rdV prog (do eqGuard .sub 112 (Operand.const (Value.float FloatKind.f64 4607182418800017408)) (Operand.tmp 89) (Value.float FloatKind.f64 4607182418800017408) r28;binOp .sub 112 (Value.float FloatKind.f64 4607182418800017408) r28:Sem Value) λr30=>K (4,r30,()))))
def h55:Hint:=(hS (hR 2) (hS (hS (hR 7) fH) (hJ (0x3ffffff8001cc,[]) (hS (hR 4) (hS (hR 2) (hC (hS (hR 8) (.block (hJ (0x1fc00000000,[(34,tB)]) (.region [] (.ops 3 (.split 37 (hO 4) dY))) (hC dZ (hJ ((mR [(42,49)]),[(42,tB)]) (.region [] (.ops 3 (.split 45 (hO 4) dY))) gV))))) hL))) (hS (hR 2) (hJ (0x1ffffffc000000003e00,[(9,tI),(10,tI)]) (hS (hR 1) (.block (.loop 0x1ffffffc000000003e00 [(9,tI),(10,tI),(11,tI)] (hS fJ (.block (hS (hR 10) (hJ (0x3c000000000000400,[(10,tI)]) (hS (hR 2) (hC (hR 3) hL)) (hJ (0x3fc0000000000000200,[(9,tI)]) (hS (hR 5) (hC (hR 4) hL)) (hR 4))))))))) (hS fA (hS (hR 8) (hS fH eF))))))))
def j55 {a0 K w}(h:F55 a0 K w):Aa prog 55 #[a0.v] bM K w:=tied Ap func55 h55 _ h
def F69 (x:xM) (K:Int->Wp):Wp:=nn x λy=>lds c139 (y.add 2) λ(z:aN)=>Aa prog 83 #[(vA c139 z)] (.one (.agg Cm)) λ(a:aF)=>K a.2.1
def h69:Hint:=(hS (hR 1) fU)
def j69 {a0 K w}(h:F69 a0 K w):Aa prog 69 #[(dR a0)] rI K w:=tied Ap func69 h69 _ h
def F70 (x:aN) (y:Int) (K:Value->Wp):Wp:=Ak (.cells #[(dR x.1)] 139) λz=>Ak (.cells #[(vI y)] 3) λa=>K (.func (Fn.func 98) #[] #[(dR (some (at0 z))),(dR (some (at0 a)))])
def h70:Hint:=(hS (hR 3) dX)
def j70 {a0 a1 K w}(h:F70 a0 a1 K w):Aa prog 70 #[(vA c139 a0),(vI a1)] (.one (.one .any)) K w:=tied Ap func70 h70 _ h
def F83 (z:aN) (K:aF->Wp):Wp:=Ak (.cells #[(dR z.1)] 139) λy=>Ak dI λx=>ld (.ptr) (at0 y) λ(a:xM)=>sif (Option.isNone a) (Ak dI λb=>lds Cm (at0 b) λ(c:aF)=>Ah (at0 x) (vA Cm c) 5<|lds Cm (at0 x) λ(d:aF)=>K d) (ld (.ptr) (at0 y) λ(e:xM)=>nn e λf=>lds Cm (f.add 11) λ(g:aF)=>Ah (at0 x) (vA Cm g) 5<|lds Cm (at0 x) λ(h:aF)=>K h)
def h83:Hint:=(hS (hR 2) (hS (hS (hR 3) (hC (hS (hR 1) dX) hL)) eX))
def j83 {a0 K w}(h:F83 a0 K w):Aa prog 83 #[(vA c139 a0)] (.one (.agg Cm)) K w:=tied Ap func83 h83 _ h
def F84 (d:Int) (x:Sl) (z:Int) (K:aI->Wp):Wp:=Aa prog 126 #[(vI d)] (.one (.one .any)) λ(y:Value)=>jB (λb=>rdB prog (do eqGuard .eql 204 (Operand.tmp 11) (Operand.const Value.nilIface) y .nilIface;binOp .eql 204 y .nilIface:Sem Value) λr4=>sif r4 (b (true,())) (sif (decide (z<0)) (b (true,())) (b ((decide (z>=((x.len:Nat):Int))),())))) λe=>sif e.1 (K (0,0,())) (drew<|slc x.a z ((x.len:Nat):Int) ((x.cap:Nat):Int) x.cap 1 λf=>chk (Bf0 prog y "copyist/codec.first")<|Cj prog (invoke (.fn (.method "copyist/codec.first") #[]) (#[y]++#[f.v])) bI λ(c:aI)=>K (c.1,c.2.1,()))
def h84:Hint:=(hS (hR 2) (hS (hR 3) (hS (hJ (8386560,[(22,tB)]) (.region [] (.ops 3 (.split 13 (.skips 2 (.ops 2 eY)) (.ops 4 (.split 17 eY (hO 5)))))) gI) iC)))
def j84 {a0 a1 a2 K w}(h:F84 a0 a1 a2 K w):Aa prog 84 #[(vI a0),a1.v,(vI a2)] bI K w:=tied Ap func84 h84 _ h
def F85 (d:Int) (y:Sl) (e:Int) (K:aK->Wp):Wp:=Ak dM λb=>Ak dM λx=>Ah (at0 x) (.agg #[y.v,(vI e),(vI 0),(vI 0),(vI 0),(.bool false),(.bool false)]) 7<|jU (λf=>sI (λz g=>sif (decide (z.1<((y.len:Nat):Int))) (Aa prog 84 #[(vI d),y.v,(vI z.1)] bI λ(a:aI)=>drew<|lds Cm (ad x 2) λ(c:aF)=>Aa prog 128 #[(vI a.1),(vI a.2.1)] (.one (.agg Cm)) λ(h:aF)=>aB Cm (ad x 2) c<|Aa prog 127 #[(vA Cm c),(vA Cm h)] (.one (.agg Cm)) λ(i:aF)=>Ah (ad x 2) (vA Cm i) 5<|g ((W64 (z.1+a.2.1)),())) (f ())) (0,())) λl=>lds c146 (at0 x) λ(j:aK)=>Ah (at0 b) (vA c146 j) 7<|lds c146 (at0 b) λ(k:aK)=>K k
def h85:Hint:=(hS (hR 1) (hS (hR 5) (hJ (0x7ffffc700,[]) (hS (hR 1) (.block (.loop 0x7ffffc700 [(8,tI)] (hS fJ (.block (hS (hR 9) (hS fG (hR 4)))))))) dX)))
def j85 {a0 a1 a2 K w}(h:F85 a0 a1 a2 K w):Aa prog 85 #[(vI a0),a1.v,(vI a2)] (.one (.agg c146)) K w:=tied Ap func85 h85 _ h
def F86 (y:Sl) (K:aN->Wp):Wp:=Ak (.cells #[(dR none)] 139) λx=>Aa prog 129 #[y.v] rP λ(z:xM)=>Ah (at0 x) (.agg #[(dR z)]) 1<|lds c139 (at0 x) λ(a:aN)=>K a
def h86:Hint:=(hS (hR 1) eF)
def j86 {a0 K w}(h:F86 a0 K w):Aa prog 86 #[a0.v] (.one (.agg c139)) K w:=tied Ap func86 h86 _ h
def F94 (c:Sl) (d:Int) (y:Int) (K:Value->Wp):Wp:=jI (λe=>sN (λx f=>sif (decide (x.2.1<(W64 (2*y)))) (jI (λz=>ixl (.int .u8) c x.2.1 1 λ(g:Int)=>sif (g==0) (z ((W64 (x.1+1)),())) (z (x.1,()))) λh=>f (h.1,(W64 (x.2.1+2)),())) (e (x.1,()))) (0,d,())) λi=>rdV prog (convert 3 112 (vI i.1)) λa=>rdV prog (convert 3 112 (vI y)) λb=>rdV prog (do eqGuard .quo 112 (Operand.tmp 24) (Operand.tmp 26) a b;binOp .quo 112 a b:Sem Value) λr11=>K r11
def h94:Hint:=(hS (hR 1) (hS (hR 1) (hJ (8388480,[(7,tI)]) (hS (hR 2) (.block (.loop 8387968 [(7,tI),(8,tI)] (hS fJ (hJ (8323200,[(7,tI)]) (.block (hS (hR 5) (hC (hR 3) hL))) (hR 3)))))) eX)))
def j94 {a0 a1 a2 K w}(h:F94 a0 a1 a2 K w):Aa prog 94 #[a0.v,(vI a1),(vI a2)] (.one (.one .any)) K w:=tied Ap func94 h94 _ h
def F95 (m:(Unit)) (y:Sl) (K:aI->Wp):Wp:=Ak (.cells #[] 180) λn=>Aa prog 135 #[y.v] bI λ(x:aI)=>jB (λd=>sif (x.2.1==0) (d (true,())) (d ((decide (x.1<x.2.1)),()))) λf=>sif f.1 (ixl (.int .u8) y 0 1 λ(g:Int)=>K ((W64 ((-1)-(W64 g))),1,())) (ixl (.int .u8) y 0 1 λ(b:Int)=>jI (λc=>sif (x.2.1==2) (c ((W64 ((BitVec.toNat (BitVec.ofInt (IntKind.bits .i64) (W64 b) &&& BitVec.ofInt (IntKind.bits .i64) 31):Nat):Int)),())) (sif (x.2.1==3) (c ((W64 ((BitVec.toNat (BitVec.ofInt (IntKind.bits .i64) (W64 b) &&& BitVec.ofInt (IntKind.bits .i64) 15):Nat):Int)),())) (sif (x.2.1==4) (c ((W64 ((BitVec.toNat (BitVec.ofInt (IntKind.bits .i64) (W64 b) &&& BitVec.ofInt (IntKind.bits .i64) 7):Nat):Int)),())) (c ((W64 b),()))))) λh=>jI (λi=>slc y.a 1 x.2.1 ((y.cap:Nat):Int) y.cap 1 λe=>sN (λz j=>sif (decide (z.2.1<((e.len:Nat):Int))) (ixl (.int .u8) e z.2.1 1 λ(k:Int)=>chk (0<=(6:Int))<|j ((W64 ((BitVec.toNat (BitVec.ofInt (IntKind.bits .i64) (W64 (z.1*2^(min (Int.toNat 6) (IntKind.bits .i64)))) ||| BitVec.ofInt (IntKind.bits .i64) (W64 (IntKind.wrap .u8 ((BitVec.toNat (BitVec.ofInt (IntKind.bits .u8) k &&& BitVec.ofInt (IntKind.bits .u8) 63):Nat):Int)))):Nat):Int)),(W64 (z.2.1+1)),())) (i (z.1,()))) (h.1,0,())) λl=>K (l.1,x.2.1,()))
def h95:Hint:=(hS (hR 3) (hS (hR 7) (hS (hJ (8323072,[(22,tB)]) (.region [] (.ops 3 (.split 18 fM (hO 4)))) (hC fU hL)) (hS (hR 5) (hJ (0x1fff00000100,[(8,tI)]) (hS (hR 1) (.block (hS (hR 2) (hC (hR 3) (hS (hR 2) (hC (hR 3) (hS (hR 2) (hC (hR 3) hL)))))))) (hJ (0xfffe00000000500,[(8,tI)]) (hS (hR 5) (.block (.loop 0xffe000000000500 [(8,tI),(49,tI)] (hS (hR 1) (hS eG (hS (.block (hS (hR 3) (hR 7))) (hR 2))))))) eF))))))
def j95 {a0 a1 K w}(h:F95 a0 a1 K w):Aa prog 95 #[(vA Cu6 a0),a1.v] bI K w:=tied Ap func95 h95 _ h
def F98 (y:Value) (b:Addr) (c:Addr) (K:Unit->Wp):Wp:=chk (Qm [y]=true)<|Ak (.cells #[y] 183) λz=>Ak (.cells #[.nilFunc] 184) λx=>chk (Eb (.func (Fn.func 99) #[] #[(dR (some (at0 x))),(dR (some (at0 z)))])=true)<|stC (at0 x) (.func (Fn.func 99) #[] #[(dR (some (at0 x))),(dR (some (at0 z)))])<|ld (.any) (at0 x) λ(e:Value)=>ld (.ptr) b λ(f:xM)=>lI c λa=>Cj prog (do let d ←Deferred.ofValue e #[(dR f),(vI (if a>0 then a else 0))];invoke d.target d.args:Sem Next) rB λ(g:Bool)=>K ()
def h98:Hint:=(hS (hR 1) (hS (hR 1) (hS (hR 2) (hR 6))))
def j98 {a0 v0 v1 K w}(h:F98 a0 v0 v1 K w):Aa prog 98 #[a0,(dR (some v0)),(dR (some v1))] bH K w:=tied Ap func98 h98 _ h
def F99 (x:xM) (y:Int) (a:Addr) (f:Addr) (K:Bool->Wp):Wp:=jB (λb=>sif (Option.isNone x) (b (true,())) (nn x λg=>ld cI (g.add 9) λ(h:Int)=>b ((decide (y>=h)),()))) λi=>sif i.1 (K true) (nn x λj=>ld (.ptr) j λ(k:xM)=>cN 100 #[(dR k)] λz=>jB (λc=>drew<|sif (decide (y<z)) (ld (.any) a λ(l:Value)=>nn x λm=>ld (.ptr) m λ(n:xM)=>Cj prog (do let d ←Deferred.ofValue l #[(dR n),(vI y)];invoke d.target d.args:Sem Next) rB λ(o:Bool)=>c ((!o),())) (c (false,()))) λp=>sif p.1 (K false) (jB (λe=>drew<|sif (decide (y<=z)) (ld (.any) f λ(q:Value)=>nn x λr=>lds c146 (r.add 2) λ(s:aK)=>Cj prog (do let d ←Deferred.ofValue q #[(vA c146 s)];invoke d.target d.args:Sem Next) rB λ(t:Bool)=>e ((!t),())) (e (false,()))) λu=>sif u.1 (K false) (drew<|ld (.any) a λ(v:Value)=>nn x λA=>ld (.ptr) (A.add 1) λ(B:xM)=>Cj prog (do let d ←Deferred.ofValue v #[(dR B),(vI (if (W64 ((W64 (y-z))-1))>0 then (W64 ((W64 (y-z))-1)) else 0))];invoke d.target d.args:Sem Next) rB λ(C:Bool)=>K C)))
def h99:Hint:=(hS (hR 1) (hS (hJ (261888,[(17,tB)]) (.region [] (.ops 3 (.split 10 gX (hO 7)))) dV) (hS (hR 6) (hS (hJ (0xfff800000,[(35,tB)]) (.region (lR 13) (.ops 4 (.split 26 (hO 9) (.skips 8 (hO 1))))) dV) (hS (hJ (0xfff000000000,[(47,tB)]) (.region (lR 12) (.ops 4 (.split 39 (hO 8) (.skips 7 (hO 1))))) dV) iC)))))
def j99 {a0 a1 v0 v1 K w}(h:F99 a0 a1 v0 v1 K w):Aa prog 99 #[(dR a0),(vI a1),(dR (some v0)),(dR (some v1))] rB K w:=tied Ap func99 h99 _ h
def F100 (x:xM) (K:Int->Wp):Wp:=sif (Option.isNone x) (K 0) (nn x λy=>ld cI (y.add 9) λ(z:Int)=>K z)
def Dq9:Hint:=(hS (hR 1) (hS (hS (hR 2) (hC (hS (hR 1) hL) hL)) (hS (hR 5) hL)))
def j100 {a0 K w}(h:F100 a0 K w):Aa prog 100 #[(dR a0)] rI K w:=tied Ap func100 Dq9 _ h
def F120 (y:xM) (x:Int) (K:aI->Wp):Wp:=sif (decide (x<=0)) (K (0,0,())) (nn y λa=>lds c139 (a.add 2) λ(b:aN)=>cN 153 #[(vA c139 b),(vI 0),(vI x)] λz=>nn y λc=>lds c139 (c.add 2) λ(d:aN)=>Aa prog 152 #[(vA c139 d),(vI (W64 (z-1)))] (.one (.agg Cm)) λ(e:aF)=>K ((W64 (z-1)),(W64 (x-e.1)),()))
def Dp5:Hint:=(hS (hR 2) (hS (hS (hR 2) (hC (hS (hR 2) hL) hL)) (hS (hR 8) (hS (hR 12) hL))))
def j120 {a0 a1 K w}(h:F120 a0 a1 K w):Aa prog 120 #[(dR a0),(vI a1)] bI K w:=tied Ap func120 Dp5 _ h
def F125 (x:aN) (K:Int->Wp):Wp:=Ak (.cells #[(dR x.1)] 139) λy=>ld (.ptr) (at0 y) λ(z:xM)=>cN 100 #[(dR z)] λa=>K a
def Dp4:Hint:=(hS (hR 2) (hS (hR 4) hL))
def j125 {a0 K w}(h:F125 a0 K w):Aa prog 125 #[(vA c139 a0)] rI K w:=tied Ap func125 Dp4 _ h
def F126 (x:Int) (K:Value->Wp):Wp:=sif (x==1) (K (.iface 180 (.agg #[]))) (sif (x==2) (K (.iface 263 (.agg #[(vI 0)]))) (sif (x==3) (K (.iface 263 (.agg #[(vI 1)]))) (sif (x==4) (K (.iface 264 (.agg #[]))) (K .nilIface))))
def Dp3:Hint:=(hS (hR 1) (hS (hS (hR 1) (.block (hS (hR 2) (hC (hS (hR 3) hL) (hS (hR 2) (hC (hS (hR 3) hL) (hS (hR 2) (hC (hS (hR 3) hL) (hS (hR 2) (hC (hS (hR 3) hL) hL)))))))))) (hS (hR 1) hL)))
def j126 {a0 K w}(h:F126 a0 K w):Aa prog 126 #[(vI a0)] (.one (.one .any)) K w:=tied Ap func126 Dp3 _ h
def F127 (a:aF) (b:aF) (K:aF->Wp):Wp:=Ak (.cells #[(vI a.1),(vI a.2.1),(vI a.2.2.1),(.bool a.2.2.2.1),(.bool a.2.2.2.2.1)] 144) λx=>Ak (.cells #[(vI b.1),(vI b.2.1),(vI b.2.2.1),(.bool b.2.2.2.1),(.bool b.2.2.2.2.1)] 144) λy=>Ak dI λz=>lI (at0 x) λf=>sif (f==0) (lds Cm (at0 y) λ(g:aF)=>Ah (at0 z) (vA Cm g) 5<|lds Cm (at0 z) λ(h:aF)=>K h) (lI (at0 y) λi=>sif (i==0) (lds Cm (at0 x) λ(j:aF)=>Ah (at0 z) (vA Cm j) 5<|lds Cm (at0 z) λ(k:aF)=>K k) (lI (at0 x) λl=>lI (at0 y) λm=>lI (ad x 1) λn=>lI (ad y 1) λo=>lI (ad x 2) λp=>lI (ad y 2) λq=>ld (.bool) (ad x 3) λ(r:Bool)=>ld (.bool) (ad y 4) λ(s:Bool)=>Ak dI λc=>Ah (at0 c) (.agg #[(vI (W64 (l+m))),(vI (W64 (n+o))),(vI (W64 (p+q))),(.bool r),(.bool s)]) 5<|jU (λd=>jB (λe=>ld (.bool) (ad x 4) λ(t:Bool)=>sif t (ld (.bool) (ad y 3) λ(u:Bool)=>e (u,())) (e (false,()))) λv=>sif v.1 (lI (ad c 2) λA=>stC (ad c 2) (vI (W64 (A-1)))<|d ()) (d ())) λD=>lds Cm (at0 c) λ(B:aF)=>Ah (at0 z) (vA Cm B) 5<|lds Cm (at0 z) λ(C:aF)=>K C))
def h127:Hint:=(hS (hR 3) (hS (hS (hR 3) gI) (hS (hS (hR 3) gI) (hS (hR 22) (hJ (0xffc00000000,[]) (hJ (0xfc00000000,[(39,tB)]) (.region [] (.ops 3 (.split 36 (hO 3) fD))) (hC (hR 5) hL)) dX)))))
def j127 {a0 a1 K w}(h:F127 a0 a1 K w):Aa prog 127 #[(vA Cm a0),(vA Cm a1)] (.one (.agg Cm)) K w:=tied Ap func127 h127 _ h
def F128 (y:Int) (c:Int) (K:aF->Wp):Wp:=Ak dI λz=>Ak dI λx=>Ah (at0 x) (.agg #[(vI 1),(vI c),(vI 0),(.bool (y==10)),(.bool (y==13))]) 5<|jU (λa=>jB (λb=>ld (.bool) (ad x 3) λ(d:Bool)=>sif d (b (true,())) (ld (.bool) (ad x 4) λ(e:Bool)=>b (e,()))) λf=>sif f.1 (stC (ad x 2) (vI 1)<|a ()) (a ())) λi=>lds Cm (at0 x) λ(g:aF)=>Ah (at0 z) (vA Cm g) 5<|lds Cm (at0 z) λ(h:aF)=>K h
def h128:Hint:=(hS (hR 1) (hS (hR 8) (hJ (520192,[]) (hJ (258048,[(17,tB)]) (.region [] (.ops 3 (.split 14 fD (hO 3)))) gJ) dX)))
def j128 {a0 a1 K w}(h:F128 a0 a1 K w):Aa prog 128 #[(vI a0),(vI a1)] (.one (.agg Cm)) K w:=tied Ap func128 h128 _ h
def F129 (x:Sl) (K:xM->Wp):Wp:=sif (((x.len:Nat):Int)==0) (K none) (chk ((2:Int)≠0)<|drew<|slc x.a 0 (W64 (Int.tdiv ((x.len:Nat):Int) 2)) ((x.cap:Nat):Int) x.cap 7 λb=>ix x.a x.len (W64 (Int.tdiv ((x.len:Nat):Int) 2)) λy=>lds c146 (y.add (scaled (Int.toNat (W64 (Int.tdiv ((x.len:Nat):Int) 2))) 7)) λ(z:aK)=>slc x.a (W64 ((W64 (Int.tdiv ((x.len:Nat):Int) 2))+1)) ((x.len:Nat):Int) ((x.cap:Nat):Int) x.cap 7 λc=>Aa prog 129 #[b.v] rP λ(d:xM)=>keep (λw=>Ez w (y.add (scaled (Int.toNat (W64 (Int.tdiv ((x.len:Nat):Int) 2))) 7)) 0 (Cells.vals c146 z))<|Aa prog 129 #[c.v] rP λ(e:xM)=>keep (λw=>Ez w (y.add (scaled (Int.toNat (W64 (Int.tdiv ((x.len:Nat):Int) 2))) 7)) 0 (Cells.vals c146 z))<|Aa prog 158 #[(dR d),(vA c146 z),(dR e)] rP λ(f:xM)=>K f)
def Dp2:Hint:=(hS (hR 1) (hS (hS (hR 3) (hC (hS (hR 1) hL) hL)) (hS (hR 4) (hS (.region [0,1,2,4,5,6,7,8,9,10,11,3,12,13,14] (hO 15)) hL))))
def j129 {a0 K w}(h:F129 a0 K w):Aa prog 129 #[a0.v] rP K w:=tied Ap func129 Dp2 _ h
def F135 (y:Sl) (K:aI->Wp):Wp:=ixl (.int .u8) y 0 1 λ(c:Int)=>Aa prog 165 #[(.int .u8 c)] (.tup [(.one cI),(.one (.int .u8)),(.one (.int .u8))]) λ(x:I3)=>sif (decide (x.1<2)) (K (x.1,x.1,())) (jB (λa=>sif (decide (((y.len:Nat):Int)<2)) (a (true,())) (ixl (.int .u8) y 1 1 λ(d:Int)=>sif (decide (d<x.2.1)) (a (true,())) (ixl (.int .u8) y 1 1 λ(e:Int)=>a ((decide (e>x.2.2.1)),())))) λf=>sif f.1 (K (1,x.1,())) (jI (λg=>sI (λz h=>jB (λb=>sif (decide (z.1<x.1)) (sif (decide (z.1<((y.len:Nat):Int))) (ixl (.int .u8) y z.1 1 λ(i:Int)=>b (((IntKind.wrap .u8 ((BitVec.toNat (BitVec.ofInt (IntKind.bits .u8) i &&& BitVec.ofInt (IntKind.bits .u8) 192):Nat):Int))==128),())) (b (false,()))) (b (false,()))) λj=>sif j.1 (h ((W64 (z.1+1)),())) (g (z.1,()))) (2,())) λk=>K (k.1,x.1,())))
def Do9:Hint:=(hS (hR 2) (hS (hR 11) (hS (hS (hR 2) (hC (hS (hR 4) hL) hL)) (hS (hJ (0x1ffff00000,[(36,tB)]) (.region [] (.ops 4 (.split 23 (.skips 5 (.ops 2 (.skips 5 (hO 1)))) (.ops 7 (.split 30 (.skips 5 (hO 1)) (hO 6)))))) (hC (hS (hR 3) hL) hL)) (hS (hR 1) (hJ (0x1ffffc000000080,[(7,tI)]) (.block (.loop 0x1ffffc000000080 [(7,tI)] (hS (hJ ((mR [(38,55)]),[(54,tB)]) (.region [] (.ops 4 (.split 41 (.ops 6 (.split 47 (hO 7) (.skips 6 (hO 1)))) (.skips 4 (.ops 2 (.skips 6 (hO 1))))))) (hC hL hL)) (.block (hR 3))))) (hS (hR 4) hL)))))))
def j135 {a0 K w}(h:F135 a0 K w):Aa prog 135 #[a0.v] bI K w:=tied Ap func135 Do9 _ h
def F152 (i:aN) (z:Int) (K:aF->Wp):Wp:=Ak (.cells #[(dR i.1)] 139) λa=>Ak dI λb=>Ak dI λy=>lds c139 (at0 a) λ(j:aN)=>cN 125 #[(vA c139 j)] λc=>jU (λk=>ld (.ptr) (at0 a) λ(l:xM)=>Jh (S:=Int×xM×Unit) (λx d=>jB (λe=>sif (!(Option.isNone x.2.1)) (e ((decide (x.1>0)),())) (e (false,()))) λm=>sif m.1 (nn x.2.1 λn=>ld (.ptr) n λ(o:xM)=>cN 100 #[(dR o)] λf=>sif (decide (x.1<=f)) (nn x.2.1 λp=>ld (.ptr) p λ(q:xM)=>d (x.1,q,())) (jU (λg=>nn x.2.1 λr=>ld (.ptr) r λ(s:xM)=>sif (!(Option.isNone s)) (drew<|lds Cm (at0 y) λ(t:aF)=>nn x.2.1 λu=>ld (.ptr) u λ(v:xM)=>nn v λA=>lds Cm (A.add 11) λ(B:aF)=>Cj prog (invoke (.fn (.method "Add") #[]) (#[(.iface 144 (vA Cm t))]++#[(vA Cm B)])) (.one (.agg Cm)) λ(C:aF)=>Ah (at0 y) (vA Cm C) 5<|g ()) (g ())) λM=>drew<|lds Cm (at0 y) λ(h:aF)=>nn x.2.1 λD=>lds c146 (D.add 2) λ(E:aK)=>Cj prog (invoke (.fn (.method "Measure") #[]) (#[(.iface 146 (vA c146 E))]++#[])) (.one (.agg Cm)) λ(F:aF)=>aB Cm (at0 y) h<|Cj prog (invoke (.fn (.method "Add") #[]) (#[(.iface 144 (vA Cm h))]++#[(vA Cm F)])) (.one (.agg Cm)) λ(G:aF)=>Ah (at0 y) (vA Cm G) 5<|nn x.2.1 λH=>ld (.ptr) (H.add 1) λ(I:xM)=>d ((W64 ((W64 (x.1-f))-1)),I,()))) (k ())) ((if c<z then c else z),l,())) λN=>lds Cm (at0 y) λ(J:aF)=>Ah (at0 b) (vA Cm J) 5<|lds Cm (at0 b) λ(L:aF)=>K L
def Dn5:Hint:=(hS (hR 2) (hS (hR 1) (hS (hR 5) (hJ (0xfffffffffffff0c2,[]) (hS (hR 3) (.block (.loop 0xffffffffffffc0c2 [(1,tI),(6,tP)] (hS (hJ (0xfc000,[(19,tB)]) (.region [] (.ops 3 (.split 16 (hO 3) (.skips 2 (hO 1))))) (hC hL hL)) (.block (hS (hR 6) (hS (hS (hR 3) (hC (hS (hR 5) hL) hL)) (hJ (0x7fff00000000,[]) (hS (hR 5) (hC (.region (lR 11) (hO 11)) hL)) (hS (.region (lR 10) (hO 10)) (hR 10)))))))))) (hS (hR 2) hL)))))
def Dg8 {a0 a1 K w}(h:F152 a0 a1 K w):Aa prog 152 #[(vA c139 a0),(vI a1)] (.one (.agg Cm)) K w:=tied Ap func152 Dn5 _ h
def F153 (g:aN) (b:Int) (a:Int) (K:Int->Wp):Wp:=Ak (.cells #[(dR g.1)] 139) λh=>sif (decide (a<=0)) (K 0) (Ak dI λz=>jI (λi=>ld (.ptr) (at0 h) λ(j:xM)=>Jh (S:=Int×xM×Unit) (λx c=>sif (!(Option.isNone x.2.1)) (lds Cm (at0 z) λ(k:aF)=>Ak dI λy=>Ah (at0 y) (vA Cm k) 5<|jU (λd=>nn x.2.1 λl=>ld (.ptr) l λ(m:xM)=>sif (!(Option.isNone m)) (drew<|lds Cm (at0 z) λ(n:aF)=>nn x.2.1 λo=>ld (.ptr) o λ(p:xM)=>nn p λq=>lds Cm (q.add 11) λ(r:aF)=>Cj prog (invoke (.fn (.method "Add") #[]) (#[(.iface 144 (vA Cm n))]++#[(vA Cm r)])) (.one (.agg Cm)) λ(s:aF)=>Ah (at0 y) (vA Cm s) 5<|d ()) (d ())) λN=>lds Cm (at0 y) λ(t:aF)=>Cj prog (invoke (.fn (.method "Key") #[]) (#[(.iface 144 (vA Cm t))]++#[(vI b)])) rI λ(u:Int)=>sif (decide (u>=a)) (nn x.2.1 λv=>ld (.ptr) v λ(A:xM)=>c (x.1,A,())) (nn x.2.1 λB=>ld (.ptr) B λ(C:xM)=>cN 100 #[(dR C)] λe=>drew<|lds Cm (at0 y) λ(f:aF)=>nn x.2.1 λD=>lds c146 (D.add 2) λ(E:aK)=>Cj prog (invoke (.fn (.method "Measure") #[]) (#[(.iface 146 (vA c146 E))]++#[])) (.one (.agg Cm)) λ(F:aF)=>aB Cm (at0 y) f<|Cj prog (invoke (.fn (.method "Add") #[]) (#[(.iface 144 (vA Cm f))]++#[(vA Cm F)])) (.one (.agg Cm)) λ(G:aF)=>Ah (at0 z) (vA Cm G) 5<|lds Cm (at0 z) λ(H:aF)=>Cj prog (invoke (.fn (.method "Key") #[]) (#[(.iface 144 (vA Cm H))]++#[(vI b)])) rI λ(I:Int)=>sif (decide (I>=a)) (K (W64 (x.1+(W64 (e+1))))) (nn x.2.1 λJ=>ld (.ptr) (J.add 1) λ(L:xM)=>c ((W64 (x.1+(W64 (e+1)))),L,())))) (i (x.1,()))) (0,j,())) λM=>K (W64 (M.1+1)))
def Dn4:Hint:=(hS (hR 2) (hS (hS (hR 2) (hC (hS (hR 1) hL) hL)) (hS (hR 1) (hS (hR 1) (hJ (0x7fffffffffffffe740,[(8,tI)]) (hS (hR 3) (.block (.loop 0x7fffffffffffff8740 [(8,tI),(9,tP)] (hS (hS (hR 2) (hC hL hL)) (.block (hS (hR 3) (hJ (8589672448,[]) (hS (hR 5) (hC (.region (lR 11) (hO 11)) hL)) (hS (hS (hR 6) (hC (hS (hR 5) hL) hL)) (hS (hR 9) (hS (.region (lR 10) (hO 10)) (hS (hS (hR 6) (hC (hS (hR 2) hL) hL)) (hR 5)))))))))))) (hS (hR 3) hL))))))
def Dg7 {a0 a1 a2 K w}(h:F153 a0 a1 a2 K w):Aa prog 153 #[(vA c139 a0),(vI a1),(vI a2)] rI K w:=tied Ap func153 Dn4 _ h
def F158 (b:xM) (y:aK) (c:xM) (K:xM->Wp):Wp:=Ak (.cells #[y.1.v,(vI y.2.1),(vI y.2.2.1),(vI y.2.2.2.1),(vI y.2.2.2.2.1),(.bool y.2.2.2.2.2.1),(.bool y.2.2.2.2.2.2.1)] 146) λz=>drew<|lds c146 (at0 z) λ(x:aK)=>cN 100 #[(dR b)] λh=>aB c146 (at0 z) x<|cN 100 #[(dR c)] λi=>aB c146 (at0 z) x<|cN 198 #[(dR b)] λd=>aB c146 (at0 z) x<|cN 198 #[(dR c)] λe=>aB c146 (at0 z) x<|Ak (.cells (Value.cells (.agg #[(dR b),(dR c),x.1.v,(vI x.2.1),(vI x.2.2.1),(vI x.2.2.2.1),(vI x.2.2.2.2.1),(.bool x.2.2.2.2.2.1),(.bool x.2.2.2.2.2.2.1),(vI (W64 ((W64 (h+1))+i))),(vI (W64 ((if e>d then e else d)+1))),(vI 0),(vI 0),(vI 0),(.bool false),(.bool false)])) 186) λa=>lds c146 (at0 z) λ(j:aK)=>Cj prog (invoke (.fn (.method "Measure") #[]) (#[(.iface 146 (vA c146 j))]++#[])) (.one (.agg Cm)) λ(k:aF)=>nn (some (at0 a)) λl=>Ah (l.add 11) (vA Cm k) 5<|jU (λf=>sif (!(Option.isNone b)) (drew<|nn b λm=>lds Cm (m.add 11) λ(n:aF)=>nn (some (at0 a)) λo=>lds Cm (o.add 11) λ(p:aF)=>Cj prog (invoke (.fn (.method "Add") #[]) (#[(.iface 144 (vA Cm n))]++#[(vA Cm p)])) (.one (.agg Cm)) λ(q:aF)=>nn (some (at0 a)) λr=>Ah (r.add 11) (vA Cm q) 5<|f ()) (f ())) λD=>jU (λg=>sif (!(Option.isNone c)) (drew<|nn (some (at0 a)) λs=>lds Cm (s.add 11) λ(t:aF)=>nn c λu=>lds Cm (u.add 11) λ(A:aF)=>Cj prog (invoke (.fn (.method "Add") #[]) (#[(.iface 144 (vA Cm t))]++#[(vA Cm A)])) (.one (.agg Cm)) λ(B:aF)=>nn (some (at0 a)) λC=>Ah (C.add 11) (vA Cm B) 5<|g ()) (g ())) λE=>K (some (at0 a))
def Dn3:Hint:=(hS (hR 2) (hS (.region [0,1,2,3,6,9,11,4,5,7,8,10,12,13,14,15,16,17] (hO 18)) (hS (hR 7) (hJ (0x3fff80000000,[]) (hS (hR 2) (hC (.region (lR 14) (hO 14)) hL)) (hJ ((mR [(46,61)]),[]) (hS (hR 2) (hC (.region (lR 14) (hO 14)) hL)) (hS (hR 2) hL))))))
def Dg6 {a0 a1 a2 K w}(h:F158 a0 a1 a2 K w):Aa prog 158 #[(dR a0),(vA c146 a1),(dR a2)] rP K w:=tied Ap func158 Dn3 _ h
def F165 (x:Int) (K:I3->Wp):Wp:=sif (decide (x<128)) (K (1,0,0,())) (sif (decide (x<194)) (K (0,0,0,())) (sif (decide (x<224)) (K (2,128,191,())) (sif (x==224) (K (3,160,191,())) (sif (x==237) (K (3,128,159,())) (sif (decide (x<240)) (K (3,128,191,())) (sif (x==240) (K (4,144,191,())) (sif (decide (x<244)) (K (4,128,191,())) (sif (x==244) (K (4,128,143,())) (K (0,0,0,()))))))))))
def Dn2:Hint:=(hS (hR 3) (hS (.block (hS (hR 3) (hC (hS (hR 3) hL) (hS (hR 3) (hC (hS (hR 3) hL) (hS (hR 3) (hC (hS (hR 3) hL) (hS (hR 3) (hC (hS (hR 3) hL) (hS (hR 3) (hC (hS (hR 3) hL) (hS (hR 3) (hC (hS (hR 3) hL) (hS (hR 3) (hC (hS (hR 3) hL) (hS (hR 3) (hC (hS (hR 3) hL) (hS (hR 3) (hC (hS (hR 3) hL) hL))))))))))))))))))) (hS (hR 3) hL)))
def Dg5 {a0 K w}(h:F165 a0 K w):Aa prog 165 #[(.int .u8 a0)] (.tup [(.one cI),(.one (.int .u8)),(.one (.int .u8))]) K w:=tied Ap func165 Dn2 _ h
def F168 (y:xM) (z:Int) (K:Value->Wp):Wp:=Ak (.cells #[(vI z)] 3) λa=>nn y λb=>lds c139 (b.add 2) λ(c:aN)=>Ak (.cells #[(dR none)] 139) λx=>Ah (at0 x) (vA c139 c) 1<|K (.func (Fn.func 200) #[] #[(dR (some (at0 a))),(dR (some (at0 x)))])
def Dm9:Hint:=(hS (hR 2) (hS (hR 6) (hS (hR 2) hL)))
def Dg2 {a0 a1 K w}(h:F168 a0 a1 K w):Aa prog 168 #[(dR a0),(vI a1)] (.one (.one .any)) K w:=tied Ap func168 Dm9 _ h
def F185 (y:xM) (z:Int) (a:Int) (K:Sl->Wp):Wp:=Ak (.cells #[dS] 70) λx=>Aa prog 214 #[(dR y),(vI z),(vI a),(.func (Fn.func 215) #[] #[(dR (some (at0 x)))])] bH λ(c:(Unit))=>ld (.sl) (at0 x) λ(b:Sl)=>K b
def Dm3:Hint:=(hS (hR 1) (hS (hR 1) (hS (hR 5) (hS (hR 2) hL))))
def Df6 {a0 a1 a2 K w}(h:F185 a0 a1 a2 K w):Aa prog 185 #[(dR a0),(vI a1),(vI a2)] rS K w:=tied Ap func185 Dm3 _ h
def F198 (x:xM) (K:Int->Wp):Wp:=sif (Option.isNone x) (K 0) (nn x λy=>ld cI (y.add 10) λ(z:Int)=>K z)
def Dl2:Hint:=(hS (hR 1) (hS (hS (hR 2) (hC (hS (hR 1) hL) hL)) (hS (hR 5) hL)))
def De5 {a0 K w}(h:F198 a0 K w):Aa prog 198 #[(dR a0)] rI K w:=tied Ap func198 Dl2 _ h
def F200 (i:Value) (e:Addr) (n:Addr) (K:Unit->Wp):Wp:=chk (Qm [i]=true)<|Ak (.cells #[i] 304) λf=>lI e λo=>sif (decide (o<1)) (K ()) (Ak dN λy=>lds c139 n λ(p:aN)=>Aa prog 70 #[(vA c139 p),(vI 0)] (.one (.one .any)) λ(q:Value)=>Xp (S:=aK×Unit) prog (Slots.vals [(12,(.agg c146))]) q (λg h j (r:aK×Unit)=>Ak dM λk=>Ah (at0 k) (vA c146 r.1) 7<|Cf2 g h<|ld (.sl) (at0 k) λ(s:Sl)=>sS (λx l=>sif (decide (((x.1.len:Nat):Int)>0)) (lI e λb=>ld (.sl) (at0 y) λ(c:Sl)=>drew<|ld (.sl) (at0 y) λ(t:Sl)=>slc x.1.a 0 (if ((x.1.len:Nat):Int)<(W64 (b-((c.len:Nat):Int))) then ((x.1.len:Nat):Int) else (W64 (b-((c.len:Nat):Int)))) ((x.1.cap:Nat):Int) x.1.cap 1 λu=>Dy prog rS (Builtin.append_ #[30,30] 30 #[t.v,u.v]) λ(A:Sl)=>stC (at0 y) A.v<|slc x.1.a (if ((x.1.len:Nat):Int)<(W64 (b-((c.len:Nat):Int))) then ((x.1.len:Nat):Int) else (W64 (b-((c.len:Nat):Int)))) ((x.1.len:Nat):Int) ((x.1.cap:Nat):Int) x.1.cap 1 λm=>ld (.sl) (at0 y) λ(B:Sl)=>lI e λC=>sif (((B.len:Nat):Int)==C) (ld (.any) (at0 f) λ(D:Value)=>ld (.sl) (at0 y) λ(E:Sl)=>Cj prog (do let d ←Deferred.ofValue D #[E.v];invoke d.target d.args:Sem Next) rB λ(F:Bool)=>sif (!F) (Ag2 g h (some .ret) j) (stC (at0 y) dS<|l (m,()))) (l (m,()))) (Ag2 g h none j)) (s,())) λz=>aft (ld (.sl) (at0 y) λ(G:Sl)=>sif (decide (((G.len:Nat):Int)>0)) (ld (.any) (at0 f) λ(H:Value)=>ld (.sl) (at0 y) λ(I:Sl)=>Cj prog (do let d ←Deferred.ofValue H #[I.v];invoke d.target d.args:Sem Next) rB λ(O:Bool)=>Sj z<|K ()) (Sj z<|K ())) (λJ=>onE J 0 (ld (.sl) (at0 y) λ(L:Sl)=>sif (decide (((L.len:Nat):Int)>0)) (ld (.any) (at0 f) λ(M:Value)=>ld (.sl) (at0 y) λ(N:Sl)=>Cj prog (do let d ←Deferred.ofValue M #[N.v];invoke d.target d.args:Sem Next) rB λ(P:Bool)=>Sj z<|K ()) (Sj z<|K ())) (λ_=>False)) (Sj z<|K ()))
def Dl1:Hint:=(hS (hR 1) (hS (hS (hR 2) (hC hL hL)) (hS (hR 1) (hS (hS (hR 2) (.block (.range [(12,(.agg c146))] (hR 2) (.block (hS (hR 3) (.block (.loop 0x1ffffff80c0 [(6,tS)] (hS (hS (hR 3) (hC hL hL)) (.block (hS (hR 8) (hS (.region (lR 6) (hO 6)) (hS (hR 4) (hS (hR 4) (hC (hS (hS (hR 4) (hC hL hL)) (hR 1)) hL)))))))))))))) (hS (hR 3) (hC (hR 3) hL))))))
def De4 {a0 v0 v1 K w}(h:F200 a0 v0 v1 K w):Aa prog 200 #[a0,(dR (some v0)),(dR (some v1))] bH K w:=tied Ap func200 Dl1 _ h
def F211 (z:Sl) (K:aI->Wp):Wp:=jU (λa=>sI (λx b=>sif (decide (x.1<=3)) (cS 213 #[(vI x.1)] λy=>cB 223 #[z.v,(vI 0),y.v] λc=>sif c (K (x.1,((y.len:Nat):Int),())) (b ((W64 (x.1+1)),()))) (a ())) (1,())) λd=>K (0,0,())
def Dk6:Hint:=(hS (hR 2) (hJ (0xffffc,[]) (hS (hR 1) (.block (.loop 0xffffc [(4,tI)] (hS (hS (hR 2) (hC hL hL)) (hS (.block (hS (hR 3) (hS (hR 4) (hS (hR 1) (hC (hS (hR 5) hL) hL))))) (hR 3)))))) (hS (hR 2) hL)))
def Dd9 {a0 K w}(h:F211 a0 K w):Aa prog 211 #[a0.v] bI K w:=tied Ap func211 Dk6 _ h
def F212 (x:Sl) (K:aQ->Wp):Wp:=Aa prog 211 #[x.v] bI λ(c:aI)=>sif (c.1 !=0) (K (c.1,(Value.float FloatKind.f64 4607182418800017408),())) (chk ((2:Int)≠0)<|jU (λd=>sif (decide ((W64 (Int.tdiv ((x.len:Nat):Int) 2))>0)) (Ak (.cells #[(vI 0),(vI 0)] 323) λb=>Ah (at0 b) (.agg #[(vI 0),(vI 0)]) 2<|jU (λs=>sI (λy t=>sif (decide (y.1<(W64 (2*(W64 (Int.tdiv ((x.len:Nat):Int) 2)))))) (jU (λe=>ixl (.int .u8) x y.1 1 λ(u:Int)=>sif (u==0) (chk ((2:Int)≠0)<|chk (0<=(Int.tmod y.1 2)/\(Int.tmod y.1 2)<((2:Nat):Int))<|ld cI ((at0 b).add (scaled (Int.toNat (Int.tmod y.1 2)) 1)) λ(A:Int)=>chk (0<=(Int.tmod y.1 2)/\(Int.tmod y.1 2)<((2:Nat):Int))<|stC ((at0 b).add (scaled (Int.toNat (Int.tmod y.1 2)) 1)) (vI (W64 (A+1)))<|e ()) (e ())) λO=>t ((W64 (y.1+1)),())) (s ())) (0,())) λP=>chk (0<=(0:Int)/\0<((2:Nat):Int))<|ld cI ((at0 b).add (scaled (Int.toNat 0) 1)) λ(B:Int)=>rdV prog (convert 3 112 (vI B)) λf=>rdV prog (convert 3 112 (vI (W64 (Int.tdiv ((x.len:Nat):Int) 2)))) λg=>rdV prog (do eqGuard .quo 112 (Operand.tmp 51) (Operand.tmp 53) f g;binOp .quo 112 f g:Sem Value) λr17=>chk (0<=(1:Int)/\1<((2:Nat):Int))<|ld cI ((at0 b).add (scaled (Int.toNat 1) 1)) λ(C:Int)=>rdV prog (convert 3 112 (vI C)) λh=>rdV prog (convert 3 112 (vI (W64 (Int.tdiv ((x.len:Nat):Int) 2)))) λi=>rdV prog (do eqGuard .quo 112 (Operand.tmp 57) (Operand.tmp 59) h i;binOp .quo 112 h i:Sem Value) λr21=>jB (λj=>rdB prog (do eqGuard .geq 112 (Operand.tmp 61) (Operand.const (Value.float FloatKind.f64 4602678819172646912)) r21 (Value.float FloatKind.f64 4602678819172646912);binOp .geq 112 r21 (Value.float FloatKind.f64 4602678819172646912):Sem Value) λr24=>sif r24 (rdB prog (do eqGuard .leq 112 (Operand.tmp 64) (Operand.const (Value.float FloatKind.f64 4593671619917905920)) r17 (Value.float FloatKind.f64 4593671619917905920);binOp .leq 112 r17 (Value.float FloatKind.f64 4593671619917905920):Sem Value) λr25=>j (r25,())) (j (false,()))) λD=>sif D.1 (K (2,r21,())) (jB (λk=>rdB prog (do eqGuard .geq 112 (Operand.tmp 68) (Operand.const (Value.float FloatKind.f64 4602678819172646912)) r17 (Value.float FloatKind.f64 4602678819172646912);binOp .geq 112 r17 (Value.float FloatKind.f64 4602678819172646912):Sem Value) λr28=>sif r28 (rdB prog (do eqGuard .leq 112 (Operand.tmp 71) (Operand.const (Value.float FloatKind.f64 4593671619917905920)) r21 (Value.float FloatKind.f64 4593671619917905920);binOp .leq 112 r21 (Value.float FloatKind.f64 4593671619917905920):Sem Value) λr29=>k (r29,())) (k (false,()))) λE=>sif E.1 (K (3,r17,())) (d ()))) (d ())) λQ=>jI (λF=>sN (λz G=>sif (decide (z.2.1<((x.len:Nat):Int))) (jI (λl=>ixl (.int .u8) x z.2.1 1 λ(H:Int)=>sif (decide (H>=128)) (l ((W64 (z.1+1)),())) (l (z.1,()))) λI=>G (I.1,(W64 (z.2.1+1)),())) (F (z.1,()))) (0,0,())) λm=>Aa prog 224 #[(vI 1),x.v] (.tup [(.one .sl),(.one cI)]) λ(n:(Sl×Int×Unit))=>jI (λJ=>sN (λa L=>sif (decide (a.2.1<((n.1.len:Nat):Int))) (jI (λo=>ixI n.1 a.2.1 1 λM=>sif (decide (M<0)) (o ((W64 (a.1+1)),())) (o (a.1,()))) λN=>L (N.1,(W64 (a.2.1+1)),())) (J (a.1,()))) (0,0,())) λp=>sif (p.1==0) (K (1,(Value.float FloatKind.f64 4607182418800017408),())) (rdV prog (convert 3 112 (vI (W64 (m.1-p.1)))) λq=>rdV prog (convert 3 112 (vI m.1)) λr=>rdV prog (do eqGuard .quo 112 (Operand.tmp 111) (Operand.tmp 113) q r;binOp .quo 112 q r:Sem Value) λr49=>rdB prog (do eqGuard .geq 112 (Operand.tmp 115) (Operand.const (Value.float FloatKind.f64 4604930618986332160)) r49 (Value.float FloatKind.f64 4604930618986332160);binOp .geq 112 r49 (Value.float FloatKind.f64 4604930618986332160):Sem Value) λr50=>sif r50 (K (1,r49,())) (rdV prog (do eqGuard .sub 112 (Operand.const (Value.float FloatKind.f64 4607182418800017408)) (Operand.tmp 118) (Value.float FloatKind.f64 4607182418800017408) r49;binOp .sub 112 (Value.float FloatKind.f64 4607182418800017408) r49:Sem Value) λr51=>K (4,r51,()))))
def Dk5:Hint:=(hS (hR 2) (hS (hR 7) (hS (hS (hR 2) (hC (hS (hR 3) hL) hL)) (hS (hR 4) (hJ (0x7ffffffffffe000078c,[]) (hS (hR 2) (hC (hS (hR 3) (hJ (0x1ffff00000100,[]) (hS (hR 1) (.block (.loop 0x1ffff00000100 [(8,tI)] (hS (hS (hR 4) (hC hL hL)) (hJ ((mR [(38,49)]),[]) (.block (hS (hR 5) (hC (hR 7) hL))) (hR 3)))))) (hS (hR 7) (hS (hR 7) (hS (hJ ((mR [(61,67)]),[(66,tB)]) (.region [] (.ops 3 (.split 63 (hO 3) (.skips 2 (hO 1))))) (hC (hS (hR 3) hL) hL)) (hJ ((mR [(68,74)]),[(73,tB)]) (.region [] (.ops 3 (.split 70 (hO 3) (.skips 2 (hO 1))))) (hC (hS (hR 3) hL) hL))))))) hL)) (hS (hR 1) (hJ (0xfff8000000000000001800,[(11,tI)]) (hS (hR 1) (.block (.loop 0xfff8000000000000001800 [(11,tI),(12,tI)] (hS (hS (hR 4) (hC hL hL)) (hJ (0xfe00000000000000000800,[(11,tI)]) (.block (hS (hR 5) (hC (hR 3) hL))) (hR 3)))))) (hS (hR 1) (hS (hR 7) (hJ (0x3ffe00000000000000000012000,[(13,tI)]) (hS (hR 1) (.block (.loop 0x3ffe00000000000000000012000 [(13,tI),(16,tI)] (hS (hS (hR 4) (hC hL hL)) (hJ ((mR [(13,14),(99,106)]),[(13,tI)]) (.block (hS (hR 5) (hC (hR 3) hL))) (hR 3)))))) (hS (hS (hR 2) (hC (hS (hR 2) hL) hL)) (hS (hR 8) (hS (hS (hR 2) (hC (hS (hR 3) hL) hL)) (hS (hR 4) hL))))))))))))))
def Dd8 {a0 K w}(h:F212 a0 K w):Aa prog 212 #[a0.v] bM K w:=tied Ap func212 Dk5 _ h
def F213 (x:Int) (K:Sl->Wp):Wp:=sif (x==1) (Ak (.cells #[(.int .u8 239),(.int .u8 187),(.int .u8 191)] 5) λy=>K ⟨(some (at0 y)),3,3⟩) (sif (x==2) (Ak (.cells #[(.int .u8 255),(.int .u8 254)] 5) λz=>K ⟨(some (at0 z)),2,2⟩) (sif (x==3) (Ak (.cells #[(.int .u8 254),(.int .u8 255)] 5) λa=>K ⟨(some (at0 a)),2,2⟩) (K ⟨none,0,0⟩)))
def Dk4:Hint:=(hS (hR 1) (hS (hS (hR 1) (.block (hS (hR 2) (hC (hS (hR 2) hL) (hS (hR 2) (hC (hS (hR 2) hL) (hS (hR 2) (hC (hS (hR 2) hL) hL)))))))) (hS (hR 1) hL)))
def Dd7 {a0 K w}(h:F213 a0 K w):Aa prog 213 #[(vI a0)] rS K w:=tied Ap func213 Dk4 _ h
def F214 (q:xM) (x:Int) (z:Int) (k:Value) (K:Unit->Wp):Wp:=Ak (.cells #[(dR q)] 51) λa=>chk (Qm [k]=true)<|Ak (.cells #[k] 313) λl=>ld (.ptr) (at0 a) λ(r:xM)=>cN 47 #[(dR r)] λb=>sif (decide ((if 0>x then 0 else x)>=(if b<z then b else z))) (K ()) (ld (.ptr) (at0 a) λ(s:xM)=>Aa prog 120 #[(dR s),(vI (if 0>x then 0 else x))] bI λ(m:aI)=>Ak dO λc=>stC (at0 c) (vI m.2.1)<|Ak dO λe=>stC (at0 e) (vI (W64 ((if b<z then b else z)-(if 0>x then 0 else x))))<|ld (.ptr) (at0 a) λ(t:xM)=>nn t λu=>lds c139 (u.add 2) λ(A:aN)=>Aa prog 70 #[(vA c139 A),(vI m.1)] (.one (.one .any)) λ(B:Value)=>Xp (S:=aK×Unit) prog (Slots.vals [(39,(.agg c146))]) B (λg h n (C:aK×Unit)=>Ak dM λy=>Ah (at0 y) (vA c146 C.1) 7<|Cf2 g h<|sI (λf D=>ld (.sl) (at0 y) λ(E:Sl)=>sif (decide (f.1<((E.len:Nat):Int))) (drew<|ld (.ptr) (at0 a) λ(F:xM)=>nn F λG=>lI G λH=>ld (.sl) (at0 y) λ(I:Sl)=>Aa prog 84 #[(vI H),I.v,(vI f.1)] bI λ(i:aI)=>jU (λo=>lI (at0 c) λJ=>sif (decide (J>0)) (lI (at0 c) λL=>stC (at0 c) (vI (W64 (L-1)))<|o ()) (jU (λp=>lI (ad y 1) λM=>sif (decide (M<0)) (ld (.any) (at0 l) λ(N:Value)=>Cj prog (do let d ←Deferred.ofValue N #[(vI i.1),(vI (-1))];invoke d.target d.args:Sem Next) bH λ(U:(Unit))=>p ()) (ld (.any) (at0 l) λ(O:Value)=>lI (ad y 1) λP=>Cj prog (do let d ←Deferred.ofValue O #[(vI i.1),(vI (W64 (P+f.1)))];invoke d.target d.args:Sem Next) bH λ(V:(Unit))=>p ())) λW=>lI (at0 e) λQ=>stC (at0 e) (vI (W64 (Q-1)))<|lI (at0 e) λR=>sif (R==0) (Ag2 g h (some .ret) n) (o ()))) λX=>D ((W64 (f.1+i.2.1)),())) (Ag2 g h none n)) (0,())) λj=>aft (Sj j<|K ()) (λT=>onE T 0 (Sj j<|K ()) (λ_=>False)) (Sj j<|K ()))
def Dk3:Hint:=(hS (hR 2) (hS (hR 8) (hS (hS (hR 3) (hC hL hL)) (hS (hR 9) (hS (hR 5) (hS (hR 6) (.block (.range [(39,(.agg c146))] (hR 2) (.block (hS (hR 1) (.block (.loop 0xffffffffff0000007000 [(12,tI)] (hS (hS (hR 5) (hC hL hL)) (.block (hS (.region (lR 13) (hO 13)) (hJ ((mR [(56,77)]),[]) (hS (hR 2) (hC (hR 3) (hJ ((mR [(60,73)]),[]) (hS (hR 3) (hC (hR 3) (hR 7))) (hS (hR 3) (hS (hR 2) (hC hL hL)))))) (hR 4)))))))))))))))))
def Dd6 {a0 a1 a2 a3 K w}(h:F214 a0 a1 a2 a3 K w):Aa prog 214 #[(dR a0),(vI a1),(vI a2),a3] bH K w:=tied Ap func214 Dk3 _ h
def F215 (c:Int) (y:Int) (x:Addr) (K:Unit->Wp):Wp:=ld (.sl) x λ(z:Sl)=>Ak (.cells #[(vI y)] 3) λa=>Dy prog rS (Builtin.append_ #[70,70] 70 #[z.v,(.slice (some (at0 a)) 1 1)]) λ(b:Sl)=>stC x b.v<|K ()
def Dk2:Hint:=(hR 5)
def Dd5 {a0 a1 v0 K w}(h:F215 a0 a1 v0 K w):Aa prog 215 #[(vI a0),(vI a1),(dR (some v0))] bH K w:=tied Ap func215 Dk2 _ h
def F223 (z:Sl) (a:Int) (y:Sl) (K:Bool->Wp):Wp:=sif (decide ((W64 (a+((y.len:Nat):Int)))>((z.len:Nat):Int))) (K false) (jU (λb=>sI (λx c=>sif (decide (x.1<((y.len:Nat):Int))) (drew<|ixl (.int .u8) z (W64 (a+x.1)) 1 λ(d:Int)=>ixl (.int .u8) y x.1 1 λ(e:Int)=>sif (d !=e) (K false) (c ((W64 (x.1+1)),()))) (b ())) (0,())) λf=>K true)
def Dj7:Hint:=(hS (hR 1) (hS (hS (hR 7) (hC (hS (hR 1) hL) hL)) (hJ (0xffff80c0,[]) (hS (hR 1) (.block (.loop 0xffff80c0 [(7,tI)] (hS (hS (hR 4) (hC hL hL)) (hS (.block (hS (.region (lR 11) (hO 11)) (hC (hS (hR 1) hL) hL))) (hR 3)))))) (hS (hR 1) hL))))
def Dd0 {a0 a1 a2 K w}(h:F223 a0 a1 a2 K w):Aa prog 223 #[a0.v,(vI a1),a2.v] rB K w:=tied Ap func223 Dj7 _ h
def F224 (y:Int) (z:Sl) (K:(Sl×Int×Unit)->Wp):Wp:=cB 226 #[(vI y)] λb=>sif (!b) (K (⟨none,0,0⟩,10,())) (jS (λc=>Jh (S:=Sl×Int×Unit) (λx d=>sif (decide (x.2.1<((z.len:Nat):Int))) (Aa prog 227 #[(vI y),z.v,(vI x.2.1)] bI λ(a:aI)=>Ak (.cells #[(vI a.1)] 3) λe=>Dy prog rS (Builtin.append_ #[70,70] 70 #[x.1.v,(.slice (some (at0 e)) 1 1)]) λ(f:Sl)=>d (f,(W64 (x.2.1+a.2.1)),())) (c (x.1,()))) (⟨none,0,0⟩,0,())) λg=>K (g.1,0,()))
def Dj6:Hint:=(hS (hR 2) (hS (hR 3) (hS (hS (hR 2) (hC (hS (hR 2) hL) hL)) (hS (hR 1) (hS (hR 1) (hJ (8589903744,[(7,tS)]) (.block (.loop 8589903744 [(7,tS),(8,tI)] (hS (hS (hR 4) (hC hL hL)) (.block (hS (hR 9) (hS (hR 5) (hR 4))))))) (hS (hR 3) hL)))))))
def Dc9 {a0 a1 K w}(h:F224 a0 a1 K w):Aa prog 224 #[(vI a0),a1.v] (.tup [(.one .sl),(.one cI)]) K w:=tied Ap func224 Dj6 _ h
def F226 (x:Int) (K:Bool->Wp):Wp:=sif (decide (x>=1)) (K (decide (x<=4))) (K false)
def Dj4:Hint:=(hS (hR 1) (hS (.region [] (.ops 3 (.split 5 (hO 4) (.skips 2 (hO 2))))) hL))
def Dc7 {a0 K w}(h:F226 a0 K w):Aa prog 226 #[(vI a0)] rB K w:=tied Ap func226 Dj4 _ h
def F227 (a:Int) (x:Sl) (y:Int) (K:aI->Wp):Wp:=sif (a==1) (Aa prog 228 #[x.v,(vI y)] bI λ(d:aI)=>K (d.1,d.2.1,())) (sif (a==4) (ixl (.int .u8) x y 1 λ(e:Int)=>K ((W64 e),1,())) (cN 229 #[(vI a),x.v,(vI y)] λz=>sif (decide (z<0)) (ixl (.int .u8) x y 1 λ(f:Int)=>K ((W64 ((-1)-(W64 f))),1,())) (cN 229 #[(vI a),x.v,(vI (W64 (y+2)))] λc=>jB (λb=>sif (decide (z>=55296)) (sif (decide (z<56320)) (sif (decide (c>=56320)) (b ((decide (c<57344)),())) (b (false,()))) (b (false,()))) (b (false,()))) λg=>sif g.1 (K ((W64 ((W64 ((W64 (65536+(W64 ((W64 (z-55296))*1024))))+c))-56320)),4,())) (K (z,2,())))))
def Dj3:Hint:=(hS (hR 2) (hS (hS (hR 2) (hC (hS (hR 7) hL) hL)) (hS (hS (hR 2) (hC (hS (hR 7) hL) hL)) (hS (hR 5) (hS (hS (hR 2) (hC (hS (hR 8) hL) hL)) (hS (hR 6) (hS (hJ ((mR [(41,55)]),[(54,tB)]) (.region [] (.ops 3 (.split 43 (.ops 4 (.split 47 (.ops 4 (.split 51 (hO 3) (.skips 2 (hO 1)))) (.skips 2 (.ops 2 (.skips 2 (hO 1)))))) (.skips 2 (.ops 2 (.skips 2 (.ops 2 (.skips 2 (hO 1))))))))) (hC (hS (hR 9) hL) hL)) (hS (hR 3) hL))))))))
def Dc6 {a0 a1 a2 K w}(h:F227 a0 a1 a2 K w):Aa prog 227 #[(vI a0),a1.v,(vI a2)] bI K w:=tied Ap func227 Dj3 _ h
def F228 (y:Sl) (z:Int) (K:aI->Wp):Wp:=jU (λf=>sI (λx g=>jB (λb=>sif (decide (x.1<=4)) (b ((decide ((W64 (z+x.1))<=((y.len:Nat):Int))),())) (b (false,()))) λh=>sif h.1 (jU (λc=>cN 230 #[y.v,(vI z),(vI x.1)] λa=>cB 231 #[(vI a)] λi=>sif (!i) (c ()) (cS 232 #[(vI a)] λd=>cB 223 #[y.v,(vI z),d.v] λj=>jB (λe=>sif (((d.len:Nat):Int)==x.1) (e (j,())) (e (false,()))) λk=>sif k.1 (K (a,x.1,())) (c ()))) λm=>g ((W64 (x.1+1)),())) (f ())) (1,())) λn=>ixl (.int .u8) y z 1 λ(l:Int)=>K ((W64 ((-1)-(W64 l))),1,())
def Dj2:Hint:=(hS (hR 2) (hJ ((mR [(4,46)]),[]) (hS (hR 1) (.block (.loop (mR [(4,46)]) [(6,tI)] (hS (hJ (2095104,[(20,tB)]) (.region [] (.ops 3 (.split 13 (hO 7) (.skips 6 (hO 1))))) (hC hL hL)) (hJ (0x3fffff8007b0,[]) (.block (hS (hR 5) (hS (hR 3) (hS (hS (hR 2) (hC hL hL)) (hS (hR 3) (hS (hR 5) (hJ (0xfe000000000,[(43,tB)]) (.region [] (.ops 5 (.split 41 (hO 2) (.skips 1 (hO 1))))) (hC (hS (hR 4) hL) hL)))))))) (hR 3)))))) (hS (hR 8) hL)))
def Dc5 {a0 a1 K w}(h:F228 a0 a1 K w):Aa prog 228 #[a0.v,(vI a1)] bI K w:=tied Ap func228 Dj2 _ h
def F229 (z:Int) (x:Sl) (y:Int) (K:Int->Wp):Wp:=sif (decide ((W64 (y+2))>((x.len:Nat):Int))) (K (-1)) (sif (z==2) (drew<|ixl (.int .u8) x y 1 λ(a:Int)=>ixl (.int .u8) x (W64 (y+1)) 1 λ(b:Int)=>K (W64 ((W64 a)+(W64 (256*(W64 b)))))) (drew<|ixl (.int .u8) x y 1 λ(c:Int)=>ixl (.int .u8) x (W64 (y+1)) 1 λ(d:Int)=>K (W64 ((W64 (256*(W64 c)))+(W64 d)))))
def Dj1:Hint:=(hS (hR 1) (hS (hS (hR 5) (hC (hS (hR 1) hL) hL)) (hS (hS (hR 2) (hC (hS (.region (lR 14) (hO 14)) hL) hL)) (hS (.region (lR 14) (hO 14)) hL))))
def Dc4 {a0 a1 a2 K w}(h:F229 a0 a1 a2 K w):Aa prog 229 #[(vI a0),a1.v,(vI a2)] rI K w:=tied Ap func229 Dj1 _ h
def F230 (z:Sl) (a:Int) (y:Int) (K:Int->Wp):Wp:=Ak (.cells #[(vI 0),(vI 0),(vI 0),(vI 0),(vI 0)] 331) λb=>Ah (at0 b) (.agg #[(vI 0),(vI 0),(vI 192),(vI 224),(vI 240)]) 5<|drew<|ixl (.int .u8) z a 1 λ(c:Int)=>chk (0<=y/\y<((5:Nat):Int))<|ld cI ((at0 b).add (scaled (Int.toNat y) 1)) λ(d:Int)=>jI (λe=>sN (λx f=>sif (decide (x.2.1<y)) (ixl (.int .u8) z (W64 (a+x.2.1)) 1 λ(g:Int)=>f ((W64 ((W64 ((W64 (x.1*64))+(W64 g)))-128)),(W64 (x.2.1+1)),())) (e (x.1,()))) ((W64 ((W64 c)-d)),1,())) λh=>K h.1
def Dj0:Hint:=(hS (hR 1) (hS (hR 3) (hS (.region (lR 10) (hO 10)) (hJ (0xffff00300,[(8,tI)]) (hS (hR 1) (.block (.loop 0xffff00300 [(8,tI),(9,tI)] (hS (hS (hR 3) (hC hL hL)) (hS (.block (hR 12)) (hR 3)))))) (hS (hR 2) hL)))))
def Dc3 {a0 a1 a2 K w}(h:F230 a0 a1 a2 K w):Aa prog 230 #[a0.v,(vI a1),(vI a2)] rI K w:=tied Ap func230 Dj0 _ h
def F231 (x:Int) (K:Bool->Wp):Wp:=sif (decide (x>=0)) (sif (decide (x<55296)) (K true) (sif (decide (x>57343)) (K (decide (x<=1114111))) (K false))) (sif (decide (x>57343)) (K (decide (x<=1114111))) (K false))
def Di9:Hint:=(hS (hR 1) (hS (.region [] (.ops 3 (.split 5 (.ops 4 (.split 9 (.skips 6 (hO 2)) (.ops 3 (.split 12 (hO 5) (.skips 2 (hO 3)))))) (.skips 2 (.ops 5 (.split 12 (hO 5) (.skips 2 (hO 3)))))))) hL))
def Dc2 {a0 K w}(h:F231 a0 K w):Aa prog 231 #[(vI a0)] rB K w:=tied Ap func231 Di9 _ h
def F232 (x:Int) (K:Sl->Wp):Wp:=sif (decide (x<128)) (Ak (.cells #[(.int .u8 (IntKind.wrap .u8 x))] 5) λy=>K ⟨(some (at0 y)),1,1⟩) (sif (decide (x<2048)) (chk ((64:Int)≠0)<|chk ((64:Int)≠0)<|Ak (.cells #[(.int .u8 (IntKind.wrap .u8 (W64 (192+(W64 (Int.tdiv x 64)))))),(.int .u8 (IntKind.wrap .u8 (W64 (128+(Int.tmod x 64)))))] 5) λz=>K ⟨(some (at0 z)),2,2⟩) (sif (decide (x<65536)) (chk ((4096:Int)≠0)<|chk ((64:Int)≠0)<|chk ((64:Int)≠0)<|chk ((64:Int)≠0)<|Ak (.cells #[(.int .u8 (IntKind.wrap .u8 (W64 (224+(W64 (Int.tdiv x 4096)))))),(.int .u8 (IntKind.wrap .u8 (W64 (128+(Int.tmod (W64 (Int.tdiv x 64)) 64))))),(.int .u8 (IntKind.wrap .u8 (W64 (128+(Int.tmod x 64)))))] 5) λa=>K ⟨(some (at0 a)),3,3⟩) (chk ((262144:Int)≠0)<|chk ((4096:Int)≠0)<|chk ((64:Int)≠0)<|chk ((64:Int)≠0)<|chk ((64:Int)≠0)<|chk ((64:Int)≠0)<|Ak (.cells #[(.int .u8 (IntKind.wrap .u8 (W64 (240+(W64 (Int.tdiv x 262144)))))),(.int .u8 (IntKind.wrap .u8 (W64 (128+(Int.tmod (W64 (Int.tdiv x 4096)) 64))))),(.int .u8 (IntKind.wrap .u8 (W64 (128+(Int.tmod (W64 (Int.tdiv x 64)) 64))))),(.int .u8 (IntKind.wrap .u8 (W64 (128+(Int.tmod x 64)))))] 5) λb=>K ⟨(some (at0 b)),4,4⟩)))
def Di8:Hint:=(hS (hR 1) (hS (.block (hS (hR 3) (hC (hS (hR 4) hL) (hS (hR 3) (hC (hS (hR 10) hL) (hS (hR 3) (hC (hS (hR 15) hL) hL))))))) (hS (hR 20) hL)))
def Dc1 {a0 K w}(h:F232 a0 K w):Aa prog 232 #[(vI a0)] rS K w:=tied Ap func232 Di8 _ h
def F256 (x:aF) (y:Int) (K:Int->Wp):Wp:=Ak (.cells #[(vI x.1),(vI x.2.1),(vI x.2.2.1),(.bool x.2.2.2.1),(.bool x.2.2.2.2.1)] 144) λz=>sif (y==0) (lI (at0 z) λa=>K a) (sif (y==1) (lI (ad z 2) λb=>K b) (K 0))
def h256:Hint:=(hS (hR 2) (hS (hS (hR 1) (.block (hS (hR 2) (hC dZ fH)))) eH))
def Db9 {a0 a1 K w}(h:F256 a0 a1 K w):Aa prog 256 #[(vA Cm a0),(vI a1)] rI K w:=tied Ap func256 h256 _ h
def F257 (x:aK) (K:aF->Wp):Wp:=Ak (.cells #[x.1.v,(vI x.2.1),(vI x.2.2.1),(vI x.2.2.2.1),(vI x.2.2.2.2.1),(.bool x.2.2.2.2.2.1),(.bool x.2.2.2.2.2.2.1)] 146) λz=>Ak dI λy=>lds Cm (ad z 2) λ(a:aF)=>Ah (at0 y) (vA Cm a) 5<|lds Cm (at0 y) λ(b:aF)=>K b
def Di6:Hint:=(hS (hR 2) (hS (hR 3) hL))
def Db8 {a0 K w}(h:F257 a0 K w):Aa prog 257 #[(vA c146 a0)] (.one (.agg Cm)) K w:=tied Ap func257 Di6 _ h
def F275 (e:(Int×Unit)) (x:Sl) (K:aI->Wp):Wp:=Ak (.cells #[(vI e.1)] 263) λz=>sif (((x.len:Nat):Int)==1) (ixl (.int .u8) x 0 1 λ(f:Int)=>K ((W64 ((-1)-(W64 f))),1,())) (lds Ba1 (at0 z) λ(g:(Int×Unit))=>cN 280 #[(vA Ba1 g),x.v] λy=>jU (λb=>jB (λc=>cB 281 #[(vI y)] λh=>sif h (c ((decide (((x.len:Nat):Int)>=4)),())) (c (false,()))) λi=>sif i.1 (drew<|lds Ba1 (at0 z) λ(j:(Int×Unit))=>slc x.a 2 ((x.len:Nat):Int) ((x.cap:Nat):Int) x.cap 1 λk=>cN 280 #[(vA Ba1 j),k.v] λd=>cB 282 #[(vI d)] λl=>sif l (chk (0<=(10:Int))<|K ((W64 ((W64 (65536+(W64 ((W64 ((BitVec.toNat (BitVec.ofInt (IntKind.bits .i64) y &&& BitVec.ofInt (IntKind.bits .i64) 1023):Nat):Int))*2^(min (Int.toNat 10) (IntKind.bits .i64))))))+(W64 ((BitVec.toNat (BitVec.ofInt (IntKind.bits .i64) d &&& BitVec.ofInt (IntKind.bits .i64) 1023):Nat):Int)))),4,())) (b ())) (b ())) λm=>K (y,2,()))
def Di5:Hint:=(hS (hR 3) (hS (hS (hR 3) (hC (hS (hR 7) hL) hL)) (hS (hR 4) (hJ (0x7ffff800b0,[]) (hJ (66584576,[(25,tB)]) (.region [] (.ops 3 (.split 21 (hO 4) (.skips 3 (hO 1))))) (hC (hS (.region (lR 5) (hO 5)) (hS (hR 2) (hC (hS (hR 9) hL) hL))) hL)) (hS (hR 3) hL)))))
def Db7 {a0 a1 K w}(h:F275 a0 a1 K w):Aa prog 275 #[(vA Ba1 a0),a1.v] bI K w:=tied Ap func275 Di5 _ h
def F280 (z:(Int×Unit)) (x:Sl) (K:Int->Wp):Wp:=Ak (.cells #[(vI z.1)] 263) λy=>drew<|lI (at0 y) λa=>ixl (.int .u8) x a 1 λ(b:Int)=>lI (at0 y) λc=>ixl (.int .u8) x (W64 (1-c)) 1 λ(d:Int)=>chk (0<=(8:Int))<|K (W64 ((BitVec.toNat (BitVec.ofInt (IntKind.bits .i64) (W64 b) ||| BitVec.ofInt (IntKind.bits .i64) (W64 ((W64 d)*2^(min (Int.toNat 8) (IntKind.bits .i64))))):Nat):Int))
def Di4:Hint:=(hS (hR 2) (hS (.region (lR 16) (hO 16)) hL))
def Db6 {a0 a1 K w}(h:F280 a0 a1 K w):Aa prog 280 #[(vA Ba1 a0),a1.v] rI K w:=tied Ap func280 Di4 _ h
def F281 (x:Int) (K:Bool->Wp):Wp:=K ((W64 ((BitVec.toNat (BitVec.ofInt (IntKind.bits .i64) x &&& ~~~(BitVec.ofInt (IntKind.bits .i64) 1023)):Nat):Int))==55296)
def Di3:Hint:=(hS (hR 1) (hS (hR 4) hL))
def Db5 {a0 K w}(h:F281 a0 K w):Aa prog 281 #[(vI a0)] rB K w:=tied Ap func281 Di3 _ h
def F282 (x:Int) (K:Bool->Wp):Wp:=K ((W64 ((BitVec.toNat (BitVec.ofInt (IntKind.bits .i64) x &&& ~~~(BitVec.ofInt (IntKind.bits .i64) 1023)):Nat):Int))==56320)
def Di2:Hint:=(hS (hR 1) (hS (hR 4) hL))
def Db4 {a0 K w}(h:F282 a0 K w):Aa prog 282 #[(vI a0)] rB K w:=tied Ap func282 Di2 _ h
def F284 (z:(Unit)) (x:Sl) (K:aI->Wp):Wp:=Ak (.cells #[] 264) λa=>ixl (.int .u8) x 0 1 λ(y:Int)=>K ((W64 y),1,())
def Di1:Hint:=(hS (hR 3) (hS (hR 6) hL))
def Db3 {a0 a1 K w}(h:F284 a0 a1 K w):Aa prog 284 #[(vA Cu5 a0),a1.v] bI K w:=tied Ap func284 Di1 _ h
end
section
open Go Go.Vx Cdc
section
variable {w w':World}
def func_x {g:FuncId}{caps args:Array Value}{t:RTy}{K:t.T->Wp}(hf:((prog.funcs[g]?).map λfn=>(fn.body.isNone,fn.name == "runtime.NumGoroutine"))=some (false,false)) (h:Aa prog g (args++caps) t K w) :
  Cj prog (do let d ←Deferred.ofValue (.func (.func g) #[] caps) args;invoke d.target d.args:Sem Next) t K w:=by
 refine .inl ⟨g,args++caps,?_,h⟩;have:=Gq (P:=prog) (f:=g) (args:=args++caps) hf w;simp only [Deferred.ofValue,pure_bind,invoke];have e:(#[]++args++caps:Array Value)=args++caps:=(by simp);first
  |exact this
  |(rw [e];exact this)
def Jm {ty:TypeId}{v v':Value}{name:String}{f:FuncId}{a:Value}{t:RTy}{K:t.T->Wp}(hm:∀w,(Go.method (prog.types.size+Made.depth) ty v name).run prog w=.ok (f,v') w)
  (hf:((prog.funcs[f]?).map λfn=>(fn.body.isNone,fn.name == "runtime.NumGoroutine"))=some (false,false)) (h:Aa prog f #[v',a] t K w) :
  Cj prog (invoke (.fn (.method name) #[]) (#[.iface ty v]++#[a])) t K w:=by refine .inl ⟨f,#[v',a],?_,h⟩;have h:=Gq (P:=prog) (f:=f) (args:=#[v',a]) hf w;have e:invoke (.fn (.method name) #[]) (#[.iface ty v]++#[a])=callMethod (.iface ty v) name #[a]:=rfl;rw [e];simp only [callMethod,iH,program,Sem.run,iI,hm];exact h
abbrev By (w:World) (s:Sl) (l:Bs):Prop:=Dx w s 5 1 (bv l)
def By.len {s:Sl}{l:Bs}(h:By w s l):l.length=s.len:=by have:=h.len1;rwa [nO] at this
def Ce6 (l:Bs):bv l=(l.map λb=>(b.toNat:Int)).map (Cell.int .u8).val:=by rw [qZ];rfl
def Lr {s:Sl}{l:Bs}{n:Int}{K:Addr->Int->Wp}(h:By w s l) (h0:0<=n){b:UInt8}(hb:l[n.toNat]?=some b) (hK:∀p,K p (b.toNat:Int) w) :
  ix s.a s.len n (λp=>ld (.int .u8) (p.add (scaled (Int.toNat n) 1)) (K p)) w:=by (have h':Dx w s 5 1 ((l.map λb=>(b.toNat:Int)).map (Cell.int .u8).val):=by rw [←Ce6];exact h);exact Al7 h' h0 (x:=(b.toNat:Int)) (by rw [nP,hb];rfl) hK
def Cn6 (l:Bs) (n:Nat):(bv l).drop n=bv (l.drop n):=by simp [bv]
def Cn5 (l:Bs) (n:Nat):(bv l).take n=bv (l.take n):=by simp [bv]
def Ad0 {s:Sl}{l:Bs}{a b m:Int}{K:Sl->Wp}(hs:By w s l) (h0:0<=a) (h1:a<=b) (h2:b<=s.len) (h3:b<=m) (h4:m<=s.cap)
  (hK:∀s',By w s' ((l.drop a.toNat).take (b.toNat-a.toNat))->s'.len=b.toNat-a.toNat->(∀k,s'.blk k->s.blk k)->K s' w):slc s.a a b m s.cap 1 K w :=
 Nr hs h0 h1 h2 h3 h4 λs' hs' hl _ hb=>hK s' (by
  rw [kX,kX,Cn6,Cn5] at hs';exact hs') hl hb
def Ba2 {c:UInt8}{K:Int×Int×Int×Unit->Wp}(hK:K (((Fg c.toNat).1:Nat),((Fg c.toNat).2.1:Nat),((Fg c.toNat).2.2:Nat),()) w) :
  Aa prog 165 #[.int .u8 (c.toNat:Int)] (.tup [(.one (.int .i64)),(.one (.int .u8)),(.one (.int .u8))]) K w:=by
 refine Dg5 ?_;unfold F165;have hlt:=c.toNat_lt;unfold Fg at hK;(repeat' refine Ac (λh=>?_) (λh=>?_));(all_goals simp only [pF,oK,pX,rF] at *);all_goals
  repeat rw [iK (by omega)] at hK
  repeat rw [iP (by omega)] at hK
  repeat rw [iK (by omega)] at hK
  exact hK
def Al3 {c:UInt8}:∀{m:Nat}{r:Bs}{j:Nat},j<=more m r->(j<m/\r[j]?=some c/\cont c=true->j<more m r)
 |0,r,j,_=>λh=>absurd h.1 (by omega)
 |m+1,[],j,_=>λh=>by simp at h
 |m+1,b::r,0,_=>λh=>by
  simp at h
  simp [more,h]
 | m+1,b::r,j+1,hj=>λh=>by
  simp only [more] at hj ⊢
  split at hj
  ·rename_i hb
   rw [iK hb]
   have:=Al3 (c:=c) (m:=m) (r:=r) (j:=j) (by omega) ⟨by omega,by simpa using h.2.1,h.2.2⟩
   omega
  ·omega
def Al4:∀{m:Nat}{r:Bs}{j:Nat},j<more m r->∃c,r[j]?=some c/\cont c=true
 |0,r,j,h=>by cases r<;>simp [more] at h
 |m+1,[],j,h=>by simp [more] at h
 |m+1,b::r,0,h=>by
  simp only [more] at h
  split at h
  ·rename_i hb;exact ⟨b,rfl,hb⟩
  ·omega
 | m+1,b::r,j+1,h=>by
  simp only [more] at h
  split at h
  ·obtain ⟨c,hc⟩:=Al4 (m:=m) (r:=r) (j:=j) (by omega)
   exact ⟨c,by simpa using hc⟩
  ·omega
def Bt8:∀c:UInt8,((IntKind.wrap .u8 ((BitVec.toNat (BitVec.ofInt (IntKind.bits .u8) (c.toNat:Int) &&& BitVec.ofInt (IntKind.bits .u8) (192:Int)):Nat):Int))==(128:Int))=cont c:=by intro c;have h:∀n:Fin 256,((IntKind.wrap .u8 ((BitVec.toNat (BitVec.ofInt (IntKind.bits .u8) (n.val:Int) &&& BitVec.ofInt (IntKind.bits .u8) (192:Int)):Nat):Int))==(128:Int))=(n.val/64==2):=(by decide +kernel);exact h ⟨c.toNat,c.toNat_lt⟩
def By2 {s:Sl} {b:UInt8} {r:Bs} (hB:By w s (b::r)) {K:Int×Int×Unit->Wp} (hK:K (((rowOf (b::r)).1:Nat),((rowOf (b::r)).2:Nat),()) w) :
  Aa prog 135 #[s.v] bJ K w:=by
 refine j135 ?_;unfold F135;have hlen:r.length+1=s.len:=hB.len;refine Lr hB (by decide) (b:=b) rfl λp=>Ba2 ?_;have h4:=Ar8 b.toNat;have hbr:=La b r;refine Ac (λh=>?_) (λh=>?_);{simp only [pF] at h;have h2:(Fg b.toNat).1<2:=(by omega);simp only [rowOf,iK h2] at hK;exact hK};simp only [oK] at h;have h2:¬(Fg b.toNat).1<2:=(by omega);cases r with
 |nil=>simp only [rowOf,iP h2] at hK;have:s.len=1:=(by simpa using hlen.symm);refine Ai (λx w'=>x=(true,())/\w=w') (Ac (λ_=>⟨rfl,rfl⟩) (λh=>?_)) ?_;{simp only [oK] at h;omega};{rintro _ w' ⟨rfl,rfl⟩;exact Ee hK}
 | cons c r =>
  have hl2:r.length+2=s.len:=(by simpa using hlen);refine Ai (λx w'=>x=(decide (c.toNat<(Fg b.toNat).2.1\/(Fg b.toNat).2.2<c.toNat),())/\w=w') (Ac (λh=>?_) (λ_=>?_)) ?_;{simp only [pF] at h;omega};{refine Lr hB (by decide) (b:=c) rfl λp=>Ac (λh=>?_) (λh=>Lr hB (by decide) (b:=c) rfl λp=>?_);{simp only [pF] at h;exact ⟨by rw [uX (by omega)],rfl⟩};{simp only [oK] at h;refine ⟨Di ?_,rfl⟩;simp only [pF];omega}}
  ·rintro _ w' ⟨rfl,rfl⟩;refine Ac (λh=>?_) (λh=>?_);{simp only [pF] at h;simp only [rowOf,iP h2,iK h] at hK;exact hK}
   ·simp only [oK] at h;simp only [rowOf,iP h2,iP h] at hK;generalize hm:(Fg b.toNat).1-2=m at hK;have hn:(Fg b.toNat).1=m+2:=(by omega);rw [hn] at hK ⊢;refine Ai (λx w'=>x=(((2+more m r:Nat):Int),())/\w=w') ?_ ?_
    ·refine Bo (λx w'=>(∃j:Nat,x=(((2+j:Nat):Int),())/\j<=more m r)/\w=w') (λx _=>(m+2-x.1.toNat)) ⟨⟨0,rfl,qI _⟩,rfl⟩ ?_;rintro _ w' ⟨⟨j,rfl,hj⟩,rfl⟩;have hmo:=Aa6 m r;refine Ai (λx w'=>x=(decide (j<more m r),())/\w=w') ?_ ?_
     ·refine Ac (λh=>?_) (λh=>?_)
      ·simp only [pF] at h;refine Ac (λh'=>?_) (λh'=>?_)
       ·simp only [pF] at h';have hjl:j<r.length:=(by omega);have hx:(b::c::r)[((2+j:Nat):Int).toNat]?=some r[j]:=by
         have:((2+j:Nat):Int).toNat=j+2:=by omega
         rw [this];simp [hjl]
        refine Lr hB (by omega) hx λp=>⟨?_,rfl⟩;rw [Bt8];refine Di ?_;simp only [pF];refine ⟨λhc=>Al3 (c:=r[j]) hj ⟨by omega,by simp [hjl],hc⟩,λhc=>?_⟩;obtain ⟨c',h1,h2⟩:=Al4 hc;rw [oP hjl] at h1;cases h1;exact h2
       {simp only [oK] at h';exact ⟨by rw [qO (by omega)],rfl⟩}
      {simp only [oK] at h;exact ⟨by rw [qO (by omega)],rfl⟩}
     {rintro _ w' ⟨rfl,rfl⟩;refine Ac (λh=>?_) (λh=>?_);{simp only [pF] at h;have e:W64 (((2+j:Nat):Int)+1)=((2+(j+1):Nat):Int):=iD (by omega);rw [e];exact ⟨⟨⟨j+1,rfl,h⟩,rfl⟩,by simp only;omega⟩};{simp only [oK] at h;have:j=more m r:=(by omega);exact ⟨by rw [this],rfl⟩}}
    {rintro _ w' ⟨rfl,rfl⟩;exact hK}
def Bp7 (a:Nat) (l:Bs) (c:UInt8):rest a (l++[c])=rest a l*64+c.toNat%64:=by simp [rest]
def Bk0:∀(l:Bs) (a:Nat),rest a l<(a+1)*64^l.length
 |[],a=>by simp [rest]
 | c::l,a=>by
  have:=Bk0 l (a*64+c.toNat%64)
  have e:rest a (c::l)=rest (a*64+c.toNat%64) l:=rfl
  rw [e,kE,Nat.pow_succ]
  refine mP this ?_
  have h:a*64+c.toNat%64+1<=(a+1)*64:=by omega
  calc (a*64+c.toNat%64+1)*64^l.length<=(a+1)*64*64^l.length:=mY _ h
   _=(a+1)*(64^l.length*64):=by rw [Nat.mul_assoc,vH 64]
def Zv (c:UInt8) (k:Nat) (hk:k<=8):W64 ((BitVec.toNat (BitVec.ofInt (IntKind.bits .i64) (W64 (c.toNat:Int)) &&& BitVec.ofInt (IntKind.bits .i64) (2^k-1)):Nat):Int)=((c.toNat%2^k:Nat):Int):=by
 have hc:=c.toNat_lt;rw [wrap64 (a:=(c.toNat:Int)) (by omega) (by omega)];have h:=As1 (b:=IntKind.bits .i64) (k:=k) (a:=(c.toNat:Int)) (m:=2^k-1) (by omega) (by show (c.toNat:Int)<2^64;omega) rfl (by show k<=64;omega);rw [h,rV];have e:((2^k:Nat):Int)=(2:Int)^k:=(by simp);rw [e];have h0:(0:Int)<2^k:=rO (by decide);have h1:(c.toNat:Int)%2^k<=(c.toNat:Int):=by
  rw [←e,←rV]
  exact_mod_cast Nat.mod_le _ _
 have h2:=Int.emod_nonneg (c.toNat:Int) (Int.ne_of_gt h0);exact iE (by omega)
def Cx4 (c:UInt8):W64 ((BitVec.toNat (BitVec.ofInt (IntKind.bits .i64) (W64 (c.toNat:Int)) &&& BitVec.ofInt (IntKind.bits .i64) (31:Int)):Nat):Int)=((c.toNat%32:Nat):Int):=Zv c 5 (by decide)
def Cx5 (c:UInt8):W64 ((BitVec.toNat (BitVec.ofInt (IntKind.bits .i64) (W64 (c.toNat:Int)) &&& BitVec.ofInt (IntKind.bits .i64) (15:Int)):Nat):Int)=((c.toNat%16:Nat):Int):=Zv c 4 (by decide)
def Cx6 (c:UInt8):W64 ((BitVec.toNat (BitVec.ofInt (IntKind.bits .i64) (W64 (c.toNat:Int)) &&& BitVec.ofInt (IntKind.bits .i64) (7:Int)):Nat):Int)=((c.toNat%8:Nat):Int):=Zv c 3 (by decide)
def go_bits (a:Nat) (c:UInt8) (ha:a<2^40):W64 ((BitVec.toNat (BitVec.ofInt (IntKind.bits .i64) (W64 ((a:Int)*2^(min (Int.toNat (6:Int)) (IntKind.bits .i64)))) ||| BitVec.ofInt (IntKind.bits .i64) (W64 (IntKind.wrap .u8 ((BitVec.toNat (BitVec.ofInt (IntKind.bits .u8) (c.toNat:Int) &&& BitVec.ofInt (IntKind.bits .u8) (63:Int)):Nat):Int)))):Nat):Int)=((a*64+c.toNat%64:Nat):Int):=by have hc:=c.toNat_lt;have h1:=As1 (b:=IntKind.bits .u8) (k:=6) (a:=(c.toNat:Int)) (m:=63) (by omega) (by show (c.toNat:Int)<2^8;omega) rfl (by decide);rw [h1,Bu7 (by omega) (by omega),wrap64 (a:=(c.toNat:Int)%2^6) (by omega) (by omega)];have e:((2:Int)^(min (Int.toNat (6:Int)) (IntKind.bits .i64)))=2^6:=rfl;rw [e,wrap64 (a:=(a:Int)*2^6) (by omega) (by omega)];have h2:=Av5 (b:=IntKind.bits .i64) (k:=6) (a:=(a:Int)) (c:=(c.toNat:Int)%2^6) (by omega) (by omega) (by omega) (by show _<(2:Int)^64;omega);rw [h2,iE (by omega)];omega
def X0 {s:Sl}{b:UInt8}{r:Bs}(hB:By w s (b::r)){K:Int×Int×Unit->Wp}(hK:iF w (K ((nx8 (b::r)).1,((nx8 (b::r)).2:Nat),()))) :
  Aa prog 95 #[.agg #[],s.v] bJ K w:=by
 refine j95 (a0:=()) ?_;unfold F95;have hlen:r.length+1=s.len:=hB.len;have hb:=b.toNat_lt;refine Ag λ_ w1 e1 _ _ _=>?_;have hB1:By w1 s (b::r):=hB.ext e1;refine By2 hB1 ?_;have hro:=Ad6 b r;have hrb:=La b r;have h4:=Ar8 b.toNat;have hcap:=hB.le;replace hK:=hK w1 e1;simp only [nx8] at hK;generalize hn:(rowOf (b::r)).2=n at *;generalize hh:(rowOf (b::r)).1=h at *;refine Ai (λx w'=>x=(decide (n=0\/h<n),())/\w1=w') (Ac (λhc=>?_) (λhc=>?_)) ?_;{simp only [pX] at hc;exact ⟨by rw [uX (by omega)],rfl⟩};{simp only [rF] at hc;refine ⟨Di ?_,rfl⟩;simp only [pF];omega};rintro _ w' ⟨rfl,rfl⟩;refine Ac (λhc=>?_) (λhc=>?_);{simp only [pF] at hc;rw [iK hc] at hK;refine Lr hB1 (by decide) (b:=b) rfl λp=>?_;rw [wrap64 (a:=(b.toNat:Int)) (by omega) (by omega),iE (by omega)];exact hK};simp only [oK] at hc;rw [iP hc] at hK;refine Lr hB1 (by decide) (b:=b) rfl λp=>?_;(have hlt:lead n b.toNat<256:=by unfold lead;(repeat' split)<;>omega);refine Ai (λx w'=>x=(((lead n b.toNat:Nat):Int),())/\w1=w') ?_ ?_;{unfold lead;refine Ac (λhc=>?_) (λhc=>Ac (λhc=>?_) (λhc=>Ac (λhc=>?_) (λhc=>?_)));(all_goals simp only [pX,rF] at *);{rw [Cx4,iK (by omega)];exact ⟨rfl,trivial⟩};{rw [Cx5,iP (by omega),iK (by omega)];exact ⟨rfl,trivial⟩};{rw [Cx6,iP (by omega),iP (by omega),iK (by omega)];exact ⟨rfl,trivial⟩};{rw [iP (by omega),iP (by omega),iP (by omega),iE (by omega)];exact ⟨rfl,trivial⟩}};rintro _ w' ⟨rfl,rfl⟩;simp only;generalize hld:lead n b.toNat=ld at *;refine Ai (λx w'=>x=(((rest ld (r.take (n-1)):Nat):Int),())/\w1=w') ?_ ?_
 ·simp only [kE] at hro;refine Ad0 hB1 (by decide) (by omega) (by omega) (by omega) (by omega) λs' hs' hl' _=>?_;have hR:((b::r).drop (Int.toNat 1)).take (((n:Nat):Int).toNat-Int.toNat 1)=r.take (n-1):=by
   have:((n:Nat):Int).toNat-Int.toNat 1=n-1:=by omega
   rw [this];rfl
  rw [hR] at hs';generalize hRR:r.take (n-1)=R at *;have hRl:R.length=s'.len:=hs'.len;(have hR3:R.length<=3:=by rw [←hRR,nG];omega);refine Bo (λx w'=>(∃i:Nat,x=(((rest ld (R.take i):Nat):Int),(i:Int),())/\i<=R.length)/\w1=w') (λx _=>R.length-x.2.1.toNat) ⟨⟨0,by simp [rest],qI _⟩,rfl⟩ ?_;rintro _ w' ⟨⟨i,rfl,hi⟩,rfl⟩;refine Ac (λhc=>?_) (λhc=>?_)
  ·simp only [pF] at hc;have hiR:i<R.length:=(by omega);refine Lr hs' (by simp only;omega) (b:=R[i]) (by simp [hiR]) λp=>Ea (by decide) ?_;have hlt2:=Bk0 (R.take i) ld;have hb2:rest ld (R.take i)<2^40:=by
    refine mP hlt2 ?_
    have h1:64^(R.take i).length<=64^3:=rQ (by decide) (by rw [nG];omega)
    calc (ld+1)*64^(R.take i).length<=256*64^3:=Nat.mul_le_mul (by omega) h1
     _<=2^40:=by decide
   dsimp only;rw [go_bits _ _ hb2];have e:rest ld (R.take i)*64+R[i].toNat%64=rest ld (R.take (i+1)):=by
    rw [←Bp7,List.take_append_getElem]
   rw [e,iE (by omega)];exact ⟨⟨⟨i+1,rfl,hiR⟩,rfl⟩,by omega⟩
  {simp only [oK] at hc;have:i=R.length:=(by omega);subst this;rw [rH];exact ⟨rfl,rfl⟩}
 rintro _ w' ⟨rfl,rfl⟩;exact hK
end
end
section
open Go Go.Vx Trx
section
variable {w w':World}
def smT (s:Es):Cells.T Cm:=((s.atoms:Int),(s.bytes:Int),(s.breaks:Int),s.lf,s.cr,())
def pcT (x:Pc):Cells.T c146:=(x.bytes,x.tag,(x.sm.atoms:Int),(x.sm.bytes:Int),(x.sm.breaks:Int),x.sm.lf,x.sm.cr,())
abbrev smV (s:Es):Value:=.agg (Cells.vals Cm (smT s)).toArray
abbrev pcV (x:Pc):Value:=.agg (Cells.vals c146 (pcT x)).toArray
def Cl5 {ty:TypeId}{v v':Value}{name:String}{f:FuncId}{t:RTy}{K:t.T->Wp}(hm:∀w,(Go.method (prog.types.size+Made.depth) ty v name).run prog w=.ok (f,v') w)
  (hf:((prog.funcs[f]?).map λfn=>(fn.body.isNone,fn.name == "runtime.NumGoroutine"))=some (false,false)) (h:Aa prog f #[v'] t K w) :
  Cj prog (invoke (.fn (.method name) #[]) (#[.iface ty v]++#[])) t K w:=by refine .inl ⟨f,#[v'],?_,h⟩;have h:=Gq (P:=prog) (f:=f) (args:=#[v']) hf w;have e:invoke (.fn (.method name) #[]) (#[.iface ty v]++#[])=callMethod (.iface ty v) name #[]:=rfl;rw [e];simp only [callMethod,iH,program,Sem.run,iI,hm];exact h
def Bb0 {s o:Es}(hs:s.Ok) (ho:o.Ok) (hb:s.bytes+o.bytes<2^60){K:Cells.T Cm->Wp}(hK:iF w (K (smT (s.add o)))) :
  Aa prog 127 #[smV s,smV o] (.one (.agg Cm)) K w:=by
 have h1:=hs.byt;have h2:=hs.brk;have h3:=ho.byt;have h4:=ho.brk
 refine j127 (a0:=smT s) (a1:=smT o) ?_
 unfold F127
 refine (St.start w).Ak λb1 w1 S1 e1=>S1.Ak λb2 w2 S2 e2=>S2.Ak λb3 w3 S3 e3=>?_
 refine S3.ld 2 rfl (x:=((s.atoms:Nat):Int)) rfl ?_
 refine Ac (λh=>?_) (λh=>?_)
 ·have h0:s.atoms=0:=by simp only [pX] at h;omega
  refine S3.lds 1 (smT o) rfl (S3.Ah 0 rfl rfl rfl rfl λw4 S4 u4=>S4.lds 0 (smT o) rfl ?_)
  have:=hK w4 S4.upd
  rwa [show s.add o=o by unfold Es.add;rw [iK h0]] at this
 have h0:¬s.atoms=0:=by simp only [rF] at h;omega
 refine S3.ld 1 rfl (x:=((o.atoms:Nat):Int)) rfl (Ac (λh=>?_) (λh=>?_))
 ·have h0':o.atoms=0:=by simp only [pX] at h;omega
  refine S3.lds 2 (smT s) rfl (S3.Ah 0 rfl rfl rfl rfl λw4 S4 u4=>S4.lds 0 (smT s) rfl ?_)
  have:=hK w4 S4.upd
  rwa [show s.add o=s by unfold Es.add;rw [iP h0,iK h0']] at this
 have h0':¬o.atoms=0:=by simp only [rF] at h;omega
 refine S3.ld 2 rfl (x:=((s.atoms:Nat):Int)) rfl (S3.ld 1 rfl (x:=((o.atoms:Nat):Int)) rfl (S3.ld 2 rfl (x:=((s.bytes:Nat):Int)) rfl (S3.ld 1 rfl (x:=((o.bytes:Nat):Int)) rfl
  (S3.ld 2 rfl (x:=((s.breaks:Nat):Int)) rfl (S3.ld 1 rfl (x:=((o.breaks:Nat):Int)) rfl (S3.ld 2 rfl (x:=s.lf) rfl (S3.ld 1 rfl (x:=o.cr) rfl ?_)))))))
 rw [wrap64 (a:=((s.atoms:Nat):Int)+((o.atoms:Nat):Int)) (by omega) (by omega),wrap64 (a:=((s.bytes:Nat):Int)+((o.bytes:Nat):Int)) (by omega) (by omega),wrap64 (a:=((s.breaks:Nat):Int)+((o.breaks:Nat):Int)) (by omega) (by omega)]
 refine S3.Iz rfl rfl rfl λb4 w4 S4 e4=>?_
 refine Ai (λ_ w'=>xQ w w' [(b4,.cells (Cells.vals Cm (smT (s.add o))).toArray 144 (0,0)),(b3,.cells #[(vI 0),(vI 0),(vI 0),(.bool false),(.bool false)] 144 (0,0))]) ?_ ?_
 ·refine Ai (λx w'=>x=(s.cr&&o.lf,())/\w4=w') (S4.ld 3 rfl (x:=s.cr) rfl (Ac (λh=>S4.ld 2 rfl (x:=o.lf) rfl ⟨by rw [h];rfl,rfl⟩) (λh=>⟨by rw [h];rfl,rfl⟩))) ?_
  rintro _ w' ⟨rfl,rfl⟩
  have lf:=hs.cr;have lf':=ho.lf
  refine Ac (λh=>?_) (λh=>?_)
  ·have h':(s.cr&&o.lf)=true:=h
   simp only [jA] at h'
   have:=lf h'.1;have:=lf' h'.2
   refine S4.ld 0 rfl (x:=((s.breaks:Nat):Int)+((o.breaks:Nat):Int)) rfl ?_
   rw [iE (by omega)]
   refine S4.stC 0 rfl (by simp) λw5 S5 u5=>?_
   have e:s.add o=⟨s.atoms+o.atoms,s.bytes+o.bytes,s.breaks+o.breaks-1,s.lf,o.cr⟩:=by unfold Es.add;rw [iP h0,iP h0',iK h]
   rw [e]
   have e2:((s.breaks:Nat):Int)+((o.breaks:Nat):Int)-1=((s.breaks+o.breaks-1:Nat):Int):=by omega
   rw [e2] at S5
   exact ⟨S5.upd,S5.old,λx hx=>S5.loc x (by
    rcases iL.1 hx with rfl|hx
    ·exact iM
    ·rw [uZ.1 hx];exact iO _ iM),by
    have:=S5.nd
    simp at this ⊢
    exact this.1.1⟩
  ·have e:s.add o=⟨s.atoms+o.atoms,s.bytes+o.bytes,s.breaks+o.breaks,s.lf,o.cr⟩:=by
    have h':¬(s.cr&&o.lf)=true:=λhh=>by
     have hf:(s.cr&&o.lf)=false:=h
     rw [hh] at hf;cases hf
    unfold Es.add;rw [iP h0,iP h0',iP h'];rfl
   rw [e]
   exact ⟨S4.upd,S4.old,λx hx=>S4.loc x (by
    rcases iL.1 hx with rfl|hx
    ·exact iM
    ·rw [uZ.1 hx];exact iO _ iM),by
    have:=S4.nd
    simp at this ⊢
    exact this.1.1⟩
 ·intro _ w5 S5
  exact S5.lds 0 (smT (s.add o)) rfl (S5.Ah 1 rfl rfl rfl rfl λw6 S6 u6=>S6.lds 1 (smT (s.add o)) rfl (hK w6 S6.upd))
def An3 {s o:Es}(hs:s.Ok) (ho:o.Ok) (hb:s.bytes+o.bytes<2^60){K:Cells.T Cm->Wp}(hK:iF w (K (smT (s.add o)))) :
  Cj prog (invoke (.fn (.method "Add") #[]) (#[.iface 144 (smV s)]++#[smV o])) (.one (.agg Cm)) K w :=
 Jm (f:=127) (v':=smV s) (λw=>by kernel_rfl) (by kernel_rfl) (Bb0 hs ho hb hK)
def Zu {x:Pc}{K:Cells.T Cm->Wp}(hK:iF w (K (smT x.sm))) :
  Cj prog (invoke (.fn (.method "Measure") #[]) (#[.iface 146 (pcV x)]++#[])) (.one (.agg Cm)) K w:=by
 refine Cl5 (f:=257) (v':=pcV x) (λw=>by kernel_rfl) (by kernel_rfl) ?_
 refine Db8 (a0:=pcT x) ?_
 unfold F257
 refine (St.start w).Ak λb1 w1 S1 e1=>S1.Ak λb2 w2 S2 e2=>?_
 refine Dp (S2.at_ 1 rfl) (x:=smT x.sm) (λi v hv=>?_) (S2.Ah 0 rfl rfl rfl rfl λw3 S3 u3=>S3.lds 0 (smT x.sm) rfl (hK w3 S3.upd))
 match i,hv with
 |0,hv=>exact hv
 |1,hv=>exact hv
 |2,hv=>exact hv
 |3,hv=>exact hv
 |4,hv=>exact hv
 |i+5,hv=>cases hv
def Cx7 {s:Es}{k:Nat}(hk:k<2){K:Int->Wp}(hK:iF w (K (if k=0 then (s.atoms:Int) else (s.breaks:Int)))) :
  Cj prog (invoke (.fn (.method "Key") #[]) (#[.iface 144 (smV s)]++#[vI k])) (.one (.one (.int .i64))) K w:=by
 refine Jm (f:=256) (v':=smV s) (λw=>by kernel_rfl) (by kernel_rfl) ?_
 refine Db9 (a0:=smT s) ?_
 unfold F256
 refine (St.start w).Ak λb1 w1 S1 e1=>?_
 have:=hK w1 e1
 match k,hk with
 |0,_=>exact Ac (λ_=>S1.ld 0 rfl (x:=((s.atoms:Nat):Int)) rfl this) (λh=>by cases h)
 |1,_=>exact Ac (λh=>by cases h) (λ_=>Ac (λ_=>S1.ld 0 rfl (x:=((s.breaks:Nat):Int)) rfl this) (λh=>by cases h))
end
section
variable {w w':World}{S:Nat->Prop}
def _root_.Go.Vx.St.Cp7 {M:Nat->Prop}{w0:World}{ls:List (Nat×Obj)}(S:St M w0 w ls) (i:Nat){b off n:Nat}{vs:Array Value}{K:World->Prop}{c:Array Value}{t:TypeId}(hi:ls[i]?=some (b,.cells c t (0,0))) (hn:vs.size=n) (h1:vs.toList.all Eb=true) (ho:off+n<=c.size)
  (h:∀w1,St M w0 w1 (ls.set i (b,.cells (setRow c off vs.toList) t (0,0)))->K w1):Go.Vx.Ah ⟨b,off,none⟩ (.agg vs) n K w :=
 Ba (S.at_ i hi) hn h1 ho λw1 u hb _=>h w1 (Ao8 S hi u hb)
def Qp (l r:xM) (x:Pc) (n h:Nat) (s:Es):Array Value :=
 #[.pointer l,.pointer r,.slice x.bytes.a x.bytes.len x.bytes.cap,vI x.tag,vI (x.sm.atoms:Int),vI (x.sm.bytes:Int),vI (x.sm.breaks:Int),.bool x.sm.lf,.bool x.sm.cr,
  vI n,vI h,vI (s.atoms:Int),vI (s.bytes:Int),vI (s.breaks:Int),.bool s.lf,.bool s.cr]
def Trx.Tr.In (w:World):Tr->Prop
 |.nil=>True
 |.node b l x r=>w.heap[b]?=some (.cells (Qp l.ptr r.ptr x (Tr.node b l x r).size (Tr.node b l x r).Nq (tot (Tr.node b l x r).items)) 186 (0,0))/\l.In w/\r.In w
def Trx.Tr.In.ext:∀{t:Tr},t.In w->Ext w w'->t.In w'
 |.nil,_,_=>trivial
 |.node _ _ _ _,h,e=>⟨e.ext_get h.1,h.2.1.ext e,h.2.2.ext e⟩
def Trx.Tr.In.ty:∀{t:Tr},t.In w->Upd S w w'->Et w S 186->t.In w'
 |.nil,_,_,_=>trivial
 |.node _ _ _ _,h,u,hS=>⟨u.get h.1 λhk=>hS _ hk _ _ h.1,h.2.1.ty u hS,h.2.2.ty u hS⟩
def Cl3 {b:Nat}{l r:Tr}{x:Pc}(h:(Tr.node b l x r).In w){j:Nat}{v:Value}(hv:(Qp l.ptr r.ptr x (Tr.node b l x r).size (Tr.node b l x r).Nq (tot (Tr.node b l x r).items))[j]?=some v):w.cell? ((at0 b).add j)=some v:=by rw [addr_add,kY];exact cell_of h.1 hv
def Ol {b:Nat}{l r:Tr}{x:Pc}(h:(Tr.node b l x r).In w){K:Addr->xM->Wp}(hK:K (at0 b) l.ptr w):nn (Tr.node b l x r).ptr (λp=>ld .ptr p (K p)) w :=
 Ad (Af h.1 (x:=l.ptr) rfl hK)
def Ae7 {b:Nat}{l r:Tr}{x:Pc}(h:(Tr.node b l x r).In w){K:Addr->xM->Wp}(hK:K (at0 b) r.ptr w):nn (Tr.node b l x r).ptr (λp=>ld .ptr (p.add 1) (K p)) w :=
 Ad (by rw [addr_add];exact Af h.1 (x:=r.ptr) rfl hK)
def Cm2 {b:Nat}{l r:Tr}{x:Pc}(h:(Tr.node b l x r).In w):Ez w ((at0 b).add 2) 0 (Cells.vals c146 (pcT x)):=by
 rw [addr_add]
 refine Gh _ 0 λj v hv=>cell_of h.1 ?_
 match j,hv with
 |0,hv=>exact hv
 |1,hv=>exact hv
 |2,hv=>exact hv
 |3,hv=>exact hv
 |4,hv=>exact hv
 |5,hv=>exact hv
 |6,hv=>exact hv
 |j+7,hv=>cases hv
def Cr0 {b:Nat}{l r:Tr}{x:Pc}(h:(Tr.node b l x r).In w):Ez w ((at0 b).add 11) 0 (Cells.vals Cm (smT (tot (Tr.node b l x r).items))):=by
 rw [addr_add]
 refine Gh _ 0 λj v hv=>cell_of h.1 ?_
 match j,hv with
 |0,hv=>exact hv
 |1,hv=>exact hv
 |2,hv=>exact hv
 |3,hv=>exact hv
 |4,hv=>exact hv
 |j+5,hv=>cases hv
def Aq0 {b:Nat}{l r:Tr}{x:Pc}(h:(Tr.node b l x r).In w){K:Addr->Cells.T c146->Wp}(hK:K (at0 b) (pcT x) w):nn (Tr.node b l x r).ptr (λp=>lds c146 (p.add 2) (K p)) w :=
 Ad ⟨pcT x,Cm2 h,hK⟩
def Ae6 {b:Nat}{l r:Tr}{x:Pc}(h:(Tr.node b l x r).In w){K:Addr->Cells.T Cm->Wp}(hK:K (at0 b) (smT (tot (Tr.node b l x r).items)) w):nn (Tr.node b l x r).ptr (λp=>lds Cm (p.add 11) (K p)) w :=
 Ad ⟨_,Cr0 h,hK⟩
def Ob {t:Tr}(h:t.In w){K:Int->Wp}(hK:K (t.size:Int) w):Aa prog 100 #[.pointer t.ptr] rI K w:=by
 refine j100 ?_;unfold F100;cases t with
 |nil=>exact Ac (λ_=>hK) (λh=>by cases h)
 |node b l x r=>exact Ac (λh=>by cases h) (λ_=>Ad (by rw [addr_add];exact Af h.1 (x:=((Tr.node b l x r).size:Int)) rfl hK))
def Aj4 {t:Tr}(h:t.In w){K:Int->Wp}(hK:K (t.Nq:Int) w):Aa prog 198 #[.pointer t.ptr] rI K w:=by
 refine De5 ?_;unfold F198;cases t with
 |nil=>exact Ac (λ_=>hK) (λh=>by cases h)
 |node b l x r=>exact Ac (λh=>by cases h) (λ_=>Ad (by rw [addr_add];exact Af h.1 (x:=((Tr.node b l x r).Nq:Int)) rfl hK))
structure Fine (l:List Pc):Prop where
 ok:Em l
 few:l.length<2^60
 small:(tot l).bytes<2^60
def Eu {l m:List Pc}(h:Em l) (h':Em m):(tot (l++m)).bytes=(tot l).bytes+(tot m).bytes:=by rw [Il h h'];exact (Es.Qj _ _ (Iy h) (Iy h')).1
def Fine.left {l m:List Pc}(h:Fine (l++m)):Fine l:=⟨h.ok.left,by have:=h.few;rw [oC] at this;omega,by
 have:=h.small;rw [Eu h.ok.left h.ok.right] at this;omega⟩
def Fine.right {l m:List Pc}(h:Fine (l++m)):Fine m:=⟨h.ok.right,by have:=h.few;rw [oC] at this;omega,by
 have:=h.small;rw [Eu h.ok.left h.ok.right] at this;omega⟩
def Ch8 (l r:xM) (x:Pc) (n h:Nat) (s s':Es):setRow (Qp l r x n h s) 11 (Cells.vals Cm (smT s')).toArray.toList=Qp l r x n h s':=rfl
def As2 {M:Nat->Prop}{w0:World}{ls:List (Nat×Obj)}{b:Nat}{l r:xM}{x:Pc}{n h:Nat}{s s':Es}{K:World->Prop}(S:St M w0 w ((b,.cells (Qp l r x n h s) 186 (0,0))::ls))
  (hK:∀w1,St M w0 w1 ((b,.cells (Qp l r x n h s') 186 (0,0))::ls)->K w1):Ah ((at0 b).add 11) (.agg (Cells.vals Cm (smT s')).toArray) 5 K w:=by rw [addr_add];refine S.Cp7 0 (c:=Qp l r x n h s) rfl rfl rfl (by show 0+11+5<=16;decide) λw1 S1=>hK w1 ?_;rw [kY,Ch8] at S1;exact S1
def Br0 {l r:Tr}{x:Pc}(hl:l.In w) (hr:r.In w) (hf:Fine (l.items++x::r.items)){K:xM->Wp}(hK:∀b w',(Tr.node b l x r).In w'->Ext w w'->K (some (at0 b)) w') :
  Aa prog 158 #[.pointer l.ptr,pcV x,.pointer r.ptr] rP K w:=by
 refine Dg6 (a1:=pcT x) ?_;unfold F158;have okl:=hf.ok.left;have okx:=hf.ok.right.head;have okr:=hf.ok.right.tail;have sl:=Hw l;have sr:=Hw r;have tl:=Aa0 l;have tr:=Aa0 r;have few:=hf.few;rw [oC,kE] at few;have small:=hf.small;have ex:x::r.items=[x]++r.items:=rfl;rw [ex,Eu okl (Em.append (Em.one okx) okr),Eu (Em.one okx) okr,Vu okx] at small;refine (St.start w).Ak λb1 w1 S1 e1=>S1.drew λw2 S2 e2 _=>S2.lds 0 (pcT x) rfl ?_;have e12:=e1.trans e2;have hl2:=hl.ext e12;have hr2:=hr.ext e12;refine Ob hl2 (S2.keeps 0 rfl (Ob hr2 (S2.keeps 0 rfl (Aj4 hl2 (S2.keeps 0 rfl (Aj4 hr2 (S2.keeps 0 rfl ?_)))))));have es:W64 (W64 ((l.size:Int)+1)+(r.size:Int))=(((l.size+1+r.size:Nat)):Int):=by
  rw [wrap64 (a:=(l.size:Int)+1) (by omega) (by omega),iE (by omega)];omega
 have et:W64 ((if (r.Nq:Int)>(l.Nq:Int) then (r.Nq:Int) else (l.Nq:Int))+1)=((max l.Nq r.Nq+1:Nat):Int):=by
  have e:(if (r.Nq:Int)>(l.Nq:Int) then (r.Nq:Int) else (l.Nq:Int))=((max l.Nq r.Nq:Nat):Int):=by split<;>omega
  rw [e,iE (by omega)];omega
 rw [es,et];refine S2.Ak λb7 w3 S3 e3=>S3.lds 1 (pcT x) rfl (Zu λw4 e4=>Ad ?_);have S4:=S3.ext e4;have e14:=(e12.trans e3).trans e4;have S4':xQ w w4 [(b7,.cells (Qp l.ptr r.ptr x (l.size+1+r.size) (max l.Nq r.Nq+1) .zero) 186 (0,0)),(b1,.cells (Cells.vals c146 (pcT x)).toArray 146 (0,0))]:=S4;refine As2 (s':=x.sm) S4' λw5 S5=>?_;have J0:∀(w':World) (s:Es),xQ w w' [(b7,.cells (Qp l.ptr r.ptr x (l.size+1+r.size) (max l.Nq r.Nq+1) s) 186 (0,0)),(b1,.cells (Cells.vals c146 (pcT x)).toArray 146 (0,0))] ->
   Ez w' ((at0 b7).add 11) 0 (Cells.vals Cm (smT s)):=by
  intro w' s S'
  rw [addr_add]
  refine Gh _ 0 λj v hv=>cell_of (S'.at_ 0 rfl) ?_
  match j,hv with
  |0,hv=>exact hv
  |1,hv=>exact hv
  |2,hv=>exact hv
  |3,hv=>exact hv
  |4,hv=>exact hv
  |j+5,hv=>cases hv
 have okt:=Iy okl;have okt':=Iy okr;refine Ai (λ_ w'=>xQ w w' [(b7,.cells (Qp l.ptr r.ptr x (l.size+1+r.size) (max l.Nq r.Nq+1) ((tot l.items).add x.sm)) 186 (0,0)),(b1,.cells (Cells.vals c146 (pcT x)).toArray 146 (0,0))]) ?_ ?_
 ·cases l with
  |nil=>exact Ac (λh=>by cases h) (λ_=>S5)
  |node bl ll xl rl=>refine Ac (λ_=>S5.drew λw6 S6 e6 _=>?_) (λh=>by cases h);refine Ae6 (hl.ext S6.upd) (Ad ⟨_,J0 w6 x.sm S6,?_⟩);exact An3 okt okx (by omega) λw7 e7=>Ad (As2 (S6.ext e7) λw8 S8=>S8)
 intro _ w6 S6;have okm:=Es.I7 okt okx;have bm:=(Es.Qj _ _ okt okx).1;have fin:(tot (l.items++x::r.items))=((tot l.items).add x.sm).add (tot r.items):=by
  rw [ex,Il okl (Em.append (Em.one okx) okr),Il (Em.one okx) okr,Vu okx,Es.add_assoc okt okx okt']
 refine Ai (λ_ w'=>xQ w w' [(b7,.cells (Qp l.ptr r.ptr x (l.size+1+r.size) (max l.Nq r.Nq+1) (((tot l.items).add x.sm).add (tot r.items))) 186 (0,0)),(b1,.cells (Cells.vals c146 (pcT x)).toArray 146 (0,0))]) ?_ ?_
 ·cases r with
  |nil=>have e:((tot l.items).add x.sm).add (tot (Tr.nil).items)=(tot l.items).add x.sm:=Es.add_zero okm;rw [e];exact Ac (λh=>by cases h) (λ_=>S6)
  |node br lr xr rr=>refine Ac (λ_=>S6.drew λw7 S7 e7 _=>?_) (λh=>by cases h);refine Ad ⟨_,J0 w7 _ S7,Ae6 (hr.ext S7.upd) ?_⟩;exact An3 okm okt' (by omega) λw8 e8=>Ad (As2 (S7.ext e8) λw9 S9=>S9)
 intro _ w7 S7;refine hK b7 w7 ⟨?_,hl.ext S7.upd,hr.ext S7.upd⟩ S7.upd;have:=S7.at_ 0 rfl;rw [←fin] at this;exact this
end
section
variable {w w':World}{S:Nat->Prop}
abbrev Ah4 (w:World) (l:List Pc) (K:xM->Wp):Prop:=∀(t:Tr) (w':World),t.In w'->t.items=l->Ext w w'->K t.ptr w'
def Ah4.ext {l:List Pc}{K:xM->Wp}(h:Ah4 w l K) (e:Ext w w'):Ah4 w' l K:=λt w2 h1 h2 e2=>h t w2 h1 h2 (e.trans e2)
def Fine.mid {a l b:List Pc}(h:Fine (a++(l++b))):Fine l:=h.right.left
def Be6 {l r:Tr}{x:Pc}{L:List Pc}(hl:l.In w) (hr:r.In w) (hf:Fine L) (hL:l.items++x::r.items=L){K:xM->Wp}(hK:Ah4 w L K) :
  Aa prog 158 #[.pointer l.ptr,pcV x,.pointer r.ptr] rP K w :=
 Br0 hl hr (hL▸hf) λb w' h1 e1=>hK _ _ h1 hL e1
end
section
variable {w w':World}{S:Nat->Prop}
def Am3 (cs:List Cell):∀(xs:List (Cells.T cs)) (n:Nat),(flat cs xs).drop (n*cs.length)=flat cs (xs.drop n)
 |xs,0=>by simp
 |[],n+1=>by simp [flat]
 |x::xs,n+1=>by
  have e:flat cs (x::xs)=Cells.vals cs x++flat cs xs:=rfl
  rw [e,mX,Nat.one_mul,vJ,←qH,←Gn cs x,List.drop_left,qG,Gn cs x]
  exact Am3 cs xs n
def Am2 (cs:List Cell):∀(xs:List (Cells.T cs)) (n:Nat),(flat cs xs).take (n*cs.length)=flat cs (xs.take n)
 |xs,0=>by simp [flat]
 |[],n+1=>by simp [flat]
 |x::xs,n+1=>by
  have e:flat cs (x::xs)=Cells.vals cs x++flat cs xs:=rfl
  have e2:flat cs ((x::xs).take (n+1))=Cells.vals cs x++flat cs (xs.take n):=rfl
  rw [e,e2,mX,Nat.one_mul,vJ,←Gn cs x,vK,Gn cs x,Am2 cs xs n]
abbrev Ps (w:World) (s:Sl) (l:List Pc):Prop:=Dx w s 146 7 (flat c146 (l.map pcT))
def Ps.len {s:Sl}{l:List Pc}(h:Ps w s l):l.length=s.len:=by
 have:=Dx.Py (cs:=c146) h (by decide)
 rwa [nO] at this
def Bx5 {s:Sl}{l:List Pc}{a b m:Int}{K:Sl->Wp}(hs:Ps w s l) (h0:0<=a) (h1:a<=b) (h2:b<=s.len) (h3:b<=m) (h4:m<=s.cap)
  (hK:∀s',Ps w s' ((l.drop a.toNat).take (b.toNat-a.toNat))->K s' w):slc s.a a b m s.cap 7 K w :=
 Nr hs h0 h1 h2 h3 h4 λs' hs' _ _ _=>hK s' (by
  have e1:=Am3 c146 (l.map pcT) a.toNat
  have e2:=Am2 c146 ((l.map pcT).drop a.toNat) (b.toNat-a.toNat)
  rw [show c146.length=7 from rfl] at e1 e2
  rw [e1,e2,←vM,←tK] at hs'
  exact hs')
def Cm0 {cs:List Cell}{s:Sl}{t:TypeId}{xs:List (Cells.T cs)}{n:Int}{K:Addr->Cells.T cs->Wp}(h:Dx w s t cs.length (flat cs xs)) (hc:0<cs.length) (h0:0<=n){x:Cells.T cs}(hx:xs[n.toNat]?=some x)
  (hK:∀p,(∀w',Ext w w'->Ez w' (p.add (scaled (Int.toNat n) cs.length)) 0 (Cells.vals cs x))->K p x w) :
  ix s.a s.len n (λp=>lds cs (p.add (scaled (Int.toNat n) cs.length)) (K p)) w:=by
 have hlt:=(lY.1 hx).1;have hl:=h.Py hc;have key:∀{w':World},Dx w' s t cs.length (flat cs xs)->∀b off,s.a=some ⟨b,off,none⟩->Ez w' ((⟨b,off,none⟩:Addr).add (scaled (Int.toNat n) cs.length)) 0 (Cells.vals cs x):=by
  intro w' h' b off ha
  rcases h'.at_ with ⟨hn,_⟩|⟨b',off',c,fr,ha',hb,_,hv⟩
  ·rw [hn] at ha;cases ha
  ·rw [ha'] at ha;cases ha
   rw [addr_add]
   refine Gh _ 0 λj v hj=>?_
   have hjl:j<cs.length:=by
    have:=(lY.1 hj).1
    rwa [Gn] at this
   have h2:=hv (n.toNat*cs.length+j) v (by rw [flat_get cs xs _ j x hx hjl];exact hj)
   refine cell_of hb ?_
   rw [Fj,show off+n.toNat*cs.length+(0+j)=off+(n.toNat*cs.length+j) by omega]
   exact h2
 refine h.ix h0 (by omega) hc λb off ha hv=>⟨x,key h b off ha,hK _ λw' e=>key (h.ext e) b off ha⟩
def Bh7:∀(n:Nat) (l:List Pc) (s:Sl) (w:World),l.length<=n->Ps w s l->Fine l->∀{K:xM->Wp},Ah4 w l K->Aa prog 129 #[s.v] rP K w:=by
 intro n;induction n with
 |zero=>intro l s w hn hs hf K hK;obtain rfl:l=[]:=jH.1 (by omega);have hl:=hs.len;refine j129 ?_;unfold F129;exact Ac (λ_=>hK .nil w trivial rfl (Ext.refl w)) (λh=>by simp at hl;simp [←hl] at h)
 | succ n ih =>
  intro l s w hn hs hf K hK;have hl:=hs.len;have hcap:=hs.le;have few:=hf.few;refine j129 ?_;unfold F129;refine Ac (λh=>?_) (λh=>Ea (by decide) (Az λw1 e1 _=>?_));{simp only [pX] at h;obtain rfl:l=[]:=jH.1 (by omega);exact hK .nil w trivial rfl (Ext.refl w)};simp only [rF] at h;have hs1:Ps w1 s l:=hs.ext e1;obtain ⟨k,hk⟩:∃k,k=l.length/2:=⟨_,rfl⟩;have ek:W64 (Int.tdiv ((s.len:Nat):Int) 2)=(k:Int):=by
   rw [vN (by omega),iE (by omega)];omega
  have ek1:W64 ((k:Int)+1)=((k+1:Nat):Int):=iD (by omega);rw [ek,ek1];have hkl:k<l.length:=(by omega);refine Bx5 hs1 (by decide) (by omega) (by omega) (by omega) (by omega) λs1 h1=>?_;refine Cm0 (cs:=c146) (xs:=l.map pcT) hs1 (by decide) (by omega) (x:=pcT l[k]) (by rw [kH,nP,oP hkl];rfl) λp hp=>?_;refine Bx5 hs1 (by omega) (by omega) (by omega) (by omega) (by omega) λs2 h2=>?_;have t1:(l.drop (0:Int).toNat).take ((k:Int).toNat-(0:Int).toNat)=l.take k:=(by simp);have t2:(l.drop ((k+1:Nat):Int).toNat).take (((s.len:Nat):Int).toNat-((k+1:Nat):Int).toNat)=l.drop (k+1):=by
   rw [kH,kH]
   have:s.len-(k+1)=(l.drop (k+1)).length:=by rw [nH];omega
   rw [this,rH]
  rw [t1] at h1;rw [t2] at h2;have eq:l.take k++l[k]::l.drop (k+1)=l:=(by rw [←tV hkl,vG]);have hf':=eq.symm▸hf;refine ih (l.take k) s1 w1 (by rw [nG];omega) h1 hf'.left λa w2 ha hai e2=>Bc (hp w2 e2) ?_;refine ih (l.drop (k+1)) s2 w2 (by rw [nH];omega) (Dx.ext h2 e2) (Fine.right (l:=[l[k]]) hf'.right) λb w3 hb hbi e3=>Bc (hp w3 (e2.trans e3)) ?_;exact Be6 (ha.ext e3) hb hf (by rw [hai,hbi,eq]) (hK.ext ((e1.trans e2).trans e3))
abbrev trV (t:Tr):Value:=.agg (Cells.vals c139 (t.ptr,())).toArray
def Au0 {l:List Pc}{s:Sl}(hs:Ps w s l) (hf:Fine l){K:Cells.T c139->Wp}(hK:∀(t:Tr) (w':World),t.In w'->t.items=l->Ext w w'->K (t.ptr,()) w') :
  Aa prog 86 #[s.v] (.one (.agg c139)) K w:=by refine j86 ?_;unfold F86;refine (St.start w).Ak λb1 w1 S1 e1=>Bh7 _ l s w1 (mJ _) (Dx.ext hs e1) hf λt w2 ht hti e2=>?_;refine (S1.ext e2).Ah 0 rfl rfl rfl rfl λw3 S3 u3=>S3.lds 0 (t.ptr,()) rfl (hK t w3 (ht.ty u3 ?_) hti S3.upd);rintro k rfl c fr hc;have:=(S1.ext e2).at_ 0 rfl;rw [hc] at this;cases this
def Bb8 {t:Tr}(ht:t.In w){K:Int->Wp}(hK:iF w (K (t.items.length:Int))):Aa prog 125 #[trV t] rI K w:=by refine j125 (a0:=(t.ptr,())) ?_;unfold F125;refine (St.start w).Ak λb1 w1 S1 e1=>S1.ld 0 rfl (x:=t.ptr) rfl (Ob (ht.ext e1) ?_);rw [←Hw];exact hK w1 e1
def Aj1 {t:Tr}(ht:t.In w){K:Cells.T Cm->Wp}(hK:iF w (K (smT (tot t.items)))):Aa prog 83 #[trV t] (.one (.agg Cm)) K w:=by
 refine j83 (a0:=(t.ptr,())) ?_;unfold F83;refine (St.start w).Ak λb1 w1 S1 e1=>S1.Ak λb2 w2 S2 e2=>S2.ld 1 rfl (x:=t.ptr) rfl ?_;cases t with
 |nil=>refine Ac (λ_=>S2.Ak λb3 w3 S3 e3=>S3.lds 0 (smT .zero) rfl (S3.Ah 1 rfl rfl rfl rfl λw4 S4 u4=>S4.lds 1 (smT .zero) rfl (hK w4 S4.upd))) (λh=>by cases h)
 |node b l x r=>refine Ac (λh=>by cases h) (λ_=>S2.ld 1 rfl (x:=(Tr.node b l x r).ptr) rfl (Ae6 (ht.ext S2.upd) ?_));exact S2.Ah 0 rfl rfl rfl rfl λw3 S3 u3=>S3.lds 0 (smT (tot (Tr.node b l x r).items)) rfl (hK w3 S3.upd)
end
section
variable {w w':World}{S:Nat->Prop}
def Cq8 (w:World):xM->Nat
 |none=>0
 |some a=>match w.cell? (a.add 9) with
  |some (.int _ n)=>n.toNat
  |_=>0
def Rf {t:Tr}(h:t.In w):Cq8 w t.ptr=t.size:=by
 cases t with
 |nil=>rfl
 |node b l x r=>have:=Cl3 h (j:=9) (v:=vI ((Tr.node b l x r).size:Int)) rfl;show (match w.cell? ((at0 b).add 9) with|some (.int _ n)=>n.toNat|_=>0)=_;rw [this];exact kH _
def Fine.part {a l b:List Pc}{L:List Pc}(h:Fine L) (e:L=a++(l++b)):Fine l:=(e▸h).mid
def Bo5 {t:Tr}{n:Nat}(ht:t.In w) (hf:Fine t.items) (hn:n<2^62){K:Cells.T Cm->Wp}(hK:iF w (K (smT (tot (t.items.take n))))) :
  Aa prog 152 #[trV t,vI n] (.one (.agg Cm)) K w:=by
 refine Dg8 (a0:=(t.ptr,())) ?_;unfold F152;have few:=hf.few;refine (St.start w).Ak λb1 w1 S1 e1=>S1.Ak λb2 w2 S2 e2=>S2.Ak λb3 w3 S3 e3=>S3.lds 2 (t.ptr,()) rfl (Bb8 (ht.ext S3.upd) λw4 e4=>?_);have S4:=S3.ext e4;have e0:(if ((t.items.length:Nat):Int)<(n:Int) then ((t.items.length:Nat):Int) else (n:Int))=((min n t.items.length:Nat):Int):=(by split<;>omega);rw [e0];have tk:t.items.take n=t.items.take (min n t.items.length):=vO.2 (by omega);rw [tk] at hK;generalize hm:min n t.items.length=m at *;have hml:m<=t.items.length:=(by omega);let z2:Nat×Obj:=(b2,.cells #[(vI (0:Int)),(vI (0:Int)),(vI (0:Int)),(.bool false),(.bool false)] 144 (0,0));let z1:Nat×Obj:=(b1,.cells (Cells.vals c139 (t.ptr,())).toArray 139 (0,0));refine Ai (λ_ w'=>xQ w w' [(b3,.cells (Cells.vals Cm (smT (tot (t.items.take m)))).toArray 144 (0,0)),z2,z1]) ?_ ?_
 ·refine S4.ld 2 rfl (x:=t.ptr) rfl ?_;refine Bo (λx w'=>∃(i:Nat) (t':Tr) (a:List Pc) (r:List Pc),x=((i:Int),t'.ptr,())/\t'.In w/\t.items=a++(t'.items++r)/\i<=t'.items.length/\t.items.take m=a++t'.items.take i /\
   xQ w w' [(b3,.cells (Cells.vals Cm (smT (tot a))).toArray 144 (0,0)),z2,z1]) (λx w'=>Cq8 w' x.2.1) ⟨m,t,[],[],rfl,ht,by simp,hml,by simp,S4⟩ ?_
  rintro _ w5 ⟨i,t',a,r,rfl,htw,eq,hi,etk,S5⟩;have ht':=htw.ext S5.upd;have hfa:=(eq▸hf.ok).left;have hft:Fine t'.items:=Fine.part hf eq;have small:=hf.small;rw [eq,Eu hfa (eq▸hf.ok).right,Eu (eq▸hf.ok).right.left (eq▸hf.ok).right.right] at small;refine Ai (λx w'=>x=(decide (0<i),())/\w5=w') ?_ ?_
  ·cases t' with
   |nil=>have:i=0:=(by simpa [Tr.items] using hi);exact Ac (λh=>by cases h) (λ_=>⟨by rw [qO (by omega)],rfl⟩)
   |node b l x rr=>refine Ac (λ_=>⟨Di ?_,rfl⟩) (λh=>by cases h);simp only [pF,sH];omega
  rintro _ w' ⟨rfl,rfl⟩;refine Ac (λh=>?_) (λh=>?_)
  ·simp only [pF] at h;obtain ⟨b,l,x,rr,rfl⟩:∃b l x rr,t'=.node b l x rr:=by
    cases t' with
    |nil=>simp [Tr.items] at hi;omega
    |node b l x rr=>exact ⟨b,l,x,rr,rfl⟩
   have sl:=Hw l;have srr:=Hw rr;have hti:(Tr.node b l x rr).items=l.items++x::rr.items:=rfl;(have hlen:(Tr.node b l x rr).items.length=l.items.length+1+rr.items.length:=by rw [hti];simp;omega);have few':=hft.few;have okl:Em l.items:=hft.ok.left;have okx:x.sm.Ok:=hft.ok.right.head;have okr:Em rr.items:=hft.ok.right.tail;have sm2:(tot (Tr.node b l x rr).items).bytes=(tot l.items).bytes+(x.sm.bytes+(tot rr.items).bytes):=by
    rw [hti,Eu okl (Em.cons okx okr)]
    have ex:x::rr.items=[x]++rr.items:=rfl
    rw [ex,Eu (Em.one okx) okr,Vu okx]
   have okta:=Iy hfa;refine Ol ht' (Ob ht'.2.1 (Ac (λh2=>?_) (λh2=>?_)));{simp only [pF] at h2;refine Ol ht' ⟨⟨i,l,a,x::rr.items++r,rfl,htw.2.1,by rw [eq,hti];simp,by omega,?_,S5⟩,?_⟩;{rw [etk,hti,tZ (by omega)]};{dsimp only;rw [Rf ht',Rf ht'.2.1];show l.size<l.size+1+rr.size;omega}}
   ·simp only [oK] at h2;refine Ai (λ_ w'=>xQ w w' [(b3,.cells (Cells.vals Cm (smT ((tot a).add (tot l.items)))).toArray 144 (0,0)),z2,z1]) ?_ ?_
    ·refine Ol ht' ?_;cases l with
     |nil=>have e:(tot a).add (tot (Tr.nil).items)=tot a:=Es.add_zero okta;rw [e];exact Ac (λh=>by cases h) (λ_=>S5)
     |node bl ll lx lr=>refine Ac (λ_=>S5.drew λw6 S6 e6 _=>S6.lds 0 (smT (tot a)) rfl ?_) (λh=>by cases h);have ht6:=ht'.ext e6;refine Ol ht6 (Ae6 ht6.2.1 (An3 okta (Iy okl) (by omega) λw7 e7=>?_));exact (S6.ext e7).Ah 0 rfl rfl rfl rfl λw8 S8 u8=>S8
    ·intro _ w6 S6;have okm:=Es.I7 okta (Iy okl);have bm:=(Es.Qj _ _ okta (Iy okl)).1;refine S6.drew λw7 S7 e7 _=>S7.lds 0 (smT _) rfl (Aq0 (htw.ext S7.upd) (Zu λw8 e8=>?_));have S8:=S7.ext e8;refine S8.keeps 0 rfl (An3 okm okx (by omega) λw9 e9=>(S8.ext e9).Ah 0 rfl rfl rfl rfl λw10 S10 u10=>Ae7 (htw.ext S10.upd) ?_);have ew:W64 (W64 ((i:Int)-(l.size:Int))-1)=((i-l.items.length-1:Nat):Int):=by
      rw [wrap64 (a:=(i:Int)-(l.size:Int)) (by omega) (by omega),iE (by omega)];omega
     rw [ew];have es:((tot a).add (tot l.items)).add x.sm=tot (a++(l.items++[x])):=by
      rw [Il hfa (Em.append okl (Em.one okx)),Il okl (Em.one okx),Vu okx,Es.add_assoc okta (Iy okl) okx]
     rw [es] at S10;refine ⟨⟨i-l.items.length-1,rr,a++(l.items++[x]),r,rfl,htw.2.2,by rw [eq,hti];simp,by omega,?_,S10⟩,?_⟩;{rw [etk,hti];obtain ⟨j,hj⟩:∃j,i=l.items.length+(1+j):=⟨i-l.items.length-1,by omega⟩;have ej:i-l.items.length-1=j:=(by omega);rw [ej,hj,vK,vJ 1 j,qC];simp};{dsimp only;rw [Rf (htw.ext S10.upd).2.2,Rf ht'];show rr.size<l.size+1+rr.size;omega}
  {simp only [oK] at h;have:i=0:=(by omega);subst this;rw [etk];simpa using S5}
 {intro _ w5 S5;exact S5.lds 0 (smT _) rfl (S5.Ah 1 rfl rfl rfl rfl λw6 S6 u6=>S6.lds 1 (smT _) rfl (hK w6 S6.upd))}
def keyOf (k:Nat) (s:Es):Nat:=if k=0 then s.atoms else s.breaks
def X9 (k n:Nat) (l:List Pc):Nat:=((List.range (l.length+1)).find? λi=>decide (n<=keyOf k (tot (l.take i)))).getD (l.length+1)
def Cc5 {s:Es}{k:Nat}(hk:k<2){K:Int->Wp}(hK:iF w (K ((keyOf k s:Nat):Int))) :
  Cj prog (invoke (.fn (.method "Key") #[]) (#[.iface 144 (smV s)]++#[vI k])) (.one (.one (.int .i64))) K w :=
 Cx7 hk λw' e=>by have:=hK w' e;unfold keyOf at this;split at this;{rename_i h;rw [iK h];exact this};{rename_i h;rw [iP h];exact this}
def Bf4 {k:Nat}{a b:Es}(ha:a.Ok) (hb:b.Ok):keyOf k a<=keyOf k (a.add b):=by unfold keyOf Es.add;have h1:=ha.nil;have h2:=hb.lf;split;{split;{rename_i h;omega};{split;{exact mJ _};{show a.atoms<=a.atoms+b.atoms;omega}}};{split;{rename_i h;rw [h1 h];exact qI _};{split;{exact mJ _};{show a.breaks<=a.breaks+b.breaks-_;split;{rename_i h;simp only [jA] at h;have:=h2 h.2;omega};{omega}}}}
def Ay4 {k n:Nat}{l:List Pc}{j:Nat}(hj:j<=l.length) (h1:n<=keyOf k (tot (l.take j))) (h0:∀i,i<j->keyOf k (tot (l.take i))<n):X9 k n l=j:=by
 unfold X9;have:(List.range (l.length+1)).find? (λi=>decide (n<=keyOf k (tot (l.take i))))=some j:=by
  rw [List.find?_range_eq_some]
  refine ⟨by simpa using h1,by simp;omega,λi hi=>?_⟩
  have:=h0 i hi
  simp;omega
 rw [this];rfl
def Bg4 {k n:Nat}{l:List Pc}(h0:∀i,i<=l.length->keyOf k (tot (l.take i))<n):X9 k n l=l.length+1:=by
 unfold X9;have:(List.range (l.length+1)).find? (λi=>decide (n<=keyOf k (tot (l.take i))))=none:=by
  rw [List.find?_range_eq_none]
  intro i hi
  have:=h0 i (by omega)
  simp;omega
 rw [this];rfl
end
section
variable {w w':World}{S:Nat->Prop}
def Jy {t:Tr} {k n:Nat} (hk:k<2) (hn:0<n) (ht:t.In w) (hf:Fine t.items) {K:Int->Wp} (hK:iF w (K ((X9 k n t.items:Nat):Int))) :
  Aa prog 153 #[trV t,vI k,vI n] rI K w:=by
 refine Dg7 (a0:=(t.ptr,())) ?_;unfold F153;have few:=hf.few;refine (St.start w).Ak λb1 w1 S1 e1=>Ac (λh=>?_) (λ_=>S1.Ak λb2 w2 S2 e2=>?_);{simp only [pF] at h;omega};let z1:Nat×Obj:=(b1,.cells (Cells.vals c139 (t.ptr,())).toArray 139 (0,0));refine Ai (λx w'=>x=((t.items.length:Int),())/\X9 k n t.items=t.items.length+1/\Ext w w') ?_ ?_
 ·refine S2.ld 1 rfl (x:=t.ptr) rfl ?_;refine Bo (λx w'=>∃(t':Tr) (a r:List Pc),x=((a.length:Int),t'.ptr,())/\t'.In w/\t.items=a++(t'.items++r)/\(∀i,i<=a.length->keyOf k (tot (t.items.take i))<n)/\(r=[]\/n<=keyOf k (tot (a++t'.items))) /\
   xQ w w' [(b2,.cells (Cells.vals Cm (smT (tot a))).toArray 144 (0,0)),z1]) (λx w'=>Cq8 w' x.2.1) ⟨t,[],[],rfl,ht,by simp,λi hi=>?_,.inl rfl,S2⟩ ?_
  {have:i=0:=(by simpa using hi);subst this;unfold keyOf;split<;>exact hn};rintro _ w5 ⟨t',a,r,rfl,htw,eq,hlow,hr,S5⟩;have ht':=htw.ext S5.upd;have hfa:=(eq▸hf.ok).left;have okta:=Iy hfa;cases t' with
  | nil =>
   refine Ac (λh=>by cases h) (λ_=>?_);have hr':r=[]:=by
    rcases hr with h|h
    ·exact h
    ·have:=hlow a.length (mJ _)
     rw [eq,List.take_left] at this
     simp only [Tr.items,vP] at h
     omega
   subst hr';(have el:t.items=a:=by rw [eq];simp [Tr.items]);refine ⟨by rw [el],?_,S5.upd⟩;exact Bg4 λi hi=>hlow i (by rw [←el];exact hi)
  | node b l x rr =>
   have hti:(Tr.node b l x rr).items=l.items++x::rr.items:=rfl;have hft:Fine (Tr.node b l x rr).items:=Fine.part hf eq;have okl:Em l.items:=hft.ok.left;have okx:x.sm.Ok:=hft.ok.right.head;have okr:Em rr.items:=hft.ok.right.tail;have sl:=Hw l;have small:=hf.small;rw [eq,Eu hfa (eq▸hf.ok).right,Eu (eq▸hf.ok).right.left (eq▸hf.ok).right.right] at small;have sm2:(tot (Tr.node b l x rr).items).bytes=(tot l.items).bytes+(x.sm.bytes+(tot rr.items).bytes):=by
    rw [hti,Eu okl (Em.cons okx okr)]
    have ex:x::rr.items=[x]++rr.items:=rfl
    rw [ex,Eu (Em.one okx) okr,Vu okx]
   (have lens:t.items.length=a.length+(l.items.length+(1+rr.items.length)+r.length):=by rw [eq,hti];simp;omega);have okm:=Es.I7 okta (Iy okl);have bm:=(Es.Qj _ _ okta (Iy okl)).1;have el:(tot a).add (tot l.items)=tot (a++l.items):=(Il hfa okl).symm;refine Ac (λ_=>S5.lds 0 (smT (tot a)) rfl (S5.Iz rfl rfl rfl λb9 w6 S6 e6=>?_)) (λh=>by cases h);let z2:Nat×Obj:=(b2,.cells (Cells.vals Cm (smT (tot a))).toArray 144 (0,0));refine Ai (λ_ w'=>xQ w w' [(b9,.cells (Cells.vals Cm (smT ((tot a).add (tot l.items)))).toArray 144 (0,0)),z2,z1]) ?_ ?_
   ·refine Ol (htw.ext S6.upd) ?_;cases l with
    |nil=>have e:(tot a).add (tot (Tr.nil).items)=tot a:=Es.add_zero okta;rw [e];exact Ac (λh=>by cases h) (λ_=>S6)
    |node bl ll lx lr=>refine Ac (λ_=>S6.drew λw7 S7 e7 _=>S7.lds 1 (smT (tot a)) rfl ?_) (λh=>by cases h);have ht7:=htw.ext S7.upd;refine Ol ht7 (Ae6 ht7.2.1 (An3 okta (Iy okl) (by omega) λw8 e8=>?_));exact (S7.ext e8).Ah 0 rfl rfl rfl rfl λw9 S9 u9=>S9
   ·intro _ w7 S7;refine S7.lds 0 (smT _) rfl (Cc5 hk λw8 e8=>?_);have S8:=S7.ext e8;rw [el];refine Ac (λh=>?_) (λh=>?_);{simp only [pF,sG] at h;refine Ol (htw.ext S8.upd) ⟨⟨l,a,x::rr.items++r,rfl,htw.2.1,by rw [eq,hti];simp,hlow,.inr (by omega),S8.tail⟩,?_⟩;dsimp only;rw [Rf (htw.ext S8.upd).2.1,Rf ht'];show l.size<l.size+1+rr.size;omega}
    ·simp only [oK,sG] at h;have hlt:keyOf k (tot (a++l.items))<n:=(by omega);have S8':=S8;rw [el] at S8';refine Ol (htw.ext S8.upd) (Ob (htw.ext S8.upd).2.1 (S8'.drew λw9 S9 e9 _=>S9.lds 0 (smT _) rfl (Aq0 (htw.ext S9.upd) (Zu λw10 e10=>?_))));have S10:=S9.ext e10;refine S10.keeps 0 rfl (An3 (el▸okm) okx (by rw [←el];omega) λw11 e11=>(S10.ext e11).Ah 1 rfl rfl rfl rfl λw12 S12 u12=>?_);have es:(tot (a++l.items)).add x.sm=tot (a++(l.items++[x])):=by
      rw [←lM,Il (Em.append hfa okl) (Em.one okx),Vu okx]
     rw [es] at S12;refine S12.lds 1 (smT _) rfl (Cc5 hk λw13 e13=>?_);have S13:=S12.ext e13;have ew:W64 ((a.length:Int)+W64 ((l.size:Int)+1))=((a.length+l.items.length+1:Nat):Int):=by
      rw [wrap64 (a:=(l.size:Int)+1) (by omega) (by omega),iE (by omega)];omega
     rw [ew];have hlow2:∀i,i<=a.length+l.items.length->keyOf k (tot (t.items.take i))<n:=by
      intro i hi
      by_cases h1:i<=a.length
      ·exact hlow i h1
      ·obtain ⟨j,rfl⟩:∃j,i=a.length+j:=⟨i-a.length,by omega⟩
       have e1:t.items.take (a.length+j)=a++l.items.take j:=by
        rw [eq,vK,hti,lM,tZ (by omega)]
       have e2:a++l.items=(a++l.items.take j)++l.items.drop j:=by simp
       have okt:Em (l.items.take j):=λy hy=>okl y (uQ hy)
       have okd:Em (l.items.drop j):=λy hy=>okl y (uP hy)
       rw [e1]
       rw [e2,Il (Em.append hfa okt) okd] at hlt
       exact Nat.lt_of_le_of_lt (Bf4 (Iy (Em.append hfa okt)) (Iy okd)) hlt
     have etk:t.items.take (a.length+l.items.length+1)=a++(l.items++[x]):=by
      rw [eq,hti,Nat.add_assoc,vK,lM,vK]
      rfl
     refine Ac (λh2=>?_) (λh2=>?_);{simp only [pF,sG] at h2;have:=Ay4 (k:=k) (n:=n) (l:=t.items) (j:=a.length+l.items.length+1) (by omega) (by rw [etk];omega) λi hi=>hlow2 i (by omega);rw [←this];exact hK w13 S13.upd};{simp only [oK,sG] at h2;refine Ae7 (htw.ext S13.upd) ⟨⟨rr,a++(l.items++[x]),r,by simp;omega,htw.2.2,by rw [eq,hti];simp,λi hi=>?_,?_,S13.tail⟩,?_⟩;{by_cases h1:i<=a.length+l.items.length;{exact hlow2 i h1};{(have:i=a.length+l.items.length+1:=by simp at hi;omega);rw [this,etk];omega}};{rcases hr with h|h;{exact .inl h};{refine .inr ?_;(have:a++(l.items++[x])++rr.items=a++(Tr.node b l x rr).items:=by rw [hti];simp);rw [this];exact h}};{dsimp only;rw [Rf (htw.ext S13.upd).2.2,Rf ht'];show rr.size<l.size+1+rr.size;omega}}
 {rintro _ w5 ⟨rfl,hfi,he⟩;(have ew:W64 ((t.items.length:Int)+1)=((X9 k n t.items:Nat):Int):=by rw [hfi,iE (by omega)];omega);show K (W64 ((t.items.length:Int)+1)) w5;rw [ew];exact hK w5 he}
end
section
variable {w w':World}{S:Nat->Prop}
def Dv {m:Nat}{o o':Obj}(hm:w.heap[m]?=some o):Upd (λk=>k=m) w (w.putObj m o')/\(w.putObj m o').heap[m]?=some o':=Kz hm
def Ck4:Obj->Bool
 |.cells _ t _=>t==186||(t==183||(t==184||t==146))
 |.deferred _=>true
 |_=>false
structure Dw (W W':World):Prop where
 size:W.heap.size<=W'.heap.size
 at_:∀(k:Nat) (o:Obj),W.heap[k]?=some o->Ck4 o=true->W'.heap[k]?=some o
def Dw.refl (W:World):Dw W W:=⟨mJ _,λ_ _ h _=>h⟩
def Dw.trans {W W' W'':World}(h:Dw W W') (h':Dw W' W''):Dw W W'':=⟨mM h.size h'.size,λk o ho hp=>h'.at_ k o (h.at_ k o ho hp) hp⟩
def Dw.ext {W W':World}(e:Ext W W'):Dw W W':=⟨e.size,λ_ _ h _=>e.ext_get h⟩
def Dw.upd {W W':World}(u:Upd S W W') (h:∀k,S k->∀o,W.heap[k]?=some o->Ck4 o=false):Dw W W' :=
 ⟨u.size,λk o ho hp=>u.get ho λhk=>by rw [h k hk o ho] at hp;cases hp⟩
def Trx.Tr.In.stay:∀{t:Tr},t.In w->Dw w w'->t.In w'
 |.nil,_,_=>trivial
 |.node _ _ _ _,h,s=>⟨s.at_ _ _ h.1 rfl,h.2.1.stay s,h.2.2.stay s⟩
def Bi8 {l:Nat}{v:Value}{R:Bool->Wp}(h:An7 prog l [v] R w) :
  Cj prog (do let d ←Deferred.ofValue (.func (.yield l) #[] #[]) #[v];invoke d.target d.args:Sem Next) (.one (.one .bool)) R w:=by obtain ⟨f,tmps,assign,body,h1,h2⟩:=h;refine .inr (.inr ⟨l,f,tmps,assign,body,?_,h2⟩);simp only [Deferred.ofValue,pure_bind,invoke];exact h1
structure ItE (l b1 b2:Nat) (W:World):Prop where
 y:W.heap[b1]?=some (.cells #[.func (.yield l) #[] #[]] 183 (0,0))
 f:W.heap[b2]?=some (.cells #[.func (.func 99) #[] #[dU b2,dU b1]] 184 (0,0))
def ItE.stay {l b1 b2:Nat}(h:ItE l b1 b2 w) (s:Dw w w'):ItE l b1 b2 w':=⟨s.at_ _ _ h.y rfl,s.at_ _ _ h.f rfl⟩
def Bf6 {l b1 b2:Nat}{rc:LoopState->Option Code->Loop}{its:List Pc}{Inv:Nat->Wp}{Brk:World->Prop}
  (hx:∀j W W',Inv j W->Ext W W'->Inv j W')
  (hy:∀(j:Nat) (x:Pc) (W:World) (K:Bool->Wp),its[j]?=some x->Inv j W->W.heap[l]?=some (.loop (rc .ready none)) ->
   (∀c W',Dw W W'->(c=true->Inv (j+1) W'/\W'.heap[l]?=some (.loop (rc .ready none)))->(c=false->Brk W')->K c W')->An7 prog l [pcV x] K W) :
  ∀(t:Tr) (m:Nat) (pre post:List Pc) (W:World) (K:Bool->Wp),t.In W->ItE l b1 b2 W->W.heap[l]?=some (.loop (rc .ready none))->Fine t.items->m<2^61->its=pre++(t.items.drop m++post)->Inv pre.length W ->
   (∀c W',Dw W W'->(c=true->Inv (pre.length+(t.items.length-m)) W'/\W'.heap[l]?=some (.loop (rc .ready none)))->(c=false->Brk W')->K c W') ->
   Aa prog 99 #[.pointer t.ptr,vI m,dU b2,dU b1] rB K W:=by
 intro t;induction t with
 |nil=>intro m pre post W K _ hE hr _ _ hi hI hK;refine j99 ?_;unfold F99;refine Ai (λs W'=>s=(true,())/\W=W') (Ac (λ_=>⟨rfl,rfl⟩) (λh=>by cases h)) ?_;rintro _ _ ⟨rfl,rfl⟩;exact Ee (hK true W (Dw.refl W) (λ_=>⟨by simpa [Tr.items] using hI,hr⟩) (λh=>by cases h))
 | node b lt x rt ihl ihr =>
  intro m pre post W K ht hE hr hf hm hi hI hK;refine j99 ?_;unfold F99;have hti:(Tr.node b lt x rt).items=lt.items++x::rt.items:=rfl;have hsz:(Tr.node b lt x rt).items.length=(Tr.node b lt x rt).size:=Hw _;have hsl:=Hw lt;(have hlen:(Tr.node b lt x rt).items.length=lt.items.length+1+rt.items.length:=by rw [hti];simp;omega);have few:=hf.few;have hfl:Fine lt.items:=hf.left;have hfr:Fine rt.items:=by
   have h2:Fine (x::rt.items):=(hti▸hf).right
   have ex:x::rt.items=[x]++rt.items:=rfl
   exact (ex▸h2).right
  refine Ai (λs W'=>s=(decide ((m:Int)>=(((Tr.node b lt x rt).size:Nat):Int)),())/\W=W') (Ac (λh=>by cases h) (λ_=>Ad (by rw [addr_add];exact Af ht.1 (x:=((Tr.node b lt x rt).size:Int)) rfl ⟨rfl,rfl⟩))) ?_;rintro _ _ ⟨rfl,rfl⟩;refine Ac (λh=>?_) (λh=>?_);{simp only [pF,sG] at h;refine hK true W (Dw.refl W) (λ_=>⟨?_,hr⟩) (λh=>by cases h);have:(Tr.node b lt x rt).items.length-m=0:=(by omega);rw [this];exact hI};simp only [oK,sG] at h;refine Ol ht (Ob ht.2.1 ?_);refine Ai (λs W'=>(s.1=false->Dw W W'/\Inv (pre.length+(lt.items.length-m)) W'/\W'.heap[l]?=some (.loop (rc .ready none)))/\(s.1=true->Dw W W'/\Brk W')) ?_ ?_;{refine Az λW1 e1 _=>?_;have s1:=Dw.ext e1;refine Ac (λh2=>?_) (λh2=>?_);{simp only [pF] at h2;refine Af (hE.stay s1).f (x:=(.func (.func 99) #[] #[dU b2,dU b1]:Value)) rfl ?_;refine Ol (ht.stay s1) (func_x (by kernel_rfl) ?_);refine ihl m pre (x::rt.items++post) W1 _ (ht.2.1.stay s1) (hE.stay s1) (e1.ext_get hr) hfl hm ?_ (hx _ _ _ hI e1) ?_;{rw [hi,hti,vS (by omega)];simp};{intro c W2 s2 ht2 hf2;refine ⟨λhc=>?_,λhc=>?_⟩;{have hct:c=true:=(by simpa using hc);obtain ⟨i2,r2⟩:=ht2 hct;exact ⟨s1.trans s2,i2,r2⟩};{have hcf:c=false:=(by simpa using hc);exact ⟨s1.trans s2,hf2 hcf⟩}}};{simp only [oK] at h2;refine ⟨λ_=>⟨s1,?_,e1.ext_get hr⟩,λh=>by cases h⟩;have:lt.items.length-m=0:=(by omega);rw [this];exact hx _ _ _ hI e1}};rintro ⟨sb,_⟩ W2 ⟨hA,hB⟩;refine Ac (λe=>?_) (λe=>?_);{obtain ⟨s2,hb2⟩:=hB e;exact hK false W2 s2 (λh=>by cases h) (λ_=>hb2)};obtain ⟨s2,i2,r2⟩:=hA e;refine Ai (λs W'=>(s.1=false->Dw W W'/\Inv (pre.length+(lt.items.length-m)+(if m<=lt.items.length then 1 else 0)) W'/\W'.heap[l]?=some (.loop (rc .ready none)))/\(s.1=true->Dw W W'/\Brk W')) ?_ ?_;{refine Az λW3 e3 _=>?_;have s3:=s2.trans (Dw.ext e3);refine Ac (λh3=>?_) (λh3=>?_);{simp only [pF] at h3;have hle:m<=lt.items.length:=(by omega);refine Af (hE.stay s3).y (x:=(.func (.yield l) #[] #[]:Value)) rfl ?_;refine Aq0 (ht.stay s3) (Bi8 (hy (pre.length+(lt.items.length-m)) x W3 _ ?_ (hx _ _ _ i2 e3) (e3.ext_get r2) ?_));{rw [hi,hti,vS hle,nC (by omega),lM,nC (by rw [nH];omega)];(have:pre.length+(lt.items.length-m)-pre.length-(lt.items.drop m).length=0:=by rw [nH];omega);rw [this];rfl};{intro c W4 s4 ht4 hf4;refine ⟨λhc=>?_,λhc=>?_⟩;{have hct:c=true:=(by simpa using hc);obtain ⟨i4,r4⟩:=ht4 hct;rw [iK hle];exact ⟨s3.trans s4,i4,r4⟩};{have hcf:c=false:=(by simpa using hc);exact ⟨s3.trans s4,hf4 hcf⟩}}};{simp only [oK] at h3;refine ⟨λ_=>⟨s3,?_,e3.ext_get r2⟩,λh=>by cases h⟩;rw [iP (by omega)];exact hx _ _ _ i2 e3}};rintro ⟨sb,_⟩ W4 ⟨hA,hB⟩;refine Ac (λe=>?_) (λe=>?_);{obtain ⟨s4,hb4⟩:=hB e;exact hK false W4 s4 (λh=>by cases h) (λ_=>hb4)};obtain ⟨s4,i4,r4⟩:=hA e;refine Az λW5 e5 _=>?_;have s5:=s4.trans (Dw.ext e5);refine Af (hE.stay s5).f (x:=(.func (.func 99) #[] #[dU b2,dU b1]:Value)) rfl ?_;refine Ae7 (ht.stay s5) (func_x (by kernel_rfl) ?_);have ew:(if W64 (W64 ((m:Int)-(lt.size:Int))-1)>0 then W64 (W64 ((m:Int)-(lt.size:Int))-1) else 0)=((m-lt.items.length-1:Nat):Int):=by
   rw [wrap64 (a:=(m:Int)-(lt.size:Int)) (by omega) (by omega),iE (by omega)]
   split<;>omega
  rw [ew];have fin:∀(pre':List Pc),its=pre'++(rt.items.drop (m-lt.items.length-1)++post)->pre'.length=pre.length+(lt.items.length-m)+(if m<=lt.items.length then 1 else 0) ->
    Aa prog 99 #[.pointer rt.ptr,vI ((m-lt.items.length-1:Nat):Int),dU b2,dU b1] rB K W5:=by
   intro pre' hp hl
   refine ihr _ pre' post W5 K (ht.2.2.stay s5) (hE.stay s5) (e5.ext_get r4) hfr (by omega) hp (by rw [hl];exact hx _ _ _ i4 e5) ?_
   intro c W6 s6 ht6 hf6
   refine hK c W6 (s5.trans s6) (λhc=>?_) hf6
   have h6:=ht6 hc
   have el:pre'.length+(rt.items.length-(m-lt.items.length-1))=pre.length+((Tr.node b lt x rt).items.length-m):=by
    rw [hl,hlen];split<;>omega
   rw [el] at h6
   exact h6
  by_cases hle:m<=lt.items.length;{refine fin (pre++(lt.items.drop m++[x])) ?_ ?_;{rw [hi,hti,vS hle];have:m-lt.items.length-1=0:=(by omega);rw [this];simp};{rw [iK hle];simp;omega}};{refine fin pre ?_ ?_;{rw [hi,hti,List.drop_append];have e1:lt.items.drop m=[]:=vF (by omega);obtain ⟨q,hq⟩:∃q,m-lt.items.length=q+1:=⟨m-lt.items.length-1,by omega⟩;rw [e1,hq];simp};{rw [iP hle];omega}}
def Vl {t:Tr}{n b1 b2:Nat}{vals:Cells.T c146×Unit->List Value}{body:Nat->(LoopState->Option Code->Loop)->(Bool->Wp)->Cells.T c146×Unit->Wp}{aft':Nat->Option Code->Wp}
  (hv:∀s,vals s=[.agg (Cells.vals c146 s.1).toArray]) (h1:w.heap[b1]?=some (.cells #[.pointer t.ptr] 139 (0,0))) (h2:w.heap[b2]?=some (.cells #[vI n] 3 (0,0))) (ht:t.In w) (hf:Fine t.items) (hn:n<2^61)
  (Inv:Nat->Wp) (Brk:Code->Wp) (h0:∀W,Ext w W->w.heap.size+2<=W.heap.size->Inv 0 W) (hx:∀j W W',Inv j W->Ext W W'->Inv j W')
  (hb:∀(rc:LoopState->Option Code->Loop) j x R W,(t.items.drop n)[j]?=some x->Inv j W->W.heap[w.heap.size+1]?=some (.loop (rc .ready none)) ->
   (∀W',Dw W W'->Inv (j+1) W'->W'.heap[w.heap.size+1]?=some (.loop (rc .ready none))->R true W')->(∀e W',Dw W W'->W'.heap[w.heap.size+1]?=some (.loop (rc .done (some e)))->Brk e W'->R false W')->body (w.heap.size+1) rc R (pcT x,()) W)
  (he:∀W W',Inv (t.items.length-n) W->W'.heap[w.heap.size]?=some (.deferred (some []))->Upd (λk=>k=w.heap.size+1) W W'->aft' w.heap.size none W')
  (hk:∀e W W',Brk e W->W'.heap[w.heap.size]?=some (.deferred (some []))->Upd (λk=>k=w.heap.size+1) W W'->aft' w.heap.size (some e) W') :
  Xp prog vals (.func (.func 98) #[] #[dU b1,dU b2]) body aft' w:=by
 intro rc hyield;have e0:Ext w (w.alloc (.deferred (some []))):=Ext.alloc w _;generalize hW0:w.alloc (.deferred (some []))=W0 at *;(have d0:W0.heap[w.heap.size]?=some (.deferred (some [])):=by rw [←hW0];exact heap_alloc w _);(have z0:W0.heap.size=w.heap.size+1:=by rw [←hW0];simp);have e1:Ext W0 (W0.alloc (.loop (rc .ready none))):=Ext.alloc W0 _;(have l1:(W0.alloc (.loop (rc .ready none))).heap[w.heap.size+1]?=some (.loop (rc .ready none)):=by rw [←z0];exact heap_alloc W0 _);have z1:(W0.alloc (.loop (rc .ready none))).heap.size=w.heap.size+2:=(by simp [z0]);generalize hW1:W0.alloc (.loop (rc .ready none))=W1 at *;refine ⟨98,#[.func (.yield (w.heap.size+1)) #[] #[],dU b1,dU b2],?_,?_⟩;{simp only [Deferred.ofValue,pure_bind,invoke];exact Gq (P:=prog) (f:=98) (by kernel_rfl) W1};have e01:=e0.trans e1;refine j98 ?_;unfold F98;refine Ea rfl ((St.start W1).Ak λc1 W2 S2 e2=>S2.Ak λc2 W3 S3 e3=>Ea rfl (S3.stC 0 rfl (by decide) λW4 S4 u4=>?_));have e14:=S4.upd;have hE:ItE (w.heap.size+1) c1 c2 W4:=⟨S4.at_ 1 rfl,S4.at_ 0 rfl⟩;have ew4:=e01.trans e14;refine S4.ld 0 rfl (x:=(.func (.func 99) #[] #[dU c2,dU c1]:Value)) rfl (Af (ew4.ext_get h1) (x:=t.ptr) rfl (Af (ew4.ext_get h2) (x:=(n:Int)) rfl (func_x (by kernel_rfl) ?_)));have ew:(if (n:Int)>0 then (n:Int) else 0)=(n:Int):=(by split<;>omega);rw [ew];refine Bf6 (Inv:=Inv) (Brk:=λW=>∃e,W.heap[w.heap.size+1]?=some (.loop (rc .done (some e)))/\Brk e W) (its:=t.items.drop n) (rc:=rc) hx ?_ t n [] [] W4 _ (ht.ext ew4) hE (e14.ext_get l1) hf hn (by simp) (h0 W4 ew4 (by have:=e14.size;omega)) ?_;{intro j x W K hj hI hr hK;have:=hyield K (pcT x,()) W hr (hb rc j x K W hj hI hr (λW' s i r=>hK true W' s (λ_=>⟨i,r⟩) (λh=>by cases h)) (λe W' s r b=>hK false W' s (λh=>by cases h) (λ_=>⟨e,r,b⟩)));rw [hv] at this;exact this}
 ·intro c W5 s5 ht5 hf5;have d5:=s5.at_ _ _ (e14.ext_get (e1.ext_get d0)) rfl;have fin:∀st pe,W5.heap[w.heap.size+1]?=some (.loop (rc st pe))->(W5.putObj (w.heap.size+1) (.loop (rc .exhausted pe))).heap[w.heap.size]?=some (.deferred (some []))/\Upd (λk=>k=w.heap.size+1) W5 (W5.putObj (w.heap.size+1) (.loop (rc .exhausted pe))):=by
   intro st pe h
   obtain ⟨u,_⟩:=Dv (o':=.loop (rc .exhausted pe)) h
   exact ⟨u.get d5 (by omega),u⟩
  cases c with
  |true=>obtain ⟨i5,r5⟩:=ht5 rfl;obtain ⟨d6,u6⟩:=fin _ _ r5;refine ⟨.ready,none,r5,by decide,he W5 _ ?_ d6 u6⟩;simpa using i5
  |false=>obtain ⟨e,r5,b5⟩:=hf5 rfl;obtain ⟨d6,u6⟩:=fin _ _ r5;exact ⟨.done,some e,r5,by decide,hk e W5 _ b5 d6 u6⟩
end
end
section
open Go Go.Vx Cdc
section
variable {w w':World}
def lw (be:Bool):Int:=if be then 1 else 0
def Ai9 {s:Sl}{be:Bool}{a b:UInt8}{r:Bs}(hB:By w s (a::b::r)){K:Int->Wp}(hK:iF w (K ((un be a b:Nat):Int))) :
  Aa prog 280 #[.agg #[vI (lw be)],s.v] rI K w:=by
 refine Db6 (a0:=(lw be,())) ?_;unfold F280;have ha:=a.toNat_lt;have hb:=b.toNat_lt;refine Ag λb1 w1 e1 n1 _ _=>Az λw2 e2 _=>?_;have n2:=e2.ext_get n1;have hB2:By w2 s (a::b::r):=hB.ext (e1.trans e2);refine Af n2 (x:=lw be) rfl ?_;have bits:∀x y:UInt8,W64 ((BitVec.toNat (BitVec.ofInt (IntKind.bits .i64) (W64 (x.toNat:Int)) ||| BitVec.ofInt (IntKind.bits .i64) (W64 ((W64 (y.toNat:Int))*2^(min (Int.toNat (8:Int)) (IntKind.bits .i64))))):Nat):Int)=((x.toNat+y.toNat*256:Nat):Int):=by
  intro x y
  have hx:=x.toNat_lt
  have hy:=y.toNat_lt
  have e:((2:Int)^(min (Int.toNat (8:Int)) (IntKind.bits .i64)))=2^8:=rfl
  rw [e,wrap64 (a:=(x.toNat:Int)) (by omega) (by omega),wrap64 (a:=(y.toNat:Int)) (by omega) (by omega),wrap64 (a:=(y.toNat:Int)*2^8) (by omega) (by omega)]
  have h:=Bq6 (b:=IntKind.bits .i64) (k:=8) (a:=(y.toNat:Int)) (c:=(x.toNat:Int)) (by omega) (by omega) (by omega) (by show _<(2:Int)^64;omega)
  rw [h,iE (by omega)]
  omega
 cases be with
 |false=>have e0:lw false=0:=rfl;have e1':W64 (1-(0:Int))=1:=(by decide);rw [e0] at n2 ⊢;refine Lr hB2 (by decide) (b:=a) rfl λp=>Af n2 (x:=(0:Int)) rfl ?_;rw [e1'];refine Lr hB2 (by decide) (b:=b) rfl λp=>Ea (by decide) ?_;rw [bits];exact hK w2 (e1.trans e2)
 |true=>have e0:lw true=1:=rfl;have e1':W64 (1-(1:Int))=0:=(by decide);rw [e0] at n2 ⊢;refine Lr hB2 (by decide) (b:=b) rfl λp=>Af n2 (x:=(1:Int)) rfl ?_;rw [e1'];refine Lr hB2 (by decide) (b:=a) rfl λp=>Ea (by decide) ?_;rw [bits];exact hK w2 (e1.trans e2)
def Br9 {u:Nat}(hu:u<65536){K:Bool->Wp}(hK:K (decide (u/1024=54)) w):Aa prog 281 #[vI u] rB K w:=by
 refine Db5 ?_;unfold F281;have h:=Cf8 (a:=(u:Int)) (m:=1023) (by omega) (by omega) rfl;have e:(((BitVec.toNat (BitVec.ofInt (IntKind.bits .i64) (u:Int) &&& ~~~(BitVec.ofInt (IntKind.bits .i64) (1023:Int))):Nat):Int))=(u:Int)/1024*1024:=h;rw [e,iE (by omega)];have:((u:Int)/1024*1024==(55296:Int))=decide (u/1024=54):=by
  rw [nN];simp only [pX,pF];omega
 rw [this];exact hK
def Cc3 {u:Nat}(hu:u<65536){K:Bool->Wp}(hK:K (decide (u/1024=55)) w):Aa prog 282 #[vI u] rB K w:=by
 refine Db4 ?_;unfold F282;have h:=Cf8 (a:=(u:Int)) (m:=1023) (by omega) (by omega) rfl;have e:(((BitVec.toNat (BitVec.ofInt (IntKind.bits .i64) (u:Int) &&& ~~~(BitVec.ofInt (IntKind.bits .i64) (1023:Int))):Nat):Int))=(u:Int)/1024*1024:=h;rw [e,iE (by omega)];have:((u:Int)/1024*1024==(56320:Int))=decide (u/1024=55):=by
  rw [nN];simp only [pX,pF];omega
 rw [this];exact hK
def Bw2 (be:Bool) (a b:UInt8):un be a b<65536:=by have ha:=a.toNat_lt;have hb:=b.toNat_lt;unfold un;split<;>omega
def Yv {s:Sl}{be:Bool}{b:UInt8}{r:Bs}(hB:By w s (b::r)){K:Int×Int×Unit->Wp}(hK:iF w (K ((Pv be (b::r)).1,((Pv be (b::r)).2:Nat),()))) :
  Aa prog 275 #[.agg #[vI (lw be)],s.v] bJ K w:=by
 refine Db7 (a0:=(lw be,())) ?_;unfold F275;have hlen:r.length+1=s.len:=hB.len;have hcap:=hB.le;have hb:=b.toNat_lt;refine Ag λb1 w1 e1 n1 _ _=>?_;have hB1:By w1 s (b::r):=hB.ext e1;cases r with
 |nil=>have hl:s.len=1:=(by simpa using hlen.symm);refine Ac (λ_=>?_) (λh=>by simp [hl] at h);refine Lr hB1 (by decide) (b:=b) rfl λp=>?_;rw [wrap64 (a:=(b.toNat:Int)) (by omega) (by omega),iE (by omega)];exact hK w1 e1
 | cons c r =>
  have hl2:r.length+2=s.len:=(by simpa using hlen);refine Ac (λh=>?_) (λ_=>?_);{simp only [pX] at h;omega};refine Dp n1 (x:=(lw be,())) (λi v hv=>by rw [kY,←kQ];exact hv) (Ai9 hB1 λw2 e2=>?_);have hB2:=hB1.ext e2;have hu:=Bw2 be b c;have n2:=e2.ext_get n1;have short:¬(un be b c/1024=54/\∃d e r',r=d::e::r'/\un be d e/1024=55)->Pv be (b::c::r)=(((un be b c:Nat):Int),2):=by
   intro h
   simp only [Pv]
   split
   ·rename_i h1
    split
    ·rename_i d e r'
     split
     ·rename_i h2;exact absurd ⟨h1,d,e,r',rfl,h2⟩ h
     ·rfl
    ·rfl
   ·rfl
  refine Ai (λ_ w'=>Ext w w'/\¬(un be b c/1024=54/\∃d e r',r=d::e::r'/\un be d e/1024=55)) ?_ ?_
  ·refine Ai (λx w'=>x=(decide (un be b c/1024=54/\4<=s.len),())/\w2=w') ?_ ?_;{refine Br9 hu (Ac (λh=>?_) (λh=>?_));{simp only [pF] at h;refine ⟨Di ?_,rfl⟩;simp only [pF];omega};{simp only [oK] at h;exact ⟨by rw [qO (by omega)],rfl⟩}}
   ·rintro _ w' ⟨rfl,rfl⟩;refine Ac (λh=>?_) (λh=>?_)
    ·simp only [pF] at h;obtain ⟨d,e,r',rfl⟩:∃d e r',r=d::e::r':=by
      match r,hl2 with
      |[],hl2=>simp at hl2;omega
      |[_],hl2=>simp at hl2;omega
      |d::e::r',_=>exact ⟨d,e,r',rfl⟩
     refine Az λw3 e3 _=>?_;have n3:=e3.ext_get n2;have hB3:=hB2.ext e3;refine Dp n3 (x:=(lw be,())) (λi v hv=>by rw [kY,←kQ];exact hv) ?_;refine Ad0 hB3 (by decide) (by omega) (by omega) (by omega) (by omega) λs' hs' hl' _=>?_;have hR:((b::c::d::e::r').drop (Int.toNat 2)).take (((s.len:Nat):Int).toNat-Int.toNat 2)=d::e::r':=by
      have:((s.len:Nat):Int).toNat-Int.toNat 2=(d::e::r').length:=by simp at hl2 ⊢;omega
      rw [this]
      show (d::e::r').take _=_
      rw [rH]
     rw [hR] at hs';refine Ai9 hs' λw4 e4=>Cc3 (Bw2 be d e) ?_;have e04:=(e1.trans e2).trans (e3.trans e4);refine Ac (λh5=>Ea (by decide) ?_) (λh5=>?_)
     ·simp only [pF] at h5;have hv:=Bw2 be d e;have g1:=As1 (b:=IntKind.bits .i64) (k:=10) (a:=((un be b c:Nat):Int)) (m:=1023) (by omega) (by show _<(2:Int)^64;omega) rfl (by decide);have g2:=As1 (b:=IntKind.bits .i64) (k:=10) (a:=((un be d e:Nat):Int)) (m:=1023) (by omega) (by show _<(2:Int)^64;omega) rfl (by decide);have ep:((2:Int)^(min (Int.toNat (10:Int)) (IntKind.bits .i64)))=2^10:=rfl;rw [g1,g2,ep,wrap64 (a:=((un be b c:Nat):Int)%2^10) (by omega) (by omega),wrap64 (a:=((un be d e:Nat):Int)%2^10) (by omega) (by omega),
       wrap64 (a:=((un be b c:Nat):Int)%2^10*2^10) (by omega) (by omega),wrap64 (a:=65536+((un be b c:Nat):Int)%2^10*2^10) (by omega) (by omega),iE (by omega)]
      have:=hK w4 e04;simp only [Pv,iK h.1,iK h5] at this;have e':65536+((un be b c:Nat):Int)%2^10*2^10+((un be d e:Nat):Int)%2^10=65536+((un be b c%1024*1024+un be d e%1024:Nat):Int):=(by omega);rw [e'];exact this
     {simp only [oK] at h5;refine ⟨e04,?_⟩;rintro ⟨_,d',e',r'',hr,h6⟩;cases hr;exact h5 h6}
    {simp only [oK] at h;refine ⟨e1.trans e2,?_⟩;rintro ⟨h6,d',e',r'',rfl,_⟩;simp at hl2;omega}
  {rintro _ w' ⟨hw,hno⟩;have:=hK w' hw;rw [short hno] at this;exact this}
def Ay2 {s:Sl}{b:UInt8}{r:Bs}(hB:By w s (b::r)){K:Int×Int×Unit->Wp}(hK:iF w (K ((nx1 (b::r)).1,((nx1 (b::r)).2:Nat),()))) :
  Aa prog 284 #[.agg #[],s.v] bJ K w:=by refine Db3 (a0:=()) ?_;unfold F284;have hb:=b.toNat_lt;refine Ag λ_ w1 e1 _ _ _=>?_;have hB1:By w1 s (b::r):=hB.ext e1;refine Lr hB1 (by decide) (b:=b) rfl λp=>?_;rw [iE (by omega)];exact hK w1 e1
def Bm6:Enc->Value
 |.u8=>.iface 180 (.agg #[])
 |.le=>.iface 263 (.agg #[.int .i64 0])
 |.be=>.iface 263 (.agg #[.int .i64 1])
 |.l1=>.iface 264 (.agg #[])
def Ck9 {e:Enc}{K:Value->Wp}(hK:K (Bm6 e) w):Aa prog 126 #[vI e.num] (.one (.one .any)) K w:=by
 refine j126 ?_;unfold F126;cases e with
 |u8=>exact Ac (λ_=>hK) (λh=>by cases h)
 |le=>exact Ac (λh=>by cases h) (λ_=>Ac (λ_=>hK) (λh=>by cases h))
 |be=>exact Ac (λh=>by cases h) (λ_=>Ac (λh=>by cases h) (λ_=>Ac (λ_=>hK) (λh=>by cases h)))
 |l1=>exact Ac (λh=>by cases h) (λ_=>Ac (λh=>by cases h) (λ_=>Ac (λh=>by cases h) (λ_=>Ac (λ_=>hK) (λh=>by cases h))))
def Az8 (e:Enc):∃t v,Bm6 e=.iface t v:=by cases e<;>exact ⟨_,_,rfl⟩
def Ce4 (e:Enc):Bf0 prog (Bm6 e) "copyist/codec.first" := by cases e;{exact ⟨_,_,rfl,λw=>by kernel_rfl⟩};{exact ⟨_,_,rfl,λw=>by kernel_rfl⟩};{exact ⟨_,_,rfl,λw=>by kernel_rfl⟩};{exact ⟨_,_,rfl,λw=>by kernel_rfl⟩}
def Cm6 {e:Enc}{s:Sl}{l:Bs}(hB:By w s l) (hl:l≠[]){K:Int×Int×Unit->Wp}(hK:iF w (K ((nx e l).1,((nx e l).2:Nat),()))) :
  Cj prog (invoke (.fn (.method "copyist/codec.first") #[]) (#[Bm6 e]++#[.slice s.a s.len s.cap])) bJ K w:=by
 cases l with
 |nil=>exact absurd rfl hl
 |cons b r =>
  cases e with
  |u8=>exact Jm (f:=95) (v':=.agg #[]) (λw=>by kernel_rfl) (by kernel_rfl) (X0 hB hK)
  |le=>exact Jm (f:=275) (v':=.agg #[.int .i64 (lw false)]) (λw=>by kernel_rfl) (by kernel_rfl) (Yv hB hK)
  |be=>exact Jm (f:=275) (v':=.agg #[.int .i64 (lw true)]) (λw=>by kernel_rfl) (by kernel_rfl) (Yv hB hK)
  |l1=>exact Jm (f:=284) (v':=.agg #[]) (λw=>by kernel_rfl) (by kernel_rfl) (Ay2 hB hK)
def Zq {e:Enc}{s:Sl}{l:Bs}(hB:By w s l){n:Nat}(hn:n<l.length){K:Int×Int×Unit->Wp}(hK:iF w (K ((nx e (l.drop n)).1,((nx e (l.drop n)).2:Nat),()))) :
  Aa prog 84 #[vI e.num,s.v,vI n] bJ K w:=by
 refine j84 ?_;unfold F84;have hlen:=hB.len;have hcap:=hB.le;refine Ck9 ?_;refine Ai (λx w'=>x=(false,())/\w=w') ?_ ?_;{obtain ⟨t,v,hc⟩:=Az8 e;rw [hc];refine Oi ?_ ⟨_,Tryz.underlying204⟩;refine Ac (λh=>by cases h) (λ_=>Ac (λh=>?_) (λ_=>?_));{simp only [pF] at h;omega};{exact ⟨by rw [qO (by omega)],rfl⟩}};rintro _ w' ⟨rfl,rfl⟩;refine Ac (λh=>by cases h) (λ_=>Az λw1 e1 _=>?_);have hB1:=hB.ext e1;refine Ad0 hB1 (by omega) (by omega) (by omega) (by omega) (by omega) λs' hs' hl' _=>Ea (Ce4 e) ?_;have hR:(l.drop (n:Int).toNat).take (((s.len:Nat):Int).toNat-(n:Int).toNat)=l.drop n:=by
  have:((s.len:Nat):Int).toNat-(n:Int).toNat=(l.drop n).length:=by rw [nH];omega
  rw [this,kH,rH]
 rw [hR] at hs';refine Cm6 hs' (λh=>?_) λw2 e2=>hK w2 (e1.trans e2);have:=lW List.length h;rw [nH,kW] at this;omega
end
end
section
namespace Cdc
def sz8 (a:Int):Nat:=if a < -256\/(-129<a/\a<0)\/1114111<a\/(55296<=a/\a<=57343) then 0 else if a<128 then 1 else if a<2048 then 2 else if a<65536 then 3 else 4
def Bw7 (a:Int):Nat:=if a < -256\/1114111<a then 0 else if a<0 then 1 else if a<65536 then 2 else 4
def sz1 (a:Int):Nat:=if a<0\/255<a then 0 else 1
def sz:Enc->Int->Nat
 |.u8,a=>sz8 a
 |.le,a=>Bw7 a
 |.be,a=>Bw7 a
 |.l1,a=>sz1 a
def cts:Nat->Nat->Bs
 |0,_=>[]
 |k+1,a=>UInt8.ofNat (128+a/64^k%64)::cts k a
def mk8 (n:Nat):Nat:=if n=2 then 192 else if n=3 then 224 else 240
def pt8 (a:Int):Bs:=if a<0 then [UInt8.ofNat (-1-a).toNat] else if sz8 a=1 then [UInt8.ofNat a.toNat] else UInt8.ofNat (mk8 (sz8 a)+a.toNat/64^(sz8 a-1))::cts (sz8 a-1) a.toNat
def uni (be:Bool) (u:Nat):Bs:=if be then [UInt8.ofNat (u/256),UInt8.ofNat u] else [UInt8.ofNat u,UInt8.ofNat (u/256)]
def Ck3 (be:Bool) (a:Int):Bs:=if a<0 then [UInt8.ofNat (-1-a).toNat] else if a<65536 then uni be a.toNat else uni be (55296+(a.toNat-65536)/1024)++uni be (56320+a.toNat%1024)
def pt1 (a:Int):Bs:=[UInt8.ofNat a.toNat]
def pt:Enc->Int->Bs
 |.u8,a=>pt8 a
 |.le,a=>Ck3 false a
 |.be,a=>Ck3 true a
 |.l1,a=>pt1 a
def Bm5:∀(k a:Nat),(cts k a).length=k
 |0,_=>rfl
 |k+1,a=>lW (·+1) (Bm5 k a)
def Ao3 (be:Bool) (u:Nat):(uni be u).length=2:=by unfold uni;split<;>rfl
def Bz2 (e:Enc) (a:Int) (h:sz e a≠0):(pt e a).length=sz e a:=by
 have h16:∀be,Bw7 a≠0->(Ck3 be a).length=Bw7 a:=by
  intro be h
  simp only [Ck3,Bw7] at h ⊢
  repeat' split at h
  ·exact absurd rfl h
  ·rename_i h1 h2;rw [iK h2,iP h1,iK h2];rfl
  ·rename_i h1 h2 h3;rw [iP h2,iK h3,iP h1,iP h2,iK h3];exact Ao3 _ _
  ·rename_i h1 h2 h3;rw [iP h2,iP h3,iP h1,iP h2,iP h3,oC,Ao3,Ao3]
 cases e with
 |u8=>simp only [sz,pt,pt8] at h ⊢;by_cases h0:a<0;{rw [iK h0];simp only [sz8] at h ⊢;split at h;{exact absurd rfl h};{rename_i h1;rw [iP h1,iK (by omega)];rfl}};{rw [iP h0];split;{rename_i h1;rw [h1];rfl};{simp only [kE,Bm5];omega}}
 |le=>exact h16 _ h
 |be=>exact h16 _ h
 |l1=>simp only [sz,sz1] at h ⊢;split at h;exact absurd rfl h;rename_i h1;rw [iP h1];rfl
end Cdc
end
section
open Go Go.Vx Cdc
section
variable {w w':World}
def EBy:Fh prog 30 5 1 1:=Fh.of (z:=.int .u8 0) C30 C5 rfl rfl rfl (by decide)
def uBy:prog.underlying 30=some (.slice 5):=EBy.ts_
def app1 {B:Nat}{s:Sl}{l:Bs}{c:UInt8}{v:Int}{K:Sl->Wp}(hv:v=(c.toNat:Int)) (ho:Am w B s 5 1 (bv l)) (hr:s.len<2^44) (hB:B<=w.heap.size)
  (hK:∀s' w',Am w' B s' 5 1 (bv (l++[c]))->s'.len=s.len+1->Upd s.blk w w'->(∀k,s'.blk k->s.blk k\/w.heap.size<=k)->K s' w') :
  Ak (.cells #[.int .u8 v] 5) (λb=>Dy prog (.one (.one .sl)) (Builtin.append_ #[30,30] 30 #[.slice s.a s.len s.cap,.slice (some (at0 b)) 1 1]) K) w:=by subst hv;refine Ag λb w1 e1 n1 _ _=>?_;refine Zc (x:=⟨some (at0 b),1,1⟩) EBy uBy (ho.ext e1) (Dx.Jk (n:=1) (sz:=1) n1 rfl) (λv hv=>by simp at hv;subst hv;rfl) (by dsimp only;omega) (mM hB e1.size) λs' w2 o2 hl u2 hb=>?_;refine hK s' w2 ?_ hl ((Upd.Ae e1).trans u2) λk hk=>(hb k hk).imp id (mM e1.size);simpa [bv] using o2
end
end
section
open Go Go.Vx Cdc Trx
section
variable {w w':World}{S:Nat->Prop}
def Au6 {a:Int}{n:Nat}{K:Cells.T Cm->Wp}(hK:iF w (K (smT (one1 a n)))) :
  Aa prog 128 #[vI a,vI n] (.one (.agg Cm)) K w:=by
 refine j128 ?_;unfold F128;refine (St.start w).Ak λb1 w1 S1 e1=>S1.Ak λb2 w2 S2 e2=>S2.Ah 0 rfl rfl rfl rfl λw3 S3 u3=>?_;let z1:Nat×Obj:=(b1,.cells #[(vI (0:Int)),(vI (0:Int)),(vI (0:Int)),(.bool false),(.bool false)] 144 (0,0));refine Ai (λ_ w'=>xQ w w' [(b2,.cells (Cells.vals Cm (smT (one1 a n))).toArray 144 (0,0)),z1]) ?_ ?_
 ·refine Ai (λx w'=>x=((a==10||a==13),())/\w3=w') (S3.ld 0 rfl (x:=(a==10)) rfl (Ac (λh=>⟨by rw [h];rfl,rfl⟩) (λh=>S3.ld 0 rfl (x:=(a==13)) rfl ⟨by rw [h];rfl,rfl⟩))) ?_;rintro _ w' ⟨rfl,rfl⟩;have e0:(one1 a n).breaks=if (a==10||a==13)=true then 1 else 0:=by
   show (if a=10\/a=13 then 1 else 0)=_
   simp
  refine Ac (λh=>S3.stC 0 rfl (by show 2<5;decide) λw4 S4 u4=>?_) (λh=>?_)
  ·have:smT (one1 a n)=((1:Int),(n:Int),(1:Int),(a==10),(a==13),()):=by
    unfold smT;rw [e0,iK h];rfl
   rw [this];exact S4
  ·have:smT (one1 a n)=((1:Int),(n:Int),(0:Int),(a==10),(a==13),()):=by
    unfold smT
    have h':(a==10||a==13)=false:=h
    rw [e0,h'];rfl
   rw [this];exact S3
 {intro _ w5 S5;exact S5.lds 0 (smT (one1 a n)) rfl (S5.Ah 1 rfl rfl rfl rfl λw6 S6 u6=>S6.lds 1 (smT (one1 a n)) rfl (hK w6 S6.upd))}
def Br1 (e:Enc) (s:Sl) (tag:Int) (l:Bs):Pc:=⟨s,tag,msr (ats e l)⟩
def Ap9 {e:Enc}{s:Sl}{l:Bs}{tag:Int}(hB:By w s l) (hl:l.length<2^59){K:Cells.T c146->Wp}(hK:iF w (K (pcT (Br1 e s tag l)))) :
  Aa prog 85 #[vI e.num,s.v,vI tag] (.one (.agg c146)) K w:=by
 refine j85 ?_;unfold F85;have hlen:=hB.len;let z1:Nat×Obj:=(0,.cells #[(.slice none 0 0),(vI (0:Int)),(vI (0:Int)),(vI (0:Int)),(vI (0:Int)),(.bool false),(.bool false)] 146 (0,0));refine (St.start w).Ak λb1 w1 S1 e1=>S1.Ak λb2 w2 S2 e2=>S2.Ah 0 rfl rfl rfl rfl λw3 S3 u3=>?_;refine Ai (λ_ w'=>xQ w w' [(b2,.cells (Cells.vals c146 (pcT (Br1 e s tag l))).toArray 146 (0,0)),(b1,z1.2)]) ?_ ?_
 ·refine Bo (λx w'=>∃j,x=((szs ((ats e l).take j):Int),())/\xQ w w' [(b2,.cells (Cells.vals c146 (pcT ⟨s,tag,msr ((ats e l).take j)⟩)).toArray 146 (0,0)),(b1,z1.2)]) (λx _=>((l.length:Int)-x.1).toNat) ⟨0,rfl,S3⟩ ?_;rintro _ w5 ⟨j,rfl,S5⟩;have okj:=Xr ((Jq e l).take j);have byj:=Wv ((Jq e l).take j);refine Ac (λh=>?_) (λh=>?_)
  ·simp only [pF] at h;obtain ⟨a,n,ha,hn,ht,hs,h1,hle⟩:=Yl (e:=e) (l:=l) (j:=j) (by omega);refine Zq (hB.ext S5.upd) (by omega) λw6 e6=>?_;rw [hn];have S6:=S5.ext e6;refine S6.drew λw7 S7 e7 _=>?_;have h7:∀{W:World} {t:Nat},xQ w W [(b2,.cells (Cells.vals c146 (pcT ⟨s,tag,msr ((ats e l).take j)⟩)).toArray 146 (0,0)),(b1,z1.2)]->∀i v,(Cells.vals Cm (smT (msr ((ats e l).take j))))[i]?=some v->((Cells.vals c146 (pcT ⟨s,tag,msr ((ats e l).take j)⟩)).toArray)[2+i]?=some v:=by
    intro W t _ i v hv
    match i,hv with
    |0,hv=>exact hv
    |1,hv=>exact hv
    |2,hv=>exact hv
    |3,hv=>exact hv
    |4,hv=>exact hv
    |i+5,hv=>cases hv
   refine Dp (S7.at_ 0 rfl) (x:=smT (msr ((ats e l).take j))) (h7 (t:=0) S7) (Au6 λw8 e8=>?_);have S8:=S7.ext e8;refine Bc ?_ (Bb0 okj (Ws a h1) (by rw [byj];show szs ((ats e l).take j)+n<2^60;omega) λw9 e9=>?_);{exact Gh _ 0 λi v hv=>cell_of (S8.at_ 0 rfl) (by rw [kY];exact h7 (t:=0) S8 i v hv)};have S9:=S8.ext e9;rw [←Cb7 ((Jq e l).take j) h1,←ht];refine S9.Cp7 0 rfl rfl rfl (by show 2+5<=7;decide) λw10 S10=>?_;have ew:W64 ((szs ((ats e l).take j):Int)+(n:Int))=((szs ((ats e l).take (j+1)):Nat):Int):=by
    rw [iE (by omega)];omega
   refine ⟨⟨j+1,by dsimp only;rw [ew],S10⟩,?_⟩;dsimp only;rw [ew];omega
  {simp only [oK] at h;rw [Aa3 (e:=e) (l:=l) (j:=j) (by omega)] at S5;exact S5}
 {intro _ w5 S5;exact S5.lds 0 (pcT (Br1 e s tag l)) rfl (S5.Ah 1 rfl rfl rfl rfl λw6 S6 u6=>S6.lds 1 (pcT (Br1 e s tag l)) rfl (hK w6 S6.upd))}
end
section
variable {w w':World}{S:Nat->Prop}
def top (s:Sl):Nat:=match s.a with|some p=>p.off+s.len|none=>0
def Cn3 {s:Sl}{l h m:Int}{k:Nat}(hk:(Sl.cut s.a l h m 1).blk k):s.blk k:=by
 obtain ⟨p,hp,rfl⟩:=hk;have hp:(if m.toNat=l.toNat then s.a else s.a.map (·.add (scaled l.toNat 1)))=some p:=hp;split at hp;{exact ⟨p,hp,rfl⟩}
 ·cases ha:s.a with
  |none=>rw [ha] at hp;cases hp
  |some q=>rw [ha] at hp;cases hp;exact ⟨q,ha,by unfold Addr.add;split<;>rfl⟩
def By.cut {s:Sl}{b:Bs}(hB:By w s b){l h m:Int}(h0:0<=l) (h1:l<=h) (h2:h<=s.len) (h3:h<=m) (h4:m<=s.cap):By w (Sl.cut s.a l h m 1) ((b.drop l.toNat).take (h.toNat-l.toNat)):=by have:=Ad0 (K:=λs' w'=>By w s' ((b.drop l.toNat).take (h.toNat-l.toNat))) hB h0 h1 h2 h3 h4 λs' h _ _=>h;obtain ⟨_,_,h⟩:=this;exact h
def Ja (t:Int) (n:Nat):Int:=if 0<=t then t+n else t
end
section
variable {w w':World}{S:Nat->Prop}
abbrev Parts:=List (Int×Bs)
def aOf (e:Enc) (M:Parts):As:=M.flatMap λx=>ats e x.2
def Np (e:Enc) (x:Int×Bs) (M:Parts):aOf e (x::M)=ats e x.2++aOf e M:=rfl
def Zd (e:Enc) (M N:Parts):aOf e (M++N)=aOf e M++aOf e N:=by simp [aOf]
def Tq (e:Enc) (M:Parts):Un (aOf e M):=λx hx=>by obtain ⟨y,_,hy⟩:=List.mem_flatMap.1 hx;exact Jq e _ x hy
structure Bi5 (w:World) (e:Enc) (x:Pc) (y:Int×Bs):Prop where
 by_:By w x.bytes y.2
 sm:x.sm=msr (ats e y.2)
 tag:x.tag=y.1
 ne:y.2≠[]
 lo:-1<=y.1
 hi:y.1+y.2.length<=2^40
def Its (w:World) (e:Enc):List Pc->Parts->Prop
 |[],[]=>True
 |x::l,y::M=>Bi5 w e x y/\Its w e l M
 |_,_=>False
def Bi5.upd {e:Enc}{x:Pc}{y:Int×Bs}(h:Bi5 w e x y) (u:Upd S w w') (hS:∀k,x.bytes.blk k->¬S k):Bi5 w' e x y:=⟨h.by_.upd u hS,h.sm,h.tag,h.ne,h.lo,h.hi⟩
def Its.upd {e:Enc}:∀{l:List Pc}{M:Parts},Its w e l M->Upd S w w'->(∀x∈l,∀k,x.bytes.blk k->¬S k)->Its w' e l M
 |[],[],_,_,_=>trivial
 |x::l,y::M,h,u,hS=>⟨h.1.upd u (hS x iM),h.2.upd u λz hz=>hS z (iO _ hz)⟩
def Its.ext {e:Enc}{l:List Pc}{M:Parts}(h:Its w e l M) (x:Ext w w'):Its w' e l M:=h.upd x λ_ _ _ _=>id
def Its.len {e:Enc}:∀{l:List Pc}{M:Parts},Its w e l M->l.length=M.length
 |[],[],_=>rfl
 |x::l,y::M,h=>by simp [h.2.len]
def Its.app {e:Enc}:∀{l:List Pc}{M:Parts}{l':List Pc}{M':Parts},Its w e l M->Its w e l' M'->Its w e (l++l') (M++M')
 |[],[],_,_,_,h=>h
 |x::l,y::M,_,_,h,h'=>⟨h.1,h.2.app h'⟩
def Its.take {e:Enc}:∀{l:List Pc}{M:Parts}(n:Nat),Its w e l M->Its w e (l.take n) (M.take n)
 |[],[],n,_=>by simp [Its]
 |x::l,y::M,0,_=>trivial
 |x::l,y::M,n+1,h=>⟨h.1,h.2.take n⟩
def Its.get {e:Enc}:∀{l:List Pc}{M:Parts}(n:Nat){x:Pc},Its w e l M->l[n]?=some x->∃y,M[n]?=some y/\Bi5 w e x y
 |x::l,y::M,0,z,h,hz=>⟨y,rfl,by cases hz;exact h.1⟩
 |x::l,y::M,n+1,z,h,hz=>h.2.get n (by simpa using hz)
def Its.ok {e:Enc}:∀{l:List Pc}{M:Parts},Its w e l M->Em l
 |[],[],_=>λ_ h=>by cases h
 |x::l,y::M,h=>Em.cons (by rw [h.1.sm];exact Xr (Jq e _)) h.2.ok
def Its.tot {e:Enc}:∀{l:List Pc}{M:Parts},Its w e l M->tot l=msr (aOf e M)
 |[],[],_=>rfl
 |x::l,y::M,h=>by
  show x.sm.add (Trx.tot l)=_
  rw [h.1.sm,h.2.tot,Np,Xt (Jq e _) (Tq e M)]
def Its.fine {e:Enc}{l:List Pc}{M:Parts}(h:Its w e l M) (hs:szs (aOf e M)<2^59):Fine l:=by
 refine ⟨h.ok,?_,by rw [h.tot,Wv (Tq e M)];omega⟩;have key:∀(l:List Pc) (M:Parts),Its w e l M->l.length<=szs (aOf e M):=by
  intro l
  induction l with
  |nil=>intro M _;simp
  |cons x l ih =>
   intro M h;cases M with
   |nil=>exact h.elim
   |cons y M=>have h1:=ih M h.2;have h2:=Me e y.2;have h3:=qF.2 h.1.ne;rw [Np,Jf,kE];omega
 have:=key l M h;omega
structure Txt (w:World) (p:Nat) (e:Enc) (lim na:Nat) (O:Nat->Prop) (M:Parts):Prop where
 ex:∃(t:Tr) (a:Sl) (ab:Bs),w.heap[p]?=some (.cells #[vI e.num,vI lim,.pointer t.ptr,.slice a.a a.len a.cap] 141 (0,0))/\t.In w/\Its w e t.items M/\Am w 0 a 5 1 (bv ab) /\
  (∀x∈t.items,∀k,x.bytes.blk k->a.blk k->top x.bytes<=top a)/\(∀x∈t.items,∀k,x.bytes.blk k->O k)/\(∀k,a.blk k->O k)/\a.len<=na
 lims:lim<=65536
 sz:szs (aOf e M)<=1048576
 op:O p
 own:∀k,O k->k<w.heap.size
variable {p:Nat}{e:Enc}{lim na:Nat}{O:Nat->Prop}{M:Parts}
def Txt.upd (h:Txt w p e lim na O M) (u:Upd S w w') (hS:∀k,O k->¬S k) (hN:Et w S 186):Txt w' p e lim na O M:=by obtain ⟨t,a,ab,h1,h2,h3,h4,h5,h6,h7,h8⟩:=h.ex;exact ⟨⟨t,a,ab,u.get h1 (hS p h.op),h2.ty u hN,h3.upd u λx hx k hk=>hS k (h6 x hx k hk),h4.upd u λk _ hk=>hS k (h7 k hk),h5,h6,h7,h8⟩,h.lims,h.sz,h.op,λk hk=>mP (h.own k hk) u.size⟩
def Txt.ext (h:Txt w p e lim na O M) (x:Ext w w'):Txt w' p e lim na O M:=h.upd x (λ_ _=>id) λ_ hk=>hk.elim
def Ac5:∀{l:As},Un l->l.length<=szs l
 |[],_=>qI _
 |x::r,h=>by rw [Qk,kE];have:=Ac5 h.tail;have:=h x iM;omega
def Txt.few (h:Txt w p e lim na O M):(aOf e M).length<=1048576:=mM (Ac5 (Tq e M)) h.sz
def Txt.Bj0 (h:Txt w p e lim na O M):∃t:Tr,t.In w/\Its w e t.items M/\Fine t.items/\(∀{w'}{K:Addr->Cells.T c139->Wp},Ext w w'->K (at0 p) (t.ptr,()) w'->nn (some (at0 p)) (λq=>lds c139 (q.add 2) (K q)) w')/\∀x∈t.items,∀k,x.bytes.blk k->O k:=by
 obtain ⟨t,a,ab,h1,h2,h3,_,_,h6,_⟩:=h.ex
 refine ⟨t,h2,h3,h3.fine (by have:=h.sz;have:=h.lims;omega),λ{w'} {K} x hK=>Ad ?_,h6⟩
 rw [addr_add]
 refine Dp (x.ext_get h1) (x:=(t.ptr,())) (λi v hv=>?_) hK
 match i,hv with
 |0,hv=>exact hv
 |i+1,hv=>cases hv
def Txt.tree (h:Txt w p e lim na O M):∃t:Tr,t.In w/\Its w e t.items M/\Fine t.items/\∀{w'}{K:Addr->Cells.T c139->Wp},Ext w w'->K (at0 p) (t.ptr,()) w'->nn (some (at0 p)) (λq=>lds c139 (q.add 2) (K q)) w':=by obtain ⟨t,h1,h2,h3,h4,_⟩:=h.Bj0;exact ⟨t,h1,h2,h3,h4⟩
def Txt.enc (h:Txt w p e lim na O M){K:Addr->Int->Wp}(hK:K (at0 p) e.num w):nn (some (at0 p)) (λq=>ld (.int .i64) q (K q)) w:=by obtain ⟨t,a,ab,h1,_⟩:=h.ex;exact Ad (Af h1 (x:=e.num) rfl hK)
def Af0 (h:Txt w p e lim na O M){K:Int->Wp}(hK:iF w (K (((aOf e M).length:Nat):Int))) :
  Aa prog 47 #[dU p] rI K w:=by refine j47 ?_;unfold F47;obtain ⟨t,ht,hi,hf,rd⟩:=h.tree;refine rd (Ext.refl w) (Aj1 ht λw1 e1=>?_);have:=hK w1 e1;rw [←Zr (Tq e M),←hi.tot] at this;exact this
def Bc7 (h:Txt w p e lim na O M){K:Int->Wp}(hK:iF w (K ((szs (aOf e M):Nat):Int))) :
  Aa prog 69 #[dU p] rI K w:=by refine j69 ?_;unfold F69;obtain ⟨t,ht,hi,hf,rd⟩:=h.tree;refine rd (Ext.refl w) (Aj1 ht λw1 e1=>?_);have:=hK w1 e1;rw [←Wv (Tq e M),←hi.tot] at this;exact this
def Cz9 (e:Enc) (M:Parts) (at_ i n:Nat):Prop:=(at_=0/\i=0/\n=0)\/∃x,M[i]?=some x/\1<=n/\n<=(ats e x.2).length/\at_=(aOf e (M.take i)).length+n
def Bj5 (e:Enc):∀(M:Parts) (at_:Nat),1<=at_->at_<=(aOf e M).length->∃i n,i<M.length/\Cz9 e M at_ i n/\1<=n/\at_=(aOf e (M.take i)).length+n/\at_<=(aOf e (M.take (i+1))).length/\∀j,j<=i->(aOf e (M.take j)).length<at_
 |[],at_,h1,h2=>by simp [aOf] at h2;omega
 | x::M,at_,h1,h2=>by
  by_cases hle:at_<=(ats e x.2).length
  ·exact ⟨0,at_,by simp,.inr ⟨x,rfl,h1,hle,by simp [aOf]⟩,h1,by simp [aOf],by simpa [aOf] using hle,λj hj=>by
    have:j=0:=by omega
    subst this;simp [aOf];omega⟩
  ·rw [Np,oC] at h2
   obtain ⟨i,n,hi,hs,hn,he,hle2,hlow⟩:=Bj5 e M (at_-(ats e x.2).length) (by omega) (by omega)
   refine ⟨i+1,n,by simpa using hi,?_,hn,?_,?_,?_⟩
   ·rcases hs with ⟨h,_⟩|⟨y,hy,g1,g2,g3⟩
    ·omega
    ·exact .inr ⟨y,by simpa using hy,g1,g2,by rw [qC,Np,oC];omega⟩
   ·rw [qC,Np,oC];omega
   ·rw [qC,Np,oC];omega
   ·intro j hj
    cases j with
    |zero=>simp [aOf];omega
    |succ j=>rw [qC,Np,oC];have:=hlow j (by omega);omega
def Bc0 {at_:Int}(h:Txt w p e lim na O M) (hle:at_<=((aOf e M).length:Int)){K:Int×Int×Unit->Wp}
  (hK:∀(i n:Nat) w',Cz9 e M at_.toNat i n->i<=M.length->Ext w w'->K ((i:Int),(n:Int),()) w'):Aa prog 120 #[dU p,vI at_] bJ K w:=by
 refine j120 ?_;unfold F120;have few:=h.few;have lim:=h.lims;obtain ⟨t,ht,hi,hf,rd⟩:=h.tree;refine Ac (λh=>hK 0 0 w (.inl ⟨?_,rfl,rfl⟩) (qI _) (Ext.refl w)) (λh=>?_);{simp only [pF] at h;omega};simp only [oK] at h;obtain ⟨m,rfl⟩:∃m:Nat,at_=(m:Int):=⟨at_.toNat,by omega⟩;obtain ⟨i,n,hil,hs,hn,he,hle2,hlow⟩:=Bj5 e M m (by omega) (by omega);have hlen:=hi.len;have kk:∀j,keyOf 0 (tot (t.items.take j))=(aOf e (M.take j)).length:=λj=>by
  have:=(hi.take j).tot
  show (tot (t.items.take j)).atoms=_
  rw [this,Zr (Tq e _)]
 (have hfind:X9 0 m t.items=i+1:=Ay4 (by omega) (by rw [kk];exact hle2) λj hj=>by rw [kk];exact hlow j (by omega));refine rd (Ext.refl w) (Jy (k:=0) (n:=m) (by decide) (by omega) ht hf λw1 e1=>?_);have few2:=hf.few;have ew:W64 (((i+1:Nat):Int)-1)=(i:Int):=iD (by omega);rw [hfind,ew];refine rd e1 (Bo5 (ht.ext e1) hf (by omega) λw2 e2=>?_);(have ea:((smT (tot (t.items.take i))).1)=(((aOf e (M.take i)).length:Nat):Int):=by rw [←kk i];rfl);rw [ea];have ew2:W64 ((m:Int)-(((aOf e (M.take i)).length:Nat):Int))=(n:Int):=iD (by omega);rw [ew2];exact hK i n w2 (by simpa using hs) (by omega) (e1.trans e2)
end
section
variable {w w':World}{S:Nat->Prop}{p:Nat}{e:Enc}{lim na:Nat}{O:Nat->Prop}{M:Parts}
def Txt.stay (h:Txt w p e lim na O M) (u:Upd S w w') (hS:∀k,O k->¬S k) (s:Dw w w'):Txt w' p e lim na O M:=by obtain ⟨t,a,ab,h1,h2,h3,h4,h5,h6,h7,h8⟩:=h.ex;exact ⟨⟨t,a,ab,u.get h1 (hS p h.op),h2.stay s,h3.upd u λx hx k hk=>hS k (h6 x hx k hk),h4.upd u λk _ hk=>hS k (h7 k hk),h5,h6,h7,h8⟩,h.lims,h.sz,h.op,λk hk=>mP (h.own k hk) u.size⟩
def Ac4:Int->As->xP
 |_,[]=>[]
 |t,x::r=>t::Ac4 (Ja t x.2) r
def tOf (e:Enc) (M:Parts):xP:=M.flatMap λx=>Ac4 x.1 (ats e x.2)
def Zi:∀(t:Int) (l:As),(Ac4 t l).length=l.length
 |_,[]=>rfl
 |t,x::r=>lW (·+1) (Zi _ r)
def Av0 (t:Int) (n m:Nat):Ja (Ja t n) m=Ja t (n+m):=by unfold Ja;by_cases h:0<=t;{simp only [iK h];rw [iK (by omega)];omega};{simp only [iP h]}
def Ap3 (t:Int):Ja t 0=t:=by unfold Ja;split<;>omega
def Aj6:∀(t:Int) (l:As) (q:Nat),q<l.length->(Ac4 t l)[q]?=some (Ja t (szs (l.take q)))
 |_,[],q,h=>absurd h (by simp)
 |t,x::r,0,_=>by show some t=_;rw [qE,Bj1,Ap3]
 |t,x::r,q+1,h=>by
  show (Ac4 (Ja t x.2) r)[q]?=_
  rw [Aj6 _ r q (by simpa using h),qC,Qk,Av0]
def Yf (e:Enc):∀M:Parts,(tOf e M).length=(aOf e M).length
 |[]=>rfl
 |x::M=>by
  show (Ac4 x.1 (ats e x.2)++tOf e M).length=(ats e x.2++aOf e M).length
  rw [oC,oC,Zi,Yf e M]
def Cg9 (e:Enc) (M N:Parts):tOf e (M++N)=tOf e M++tOf e N:=by simp [tOf]
def Cu9 {e:Enc}{M:Parts}{i q:Nat}{y:Int×Bs}(hy:M[i]?=some y) (hq:q<(ats e y.2).length):(aOf e M)[(aOf e (M.take i)).length+q]?=(ats e y.2)[q]?/\(tOf e M)[(aOf e (M.take i)).length+q]?=some (Ja y.1 (szs ((ats e y.2).take q))):=by
 have hil:=(lY.1 hy).1;(have hx':M[i]=y:=by rw [oP hil] at hy;exact sW hy);have hd:M=M.take i++y::M.drop (i+1):=by
  have:=tV hil
  rw [hx'] at this
  rw [←this,vG]
 have e1:aOf e M=aOf e (M.take i)++(ats e y.2++aOf e (M.drop (i+1))):=by
  conv=>lhs;rw [hd]
  rw [Zd,Np]
 have e2:tOf e M=tOf e (M.take i)++(Ac4 y.1 (ats e y.2)++tOf e (M.drop (i+1))):=by
  conv=>lhs;rw [hd]
  rw [Cg9];rfl
 constructor;{rw [e1,nC (by omega),vT,mZ hq]};{rw [e2,←Yf,nC (by omega),vT,mZ (by rw [Zi];exact hq),Aj6 _ _ _ hq]}
def _root_.Go.Vx.Upd.En {b k:Nat}{o:Obj}(u:Upd (λk=>k=b) w w') (h:w.heap[k]?=some o) (hn:k≠b):w'.heap[k]?=some o:=u.get h hn
def Oo {W:World}{b:Nat}{c:Array Value}{t:TypeId}(h:W.heap[b]?=some (.cells c t (0,0))) (hp:Ck4 (.cells c t (0,0))=false){W':World}(u:Upd (λk=>k=b) W W'):Dw W W' :=
 Dw.upd u λk hk o ho=>by subst hk;rw [h] at ho;cases ho;exact hp
abbrev Dr3 (w:World) (e:Enc) (M:Parts) (O U:Nat->Prop) (from_ cnt:Nat) (f:Value) (Inv:Nat->Nat->Wp):Prop :=
 ∀(N j:Nat) (a:Int) (tag:Int) (W:World) (K:Unit->Wp),w.heap.size<=N->N<=W.heap.size->j<cnt->(atoms (aOf e M))[from_+j]?=some a->(tOf e M)[from_+j]?=some tag->Inv N j W ->
  (∀W',Dw W W'->Upd (λk=>U k\/N<=k) W W'->Inv N (j+1) W'->K () W') ->
  Cj prog (do let d ←Deferred.ofValue f #[vI a,vI tag];invoke d.target d.args:Sem Next) bH K W
structure WAt (w:World) (p:Nat) (e:Enc) (lim na:Nat) (O:Nat->Prop) (M:Parts) (its:List Pc) (b1 b2 b7 b8 N n cnt:Nat) (f:Value) (Inv:Nat->Nat->Wp) (c:Nat) (W:World):Prop where
 inv:Inv N (c-n) W
 lt:c-n<cnt
 txt:Txt W p e lim na O M
 its:Its W e its M
 size:N<=W.heap.size
 h1:W.heap[b1]?=some (.cells #[dU p] 51 (0,0))
 h2:W.heap[b2]?=some (.cells #[f] 313 (0,0))
 h7:W.heap[b7]?=some (.cells #[vI ((n-c:Nat):Int)] 3 (0,0))
 h8:W.heap[b8]?=some (.cells #[vI ((cnt-(c-n):Nat):Int)] 3 (0,0))
def Bb7 {from_ to_:Int} {f:Value} (h:Txt w p e lim na O M) (hf1:Eb f=true) (U:Nat->Prop) (hU:∀k,U k->k<w.heap.size/\¬O k) (Inv:Nat->Nat->Wp)
  (h0:∀N W,Ext w W->w.heap.size<=N->N<=W.heap.size->Inv N 0 W)
  (hs:∀(N j:Nat) (W W':World) (S:Nat->Prop),w.heap.size<=N->N<=W.heap.size->Inv N j W->Upd S W W'->(∀k,S k->w.heap.size<=k/\k<N)->Inv N j W')
  (hsee:Dr3 w e M O U from_.toNat (min to_.toNat (aOf e M).length-from_.toNat) f Inv) {K:Unit->Wp}
  (hK:∀N W',w.heap.size<=N->N<=W'.heap.size->Inv N (min to_.toNat (aOf e M).length-from_.toNat) W'->K () W') :
  Aa prog 214 #[dU p,vI from_,vI to_,f] bH K w:=by
 refine Dd6 ?_;unfold F214;have few:=h.few;have lims:=h.lims;have hsz:=h.sz;obtain ⟨t,ht,hi,hf,rd,hOt⟩:=h.Bj0;have il:=hi.len;have fl:=hf.few;refine (St.start w).Ak λb1 w1 S1 e1=>Ea (by show (Eb f&&true)=true;rw [hf1];rfl) (S1.Ak λb2 w2 S2 e2=>S2.ld 1 rfl (x:=some (at0 p)) rfl (Af0 (h.ext S2.upd) λw3 e3=>?_));have S3:=S2.ext e3;have ef:(if (0:Int)>from_ then 0 else from_)=((from_.toNat:Nat):Int):=(by split<;>omega);rw [ef];generalize hcnt:min to_.toNat (aOf e M).length-from_.toNat=cnt at *;generalize hfr:from_.toNat=fr at *;refine Ac (λhc=>?_) (λhc=>?_)
 ·have:cnt=0:=by
   simp only [pF,sG] at hc
   split at hc<;>omega
  subst this;exact hK _ w3 (mJ _) S3.upd.size (h0 _ w3 S3.upd (mJ _) S3.upd.size)
 have hto:(if ((aOf e M).length:Int)<to_ then ((aOf e M).length:Int) else to_)=((fr+cnt:Nat):Int):=by
  simp only [oK,sG] at hc
  split at hc
  ·rename_i hh;rw [iK hh];omega
  ·rename_i hh;rw [iP hh];omega
 rw [hto] at hc ⊢;simp only [oK,sG] at hc;have hcl:fr+cnt<=(aOf e M).length:=(by omega);refine S3.ld 1 rfl (x:=some (at0 p)) rfl (Bc0 (h.ext S3.upd) (by omega) λi n w4 hsp hil e4=>?_);rw [kH] at hsp;have S4:=S3.ext e4;refine S4.Ak λb7 w5 S5 e5=>S5.stC 0 rfl (by decide) λw6 S6 u6=>S6.Ak λb8 w7 S7 e7=>?_;have ew:W64 (((fr+cnt:Nat):Int)-((fr:Nat):Int))=(cnt:Int):=iD (by omega);rw [ew];refine S7.stC 0 rfl (by decide) λw8 S8 u8=>S8.ld 3 rfl (x:=some (at0 p)) rfl (rd S8.upd ?_);refine j70 (a0:=(t.ptr,())) ?_;unfold F70;refine S8.Ak λc1 w9 S9 e9=>S9.Ak λc2 w10 S10 e10=>?_;have hx10:=S10.upd;have hsz10:=hx10.size;have o7:=S10.ge 3 rfl;have o8:=S10.ge 2 rfl;have o7l:=lt_of_heap (S10.at_ 3 rfl);have o8l:=lt_of_heap (S10.at_ 2 rfl);have o1l:=lt_of_heap (S10.at_ 5 rfl);have o2l:=lt_of_heap (S10.at_ 4 rfl);have o1:=S10.ge 5 rfl;have o2:=S10.ge 4 rfl;have nd:[c2,c1,b8,b7,b2,b1].Nodup:=S10.nd;simp only [jT,iL,vC,vU,uY] at nd;let cj:Nat->Nat:=λj=>(aOf e ((M.drop i).take j)).length;have hbase:fr=(aOf e (M.take i)).length+n:=by
  rcases hsp with ⟨h1,h2,h3⟩|⟨x,hx,g1,g2,g3⟩
  ·subst h2;subst h3;simpa [aOf] using h1
  ·exact g3
 have hcj:∀j,(aOf e (M.take (i+j))).length=(aOf e (M.take i)).length+cj j:=λj=>by
  show _=_+(aOf e ((M.drop i).take j)).length
  rw [←oC,←Zd,←vV]
 have hn:n<2^30:=(by omega);have hcnt30:cnt<2^30:=(by omega);let N:=w10.heap.size+2;let At:=WAt w p e lim na O M t.items b1 b2 b7 b8 N n cnt f Inv;have hO:∀k,O k->k<w.heap.size:=h.own;have atE:∀{c W W'},At c W->Ext W W'->At c W':=λ{c W W'} a x=>⟨hs N _ W W' _ (by omega) a.size a.inv x (λ_ h=>h.elim),a.lt,a.txt.ext x,a.its.ext x,mM a.size x.size,x.ext_get a.h1,x.ext_get a.h2,x.ext_get a.h7,x.ext_get a.h8⟩;have atU:∀{c W W'} (k0:Nat),At c W->w.heap.size<=k0->k0<N->k0≠b1->k0≠b2->k0≠b7->k0≠b8->Upd (λk=>k=k0) W W'->Dw W W'->At c W':=by
  intro c W W' k0 a g1 g2 n1 n2 n7 n8 u s
  exact ⟨hs N _ W W' _ (by omega) a.size a.inv u (λk hk=>by subst hk;exact ⟨g1,g2⟩),a.lt,a.txt.stay u (λk hk e=>by subst e;have:=hO _ hk;omega) s,a.its.upd u (λx hx k hk e=>by subst e;have:=hO _ (hOt x hx _ hk);omega),
   mM a.size u.size,u.get a.h1 (λh=>n1 h.symm),u.get a.h2 (λh=>n2 h.symm),u.get a.h7 (λh=>n7 h.symm),u.get a.h8 (λh=>n8 h.symm)⟩
 refine Vl (n:=i) (λ_=>rfl) (S10.at_ 1 rfl) (S10.at_ 0 rfl) (ht.ext hx10) hf (by omega) (λj W=>At (cj j) W) (λec W=>ec=.ret/\Inv N cnt W/\N<=W.heap.size) ?_ (λj W W'=>atE) ?_ ?_ ?_;{intro W x hW;have e0:cj 0=0:=rfl;refine ⟨?_,by rw [e0];omega,h.ext (hx10.trans x),hi.ext (hx10.trans x),hW,x.ext_get (S10.at_ 5 rfl),x.ext_get (S10.at_ 4 rfl),?_,?_⟩;{rw [e0,Nat.zero_sub];exact h0 N W (hx10.trans x) (by omega) hW};{rw [e0];exact x.ext_get (S10.at_ 3 rfl)};{rw [e0,Nat.zero_sub];exact x.ext_get (S10.at_ 2 rfl)}}
 ·intro rc j x R W hj ha hr hRt hRf;(have hxi:t.items[i+j]?=some x:=by rw [nK] at hj;exact hj);obtain ⟨y,hy,hp⟩:=hi.get (i+j) hxi;have hcn:cj (j+1)=cj j+(ats e y.2).length:=by
   have h1:=hcj (j+1)
   rw [show i+(j+1)=(i+j)+1 by omega] at h1
   have h2:M.take (i+j+1)=M.take (i+j)++[y]:=by rw [sO,hy];rfl
   rw [h2,Zd,oC,hcj j] at h1
   have h3:(aOf e [y]).length=(ats e y.2).length:=by simp [aOf]
   omega
  have hyb:(aOf e (M.take (i+j))).length=(aOf e (M.take i)).length+cj j:=hcj j;have hyl:(aOf e (M.take i)).length+cj j+(ats e y.2).length<=(aOf e M).length/\y.2.length<=1048576:=by
   have h1:=hcj (j+1)
   have h2:=lW List.length (Zd e (M.take (i+(j+1))) (M.drop (i+(j+1))))
   rw [vG,oC] at h2
   refine ⟨by omega,?_⟩
   have h3:y∈M:=lU hy
   have h4:∀(M:Parts),y∈M->y.2.length<=szs (aOf e M):=by
    intro M
    induction M with
    |nil=>intro h;cases h
    |cons z M ih =>
     intro h
     rw [Np,Jf,Me]
     rcases iL.1 h with rfl|h
     ·omega
     ·have:=ih h;omega
   have:=h4 M h3
   omega
  have hlo:=hp.lo;have hhi:=hp.hi;refine (St.start W).Iz rfl rfl rfl λb18 W1 T1 x1=>⟨x1.ext_get hr,?_⟩;have o18:=T1.ge 0 rfl;have a1:=atE ha x1;have r1:=x1.ext_get hr;have NW:N<=W.heap.size:=ha.size;(have lN:w10.heap.size+1<N:=by show _<w10.heap.size+2;omega);have NN:w.heap.size<=N:=(by omega);have b7N:b7<N:=(by omega);have b8N:b8<N:=(by omega);obtain ⟨u2,r2⟩:=Dv (o':=.loop (rc .busy none)) r1;(have s2:Dw W1 (W1.putObj (w10.heap.size+1) (.loop (rc .busy none))):=Dw.upd u2 λk hk o ho=>by subst hk;rw [r1] at ho;cases ho;rfl);have a2:=atU (w10.heap.size+1) a1 (by omega) lN (by omega) (by omega) (by omega) (by omega) u2 s2;have b2':=u2.En (T1.at_ 0 rfl) (by omega);have s02:=(Dw.ext x1).trans s2;generalize W1.putObj (w10.heap.size+1) (.loop (rc .busy none))=W2 at *;let Bd:Nat->World->Prop:=λq W'=>At (cj j+q) W'/\Dw W W'/\W'.heap[w10.heap.size+1]?=some (.loop (rc .busy none))/\W'.heap[b18]?=some (.cells (Cells.vals c146 (pcT x)).toArray 146 (0,0));have bdE:∀{q W' W''},Bd q W'->Ext W' W''->Bd q W'':=λ{q W' W''} b x=>⟨atE b.1 x,b.2.1.trans (Dw.ext x),x.ext_get b.2.2.1,x.ext_get b.2.2.2⟩;refine Bo (λs W'=>∃q,q<=(ats e y.2).length/\s=(((szs ((ats e y.2).take q):Nat):Int),())/\Bd q W') (λs _=>((y.2.length:Int)-s.1).toNat) ⟨0,qI _,rfl,a2,s02,r2,b2'⟩ ?_;rintro _ W3 ⟨q,hq,rfl,b3⟩;have hbl:=hp.by_.len;refine Af b3.2.2.2 (x:=x.bytes) rfl (Ac (λhlt=>?_) (λhge=>?_))
  ·simp only [pF] at hlt;obtain ⟨a,m,hqa,hnx,htk,hss,hm1,hsl⟩:=Yl (e:=e) (l:=y.2) (j:=q) (by omega);have hql:q<(ats e y.2).length:=(lY.1 hqa).1;refine Az λW4 x4 _=>?_;have b4:=bdE b3 x4;have hsy:szs ((ats e y.2).take q)<=y.2.length:=Ae0 q;have hB4:By W4 x.bytes y.2:=by
    obtain ⟨y',hy',hp'⟩:=b4.1.its.get (i+j) hxi
    rw [hy] at hy';cases hy'
    exact hp'.by_
   refine Af b4.1.h1 (x:=some (at0 p)) rfl (b4.1.txt.enc (Af b4.2.2.2 (x:=x.bytes) rfl (Zq hB4 (by omega) λW5 x5=>?_)));rw [hnx];have b5:=bdE b4 x5;have ewa:W64 (((szs ((ats e y.2).take q):Nat):Int)+(m:Int))=((szs ((ats e y.2).take (q+1)):Nat):Int):=by
    rw [iE (by omega)];omega
   refine Ai (λ_ W'=>Bd (q+1) W') ?_ ?_
   ·refine Af b5.1.h7 (x:=((n-(cj j+q):Nat):Int)) rfl (Ac (λhg=>?_) (λhg=>?_));{simp only [pF,sH] at hg;refine Af b5.1.h7 (x:=((n-(cj j+q):Nat):Int)) rfl (Dj b5.1.h7 Nat.one_pos λW6 u6 g6 _=>?_);have s6:Dw W5 W6:=Oo b5.1.h7 rfl u6;have e6:W64 (((n-(cj j+q):Nat):Int)-1)=((n-(cj j+(q+1)):Nat):Int):=iD (by omega);rw [e6] at g6;have a5:=b5.1;have ec:cj j+q-n=cj j+(q+1)-n:=(by omega);refine ⟨⟨?_,by have:=a5.lt;omega,a5.txt.stay u6 (λk hk e=>by subst e;have:=hO _ hk;omega) s6,a5.its.upd u6 (λx hx k hk e=>by subst e;have:=hO _ (hOt x hx _ hk);omega),mM a5.size u6.size,u6.En a5.h1 (by omega),u6.En a5.h2 (by omega),g6,?_⟩,b5.2.1.trans s6,u6.En b5.2.2.1 (by omega),u6.En b5.2.2.2 (by omega)⟩;{rw [←ec];exact hs N _ W5 W6 _ NN a5.size a5.inv u6 (λk hk=>by subst hk;exact ⟨o7,b7N⟩)};{rw [←ec];exact u6.En a5.h8 (by omega)}}
    ·simp only [oK,sH] at hg;have hnc:n<=cj j+q:=(by omega);have hlt5:=b5.1.lt;obtain ⟨ga,gt⟩:=Cu9 (e:=e) hy hql;have eix:(aOf e (M.take (i+j))).length+q=fr+(cj j+q-n):=(by omega);rw [eix] at ga gt;have ga':(atoms (aOf e M))[fr+(cj j+q-n)]?=some a:=by
      show ((aOf e M).map (·.1))[_]?=_
      rw [nP,ga,hqa];rfl
     let Td:World->Prop:=λW'=>Inv N (cj j+q-n+1) W'/\Txt W' p e lim na O M/\Its W' e t.items M/\N<=W'.heap.size/\W'.heap[b1]?=some (.cells #[dU p] 51 (0,0))/\W'.heap[b2]?=some (.cells #[f] 313 (0,0)) /\
      W'.heap[b7]?=some (.cells #[vI ((n-(cj j+q):Nat):Int)] 3 (0,0))/\W'.heap[b8]?=some (.cells #[vI ((cnt-(cj j+q-n):Nat):Int)] 3 (0,0)) /\
      Dw W W'/\W'.heap[w10.heap.size+1]?=some (.loop (rc .busy none))/\W'.heap[b18]?=some (.cells (Cells.vals c146 (pcT x)).toArray 146 (0,0))
     have told:∀W',Dw W5 W'->Upd (λk=>U k\/N<=k) W5 W'->Inv N (cj j+q-n+1) W'->Td W':=by
      intro W' s u iv
      have own:∀k,O k->¬(U k\/N<=k):=λk hk hh=>hh.elim (λhu=>(hU k hu).2 hk) (λhn=>by have:=hO k hk;omega)
      have mine:∀k,w.heap.size<=k->k<N->¬(U k\/N<=k):=λk g1 g2 hh=>hh.elim (λhu=>by have:=(hU k hu).1;omega) (λhn=>by omega)
      have a5:=b5.1
      exact ⟨iv,a5.txt.stay u own s,a5.its.upd u (λx hx k hk=>own k (hOt x hx k hk)),mM a5.size u.size,u.get a5.h1 (mine _ o1 (by omega)),u.get a5.h2 (mine _ o2 (by omega)),u.get a5.h7 (mine _ o7 b7N),u.get a5.h8 (mine _ o8 b8N),b5.2.1.trans s,u.get b5.2.2.1 (mine _ (by omega) lN),s.at_ _ _ b5.2.2.2 rfl⟩
     refine Ai (λ_ W'=>Td W') ?_ ?_
     ·refine Af b5.2.2.2 (x:=x.tag) rfl (Ac (λhneg=>?_) (λhneg=>?_))
      ·simp only [pF] at hneg;have htag:Ja y.1 (szs ((ats e y.2).take q))=-1:=by
        have:=hp.tag
        unfold Ja;rw [iP (by omega)];omega
       rw [htag] at gt;exact Af b5.1.h2 (x:=f) rfl (hsee N (cj j+q-n) a (-1) W5 _ NN b5.1.size hlt5 ga' gt b5.1.inv told)
      ·simp only [oK] at hneg;have htag:Ja y.1 (szs ((ats e y.2).take q))=x.tag+((szs ((ats e y.2).take q):Nat):Int):=by
        have:=hp.tag
        unfold Ja;rw [iK (by omega)];omega
       rw [htag] at gt;refine Af b5.1.h2 (x:=f) rfl (Af b5.2.2.2 (x:=x.tag) rfl ?_);rw [wrap64 (by omega) (by have:=hp.tag;omega)];exact hsee N (cj j+q-n) a _ W5 _ NN b5.1.size hlt5 ga' gt b5.1.inv told
     ·rintro _ W6 ⟨iv,tx,is,sz,g1,g2,g7,g8,st,gl,g18⟩;refine Af g8 (x:=((cnt-(cj j+q-n):Nat):Int)) rfl (Dj g8 Nat.one_pos λW7 u7 k7 z7=>?_);have s7:Dw W6 W7:=Oo g8 rfl u7;have e7:W64 (((cnt-(cj j+q-n):Nat):Int)-1)=((cnt-(cj j+(q+1)-n):Nat):Int):=iD (by omega);rw [e7] at k7;have ec:cj j+q-n+1=cj j+(q+1)-n:=(by omega);have iv7:Inv N (cj j+(q+1)-n) W7:=by
       rw [←ec];exact hs N _ W6 W7 _ NN sz iv u7 (λk hk=>by subst hk;exact ⟨o8,b8N⟩)
      have en7:n-(cj j+q)=n-(cj j+(q+1)):=(by omega);rw [en7] at g7;have st7:=st.trans s7;have gl7:=u7.En gl (by omega);refine Af k7 (x:=((cnt-(cj j+(q+1)-n):Nat):Int)) rfl (Ac (λhz=>?_) (λhz=>?_));{simp only [pX] at hz;obtain ⟨u8,r8⟩:=Dv (o':=.loop (rc .done (some .ret))) gl7;refine ⟨⟨_,_,gl7⟩,hRf .ret _ (st7.trans (Dw.upd u8 λk hk o ho=>by subst hk;rw [gl7] at ho;cases ho;rfl)) r8 ⟨rfl,?_,?_⟩⟩;{have:cnt=cj j+(q+1)-n:=(by omega);(conv=>lhs;rw [this]);exact hs N _ W7 _ _ NN (mM sz u7.size) iv7 u8 (λk hk=>by subst hk;exact ⟨by omega,lN⟩)};{exact mM (mM sz u7.size) u8.size}};{simp only [rF] at hz;exact ⟨⟨iv7,by omega,tx.stay u7 (λk hk e=>by subst e;have:=hO _ hk;omega) s7,is.upd u7 (λx hx k hk e=>by subst e;have:=hO _ (hOt x hx _ hk);omega),mM sz u7.size,u7.En g1 (by omega),u7.En g2 (by omega),u7.En g7 (by omega),k7⟩,st7,gl7,u7.En g18 (by omega)⟩}
   {intro _ W6 b6;refine ⟨⟨q+1,by omega,by dsimp only;rw [ewa],b6⟩,?_⟩;dsimp only;rw [ewa];omega}
  ·simp only [oK] at hge;have hqe:=Aa3 (e:=e) (l:=y.2) (j:=q) (by omega);have hql:q=(ats e y.2).length:=by
    have:=lW List.length hqe
    rw [nG] at this;omega
   obtain ⟨u8,r8⟩:=Dv (o':=.loop (rc .ready none)) b3.2.2.1;(have s8:Dw W3 (W3.putObj (w10.heap.size+1) (.loop (rc .ready none))):=Dw.upd u8 λk hk o ho=>by subst hk;rw [b3.2.2.1] at ho;cases ho;rfl);refine ⟨⟨_,_,b3.2.2.1⟩,hRt _ (b3.2.1.trans s8) ?_ r8⟩;rw [hcn,←hql];exact atU (w10.heap.size+1) b3.1 (by omega) lN (by omega) (by omega) (by omega) (by omega) u8 s8
 {intro W W' ha _ _;exfalso;have h1:=hcj (t.items.length-i);have h2:M.take (i+(t.items.length-i))=M:=sQ (by omega);rw [h2] at h1;have:=ha.lt;omega};{rintro ec W W' ⟨rfl,iv,sz⟩ hD u;obtain ⟨u2,_⟩:=Dv (o':=.deferred none) hD;refine ⟨hD,hK N _ (by omega) (mM (mM sz u.size) u2.size) ?_⟩;have i1:=hs N _ W W' _ (by omega) sz iv u (λk hk=>by subst hk;exact ⟨by omega,by show _<w10.heap.size+2;omega⟩);exact hs N _ W' _ _ (by omega) (mM sz u.size) i1 u2 (λk hk=>by subst hk;exact ⟨by omega,by show _<w10.heap.size+2;omega⟩)}
end
section
variable {w w':World}{S:Nat->Prop}{p:Nat}{e:Enc}{lim na:Nat}{O:Nat->Prop}{M:Parts}
abbrev iv (l:xP):List Value:=l.map (Value.int .i64)
def sub (A:xP) (from_ to_:Int):xP:=(A.drop from_.toNat).take (to_.toNat-from_.toNat)
def Bw9 (A:xP) (from_ to_:Int):sub A from_ to_=(A.drop from_.toNat).take (min to_.toNat A.length-from_.toNat):=by unfold sub;rw [vO,nH];omega
def Bm1:Fh prog 70 3 1 8:=Fh.of (z:=vI 0) C70 C3 rfl rfl rfl (by decide)
def Cc6 {b:Nat}{a:Int}(h:w.heap[b]?=some (.cells #[vI a] 3 (0,0))):SlX w ⟨some (at0 b),1,1⟩ 1 [vI a]:=(Dx.Jk h (n:=1) (sz:=1) rfl).x
end
end
end Go.Proofs.YtmooldhpiopcgaaGreatDoor
