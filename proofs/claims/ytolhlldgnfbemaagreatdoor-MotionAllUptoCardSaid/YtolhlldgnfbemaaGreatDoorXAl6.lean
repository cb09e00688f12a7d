/- YtolhlldgnfbemaaGreatDoorXAl6: parts of the proof, put together by program. -/
import Derived.Test.YtolhlldgnfbemaaGreatDoorXAl5
set_option linter.unusedVariables false
set_option linter.defProp false
set_option linter.unusedSimpArgs false
set_option linter.unusedSectionVars false
noncomputable section
set_option maxRecDepth 100000
namespace Go.Proofs.YtolhlldgnfbemaaGreatDoor
section
open Trx Gly Clu Lns Obx
namespace Mot
def Aq (A:List Int) (i:Nat):Ln:=(Oy A i).getD ⟨0,0,0,0⟩
def Ag (A:List Int) (i:Nat):List Cel:=Bx1 A (Aq A i)
def inT (A:List Int) (x:Int):Nat:=(min (max x 0) (A.length:Int)).toNat
def ofI (A:List Int) (x:Int):Nat:=nb A (inT A x)
def Cc (A:List Int) (x:Int) (tail:Bool):Nat:=if tail then ofI A x else min (ofI A x) (lnN A-1)
def Aw (A:List Int) (i:Nat) (c:Int):Nat:=if c.toNat<(Ag A i).length then frm (Ag A i) c.toNat else (Aq A i).to_
def Ak (A:List Int) (x:Int) (past:Bool):Nat :=
 if (Aq A (Cc A x past)).to_<=inT A x then (if past then (Aq A (Cc A x past)).to_ else Aw A (Cc A x past) (((Ag A (Cc A x past)).length:Int)-1))
 else Aw A (Cc A x past) ((Dj (Ag A (Cc A x past)) (inT A x:Int):Nat):Int)
def Eo (A:List Int) (x:Int):Nat:=(max (min x ((lnN A:Int)-1)) 0).toNat
def Yd (A:List Int) (line col:Int) (past:Bool):Nat:=Aw A (Eo A line) (if ((Ag A (Eo A line)).length:Int)<=col/\past=false then ((Ag A (Eo A line)).length:Int)-1 else col)
def Xh (A:List Int) (x:Int):Nat:=Dj (Ag A (ofI A x)) x
def kOf (count:Int):Nat:=if 0<count then (min count 9999).toNat else 1
abbrev Ld:=(Int×Int×Int)×Int
def Bz (A:List Int) (x:Nat) (kind:Int):Ld:=(((x:Int),kind,(Xh A (x:Int):Int)),0)
def noP (e:Int):Ld:=((0,0,0),e)
def Hf (C:List Cel) (a:Int) (L:List Nat) (k:Nat):Option Nat:=(L.filter λj=>decide (C[j]?.map (·.atom)=some a))[k-1]?
def upL (n c:Nat):List Nat:=List.range' (c+1) (n-(c+1))
def Ob (c:Nat):List Nat:=(List.range c).reverse
def Pv (A:List Int) (i:Nat):Nat:=if (Ag A i).findIdx (λc=>c.kind !=0)<(Ag A i).length then (Ag A i).findIdx (λc=>c.kind !=0) else (Ag A i).length-1
def Ez (A:List Int) (i:Nat):Bool:=(Ag A i).all λc=>c.kind==0
def Dh (A:List Int) (x kind count arg:Int) (past:Bool):Ld :=
 let s:=Ak A x past
 let i:=Cc A (s:Int) past
 let n:=(Ag A i).length
 let c:=Dj (Ag A i) (s:Int)
 let most:=if past then n else n-1
 let k:=kOf count
 if kind=1 then (if c=0 then noP 80 else Bz A (Aw A i ((c:Int)-k)) 0) else
 if kind=2 then (if c=most then noP 80 else Bz A (Aw A i (min ((c:Int)+k) most)) 0) else
 if kind=3 then Bz A (Aq A i).from_ 0 else
 if kind=4 then Bz A (Aw A i (Pv A i)) 0 else
 if kind=5 then
  let j:=if i<lnN A-1/\1<k then min (i+k-1) (lnN A-1) else i
  (((Aw A j (((Ag A j).length:Int)-1):Nat),1,100000),0) else
 if kind=6 then Bz A (Aw A i (min ((k:Int)-1) most)) 0 else
 if kind=7\/kind=9 then (match Hf (Ag A i) arg (upL n c) k with
  |none=>noP 80
  |some j=>Bz A (Aw A i (if kind=9 then (j:Int)-1 else j)) 1) else
 if kind=8\/kind=10 then (match Hf (Ag A i) arg (Ob c) k with
  |none=>noP 80
  |some j=>Bz A (Aw A i (if kind=10 then (j:Int)+1 else j)) 0) else noP 1
def Qc (A:List Int) (line goal:Int):Ld:=(((Yd A line goal false:Nat),2,goal),0)
def Gf (A:List Int) (line:Int):Ld:=Bz A (Aw A (Eo A line) (Pv A (Eo A line))) 2
def Eu (A:List Int) (x goal kind count:Int):Ld :=
 let s:=Ak A x false
 let i:=Cc A (s:Int) false
 let k:=kOf count
 let g:=max goal 0
 if kind=11 then (if i=lnN A-1 then noP 80 else Qc A ((i:Int)+k) g) else
 if kind=12 then (if i=0 then noP 80 else Qc A ((i:Int)-k) g) else
 if kind=13 then (if i=lnN A-1 then noP 80 else Gf A ((i:Int)+k)) else
 if kind=14 then (if i=0 then noP 80 else Gf A ((i:Int)-k)) else
 if kind=15 then Gf A ((i:Int)+k-1) else
 if kind=16 then Gf A (if 0<count then (k:Int)-1 else lnN A) else
 if kind=17 then Gf A ((k:Int)-1) else
 if kind=18 then (if count<=0\/100<k then noP 80 else Gf A (((k*lnN A+99)/100:Nat)-1)) else noP 1
def rowP (A:List Int) (i:Nat):List (Nat×Nat):=if (Ag A i).length=0 then [(i,0)] else (List.range (Ag A i).length).map λc=>(i,c)
def Ag3 (A:List Int):List (Nat×Nat):=(List.range (lnN A)).flatMap (rowP A)
def Bo (A:List Int) (p:Nat×Nat):Nat:=Aw A p.1 (p.2:Int)
def Fg (C:List Cel) (j:Nat) (big:Bool):Nat:=if big then min ((C[j]?.map (·.kind)).getD 0) 1 else (C[j]?.map (·.kind)).getD 0
def Ll (A:List Int) (big:Bool) (p:Nat×Nat):Bool:=(Ag A p.1).length==0||(Fg (Ag A p.1) p.2 big !=0&&(p.2==0||Fg (Ag A p.1) (p.2-1) big !=Fg (Ag A p.1) p.2 big))
def Vs (A:List Int) (big:Bool) (p:Nat×Nat):Bool:=(Ag A p.1).length==0||(decide (p.2<(Ag A p.1).length)&&Fg (Ag A p.1) p.2 big !=0&&(p.2+1==(Ag A p.1).length||Fg (Ag A p.1) (p.2+1) big !=Fg (Ag A p.1) p.2 big))
def Qe (A:List Int) (big:Bool) (p:Nat×Nat):Bool:=(Ag A p.1).length !=0&&Vs A big p
def Bv (A:List Int) (f:Nat×Nat->Bool):List Nat:=((Ag3 A).filter f).map (Bo A)
def Hl (l:List Nat) (least k:Nat):Option Nat:=(l.filter λx=>decide (least<=x))[k-1]?
def beforeL (l:List Nat) (below k:Nat):Option Nat:=(l.filter λx=>decide (x<below)).reverse[k-1]?
def Dv (A:List Int):Nat:=Aw A (lnN A-1) (((Ag A (lnN A-1)).length:Int)-1)
def Uk (A:List Int) (x kind count:Int) (past:Bool):Ld :=
 let s:=Ak A x past
 let k:=kOf count
 let big:=decide ((25<=kind/\kind<=28)\/kind=30)
 if kind=21\/kind=25 then
  let to:=(Hl (Bv A (Ll A big)) (s+1) k).getD (if past then (Aq A (lnN A-1)).to_ else Dv A)
  if to<=s then noP 80 else Bz A to 0 else
 if kind=22\/kind=26 then (if s=0 then noP 80 else Bz A ((beforeL (Bv A (Ll A big)) s k).getD 0) 0) else
 if kind=23\/kind=27 then
  let to:=(Hl (Bv A (Qe A big)) (s+1) k).getD (Dv A)
  if to<=s then noP 80 else Bz A to 1 else
 if kind=24\/kind=28 then (if s=0 then noP 80 else Bz A ((beforeL (Bv A (Vs A big)) s k).getD 0) 1) else
 if kind=29\/kind=30 then Bz A ((Hl (Bv A (Qe A big)) s k).getD (max (Dv A) s)) 1 else noP 1
def sortB (c:Cel):Option Nat:=if c.alone=false then none else if c.atom=40 then some 0 else if c.atom=91 then some 1 else if c.atom=123 then some 2 else if c.atom=41 then some 3 else if c.atom=93 then some 4 else if c.atom=125 then some 5 else none
def Uy (A:List Int) (p:Nat×Nat):Option Nat:=((Ag A p.1)[p.2]?).bind sortB
def Dt (own:Nat):List ((Nat×Nat)×Nat)->Nat->Option (Nat×Nat)
 |[],_=>none
 |(p,b)::r,d=>if b%3≠own%3 then Dt own r d else if b=own then Dt own r (d+1) else if d=1 then some p else Dt own r (d-1)
def Gy (A:List Int):List ((Nat×Nat)×Nat):=(Ag3 A).filterMap λp=>(Uy A p).map λb=>(p,b)
def Nz (A:List Int) (s i:Nat):Option Nat :=
 match (Gy A).findIdx? λq=>q.1.1==i&&decide (s<=Bo A q.1) with
 |none=>none
 |some m=>match (Gy A)[m]? with
  |none=>none
  |some q=>(Dt q.2 (if q.2<3 then (Gy A).drop (m+1) else ((Gy A).take m).reverse) 1).map (Bo A)
def Gx (A:List Int) (x kind count:Int):Ld :=
 let s:=Ak A x false
 let i:=Cc A (s:Int) false
 let k:=kOf count
 if kind=31 then (match ((upL (lnN A) i).filter λj=>Ez A j&&!Ez A (j-1))[k-1]? with
  |some j=>Bz A (Aq A j).from_ 0
  |none=>if Dv A=s then noP 80 else Bz A (Dv A) 1) else
 if kind=32 then (match ((Ob i).filter λj=>Ez A j&&!Ez A (j+1))[k-1]? with
  |some j=>Bz A (Aq A j).from_ 0
  |none=>if s=0 then noP 80 else Bz A 0 0) else
 if kind=33 then (match Nz A s i with
  |some to=>Bz A to 1
  |none=>noP 80) else noP 1
def Qb (A:List Int) (a b kind:Int):Ld :=
 let lo:=min (Ak A a true) (Ak A b true)
 let hi:=max (Ak A a true) (Ak A b true)
 let i:=ofI A (hi:Int)
 if kind=0 then (if hi=(Aq A i).from_/\lo<hi/\0<i then (((lo:Int),(max (Aq A (i-1)).to_ lo:Nat),0),0) else (((lo:Int),(hi:Int),0),0)) else
 if kind=1 then (((lo:Int),((if hi<(Aq A i).to_ then Aw A i ((Dj (Ag A i) (hi:Int):Nat)+1) else hi:Nat):Int),0),0) else
 if kind=2 then ((((Aq A (Cc A (lo:Int) false)).from_:Int),((Aq A (Cc A (hi:Int) false)).next:Int),1),0) else noP 1
def goP (A:List Int) (s:Int) (kind count arg:Int):Ld :=
 if 1<=kind/\kind<=10 then Dh A s kind count arg true else
 if 11<=kind/\kind<=18 then Eu A s (Xh A s) kind count else
 if kind=60 then Eu A s 0 15 count else
 if 21<=kind/\kind<=30 then Uk A s kind count true else
 if 31<=kind/\kind<=33 then Gx A s kind count else noP 1
def Mc (A:List Int) (s:Nat) (big:Bool) (k:Nat):Nat:=((((Bv A (Ll A big)).filter λx=>decide (s+1<=x)).take (k-1)).getLast?).getD s
def Aa1 (A:List Int) (x kind count arg:Int):Ld :=
 let s:=Ak A x false
 let l:=goP A (s:Int) kind count arg
 if l.2≠0 then noP l.2 else
 let f:=Mc A s (decide (kind=25)) (kOf count)
 if (kind=21\/kind=25)/\ofI A (f:Int)<ofI A l.1.1 then (((s:Int),((Aq A (ofI A (f:Int))).to_:Int),0),0) else Qb A (s:Int) l.1.1 l.1.2.1
end Mot
namespace Mot
variable {A:List Int}{i:Nat}
theorem Wx (h:i<=brs A):Oy A i=some (Aq A i):=by obtain ⟨l,hl⟩:=Bw9 h;unfold Aq;rw [hl];rfl
theorem Cb (h:i<=brs A):Dh6 A i (Aq A i):=Cp5 (Wx h)
theorem Gl (A:List Int):brs A<=A.length:=by rw [Nh];exact Bg5 _ _
theorem Bc (A:List Int):1<=lnN A/\lnN A<=brs A+1:=by unfold lnN;by_cases h:ended A=true;{rw [aF h];unfold ended at h;rw [aV,iI,jM] at h;refine ⟨?_,by omega⟩;rcases lC (brs A) with q|q;{rw [q,Ah0] at h;have:=kS h.2;omega};{omega}};{rw [aJ h];omega}
theorem Bb1 (A:List Int):brs A<=lnN A:=by unfold lnN;omega
theorem Ho (A:List Int) (n:Nat):nb A n<=brs A:=by rw [Nh];rcases lT n A.length with h|h;{exact Ny A _ _ (by omega)};{rw [Am4 A n h,←Nh];exact fJ _}
theorem Bq6 (A:List Int) (x:Int):inT A x<=A.length:=by unfold inT;omega
theorem Ut {A:List Int}{n:Nat}(h:n<=A.length):inT A (n:Int)=n:=by unfold inT;omega
theorem Aa9 (A:List Int) (x:Int):ofI A x<=brs A:=Ho A _
theorem Tc (A:List Int) (x:Int) (tail:Bool):Cc A x tail<=brs A:=by unfold Cc;split;{exact Aa9 A x};{have:=Aa9 A x;omega}
theorem Ro (A:List Int) (x:Int):Eo A x<lnN A/\Eo A x<=brs A:=by have:=Bc A;unfold Eo;omega
theorem Gi (A:List Int) (i:Nat):Chain (Ag A i):=Bs7 _ _
theorem Q9 (h:i<=brs A):((A.drop (Aq A i).from_).take ((Aq A i).to_-(Aq A i).from_)).length=(Aq A i).to_-(Aq A i).from_:=by have ok:=Cb h;have:=ok.ft;have:=ok.tn;have:=ok.nl;rw [gI,gJ];omega
theorem Ak9 {c:Cel}(hc:(Ag A i)[0]?=some c):c.from_=(Aq A i).from_:=Bs6 hc
theorem At8 (h:i<=brs A){c:Cel}{m:Nat}(hc:(Ag A i)[m]?=some c) (hm:m+1=(Ag A i).length):c.to_=(Aq A i).to_:=by have:=Ci6 hc hm;rw [Q9 h] at this;have:=(Cb h).ft;omega
theorem Tf (h:i<=brs A){c:Cel}{m:Nat}(hc:(Ag A i)[m]?=some c):(Aq A i).from_<=c.from_/\c.from_<c.to_/\c.to_<=(Aq A i).to_:=by obtain ⟨ci,cj,_,_,q⟩:=Yq (Cb h).ft (by have:=(Cb h).tn;have:=(Cb h).nl;omega) hc;have:=q.from_;have:=q.to_;have:=q.le;have:=q.lt;omega
theorem Ht (h:i<=brs A):(Ag A i).length<=(Aq A i).to_-(Aq A i).from_:=by have:=Da9 ((A.drop (Aq A i).from_).take ((Aq A i).to_-(Aq A i).from_)) (Aq A i).from_;rw [Q9 h] at this;exact this
theorem Q8 (h:i<=brs A):(Ag A i).length=0↔(Aq A i).from_=(Aq A i).to_:=by have ft:=(Cb h).ft;constructor;{intro h0;have hl:=Vu ((A.drop (Aq A i).from_).take ((Aq A i).to_-(Aq A i).from_)) (Aq A i).from_;have hcl:=Ac4 ((A.drop (Aq A i).from_).take ((Aq A i).to_-(Aq A i).from_));have hch:=Ac5 ((A.drop (Aq A i).from_).take ((Aq A i).to_-(Aq A i).from_));(have hl2:(cuts ((A.drop (Aq A i).from_).take ((Aq A i).to_-(Aq A i).from_))).length-1=0:=by rw [←hl];exact h0);rw [hl2,hch,Q9 h] at hcl;have:=kS hcl;omega};{intro he;have:=Ht h;omega}
theorem Dk {C:List Cel}{j:Nat}(h:j<C.length):∃c,C[j]?=some c:=⟨_,jC h⟩
theorem Ec {c:Nat}(hc:c<(Ag A i).length):Aw A i (c:Int)=frm (Ag A i) c:=by unfold Aw;rw [dF,aF hc]
theorem Ej {c:Int}(hc:(Ag A i).length<=c.toNat):Aw A i c=(Aq A i).to_:=by unfold Aw;rw [aJ (by omega)]
theorem Hw {c:Int}(hc:c<=0):Aw A i c=Aw A i 0:=by unfold Aw;rw [show c.toNat=0 by omega];rfl
theorem Jb (h:i<=brs A) (c:Int):(Aq A i).from_<=Aw A i c/\Aw A i c<=(Aq A i).to_:=by have ft:=(Cb h).ft;unfold Aw;by_cases hc:c.toNat<(Ag A i).length;{obtain ⟨x,hx⟩:=Dk hc;rw [aF hc,Hg hx];have:=Tf h hx;omega};{rw [aJ hc];omega}
theorem Nq (h:i<=brs A):Aw A i 0=(Aq A i).from_:=by by_cases h0:(Ag A i).length=0;{rw [Ej (by omega)];exact ((Q8 h).1 h0).symm};{obtain ⟨x,hx⟩:=Dk (C:=Ag A i) (j:=0) (by omega);have:=Ec (A:=A) (i:=i) (c:=0) (by omega);rw [show ((0:Nat):Int)=0 from rfl] at this;rw [this,Hg hx];exact Ak9 hx}
theorem Tj (h:i<=brs A){c d:Nat}(hcd:c<d) (hd:d<=(Ag A i).length):Aw A i (c:Int)<Aw A i (d:Int):=by obtain ⟨x,hx⟩:=Dk (C:=Ag A i) (j:=c) (by omega);rw [Ec (by omega),Hg hx];by_cases hd2:d<(Ag A i).length;{obtain ⟨y,hy⟩:=Dk hd2;rw [Ec hd2,Hg hy];have:=(Gi A i).lt hcd hx hy;have:=(Gi A i).pos _ x hx;omega};{rw [Ej (by omega)];have:=Tf h hx;omega}
theorem Vt (h:i<=brs A){c:Nat}(hc:c<=(Ag A i).length):Dj (Ag A i) (Aw A i (c:Int):Int)=c:=by
 refine Ac1 hc (λj x hj hx=>?_) λx hx=>?_
 ·have hle:x.to_<=Aw A i (c:Int):=by
   by_cases hc2:c<(Ag A i).length
   ·obtain ⟨y,hy⟩:=Dk hc2
    rw [Ec hc2,Hg hy]
    exact (Gi A i).lt hj hx hy
   ·rw [Ej (by omega)]
    exact (Tf h hx).2.2
  omega
 {have hlt:=(fG.1 hx).1;rw [Ec hlt,Hg hx];have:=(Gi A i).pos _ x hx;omega}
theorem Nw {j:Nat}(hij:i<j) (hj:j<=brs A):(Aq A i).next<=(Aq A j).from_:=by
 induction j with
 |zero=>omega
 |succ j ih=>have h1:=Wx (A:=A) (i:=j) (by omega);have h2:=Wx (A:=A) hj;have hs:=(Qs h2).2;have hst:=((Cp5 h1).brk _ hs).1;by_cases he:i=j;{subst he;omega};{have:=ih (by omega) (by omega);have ok:=Cb (A:=A) (i:=j) (by omega);have:=ok.ft;have:=ok.tn;omega}
theorem row_of {n:Nat}(hn:n<=A.length):(Aq A (nb A n)).from_<=n/\(n<(Aq A (nb A n)).next\/(nb A n=brs A/\(Aq A (nb A n)).next=A.length)):=by obtain ⟨l,hl,h1,h2⟩:=Dj7 A hn;(have:Aq A (nb A n)=l:=by unfold Aq;rw [hl];rfl);rw [this];refine ⟨h1,h2.imp id λ⟨hs,h3⟩=>⟨?_,h3⟩⟩;have hb:=Ho A n;rcases lT (nb A n) (brs A) with q|q;{obtain ⟨x,hx⟩:=At5 (A:=A) (k:=nb A n+1) (by omega);rw [hx] at hs;cases hs};{omega}
theorem Bw2 (h:i<=brs A){n:Nat}(h1:(Aq A i).from_<=n) (h2:n<=(Aq A i).to_):nb A n=i:=by
 have ok:=Cb h;have:=ok.tn;have:=ok.nl;rcases lT n (Aq A i).next with q|q;{exact ok.nbf n h1 q}
 ·have hn:n=(Aq A i).next/\n=(Aq A i).to_:=(by omega);cases hx:sk A (i+1) with
  | none =>
   obtain ⟨_,h3,h4⟩:=ok.tail hx;by_cases hf:(Aq A i).from_<n
   ·have h5:=ok.nbf (n-1) (by omega) (by omega);have h6:=Tt A (n-1);have hno:isb A (n-1)=false:=by
     obtain ⟨a,ha⟩:∃a,A[n-1]?=some a:=⟨_,jC (by omega)⟩
     have hp:=ok.plain (n-1) a (by omega) (by omega) ha
     cases hb:isb A (n-1) with
     |false=>rfl
     |true=>rcases (Ku ha).1 hb with q|q;{exact absurd q hp.1};{exact absurd q.1 hp.2}
    rw [hno,show n-1+1=n by omega] at h6;simp at h6;omega
   {have:n=(Aq A i).from_:=(by omega);rw [this];exact ok.nbF}
  |some x=>have:=(ok.brk x hx).2.1;omega
theorem Bg3 (h:i<=brs A) (c:Int):nb A (Aw A i c)=i:=Bw2 h (Jb h c).1 (Jb h c).2
theorem Py (h:i<=brs A) (c:Int):Aw A i c<=A.length:=by have:=(Jb h c).2;have ok:=Cb h;have:=ok.tn;have:=ok.nl;omega
theorem Zk (h:i<=brs A) (c:Int):ofI A (Aw A i c:Int)=i:=by unfold ofI;rw [Ut (Py h c)];exact Bg3 h c
end Mot
namespace Mot
variable {A:List Int}{p q:Nat×Nat}
def Il (A:List Int) (p:Nat×Nat):Option (Nat×Nat):=if p.2+1<(Ag A p.1).length then some (p.1,p.2+1) else if lnN A<=p.1+1 then none else some (p.1+1,0)
def La (A:List Int) (p:Nat×Nat):Option (Nat×Nat):=if 0<p.2 then some (p.1,p.2-1) else if p.1=0 then none else some (p.1-1,(Ag A (p.1-1)).length-1)
def aft (A:List Int) (p:Nat×Nat):List (Nat×Nat):=((List.range' (p.2+1) ((Ag A p.1).length-(p.2+1))).map λc=>(p.1,c))++(List.range' (p.1+1) (lnN A-(p.1+1))).flatMap (rowP A)
def bef (A:List Int) (p:Nat×Nat):List (Nat×Nat):=((List.range p.2).reverse.map λc=>(p.1,c))++(List.range p.1).reverse.flatMap λi=>(rowP A i).reverse
theorem Cc4 (A:List Int) (i:Nat):rowP A i=(i,0)::(List.range' 1 ((Ag A i).length-1)).map λc=>(i,c):=by unfold rowP;by_cases h:(Ag A i).length=0;{rw [aF h,h];rfl};{rw [aJ h];obtain ⟨n,hn⟩:∃n,(Ag A i).length=n+1:=⟨(Ag A i).length-1,by omega⟩;rw [hn,nU,nV,dQ];rfl}
theorem Cm3 (A:List Int) (i:Nat):(rowP A i).reverse=(i,(Ag A i).length-1)::(List.range ((Ag A i).length-1)).reverse.map λc=>(i,c):=by unfold rowP;by_cases h:(Ag A i).length=0;{rw [aF h,h];rfl};{rw [aJ h];obtain ⟨n,hn⟩:∃n,(Ag A i).length=n+1:=⟨(Ag A i).length-1,by omega⟩;rw [hn,mF,lG,nX,nR,nY];rfl}
theorem Jv (h:Il A p=some q):aft A p=q::aft A q:=by unfold Il at h;unfold aft;split at h;{rename_i hc;cases h;obtain ⟨n,hn⟩:∃n,(Ag A p.1).length-(p.2+1)=n+1:=⟨(Ag A p.1).length-(p.2+1)-1,by omega⟩;rw [hn,nV,dQ,aW];dsimp only;rw [show (Ag A p.1).length-(p.2+1+1)=n by omega]};{rename_i hc;split at h;{cases h};{rename_i hl;cases h;rw [show (Ag A p.1).length-(p.2+1)=0 by omega];obtain ⟨n,hn⟩:∃n,lnN A-(p.1+1)=n+1:=⟨lnN A-(p.1+1)-1,by omega⟩;rw [hn,nV,iD,Cc4];dsimp only;rw [show lnN A-(p.1+1+1)=n by omega];simp}}
theorem Yv (h:Il A p=none):aft A p=[]:=by unfold Il at h;unfold aft;split at h;{cases h};{rename_i hc;split at h;{rename_i hl;rw [show (Ag A p.1).length-(p.2+1)=0 by omega,show lnN A-(p.1+1)=0 by omega];rfl};{cases h}}
theorem Rw (h:La A p=some q):bef A p=q::bef A q:=by unfold La at h;unfold bef;split at h;{rename_i hc;cases h;obtain ⟨n,hn⟩:∃n,p.2=n+1:=⟨p.2-1,by omega⟩;rw [hn,mF,nX];simp};{rename_i hc;split at h;{cases h};{rename_i hl;cases h;obtain ⟨n,hn⟩:∃n,p.1=n+1:=⟨p.1-1,by omega⟩;rw [show p.2=0 by omega,hn,mF,nX,nR];show ([]:List (Nat×Nat))++(n::(List.range n).reverse).flatMap _=_;rw [aU,iD,Cm3];simp}}
theorem Aq2 (h:La A p=none):bef A p=[]:=by unfold La at h;unfold bef;split at h;{cases h};{rename_i hc;split at h;{rename_i hl;rw [show p.2=0 by omega,hl];rfl};{cases h}}
structure On (A:List Int) (p:Nat×Nat):Prop where
 row:p.1<=brs A
 col:p.2<=(Ag A p.1).length
theorem Yl (h:On A p) (hq:Il A p=some q):On A q/\q.1<lnN A/\(q.2<(Ag A q.1).length\/((Ag A q.1).length=0/\q.2=0))/\p.1<=q.1:=by have hb:=Bc A;have hg:=Bb1 A;have hr:=h.row;unfold Il at hq;split at hq;{rename_i hc;cases hq;refine ⟨⟨h.row,by dsimp only;omega⟩,?_,.inl hc,fJ _⟩;dsimp only;rcases lT p.1 (lnN A) with u|u;{exact u};{exfalso;have hp:p.1=lnN A/\lnN A=brs A:=(by omega);have:=tail_len (A:=A) (by omega);rw [hp.1,hp.2] at hc;omega}};{split at hq;{cases hq};{rename_i hl;cases hq;refine ⟨⟨by dsimp only;omega,iW _⟩,by dsimp only;omega,?_,by dsimp only;omega⟩;dsimp only;rcases lC (Ag A (p.1+1)).length with u|u;{exact .inr ⟨u,rfl⟩};{exact .inl u}}}
where
  tail_len {A:List Int} (h:lnN A=brs A):(Ag A (brs A)).length=0:=by
    rw [Q8 (fJ _)]
    unfold lnN at h
    have he:ended A=true:=by
      by_cases h1:ended A=true
      · exact h1
      · rw [aJ h1] at h;omega
    unfold ended at he
    rw [aV,jM] at he
    have hf:=(Qs (Wx (A:=A) (fJ _))).2
    rw [he.2] at hf
    have e1:=kS hf
    have ok:=Cb (A:=A) (i:=brs A) (fJ _)
    have:=ok.ft;have:=ok.tn;have:=ok.nl
    omega
theorem tail_nil {A:List Int}(h:lnN A=brs A):(Ag A (brs A)).length=0:=Yl.tail_len h
structure Plc (A:List Int) (p:Nat×Nat):Prop where
 row:p.1<lnN A
 col:p.2<(Ag A p.1).length\/((Ag A p.1).length=0/\p.2=0)
theorem Plc.on (h:Plc A p):On A p:=⟨by have:=Bc A;have:=h.row;omega,by have:=h.col;omega⟩
theorem Pz {i:Nat}:q∈rowP A i↔q.1=i/\(q.2<(Ag A i).length\/((Ag A i).length=0/\q.2=0)):=by unfold rowP;by_cases h:(Ag A i).length=0;{rw [aF h,iT];constructor;{rintro rfl;exact ⟨rfl,.inr ⟨h,rfl⟩⟩};{rintro ⟨h1,h2⟩;rcases h2 with h2|h2;{omega};{exact Prod.ext h1 h2.2}}};{rw [aJ h,gY];constructor;{rintro ⟨c,hc,rfl⟩;exact ⟨rfl,.inl (bH.1 hc)⟩};{rintro ⟨h1,h2⟩;refine ⟨q.2,bH.2 (by omega),?_⟩;rw [←h1]}}
theorem Bb0:q∈aft A p↔(q.1=p.1/\p.2<q.2/\q.2<(Ag A p.1).length)\/(p.1<q.1/\q.1<lnN A/\(q.2<(Ag A q.1).length\/((Ag A q.1).length=0/\q.2=0))):=by unfold aft;rw [bV,gY,kU];constructor;{rintro (⟨c,hc,rfl⟩|⟨i,hi,hq⟩);{rw [nZ] at hc;exact .inl ⟨rfl,by dsimp only;omega,by dsimp only;omega⟩};{rw [nZ] at hi;obtain ⟨h1,h2⟩:=Pz.1 hq;subst h1;exact .inr ⟨by omega,by omega,h2⟩}};{rintro (⟨h1,h2,h3⟩|⟨h1,h2,h3⟩);{refine .inl ⟨q.2,by rw [nZ];omega,?_⟩;rw [←h1]};{exact .inr ⟨q.1,by rw [nZ];omega,Pz.2 ⟨rfl,h3⟩⟩}}
theorem Cy5:q∈bef A p↔(q.1=p.1/\q.2<p.2)\/(q.1<p.1/\(q.2<(Ag A q.1).length\/((Ag A q.1).length=0/\q.2=0))):=by unfold bef;rw [bV,gY,kU];constructor;{rintro (⟨c,hc,rfl⟩|⟨i,hi,hq⟩);{rw [oC,bH] at hc;exact .inl ⟨rfl,hc⟩};{rw [oC,bH] at hi;rw [oC] at hq;obtain ⟨h1,h2⟩:=Pz.1 hq;subst h1;exact .inr ⟨hi,h2⟩}};{rintro (⟨h1,h2⟩|⟨h1,h2⟩);{refine .inl ⟨q.2,by rw [oC,bH];exact h2,?_⟩;rw [←h1]};{exact .inr ⟨q.1,by rw [oC,bH];exact h1,by rw [oC];exact Pz.2 ⟨rfl,h2⟩⟩}}
theorem Ae5 (hp:On A p) (hq:On A q) (h:p.1<q.1):Bo A p<Bo A q:=by have h1:=(Jb hp.row (p.2:Int)).2;have h2:=(Jb hq.row (q.2:Int)).1;have h3:=Nw h hq.row;have hr:=hq.row;obtain ⟨x,hx⟩:=At5 (A:=A) (k:=p.1+1) (by omega);have:=((Cb hp.row).brk x hx).2.1;unfold Bo;omega
theorem Aa8 (hp:On A p) (hq:On A q) (h:p.1<q.1\/(p.1=q.1/\p.2<q.2)):Bo A p<Bo A q:=by rcases h with h|⟨h1,h2⟩;{exact Ae5 hp hq h};{unfold Bo;rw [h1];exact Tj hq.row h2 hq.col}
theorem Ai4 (hp:On A p) (hq:q∈aft A p):Bo A p<Bo A q:=by have hb:=Bc A;rcases Bb0.1 hq with ⟨h1,h2,h3⟩|⟨h1,h2,h3⟩;{exact Aa8 hp ⟨by rw [h1];exact hp.row,by rw [h1];omega⟩ (.inr ⟨h1.symm,h2⟩)};{exact Aa8 hp ⟨by omega,by omega⟩ (.inl h1)}
theorem Ai2 (hp:On A p) (hq:q∈bef A p):Bo A q<Bo A p:=by have hr:=hp.row;rcases Cy5.1 hq with ⟨h1,h2⟩|⟨h1,h2⟩;{exact Aa8 ⟨by omega,by rw [h1];have:=hp.col;omega⟩ hp (.inr ⟨h1,h2⟩)};{exact Aa8 ⟨by omega,by omega⟩ hp (.inl h1)}
theorem Ao0 (A:List Int){i n:Nat}(h:i<n):(List.range n).flatMap (rowP A)=(List.range i).flatMap (rowP A)++(rowP A i++(List.range' (i+1) (n-(i+1))).flatMap (rowP A)):=by
 have e:List.range n=List.range i++(i::List.range' (i+1) (n-(i+1))):=by
  rw [nU,nU,←nV]
  have:=@List.range'_append_1 0 i (n-(i+1)+1)
  rw [dU] at this
  rw [this]
  congr 1;omega
 rw [e,oD,iD]
theorem Aq1 (A:List Int) (i:Nat):((List.range i).reverse.flatMap λi=>(rowP A i).reverse).reverse=(List.range i).flatMap (rowP A):=by
 induction i with
 |zero=>rfl
 |succ i ih=>rw [mF,nX,oD];show (([i].reverse).flatMap _++_).reverse=_;rw [oD,nX,ih];simp
theorem Qw (h:Plc A p):Ag3 A=(bef A p).reverse++p::aft A p:=by
 unfold Ag3;rw [Ao0 A h.row];unfold bef aft;rw [nX,Aq1,eG];congr 1;rw [←aW,←eG];congr 1;unfold rowP;rcases h.col with hc|⟨hc,h0⟩
 ·rw [aJ (by omega),nY,oG];have e:List.range (Ag A p.1).length=List.range p.2++(p.2::List.range' (p.2+1) ((Ag A p.1).length-(p.2+1))):=by
   rw [nU,nU,←nV]
   have:=@List.range'_append_1 0 p.2 ((Ag A p.1).length-(p.2+1)+1)
   rw [dU] at this
   rw [this]
   congr 1;omega
  rw [e,lG,dQ]
 {rw [aF hc,hc,h0];show [(p.1,0)]=_;have:p=(p.1,0):=Prod.ext rfl h0;simp [←this]}
theorem Aq6 (h:On A p) (hn:¬Plc A p):Ag3 A=(bef A p).reverse++aft A p:=by
 have hb:=Bc A;have hg:=Bb1 A;have hr:=h.row;have hc:=h.col;by_cases h1:p.1<lnN A
 ·have h2:0<(Ag A p.1).length/\p.2=(Ag A p.1).length:=by
   rcases lC (Ag A p.1).length with u|u
   ·exact absurd ⟨h1,.inr ⟨u,by omega⟩⟩ hn
   ·refine ⟨u,?_⟩
    rcases lT p.2 (Ag A p.1).length with v|v
    ·exact absurd ⟨h1,.inl v⟩ hn
    ·omega
  unfold Ag3;rw [Ao0 A h1];unfold bef aft;rw [nX,Aq1,eG,nY,oG];congr 1;rw [show (Ag A p.1).length-(p.2+1)=0 by omega];unfold rowP;rw [aJ (by omega),h2.2];rfl
 {have hp:p.1=lnN A/\lnN A=brs A:=(by omega);have hz:=tail_nil hp.2;unfold Ag3 bef aft;rw [nX,Aq1];(have h0:p.2=0:=by rw [hp.1,hp.2] at hc;omega);rw [show lnN A-(p.1+1)=0 by omega,h0,hp.1];rw [show (Ag A (lnN A)).length-(0+1)=0 by rw [hp.2];omega];simp}
end Mot
namespace Mot
variable {A:List Int}{p q:Nat×Nat}
theorem Bi1 {i n:Nat}(h:i<=brs A) (h1:(Aq A i).from_<=n) (h2:n<(Aq A i).to_):Dj (Ag A i) (n:Int)<(Ag A i).length/\Aw A i ((Dj (Ag A i) (n:Int):Nat):Int)<=n:=by
 obtain ⟨s1,s2⟩:=Ue (C:=Ag A i) (at_:=(n:Int));have hle:=Qu (Ag A i) (n:Int);have hlt:Dj (Ag A i) (n:Int)<(Ag A i).length:=by
  rcases lT (Dj (Ag A i) (n:Int)) (Ag A i).length with q|q
  ·exact q
  ·exfalso
   have hn:(Ag A i).length≠0:=λh0=>by have:=(Q8 h).1 h0;omega
   obtain ⟨z,hz⟩:=Dk (C:=Ag A i) (j:=(Ag A i).length-1) (by omega)
   have:=s1 _ z (by omega) hz
   have:=At8 h hz (by omega)
   omega
 refine ⟨hlt,?_⟩;rw [Ec hlt];obtain ⟨c,hc⟩:=Dk hlt;rw [Hg hc];cases hf:Dj (Ag A i) (n:Int) with
 |zero=>rw [hf] at hc;have:=Ak9 hc;omega
 |succ m=>rw [hf] at hc;obtain ⟨d,hd⟩:=Dk (C:=Ag A i) (j:=m) (by omega);have:=s1 m d (by omega) hd;have:=(Gi A i).next m d c hd hc;omega
theorem Y1 (A:List Int) (x:Int) (past:Bool):∃c:Nat,c<=(Ag A (Cc A x past)).length/\(past=false->c<(Ag A (Cc A x past)).length\/(Ag A (Cc A x past)).length=0)/\Ak A x past=Aw A (Cc A x past) (c:Int):=by
 have hi:=Tc A x past;unfold Ak;by_cases h:(Aq A (Cc A x past)).to_<=inT A x
 ·rw [aF h];cases past with
  |true=>exact ⟨_,fJ _,(λh=>by cases h),by rw [aF rfl];exact (Ej (by omega)).symm⟩
  |false=>rw [aJ (by decide)];refine ⟨(Ag A (Cc A x false)).length-1,by omega,λ_=>by omega,?_⟩;rcases lC (Ag A (Cc A x false)).length with u|u;{rw [u];exact Hw (by omega)};{rw [show ((Ag A (Cc A x false)).length:Int)-1=(((Ag A (Cc A x false)).length-1:Nat):Int) by omega]}
 ·rw [aJ h];have hf:(Aq A (Cc A x past)).from_<=inT A x:=by
   have hro:=(row_of (A:=A) (Bq6 A x)).1
   unfold Cc at h ⊢
   cases past with
   |true=>exact hro
   |false=>rw [aJ (by decide)] at h ⊢;rcases lT (lnN A-1) (ofI A x) with u|u;{exfalso;rw [oH (by omega)] at h;have hb:=Bc A;have hro2:=Nw (A:=A) (i:=lnN A-1) (j:=ofI A x) u (Aa9 A x);have ok:=Cb (A:=A) (i:=lnN A-1) (by omega);have:=ok.tn;unfold ofI at hro2;omega};{rw [gK u];exact hro}
  obtain ⟨g1,g2⟩:=Bi1 hi hf (by omega);exact ⟨_,by omega,λ_=>.inl g1,rfl⟩
def Au (A:List Int) (x:Int) (past:Bool):Nat×Nat:=(Cc A x past,Dj (Ag A (Cc A x past)) (Ak A x past:Int))
theorem Dy (A:List Int) (x:Int) (past:Bool):Cc A (Ak A x past:Int) past=Cc A x past:=by
 obtain ⟨c,_,_,hc⟩:=Y1 A x past;have hi:=Tc A x past;rw [hc];have ho:=Zk hi (c:Int);show (if past then ofI A _ else min (ofI A _) (lnN A-1))=_;rw [ho];cases past with
 |true=>rfl
 |false=>rw [aJ (by decide)];unfold Cc;rw [aJ (by decide)];omega
theorem Rj (A:List Int) (x:Int) (past:Bool):On A (Au A x past)/\Bo A (Au A x past)=Ak A x past/\(past=false->Plc A (Au A x past)):=by obtain ⟨c,h1,h2,hc⟩:=Y1 A x past;have hi:=Tc A x past;(have hcol:Dj (Ag A (Cc A x past)) (Ak A x past:Int)=c:=by rw [hc];exact Vt hi h1);unfold Au;rw [hcol];refine ⟨⟨hi,h1⟩,hc.symm,λhp=>⟨?_,?_⟩⟩;{subst hp;have hb:=Bc A;show Cc A x false<_;unfold Cc;rw [aJ (by decide)];omega};{rcases h2 hp with q|q;{exact .inl q};{exact .inr ⟨q,by dsimp only at h1 ⊢;omega⟩}}
theorem Y0 (A:List Int) (x:Int) (past:Bool):Ak A x past<=A.length:=by obtain ⟨c,_,_,hc⟩:=Y1 A x past;rw [hc];exact Py (Tc A x past) _
theorem Cs8 {i c:Nat}(h:i<=brs A) (hc:c<=(Ag A i).length):Ak A (Aw A i (c:Int):Int) true=Aw A i (c:Int):=by (have hr:Cc A (Aw A i (c:Int):Int) true=i:=by unfold Cc;rw [aF rfl];exact Zk h _);unfold Ak;rw [hr,Ut (Py h _),aF rfl];by_cases hl:(Aq A i).to_<=Aw A i (c:Int);{rw [aF hl];have:=(Jb h (c:Int)).2;omega};{rw [aJ hl,Vt h hc]}
theorem Cs9 {i c:Nat}(h:i<lnN A) (hc:c<(Ag A i).length\/((Ag A i).length=0/\c=0)):Ak A (Aw A i (c:Int):Int) false=Aw A i (c:Int):=by have hb:=Bc A;have hi:i<=brs A:=(by omega);(have hr:Cc A (Aw A i (c:Int):Int) false=i:=by unfold Cc;rw [aJ (by decide),Zk hi];omega);unfold Ak;rw [hr,Ut (Py hi _),aJ (show ¬(false=true) by decide)];rcases hc with hc|⟨h0,rfl⟩;{have h1:=Tj hi hc (fJ _);rw [Ej (c:=((Ag A i).length:Int)) (by omega)] at h1;rw [aJ (by omega),Vt hi (by omega)]};{have e1:Aw A i ((0:Nat):Int)=(Aq A i).to_:=Ej (by omega);rw [e1,aF (fJ _),h0,Hw (by omega)];exact e1}
theorem Av3 (f:Nat×Nat->Bool) (h:On A p):(Bv A f).filter (λx=>decide (Bo A p+1<=x))=((aft A p).filter f).map (Bo A):=by
 have hA:∀l:List (Nat×Nat),(∀q∈l,Bo A q<=Bo A p)->((l.filter f).map (Bo A)).filter (λx=>decide (Bo A p+1<=x))=[]:=λl hl=>by
  rw [oI]
  intro x hx
  obtain ⟨q,hq,rfl⟩:=gY.1 hx
  have:=hl q (nM.1 hq).1
  simp;omega
 have hB:((aft A p).filter f).map (Bo A)=(((aft A p).filter f).map (Bo A)).filter (λx=>decide (Bo A p+1<=x)):=by
  refine (oJ.2 λx hx=>?_).symm
  obtain ⟨q,hq,rfl⟩:=gY.1 hx
  have:=Ai4 h (nM.1 hq).1
  simp;omega
 have hC:∀q∈(bef A p).reverse,Bo A q<=Bo A p:=λq hq=>oK (Ai2 h (oC.1 hq));unfold Bv;by_cases hp:Plc A p
 ·rw [Qw hp];have e:(bef A p).reverse++p::aft A p=((bef A p).reverse++[p])++aft A p:=(by simp);rw [e,nJ,lG,nJ,hA _ (λq hq=>by
   rcases bV.1 hq with hq|hq
   ·exact hC q hq
   ·rw [iT.1 hq];exact fJ _),aU,←hB]
 {rw [Aq6 h hp,nJ,lG,nJ,hA _ hC,aU,←hB]}
theorem Ce9 (f:Nat×Nat->Bool) (h:On A p):((Bv A f).filter (λx=>decide (x<Bo A p))).reverse=((bef A p).filter f).map (Bo A):=by
 have hA:∀l:List (Nat×Nat),(∀q∈l,Bo A p<=Bo A q)->((l.filter f).map (Bo A)).filter (λx=>decide (x<Bo A p))=[]:=λl hl=>by
  rw [oI]
  intro x hx
  obtain ⟨q,hq,rfl⟩:=gY.1 hx
  have:=hl q (nM.1 hq).1
  simp;omega
 have hB:((((bef A p).reverse).filter f).map (Bo A)).filter (λx=>decide (x<Bo A p))=(((bef A p).reverse).filter f).map (Bo A):=by
  refine oJ.2 λx hx=>?_
  obtain ⟨q,hq,rfl⟩:=gY.1 hx
  have:=Ai2 h (oC.1 (nM.1 hq).1)
  simp;omega
 have hC:∀q∈aft A p,Bo A p<=Bo A q:=λq hq=>oK (Ai4 h hq);have fin:((((bef A p).reverse).filter f).map (Bo A)).reverse=((bef A p).filter f).map (Bo A):=by
  rw [List.filter_reverse,nY,oG]
 unfold Bv;by_cases hp:Plc A p
 ·rw [Qw hp,nJ,lG,nJ,hB,hA (p::aft A p) (λq hq=>by
   rcases aG.1 hq with rfl|hq
   ·exact fJ _
   ·exact hC q hq),kM,fin]
 {rw [Aq6 h hp,nJ,lG,nJ,hB,hA _ hC,kM,fin]}
theorem Cj5 (f:Nat×Nat->Bool) (h:On A p) (k:Nat):Hl (Bv A f) (Bo A p+1) k=(((aft A p).filter f)[k-1]?).map (Bo A):=by unfold Hl;rw [Av3 f h,gX]
theorem Bt3 (f:Nat×Nat->Bool) (h:On A p) (k:Nat):beforeL (Bv A f) (Bo A p) k=(((bef A p).filter f)[k-1]?).map (Bo A):=by unfold beforeL;rw [Ce9 f h,gX]
theorem Bq0 (f:Nat×Nat->Bool) (h:On A p) (hf:f p=true->Plc A p):(Bv A f).filter (λx=>decide (Bo A p<=x))=((if f p then [p] else [])++(aft A p).filter f).map (Bo A):=by
 have hA:∀l:List (Nat×Nat),(∀q∈l,Bo A q<Bo A p)->((l.filter f).map (Bo A)).filter (λx=>decide (Bo A p<=x))=[]:=λl hl=>by
  rw [oI]
  intro x hx
  obtain ⟨q,hq,rfl⟩:=gY.1 hx
  have:=hl q (nM.1 hq).1
  simp;omega
 have hB:∀l:List (Nat×Nat),(∀q∈l,Bo A p<=Bo A q)->((l.filter f).map (Bo A)).filter (λx=>decide (Bo A p<=x))=(l.filter f).map (Bo A):=λl hl=>by
  refine oJ.2 λx hx=>?_
  obtain ⟨q,hq,rfl⟩:=gY.1 hx
  have:=hl q (nM.1 hq).1
  simp;omega
 have hC:∀q∈(bef A p).reverse,Bo A q<Bo A p:=λq hq=>Ai2 h (oC.1 hq);have hD:∀q∈aft A p,Bo A p<=Bo A q:=λq hq=>oK (Ai4 h hq);unfold Bv;by_cases hp:Plc A p
 ·rw [Qw hp,nJ,lG,nJ,hA _ hC,aU,hB (p::aft A p) (λq hq=>by
   rcases aG.1 hq with rfl|hq
   ·exact fJ _
   ·exact hD q hq)]
  cases hfp:f p with
  |true=>rw [nH hfp,aF rfl];rfl
  |false=>rw [nK (by rw [hfp];decide),aJ (by decide)];rfl
 ·rw [Aq6 h hp,nJ,lG,nJ,hA _ hC,aU,hB _ hD];have:f p=false:=by
   cases hfp:f p with
   |false=>rfl
   |true=>exact absurd (hf hfp) hp
  rw [this,aJ (by decide),aU]
end Mot
namespace Mot
variable {A:List Int}{p q:Nat×Nat}
def Stand (A:List Int) (n:Nat) (past:Bool):Prop:=∃p,On A p/\Bo A p=n/\(past=false->Plc A p)
theorem Nl (A:List Int) (x:Int) (past:Bool):Stand A (Ak A x past) past:=by obtain ⟨h1,h2,h3⟩:=Rj A x past;exact ⟨_,h1,h2,h3⟩
theorem Ws {n:Nat}{past:Bool}(h:Stand A n past):Stand A n true:=by obtain ⟨p,h1,h2,_⟩:=h;exact ⟨p,h1,h2,λhc=>by cases hc⟩
theorem Stand.clamp {n:Nat}{past:Bool}(h:Stand A n past):Ak A (n:Int) past=n:=by
 obtain ⟨⟨i,c⟩,h1,rfl,h3⟩:=h;cases past with
 |true=>exact Cs8 h1.row h1.col
 |false=>exact Cs9 (h3 rfl).row (h3 rfl).col
theorem Sv {i:Nat}(h:i<=brs A) (c:Int):Stand A (Aw A i c) true:=by by_cases hc:c.toNat<=(Ag A i).length;{refine ⟨(i,c.toNat),⟨h,hc⟩,?_,λhc=>by cases hc⟩;show Aw A i ((c.toNat:Nat):Int)=_;unfold Aw;rw [dF]};{refine ⟨(i,(Ag A i).length),⟨h,fJ _⟩,?_,λhc=>by cases hc⟩;show Aw A i ((Ag A i).length:Int)=_;rw [Ej (c:=((Ag A i).length:Int)) (by omega),Ej (by omega)]}
theorem Qz {i:Nat}(h:i<lnN A){c:Int}(hc:c<(Ag A i).length\/(Ag A i).length=0):Stand A (Aw A i c) false:=by have hb:=Bc A;by_cases h0:(Ag A i).length=0;{refine ⟨(i,0),⟨by dsimp only;omega,by dsimp only;omega⟩,?_,λ_=>⟨h,.inr ⟨h0,rfl⟩⟩⟩;show Aw A i ((0:Nat):Int)=_;rw [Ej (c:=((0:Nat):Int)) (by omega),Ej (by omega)]};{refine ⟨(i,c.toNat),⟨by dsimp only;omega,by dsimp only;omega⟩,?_,λ_=>⟨h,.inl (by dsimp only;omega)⟩⟩;show Aw A i ((c.toNat:Nat):Int)=_;unfold Aw;rw [dF]}
theorem Ah3 (A:List Int) (x:Int):Cc A x false<lnN A:=by have:=Bc A;unfold Cc;rw [aJ (by decide)];omega
theorem Ay3 (A:List Int) (line col:Int) (past:Bool):Stand A (Yd A line col past) past:=by
 have hl:=Ro A line;unfold Yd;cases past with
 |true=>exact Sv hl.2 _
 |false=>refine Qz hl.1 ?_;split;{omega};{rename_i h;left;apply lJ;intro hc;exact h ⟨by omega,rfl⟩}
theorem Aj6 (A:List Int) (i:Nat):Pv A i<(Ag A i).length\/(Ag A i).length=0:=by unfold Pv;split;{left;assumption};{omega}
def Yz (A:List Int) (past:Bool) (l:Ld):Prop:=(l.2=0->∃n:Nat,l.1.1=(n:Int)/\Stand A n past/\0<=l.1.2.1/\l.1.2.1<=2)/\(l.2≠0->l.1=(0,0,0))
theorem Ja (A:List Int) (past:Bool){e:Int}(h:e≠0):Yz A past (noP e):=⟨λhc=>absurd hc h,λ_=>rfl⟩
theorem Js {n:Nat}{past:Bool}{k:Int}(h:Stand A n past) (hk:0<=k/\k<=2):Yz A past (Bz A n k):=⟨λ_=>⟨n,rfl,h,hk.1,hk.2⟩,λhc=>absurd rfl hc⟩
theorem Zh {C:List Cel}{a:Int}{L:List Nat}{k j:Nat}(h:Hf C a L k=some j):j∈L/\∃c,C[j]?=some c:=by
 unfold Hf at h;have:=eY h;rw [nM,iI] at this;refine ⟨this.1,?_⟩;cases hc:C[j]? with
 |none=>rw [hc] at this;simp at this
 |some c=>exact ⟨c,rfl⟩
theorem Ud (c:Int):1<=kOf c:=by unfold kOf;split<;>omega
theorem An3 (c:Int):kOf c<=9999:=by unfold kOf;split<;>omega
theorem Bh7 (A:List Int) (x kind count arg:Int) (past:Bool):Yz A past (Dh A x kind count arg past):=by
 have hi:=Tc A (Ak A x past:Int) past;have hk:=Ud count;have hb:=Bc A;(have hrow:past=false->Cc A (Ak A x past:Int) past<lnN A:=λh=>by subst h;exact Ah3 A _);have col:∀{c:Int} {k:Int},(past=false->c<(Ag A (Cc A (Ak A x past:Int) past)).length\/(Ag A (Cc A (Ak A x past:Int) past)).length=0)->0<=k/\k<=2->Yz A past (Bz A (Aw A (Cc A (Ak A x past:Int) past) c) k):=λ{c k} h1 h2=>by
  refine Js ?_ h2
  cases past with
  |true=>exact Sv hi c
  |false=>exact Qz (hrow rfl) (h1 rfl)
 have hfirst:past=false->Dj (Ag A (Cc A (Ak A x past:Int) past)) (Ak A x past:Int)<(Ag A (Cc A (Ak A x past:Int) past)).length\/(Ag A (Cc A (Ak A x past:Int) past)).length=0:=λh=>by
  obtain ⟨_,_,h3⟩:=Rj A x past
  have:=(h3 h).col
  unfold Au at this
  dsimp only at this
  rw [Dy]
  exact this.imp id λh=>h.1
 have hfl:=Qu (Ag A (Cc A (Ak A x past:Int) past)) (Ak A x past:Int);unfold Dh;dsimp only;generalize hI:Cc A (Ak A x past:Int) past=i at *;generalize Dj (Ag A i) (Ak A x past:Int)=c at *;have hmost:past=false->((if past then (Ag A i).length else (Ag A i).length-1:Nat):Int)<(Ag A i).length\/(Ag A i).length=0:=λh=>by
  subst h;rw [aJ (by decide)];omega
 generalize (if past then (Ag A i).length else (Ag A i).length-1)=most at *;split;{split;{exact Ja A past (by decide)};{exact col (λh=>(hfirst h).imp (λ_=>by omega) id) (by decide)}};split;{split;{exact Ja A past (by decide)};{exact col (λh=>(hmost h).imp (λ_=>by omega) id) (by decide)}};split;{have:=col (c:=0) (k:=0) (λh=>by omega) (by decide);rw [Nq hi] at this;exact this};split;{exact col (λ_=>(Aj6 A i).imp (λ_=>by omega) id) (by decide)};split
 ·refine ⟨λ_=>⟨_,rfl,?_,(by decide:(0:Int)<=1),(by decide:(1:Int)<=2)⟩,λhc=>absurd rfl hc⟩;have hj:∀j,j<=brs A->(past=false->j<lnN A)->Stand A (Aw A j (((Ag A j).length:Int)-1)) past:=λj h1 h2=>by
   cases past with
   |true=>exact Sv h1 _
   |false=>exact Qz (h2 rfl) (by omega)
  split;{exact hj _ (by omega) (λ_=>by omega)};{exact hj _ hi hrow}
 split;{exact col (λh=>(hmost h).imp (λ_=>by omega) id) (by decide)};split;{split;{exact Ja A past (by decide)};{rename_i j hj;obtain ⟨_,d,hd⟩:=Zh hj;have:=(fG.1 hd).1;exact col (λ_=>.inl (by split<;>omega)) (by decide)}};split
 ·split;{exact Ja A past (by decide)}
  ·rename_i j hj;obtain ⟨hm,d,hd⟩:=Zh hj;have:=(fG.1 hd).1;unfold Ob at hm;rw [oC,bH] at hm;exact col (λh=>by
    rcases hfirst h with u|u
    ·left;split<;>omega
    ·omega) (by decide)
 {exact Ja A past (by decide)}
theorem Oz (A:List Int) (line:Int):Yz A false (Gf A line):=Js (Qz (Ro A line).1 ((Aj6 A _).imp (λ_=>by omega) id)) (by decide)
theorem Av5 (A:List Int) (line goal:Int):Yz A false (Qc A line goal):=⟨λ_=>⟨_,rfl,Ay3 A line goal false,(by decide:(0:Int)<=2),(by decide:(2:Int)<=2)⟩,λhc=>absurd rfl hc⟩
theorem An0 (A:List Int) (x goal kind count:Int):Yz A false (Eu A x goal kind count):=by unfold Eu;dsimp only;have no:=Ja A false (e:=80) (by decide);split;{split;{exact no};{exact Av5 A _ _}};split;{split;{exact no};{exact Av5 A _ _}};split;{split;{exact no};{exact Oz A _}};split;{split;{exact no};{exact Oz A _}};split;{exact Oz A _};split;{exact Oz A _};split;{exact Oz A _};split;{split;{exact no};{exact Oz A _}};{exact Ja A false (by decide)}
theorem Ba9:p∈Ag3 A↔Plc A p:=by unfold Ag3;rw [kU];constructor;{rintro ⟨i,hi,hp⟩;obtain ⟨h1,h2⟩:=Pz.1 hp;subst h1;exact ⟨bH.1 hi,h2⟩};{rintro ⟨h1,h2⟩;exact ⟨p.1,bH.2 h1,Pz.2 ⟨rfl,h2⟩⟩}
theorem Md {f:Nat×Nat->Bool}{n:Nat}(h:n∈Bv A f) (past:Bool):Stand A n past:=by obtain ⟨p,hp,rfl⟩:=gY.1 h;have:=Ba9.1 (nM.1 hp).1;exact ⟨p,this.on,rfl,λ_=>this⟩
theorem Ac9 {l:List Nat}{n k x:Nat}(h:Hl l n k=some x):x∈l:=(nM.1 (eY h)).1
theorem Aq0 {l:List Nat}{n k x:Nat}(h:beforeL l n k=some x):x∈l:=(nM.1 (oC.1 (eY h))).1
theorem Wu (A:List Int) (past:Bool):Stand A (Dv A) past:=by
 have hb:=Bc A;have:Stand A (Dv A) false:=Qz (by omega) (by omega);cases past with
 |true=>exact Ws this
 |false=>exact this
theorem H8 (A:List Int) (past:Bool):Stand A 0 past:=by
 have hb:=Bc A;have h0:(Aq A 0).from_=0:=by
  have:=(Qs (Wx (A:=A) (iW _))).2
  rw [Ah0] at this
  exact (kS this).symm
 have:Stand A (Aw A 0 0) false:=Qz (by omega) (by omega);rw [Nq (iW _),h0] at this;cases past with
 |true=>exact Ws this
 |false=>exact this
theorem Bh5 (A:List Int) (x kind count:Int) (past:Bool):Yz A past (Uk A x kind count past):=by
 unfold Uk;dsimp only;have no:=Ja A past (e:=80) (by decide);have hb:=Bc A;have getD:∀(o:Option Nat) (d:Nat),(∀n,o=some n->Stand A n past)->Stand A d past->Stand A (o.getD d) past:=λo d h1 h2=>by
  cases o with
  |none=>exact h2
  |some n=>exact h1 n rfl
 have hend:Stand A (if past then (Aq A (lnN A-1)).to_ else Dv A) past:=by
  cases past with
  |true =>
   rw [aF rfl]
   have:=Sv (A:=A) (i:=lnN A-1) (by omega) ((Ag A (lnN A-1)).length:Int)
   rwa [Ej (by omega)] at this
  |false=>exact Wu A false
 generalize (if past then (Aq A (lnN A-1)).to_ else Dv A)=last at *;split;{split;{exact no};{exact Js (getD _ _ (λn hn=>Md (Ac9 hn) past) hend) (by decide)}};split;{split;{exact no};{exact Js (getD _ _ (λn hn=>Md (Aq0 hn) past) (H8 A past)) (by decide)}};split;{split;{exact no};{exact Js (getD _ _ (λn hn=>Md (Ac9 hn) past) (Wu A past)) (by decide)}};split;{split;{exact no};{exact Js (getD _ _ (λn hn=>Md (Aq0 hn) past) (H8 A past)) (by decide)}};split;{refine Js (getD _ _ (λn hn=>Md (Ac9 hn) past) ?_) (by decide);rcases oM (Dv A) (Ak A x past) with u|u;{rw [Nat.max_eq_right u];exact Nl A x past};{rw [oN u];exact Wu A past}};{exact Ja A past (by decide)}
theorem P6 {own:Nat}:∀{L:List ((Nat×Nat)×Nat)}{d:Nat}{p:Nat×Nat},Dt own L d=some p->∃b,(p,b)∈L
 |[],_,_,h=>by simp [Dt] at h
 | (q,b)::r,d,p,h=>by
  have up:(∃b',(p,b')∈r)->∃b',(p,b')∈(q,b)::r:=λ⟨b',hb⟩=>⟨b',aI _ hb⟩
  rw [Dt] at h
  split at h
  ·exact up (P6 h)
  ·split at h
   ·exact up (P6 h)
   ·split at h
    ·cases h;exact ⟨b,aH⟩
    ·exact up (P6 h)
theorem Yo {x:(Nat×Nat)×Nat}(h:x∈Gy A):Plc A x.1/\Uy A x.1=some x.2:=by unfold Gy at h;obtain ⟨p,hp,he⟩:=oO.1 h;obtain ⟨b,hb,rfl⟩:=mP.1 he;exact ⟨Ba9.1 hp,hb⟩
theorem Ce8 {s i n:Nat}(h:Nz A s i=some n):∃p b,(p,b)∈Gy A/\Bo A p=n:=by unfold Nz at h;split at h;{cases h};{split at h;{cases h};{obtain ⟨p,hp,rfl⟩:=mP.1 h;obtain ⟨b,hb⟩:=P6 hp;refine ⟨p,b,?_,rfl⟩;split at hb;{exact iV hb};{exact iU (oC.1 hb)}}}
theorem Bh6 (A:List Int) (x kind count:Int):Yz A false (Gx A x kind count):=by
 unfold Gx;dsimp only;have no:=Ja A false (e:=80) (by decide);have hb:=Bc A;have row:∀{j:Nat},j<lnN A->Yz A false (Bz A (Aq A j).from_ 0):=λ{j} hj=>by
  have:=Qz (A:=A) hj (c:=0) (by omega)
  rw [Nq (by omega)] at this
  exact Js this (by decide)
 split;{split;{rename_i j hj;have:=(nM.1 (eY hj)).1;unfold upL at this;rw [nZ] at this;exact row (by omega)};{split;{exact no};{exact Js (Wu A false) (by decide)}}};split;{split;{rename_i j hj;have:=(nM.1 (eY hj)).1;unfold Ob at this;rw [oC,bH] at this;have:=Ah3 A (Ak A x false:Int);exact row (by omega)};{split;{exact no};{exact Js (H8 A false) (by decide)}}};split;{split;{rename_i to hto;obtain ⟨p,b,hp,rfl⟩:=Ce8 hto;exact Js ⟨p,(Yo hp).1.on,rfl,λ_=>(Yo hp).1⟩ (by decide)};{exact no}};{exact Ja A false (by decide)}
end Mot
namespace Mot
variable {A:List Int}
theorem U7 (A:List Int) (x:Int) (past:Bool):nb A (Ak A x past)=Cc A x past:=by obtain ⟨c,_,_,hc⟩:=Y1 A x past;rw [hc];exact Bg3 (Tc A x past) _
end Mot
namespace Mot
variable {A:List Int}
abbrev Bk:=(Nat×Nat)×Nat
theorem Aq5 (A:List Int):(Ag3 A).Pairwise λp q=>Bo A p<Bo A q:=by have hb:=Bc A;unfold Ag3;rw [List.pairwise_flatMap];refine ⟨λi hi=>?_,?_⟩;{rw [bH] at hi;unfold rowP;split;{exact List.pairwise_singleton _ _};{rw [oP];refine oQ (λ{a b} ha hc hab=>?_) nN;rw [bH] at ha hc;exact Aa8 (p:=(i,a)) (q:=(i,b)) ⟨by dsimp only;omega,by dsimp only;omega⟩ ⟨by dsimp only;omega,by dsimp only;omega⟩ (.inr ⟨rfl,hab⟩)}};{refine oQ (λ{i j} hi hj hij p hp q hq=>?_) nN;rw [bH] at hi hj;obtain ⟨p1,p2⟩:=Pz.1 hp;obtain ⟨q1,q2⟩:=Pz.1 hq;exact Aa8 (by subst p1;exact (Plc.on ⟨hi,p2⟩)) (by subst q1;exact (Plc.on ⟨hj,q2⟩)) (.inl (by omega))}
theorem Aw7 (A:List Int):(Gy A).Pairwise λx y=>Bo A x.1<Bo A y.1:=by unfold Gy;rw [List.pairwise_filterMap];refine (Aq5 A).imp λ{p q} h x hx y hy=>?_;obtain ⟨_,_,rfl⟩:=mP.1 hx;obtain ⟨_,_,rfl⟩:=mP.1 hy;exact h
theorem Bb6 {α:Type}{f:α->Bool}:∀(l:List α){x:α}{r:List α},(∀y∈l,f y=false)->f x=true->(l++x::r).findIdx? f=some l.length
 |[],x,r,_,hx=>by rw [aU,List.findIdx?_cons,hx];rfl
 |y::l,x,r,hl,hx=>by
  rw [aW,List.findIdx?_cons,hl y aH,Bb6 l (λz hz=>hl z (aI _ hz)) hx];rfl
theorem Bi4 {l r:List Bk}{x:Bk}(e:Gy A=l++x::r):(Gy A).findIdx? (λq=>q.1.1==x.1.1&&decide (Bo A x.1<=Bo A q.1))=some l.length/\(Gy A)[l.length]?=some x:=by have hr:=Aw7 A;rw [e] at hr ⊢;rw [oU] at hr;refine ⟨Bb6 l (λy hy=>?_) (by simp),by simp⟩;have:=hr.2.2 y hy x aH;rw [oW,iH];exact .inr (by omega)
theorem Yg (A:List Int) (x count:Int):Gx A x 33 count=match Nz A (Ak A x false) (Cc A (Ak A x false:Int) false) with
  |some to=>Bz A to 1
  |none=>noP 80:=by
 unfold Gx
 dsimp only
 rw [aJ (by decide),aJ (by decide),aF rfl]
 all_goals (cases Nz A (Ak A x false) (Cc A (Ak A x false:Int) false)<;>rfl)
end Mot
namespace Mot
variable {A:List Int}
theorem Cn3 {p:Nat×Nat}{past:Bool}(h1:On A p) (h3:past=false->Plc A p):Au A (Bo A p:Int) past=p:=by
 have hb:=Bc A;have hc:Ak A (Bo A p:Int) past=Bo A p:=Stand.clamp ⟨p,h1,rfl,h3⟩;have hr:Cc A (Bo A p:Int) past=p.1:=by
  unfold Cc Bo
  rw [Zk h1.row]
  cases past with
  |true=>rfl
  |false=>rw [aJ (by decide)];have:=(h3 rfl).row;omega
 unfold Au;rw [hc,hr];unfold Bo;rw [Vt h1.row h1.col]
def Le (A:List Int) (i:Nat) (past:Bool):Nat:=if past then (Ag A i).length else (Ag A i).length-1
theorem Cn4 (A:List Int) (x:Int) (past:Bool):(Au A x past).2<=Le A (Au A x past).1 past/\Le A (Au A x past).1 past<=(Ag A (Au A x past).1).length:=by
 obtain ⟨h1,_,h3⟩:=Rj A x past;unfold Le;cases past with
 |true=>exact ⟨h1.col,fJ _⟩
 |false=>have:=(h3 rfl).col;rw [aJ (by decide)];omega
theorem Ci4 (A:List Int) (x count arg:Int) (past:Bool):Dh A x 1 count arg past=if (Au A x past).2=0 then noP 80 else Bz A (Bo A ((Au A x past).1,(Au A x past).2-kOf count)) 0:=by
 have e:Dh A x 1 count arg past=if Dj (Ag A (Cc A (Ak A x past:Int) past)) (Ak A x past:Int)=0 then noP 80 else Bz A (Aw A (Cc A (Ak A x past:Int) past) (((Dj (Ag A (Cc A (Ak A x past:Int) past)) (Ak A x past:Int):Nat):Int)-kOf count)) 0:=by
  unfold Dh
  try dsimp only
  rw [aF rfl]
 rw [e,Dy]
 unfold Au
 try dsimp only
 split
 ·rfl
 ·congr 1
  unfold Bo
  try dsimp only
  generalize Dj (Ag A (Cc A x past)) (Ak A x past:Int)=c
  rcases oM c (kOf count) with u|u
  ·rw [Hw (by omega),Hw (c:=((c-kOf count:Nat):Int)) (by omega)]
  ·congr 1;omega
theorem Aw4 (A:List Int) (x count arg:Int) (past:Bool):Dh A x 2 count arg past=if (Au A x past).2=Le A (Au A x past).1 past then noP 80 else Bz A (Bo A ((Au A x past).1,min ((Au A x past).2+kOf count) (Le A (Au A x past).1 past))) 0:=by
 have e:Dh A x 2 count arg past=if Dj (Ag A (Cc A (Ak A x past:Int) past)) (Ak A x past:Int)=Le A (Cc A (Ak A x past:Int) past) past then noP 80 else Bz A (Aw A (Cc A (Ak A x past:Int) past) (min (((Dj (Ag A (Cc A (Ak A x past:Int) past)) (Ak A x past:Int):Nat):Int)+kOf count) (Le A (Cc A (Ak A x past:Int) past) past))) 0:=by
  unfold Dh
  try dsimp only
  rw [aJ (by decide),aF rfl];rfl
 rw [e,Dy]
 unfold Au
 try dsimp only
 split
 ·rfl
 ·congr 1
  unfold Bo
  try dsimp only
  congr 1;omega
theorem Bp9 (A:List Int) (f:Nat×Nat->Bool):(Bv A f).Pairwise (·<·):=by unfold Bv;rw [oP];exact (Aq5 A).filter _
end Mot
namespace Mot
variable {A:List Int}
theorem Stand.len {n:Nat}{past:Bool}(h:Stand A n past):n<=A.length:=by obtain ⟨p,h1,rfl,_⟩:=h;exact Py h1.row _
theorem Cq0 (A:List Int) (s kind count arg:Int):∃past,Yz A past (goP A s kind count arg):=by unfold goP;split;{exact ⟨_,Bh7 A _ _ _ _ _⟩};split;{exact ⟨_,An0 A _ _ _ _⟩};split;{exact ⟨_,An0 A _ _ _ _⟩};split;{exact ⟨_,Bh5 A _ _ _ _⟩};split;{exact ⟨_,Bh6 A _ _ _⟩};{exact ⟨false,Ja A false (by decide)⟩}
theorem Cd5 (A:List Int){s:Nat}(hs:Stand A s true) (big:Bool) (k:Nat):s<=Mc A s big k/\Stand A (Mc A s big k) true:=by
 unfold Mc;cases h:((((Bv A (Ll A big)).filter λx=>decide (s+1<=x)).take (k-1)).getLast?) with
 |none=>exact ⟨fJ _,hs⟩
 |some m=>have hm:=iU (List.mem_of_getLast? h);rw [nM,iI] at hm;exact ⟨by show s<=m;omega,Md hm.1 true⟩
end Mot
namespace Mot
variable {A:List Int}{i:Nat}
def rowB (A:List Int) (i:Nat):List Int:=(A.drop (Aq A i).from_).take ((Aq A i).to_-(Aq A i).from_)
def Oi (A:List Int) (i j:Nat):Nat:=Aw A i (j:Int)-(Aq A i).from_
theorem Ti (h:i<=brs A):(rowB A i).length=(Aq A i).to_-(Aq A i).from_:=Q9 h
theorem At9 (A:List Int) (i:Nat):(Ag A i).length+1=(cuts (rowB A i)).length:=by have h1:(Ag A i).length=(cuts (rowB A i)).length-1:=Vu _ _;have h2:=Ao6 (rowB A i);omega
theorem Bf2 (h:i<=brs A):cuts (rowB A i)=(List.range ((Ag A i).length+1)).map (Oi A i):=by have hn:=At9 A i;refine iC λj=>?_;rw [gX];rcases lT j (Ag A i).length with hj|hj;{obtain ⟨c,hc⟩:=Dk hj;obtain ⟨ci,cj,g1,_,q⟩:=Yq (Cb h).ft (by have:=(Cb h).tn;have:=(Cb h).nl;omega) hc;have g1:(cuts (rowB A i))[j]?=some ci:=g1;rw [g1,oZ (by omega)];show some ci=some (Oi A i j);unfold Oi;rw [Ec hj,Hg hc,q.from_];congr 1;omega};{rcases lT (Ag A i).length j with u|u;{rw [kL (by omega),kL (by rw [lZ];omega)];rfl};{have hjn:j=(Ag A i).length:=(by omega);have hl:=Ac4 (rowB A i);rw [←hn,nR] at hl;rw [hjn,hl,oZ (by omega)];show some _=some (Oi A i _);unfold Oi;rw [Ej (by omega),Ti h]}}
theorem Dh0 (h:i<=brs A){c d:Nat}(hcd:c<d) (hd:d<=(Ag A i).length):Oi A i c<Oi A i d:=by have:=Tj h hcd hd;have:=(Jb h (c:Int)).1;unfold Oi;omega
theorem Zv (h:i<=brs A) (c:Nat):(Aq A i).from_+Oi A i c=Aw A i (c:Int):=by have:=(Jb h (c:Int)).1;unfold Oi;omega
theorem Dh1 (h:i<=brs A){c:Nat}(hc:c<=(Ag A i).length):bk (rowB A i) (Oi A i c)=true:=by rw [←Am6,Bf2 h];exact gY.2 ⟨c,bH.2 (by omega),rfl⟩
theorem Cu0 (h:i<=brs A){j:Nat}(hj:j<(Ag A i).length):(rowB A i)[Oi A i j]?=((Ag A i)[j]?).map (·.atom):=by
 obtain ⟨c,hc⟩:=Dk hj;obtain ⟨ci,cj,_,_,q⟩:=Yq (Cb h).ft (by have:=(Cb h).tn;have:=(Cb h).nl;omega) hc;have h1:=q.from_;have h2:=q.to_;have h3:=q.lt;have h4:=q.le;have hb:Oi A i j=ci:=by
  unfold Oi
  rw [Ec hj,Hg hc];omega
 rw [hb,hc];unfold rowB;rw [gQ,aF (by omega),gU,←h1];exact q.atom
end Mot
namespace Mot
variable {A:List Int}
theorem Xi (A:List Int) (x count arg:Int) (past:Bool) :
  Dh A x 7 count arg past=(match Hf (Ag A (Au A x past).1) arg (upL (Ag A (Au A x past).1).length (Au A x past).2) (kOf count) with|none=>noP 80|some j=>Bz A (Aw A (Au A x past).1 (j:Int)) 1) /\
  Dh A x 9 count arg past=(match Hf (Ag A (Au A x past).1) arg (upL (Ag A (Au A x past).1).length (Au A x past).2) (kOf count) with|none=>noP 80|some j=>Bz A (Aw A (Au A x past).1 ((j:Int)-1)) 1) /\
  Dh A x 8 count arg past=(match Hf (Ag A (Au A x past).1) arg (Ob (Au A x past).2) (kOf count) with|none=>noP 80|some j=>Bz A (Aw A (Au A x past).1 (j:Int)) 0) /\
  Dh A x 10 count arg past=(match Hf (Ag A (Au A x past).1) arg (Ob (Au A x past).2) (kOf count) with|none=>noP 80|some j=>Bz A (Aw A (Au A x past).1 ((j:Int)+1)) 0):=by have hr:=Dy A x past;refine ⟨?_,?_,?_,?_⟩;{unfold Dh Au;dsimp only;rw [hr,aJ (by decide),aJ (by decide),aJ (by decide),aJ (by decide),aJ (by decide),aJ (by decide),aF (by decide)];all_goals (cases Hf (Ag A (Cc A x past)) arg (upL (Ag A (Cc A x past)).length (Dj (Ag A (Cc A x past)) (Ak A x past:Int))) (kOf count)<;>rfl)};{unfold Dh Au;dsimp only;rw [hr,aJ (by decide),aJ (by decide),aJ (by decide),aJ (by decide),aJ (by decide),aJ (by decide),aF (by decide)];all_goals (cases Hf (Ag A (Cc A x past)) arg (upL (Ag A (Cc A x past)).length (Dj (Ag A (Cc A x past)) (Ak A x past:Int))) (kOf count)<;>rfl)};{unfold Dh Au;dsimp only;rw [hr,aJ (by decide),aJ (by decide),aJ (by decide),aJ (by decide),aJ (by decide),aJ (by decide),aJ (by decide),aF (by decide)];all_goals (cases Hf (Ag A (Cc A x past)) arg (Ob (Dj (Ag A (Cc A x past)) (Ak A x past:Int))) (kOf count)<;>rfl)};{unfold Dh Au;dsimp only;rw [hr,aJ (by decide),aJ (by decide),aJ (by decide),aJ (by decide),aJ (by decide),aJ (by decide),aJ (by decide),aF (by decide)];all_goals (cases Hf (Ag A (Cc A x past)) arg (Ob (Dj (Ag A (Cc A x past)) (Ak A x past:Int))) (kOf count)<;>rfl)}
end Mot
namespace Mot
variable {A:List Int}{p q:Nat×Nat}
def Oa (A:List Int) (f:Nat×Nat->Bool) (p:Nat×Nat) (k:Nat):Option (Nat×Nat):=((aft A p).filter f)[k-1]?
def Rx (A:List Int) (f:Nat×Nat->Bool) (p:Nat×Nat) (k:Nat):Option (Nat×Nat):=((bef A p).filter f)[k-1]?
theorem Br2 {f:Nat×Nat->Bool}{k:Nat}(h:Il A p=none):Oa A f p k=none:=by unfold Oa;rw [Yv h];rfl
theorem Cr1 {f:Nat×Nat->Bool}{k:Nat}(h:Il A p=some q) (hf:f q=false):Oa A f p k=Oa A f q k:=by unfold Oa;rw [Jv h,nK (by rw [hf];decide)]
theorem Cg3 {f:Nat×Nat->Bool}(h:Il A p=some q) (hf:f q=true):Oa A f p 1=some q:=by unfold Oa;rw [Jv h,nH hf];rfl
theorem Br3 {f:Nat×Nat->Bool}{k:Nat}(h:Il A p=some q) (hf:f q=true) (hk:1<=k):Oa A f p (k+1)=Oa A f q k:=by unfold Oa;rw [Jv h,nH hf];obtain ⟨j,rfl⟩:∃j,k=j+1:=⟨k-1,by omega⟩;rfl
theorem Bt5 {f:Nat×Nat->Bool}{k:Nat}(h:La A p=none):Rx A f p k=none:=by unfold Rx;rw [Aq2 h];rfl
theorem Cv0 {f:Nat×Nat->Bool}{k:Nat}(h:La A p=some q) (hf:f q=false):Rx A f p k=Rx A f q k:=by unfold Rx;rw [Rw h,nK (by rw [hf];decide)]
theorem Cj4 {f:Nat×Nat->Bool}(h:La A p=some q) (hf:f q=true):Rx A f p 1=some q:=by unfold Rx;rw [Rw h,nH hf];rfl
theorem Bt6 {f:Nat×Nat->Bool}{k:Nat}(h:La A p=some q) (hf:f q=true) (hk:1<=k):Rx A f p (k+1)=Rx A f q k:=by unfold Rx;rw [Rw h,nH hf];obtain ⟨j,rfl⟩:∃j,k=j+1:=⟨k-1,by omega⟩;rfl
def Qa (A:List Int) (p:Nat×Nat):Option Bk:=(Uy A p).map λb=>(p,b)
theorem Db2 (A:List Int):Gy A=(Ag3 A).filterMap (Qa A):=rfl
def Yw (A:List Int) (p:Nat×Nat):List Bk:=(aft A p).filterMap (Qa A)
def Qg (A:List Int) (p:Nat×Nat):List Bk:=(bef A p).filterMap (Qa A)
theorem Bc7 (h:Plc A p):Gy A=(Qg A p).reverse++(p::aft A p).filterMap (Qa A):=by rw [Db2,Qw h,pF,List.filterMap_reverse];rfl
def headB (A:List Int) (i:Nat) (p:Nat×Nat):Option Bk:=match ((p::aft A p).filterMap (Qa A)).head? with
 |none=>none
 |some q=>if q.1.1=i then some q else none
theorem Bq9 {b:Nat}(h:Uy A p=some b):headB A p.1 p=some (p,b):=by (have e:Qa A p=some (p,b):=by unfold Qa;rw [h];rfl);unfold headB;rw [pG e];exact aF rfl
theorem Bq8 {i:Nat}(h:Uy A p=none) (hn:Il A p=none):headB A i p=none:=by (have e:Qa A p=none:=by unfold Qa;rw [h];rfl);unfold headB;rw [pI e,Yv hn];rfl
theorem An7 {i:Nat}(h:Uy A p=none) (hn:Il A p=some q):headB A i p=headB A i q:=by (have e:Qa A p=none:=by unfold Qa;rw [h];rfl);unfold headB;rw [pI e,Jv hn]
theorem Ap6 {x:Bk}{r:Nat×Nat}(h:Qa A r=some x):x.1=r:=by unfold Qa at h;obtain ⟨b,_,rfl⟩:=mP.1 h;rfl
theorem Bh8 {i:Nat}(h:i<p.1):headB A i p=none:=by unfold headB;split;{rfl};{rename_i x hx;have hm:=List.mem_of_mem_head? hx;obtain ⟨r,hr,he⟩:=oO.1 hm;have e:=Ap6 he;refine aJ ?_;rw [e];rcases aG.1 hr with rfl|hr;{omega};{rcases Bb0.1 hr with ⟨h1,_⟩|⟨h1,_⟩<;>omega}}
theorem Aj9 {own d:Nat}(h:Il A p=none):Dt own (Yw A p) d=none:=by unfold Yw;rw [Yv h];rfl
theorem Aj8 {own d:Nat}(h:Il A p=some q) (hb:Uy A q=none):Dt own (Yw A p) d=Dt own (Yw A q) d:=by (have e:Qa A q=none:=by unfold Qa;rw [hb];rfl);unfold Yw;rw [Jv h,pI e]
theorem Aj7 {own d b:Nat}(h:Il A p=some q) (hb:Uy A q=some b):Dt own (Yw A p) d=if b%3≠own%3 then Dt own (Yw A q) d else if b=own then Dt own (Yw A q) (d+1) else if d=1 then some q else Dt own (Yw A q) (d-1):=by (have e:Qa A q=some (q,b):=by unfold Qa;rw [hb];rfl);unfold Yw;rw [Jv h,pG e,Dt]
theorem Ak2 {own d:Nat}(h:La A p=none):Dt own (Qg A p) d=none:=by unfold Qg;rw [Aq2 h];rfl
theorem Ak1 {own d:Nat}(h:La A p=some q) (hb:Uy A q=none):Dt own (Qg A p) d=Dt own (Qg A q) d:=by (have e:Qa A q=none:=by unfold Qa;rw [hb];rfl);unfold Qg;rw [Rw h,pI e]
theorem Ak0 {own d b:Nat}(h:La A p=some q) (hb:Uy A q=some b):Dt own (Qg A p) d=if b%3≠own%3 then Dt own (Qg A q) d else if b=own then Dt own (Qg A q) (d+1) else if d=1 then some q else Dt own (Qg A q) (d-1):=by (have e:Qa A q=some (q,b):=by unfold Qa;rw [hb];rfl);unfold Qg;rw [Rw h,pG e,Dt]
theorem drop_at {α:Type}:∀(l:List α){x:α}{r:List α},(l++x::r).drop (l.length+1)=r
 |[],_,_=>rfl
 |_::l,_,_=>drop_at l
theorem Bp8 (h:Plc A p):Nz A (Bo A p) p.1=(headB A p.1 p).bind λq=>(Dt q.2 (if q.2<3 then Yw A q.1 else Qg A q.1) 1).map (Bo A):=by
 have hl1:∀y∈(Qg A p).reverse,(λq:Bk=>q.1.1==p.1&&decide (Bo A p<=Bo A q.1)) y=false:=λy hy=>by
  rw [oC] at hy
  obtain ⟨r,hr,he⟩:=oO.1 hy
  have:=Ai2 h.on hr
  dsimp only
  rw [Ap6 he,oW,iH]
  exact .inr (by omega)
 have hge:∀y∈(p::aft A p).filterMap (Qa A),Bo A p<=Bo A y.1/\p.1<=y.1.1:=λy hy=>by
  obtain ⟨r,hr,he⟩:=oO.1 hy
  rw [Ap6 he]
  rcases aG.1 hr with rfl|hr
  ·exact ⟨fJ _,fJ _⟩
  ·refine ⟨oK (Ai4 h.on hr),?_⟩
   rcases Bb0.1 hr with ⟨h1,_⟩|⟨h1,_⟩<;>omega
 (have none_of:∀{m:Option Nat},(Gy A).findIdx? (λq=>q.1.1==p.1&&decide (Bo A p<=Bo A q.1))=none->Nz A (Bo A p) p.1=none:=λ{m} hh=>by unfold Nz;rw [hh]);cases hL:(p::aft A p).filterMap (Qa A) with
 |nil=>(have hh:headB A p.1 p=none:=by unfold headB;rw [hL];rfl);rw [hh];refine none_of (m:=none) ?_;rw [Bc7 h,hL,kM,pJ];exact hl1
 | cons q r =>
  (have hqm:q∈(p::aft A p).filterMap (Qa A):=by rw [hL];exact aH);obtain ⟨g1,g2⟩:=hge q hqm;have hB:Gy A=(Qg A p).reverse++q::r:=(by rw [Bc7 h,hL]);by_cases hq:q.1.1=p.1
  ·(have hh:headB A p.1 p=some q:=by unfold headB;rw [hL];exact aF hq);rw [hh];have hf:(Gy A).findIdx? (λq=>q.1.1==p.1&&decide (Bo A p<=Bo A q.1))=some (Qg A p).reverse.length:=by
    rw [hB]
    exact Bb6 _ hl1 (by rw [hq,jP g1];simp)
   (have hmem:q∈Gy A:=by rw [hB];exact bY _ aH);obtain ⟨hpl,hbk⟩:=Yo hmem;(have eq1:Qa A q.1=some q:=by unfold Qa;rw [hbk];rfl);(have hB2:Gy A=(Qg A q.1).reverse++q::Yw A q.1:=by rw [Bc7 hpl,pG eq1];rfl);have hlen:(Qg A p).reverse.length=(Qg A q.1).reverse.length:=by
    have a1:=(Bi4 hB).1
    have a2:=(Bi4 hB2).1
    rw [a1] at a2
    exact kS a2
   obtain ⟨s1,s2⟩:=List.append_inj (hB.symm.trans hB2) hlen;have s3:r=Yw A q.1:=(List.cons.inj s2).2;unfold Nz;rw [hf];dsimp only;(have hget:(Gy A)[(Qg A p).reverse.length]?=some q:=by rw [hB];simp);rw [hget,Option.bind_some];dsimp only;(have hd:(Gy A).drop ((Qg A p).reverse.length+1)=Yw A q.1:=by rw [hB,←s3];exact drop_at _);have ht:((Gy A).take (Qg A p).reverse.length).reverse=Qg A q.1:=(by rw [hB,List.take_left,s1,oG]);rw [hd,ht]
  ·(have hh:headB A p.1 p=none:=by unfold headB;rw [hL];exact aJ hq);rw [hh];refine none_of (m:=none) ?_;rw [hB,pJ];intro y hy;rcases bV.1 hy with hy|hy;{exact hl1 y hy}
   ·have hyr:y.1.1≠p.1:=by
     rcases aG.1 hy with rfl|hyr
     ·exact hq
     ·intro he
      have hr:=Aw7 A
      rw [hB,oU] at hr
      have h1:=(pK.1 hr.2.1).1 y hyr
      have hmq:q∈Gy A:=by rw [hB];exact bY _ aH
      have hmy:y∈Gy A:=by rw [hB];exact bY _ hy
      have:=Ae5 (Yo hmy).1.on (Yo hmq).1.on (by omega)
      omega
    rw [oW,jO];exact .inl hyr
def upF (f:Nat->Bool) (j n k:Nat):Option Nat:=((List.range' j (n-j)).filter f)[k-1]?
def dnF (f:Nat->Bool) (j k:Nat):Option Nat:=((List.range j).reverse.filter f)[k-1]?
theorem O1 {f:Nat->Bool}{j n k:Nat}(h:n<=j):upF f j n k=none:=by unfold upF;rw [show n-j=0 by omega];rfl
theorem Ax9 {j n:Nat}(h:j<n):List.range' j (n-j)=j::List.range' (j+1) (n-(j+1)):=by obtain ⟨m,hm⟩:∃m,n-j=m+1:=⟨n-j-1,by omega⟩;rw [hm,nV,show n-(j+1)=m by omega]
theorem Ay0 {f:Nat->Bool}{j n k:Nat}(h:j<n) (hf:f j=false):upF f j n k=upF f (j+1) n k:=by unfold upF;rw [Ax9 h,nK (by rw [hf];decide)]
theorem Ag6 {f:Nat->Bool}{j n:Nat}(h:j<n) (hf:f j=true):upF f j n 1=some j:=by unfold upF;rw [Ax9 h,nH hf];rfl
theorem O4 {f:Nat->Bool}{j n k:Nat}(h:j<n) (hf:f j=true) (hk:1<=k):upF f j n (k+1)=upF f (j+1) n k:=by unfold upF;rw [Ax9 h,nH hf];obtain ⟨i,rfl⟩:∃i,k=i+1:=⟨k-1,by omega⟩;rfl
theorem Bi9 {f:Nat->Bool}{k:Nat}:dnF f 0 k=none:=rfl
theorem Bb8 {f:Nat->Bool}{j k:Nat}(hf:f j=false):dnF f (j+1) k=dnF f j k:=by unfold dnF;rw [mF,nX,pR,pU,nK (by rw [hf];decide)]
theorem Ah9 {f:Nat->Bool}{j:Nat}(hf:f j=true):dnF f (j+1) 1=some j:=by unfold dnF;rw [mF,nX,pR,pU,nH hf];rfl
theorem X6 {f:Nat->Bool}{j k:Nat}(hf:f j=true) (hk:1<=k):dnF f (j+1) (k+1)=dnF f j k:=by unfold dnF;rw [mF,nX,pR,pU,nH hf];obtain ⟨i,rfl⟩:∃i,k=i+1:=⟨k-1,by omega⟩;rfl
theorem Bu8 {i c:Nat}{x:Cel}(hx:(Ag A i)[c]?=some x) (hk:x.kind≠0) (h0:∀(j:Nat) y,j<c->(Ag A i)[j]?=some y->y.kind=0):Pv A i=c:=by
 have hl:=(fG.1 hx).1;have e:(Ag A i).findIdx (λc=>c.kind !=0)=c:=by
  rw [List.findIdx_eq hl]
  refine ⟨?_,λj hj=>?_⟩
  ·rw [jC hl] at hx
   rw [kS hx];simpa using hk
  ·have:=h0 j _ hj (jC (by omega))
   simpa using this
 unfold Pv;rw [e,aF hl]
theorem Z9 {i:Nat}(h0:∀(j:Nat) y,(Ag A i)[j]?=some y->y.kind=0):Pv A i=(Ag A i).length-1:=by
 have e:(Ag A i).findIdx (λc=>c.kind !=0)=(Ag A i).length:=by
  rw [nS]
  intro c hc
  obtain ⟨j,hj⟩:=gZ hc
  have:=h0 j c hj
  simpa using this
 unfold Pv;rw [e,aJ (Nat.lt_irrefl _)]
theorem Cu2 (A:List Int) (i:Nat):Ez A i=((Ag A i).length==0||Fg (Ag A i) (Pv A i) true==0):=by
 by_cases h0:∀(j:Nat) y,(Ag A i)[j]?=some y->y.kind=0
 ·have hb:Ez A i=true:=by
   unfold Ez
   rw [aS]
   intro c hc
   obtain ⟨j,hj⟩:=gZ hc
   rw [h0 j c hj];rfl
  rw [hb,Z9 h0];rcases lC (Ag A i).length with u|u;{rw [u];rfl};{obtain ⟨c,hc⟩:=Dk (C:=Ag A i) (j:=(Ag A i).length-1) (by omega);unfold Fg;rw [hc,aF rfl];show true=(_||min c.kind 1==0);rw [h0 _ c hc];simp}
 ·have hex:∃(c:Nat) (x:Cel),(Ag A i)[c]?=some x/\x.kind≠0:=lJ λhn=>h0 λj y hy=>lJ λhk=>hn ⟨j,y,hy,hk⟩;have hf:(Ag A i).findIdx (λc=>c.kind !=0)<(Ag A i).length:=by
   obtain ⟨c,x,hx,hk⟩:=hex
   rw [List.findIdx_lt_length]
   exact ⟨x,eY hx,by simpa using hk⟩
  (have hs:Pv A i=(Ag A i).findIdx (λc=>c.kind !=0):=by unfold Pv;rw [aF hf]);have hk:=nT (w:=hf);have hb:Ez A i=false:=by
   unfold Ez
   rw [pV]
   exact ⟨_,jA hf,by simpa using hk⟩
  rw [hb,hs];unfold Fg;rw [jC hf,aF rfl];have hk2:((Ag A i)[(Ag A i).findIdx λc=>c.kind !=0]'hf).kind≠0:=(by simpa using hk);have hn0:(Ag A i).length≠0:=(by omega);show false=(_||min _ 1==0);symm;rw [eF,jO,jO];refine ⟨hn0,?_⟩;show min ((Ag A i)[(Ag A i).findIdx λc=>c.kind !=0]'hf).kind 1≠0;omega
end Mot
end
section
open Go Go.Vx
def F34 (a0:Option Addr) (a1:Int) (a2:Bool) (K:Int->Wp):Wp:=Aa Tryz.prog 78 #[(.pointer a0),(vI a1),(.bool a2)] (.one (.agg Bf)) λ(x1:(Int×Int×Int×Int×Int×Sl×Sl×Unit))=>Af (.cells #[(vI 0),(vI 0),(vI 0),(vI 0),(vI 0),(.slice none 0 0),(.slice none 0 0)] 135) λb2=>Ad (at0 b2) (vA Bf x1) 7<|cN 23 #[(.pointer a0)] λx3=>lI (ad b2 1) λx4=>sif (decide ((if x3<(if 0>a1 then 0 else a1) then x3 else (if 0>a1 then 0 else a1))>=x4)) (sif a2 (lI (ad b2 1) λx5=>K x5) (drew<|lds Bf (at0 b2) λ(x6:(Int×Int×Int×Int×Int×Sl×Sl×Unit))=>lds Bf (at0 b2) λ(x7:(Int×Int×Int×Int×Int×Sl×Sl×Unit))=>cN 80 #[(vA Bf x7)] λx8=>keep (λw=>Ap w (at0 b2) 0 (Cells.vals Bf x6))<|cN 79 #[(vA Bf x6),(vI (W64 (x8-1)))] λx9=>K x9)) (drew<|lds Bf (at0 b2) λ(x10:(Int×Int×Int×Int×Int×Sl×Sl×Unit))=>lds Bf (at0 b2) λ(x11:(Int×Int×Int×Int×Int×Sl×Sl×Unit))=>cN 81 #[(vA Bf x11),(vI (if x3<(if 0>a1 then 0 else a1) then x3 else (if 0>a1 then 0 else a1)))] λx12=>keep (λw=>Ap w (at0 b2) 0 (Cells.vals Bf x10))<|cN 79 #[(vA Bf x10),(vI x12)] λx13=>K x13)
def h34:Hint:=(hS (hR 1) (hS (hR 6) (hS (hR 6) (hS (hS (hR 5) (hC (hS (hS (hR 1) (hC (hS (hR 4) hL) hL)) (hS (.region (lR 6) (hO 6)) hL)) hL)) (hS (.region (lR 6) (hO 6)) hL)))))
theorem A34 {a0:Option Addr}{a1:Int}{a2:Bool}{K:Int->Wp}{w:World}(h:F34 a0 a1 a2 K w):Aa Tryz.prog 34 #[(.pointer a0),(vI a1),(.bool a2)] rI K w:=tied Ai Tryz.func34 h34 _ h
def F36 (a0:Option Addr) (a1:Int) (a2:Int) (a3:Bool) (K:Int->Wp):Wp:=cN 87 #[(.pointer a0)] λx1=>Aa Tryz.prog 86 #[(.pointer a0),(vI (if (W64 (x1-1))<(if 0>a1 then 0 else a1) then (W64 (x1-1)) else (if 0>a1 then 0 else a1)))] (.one (.agg Bf)) λ(x2:(Int×Int×Int×Int×Int×Sl×Sl×Unit))=>Af (.cells #[(vI 0),(vI 0),(vI 0),(vI 0),(vI 0),(.slice none 0 0),(.slice none 0 0)] 135) λb3=>Ad (at0 b3) (vA Bf x2) 7<|jI (λJ4=>lds Bf (at0 b3) λ(x6:(Int×Int×Int×Int×Int×Sl×Sl×Unit))=>cN 80 #[(vA Bf x6)] λx7=>jB (λJ8=>sif (decide (a2>=x7)) (J8 ((!a3),())) (J8 (false,()))) λs9=>sif s9.1 (J4 ((W64 (x7-1)),())) (J4 (a2,()))) λs5=>lds Bf (at0 b3) λ(x10:(Int×Int×Int×Int×Int×Sl×Sl×Unit))=>cN 79 #[(vA Bf x10),(vI s5.1)] λx11=>K x11
def h36:Hint:=(hS (hR 1) (hS (hR 10) (hJ (0x3ff80404,[(2,tI)]) (hS (hR 3) (hJ (0xfe00000,[(27,tB)]) (.region [] (.ops 4 (.split 24 (hO 3) (.skips 2 (hO 1))))) (hC (hR 3) hL))) (hS (hR 4) hL))))
theorem A36 {a0:Option Addr}{a1:Int}{a2:Int}{a3:Bool}{K:Int->Wp}{w:World}(h:F36 a0 a1 a2 a3 K w):Aa Tryz.prog 36 #[(.pointer a0),(vI a1),(vI a2),(.bool a3)] rI K w:=tied Ai Tryz.func36 h36 _ h
def F38 (a0:Option Addr) (a1:Int) (K:Int->Wp):Wp:=Aa Tryz.prog 78 #[(.pointer a0),(vI a1),(.bool true)] (.one (.agg Bf)) λ(x1:(Int×Int×Int×Int×Int×Sl×Sl×Unit))=>Af (.cells #[(vI 0),(vI 0),(vI 0),(vI 0),(vI 0),(.slice none 0 0),(.slice none 0 0)] 135) λb2=>Ad (at0 b2) (vA Bf x1) 7<|lds Bf (at0 b2) λ(x3:(Int×Int×Int×Int×Int×Sl×Sl×Unit))=>cN 81 #[(vA Bf x3),(vI a1)] λx4=>K x4
def h38:Hint:=(hS (hR 1) (hS (hR 5) (hS (hR 4) hL)))
theorem A38 {a0:Option Addr}{a1:Int}{K:Int->Wp}{w:World}(h:F38 a0 a1 K w):Aa Tryz.prog 38 #[(.pointer a0),(vI a1)] rI K w:=tied Ai Tryz.func38 h38 _ h
def F40 (a0:Option Addr) (a1:Int) (a2:I3) (a3:Bool) (K:(I3×Int×Unit)->Wp):Wp:=Af (.cells #[(vI a2.1),(vI a2.2.1),(vI a2.2.2.1)] 48) λb1=>Af (.cells #[(vI 0),(vI 0),(vI 0)] 83) λb2=>lds c48 (at0 b1) λ(x3:I3)=>Aa Tryz.prog 89 #[(.func (.func 90) #[] #[]),(.pointer a0),(vI a1),(vI 0),(vA c48 x3),(.bool a3)] (.tup [(.agg c83),(.one cI)]) λ(x4:(I3×Int×Unit))=>Ad (at0 b2) (vA c83 x4.1) 3<|lds c83 (at0 b2) λ(x5:I3)=>K (x5,x4.2.1,())
def h40:Hint:=(hS (hR 3) (hS (hR 9) hL))
theorem A40 {a0:Option Addr}{a1:Int}{a2:I3}{a3:Bool}{K:(I3×Int×Unit)->Wp}{w:World}(h:F40 a0 a1 a2 a3 K w):Aa Tryz.prog 40 #[(.pointer a0),(vI a1),(vA c48 a2),(.bool a3)] (.tup [(.agg c83),(.one cI)]) K w:=tied Ai Tryz.func40 h40 _ h
def F43 (a0:Option Addr) (a1:Int) (a2:Int) (a3:I3) (K:(I3×Int×Unit)->Wp):Wp:=Af (.cells #[(vI a3.1),(vI a3.2.1),(vI a3.2.2.1)] 48) λb1=>Af (.cells #[(vI 0),(vI 0),(vI 0)] 83) λb2=>lds c48 (at0 b1) λ(x3:I3)=>Aa Tryz.prog 89 #[(.func (.func 96) #[] #[]),(.pointer a0),(vI a1),(vI a2),(vA c48 x3),(.bool false)] (.tup [(.agg c83),(.one cI)]) λ(x4:(I3×Int×Unit))=>Ad (at0 b2) (vA c83 x4.1) 3<|lds c83 (at0 b2) λ(x5:I3)=>K (x5,x4.2.1,())
def h43:Hint:=(hS (hR 3) (hS (hR 9) hL))
theorem A43 {a0:Option Addr}{a1:Int}{a2:Int}{a3:I3}{K:(I3×Int×Unit)->Wp}{w:World}(h:F43 a0 a1 a2 a3 K w):Aa Tryz.prog 43 #[(.pointer a0),(vI a1),(vI a2),(vA c48 a3)] (.tup [(.agg c83),(.one cI)]) K w:=tied Ai Tryz.func43 h43 _ h
def F45 (a0:Option Addr) (a1:Int) (a2:I3) (a3:Bool) (K:(I3×Int×Unit)->Wp):Wp:=Af (.cells #[(vI a2.1),(vI a2.2.1),(vI a2.2.2.1)] 48) λb1=>Af (.cells #[(vI 0),(vI 0),(vI 0)] 83) λb2=>lds c48 (at0 b1) λ(x3:I3)=>Aa Tryz.prog 89 #[(.func (.func 97) #[] #[]),(.pointer a0),(vI a1),(vI 0),(vA c48 x3),(.bool a3)] (.tup [(.agg c83),(.one cI)]) λ(x4:(I3×Int×Unit))=>Ad (at0 b2) (vA c83 x4.1) 3<|lds c83 (at0 b2) λ(x5:I3)=>K (x5,x4.2.1,())
def h45:Hint:=(hS (hR 3) (hS (hR 9) hL))
theorem A45 {a0:Option Addr}{a1:Int}{a2:I3}{a3:Bool}{K:(I3×Int×Unit)->Wp}{w:World}(h:F45 a0 a1 a2 a3 K w):Aa Tryz.prog 45 #[(.pointer a0),(vI a1),(vA c48 a2),(.bool a3)] (.tup [(.agg c83),(.one cI)]) K w:=tied Ai Tryz.func45 h45 _ h
def F47 (a0:Option Addr) (a1:Int) (a2:I3) (K:(I3×Int×Unit)->Wp):Wp:=Af (.cells #[(vI a2.1),(vI a2.2.1),(vI a2.2.2.1)] 48) λb1=>Af (.cells #[(vI 0),(vI 0),(vI 0)] 83) λb2=>lds c48 (at0 b1) λ(x3:I3)=>Aa Tryz.prog 89 #[(.func (.func 101) #[] #[]),(.pointer a0),(vI a1),(vI 0),(vA c48 x3),(.bool false)] (.tup [(.agg c83),(.one cI)]) λ(x4:(I3×Int×Unit))=>Ad (at0 b2) (vA c83 x4.1) 3<|lds c83 (at0 b2) λ(x5:I3)=>K (x5,x4.2.1,())
def h47:Hint:=(hS (hR 3) (hS (hR 8) hL))
theorem A47 {a0:Option Addr}{a1:Int}{a2:I3}{K:(I3×Int×Unit)->Wp}{w:World}(h:F47 a0 a1 a2 K w):Aa Tryz.prog 47 #[(.pointer a0),(vI a1),(vA c48 a2)] (.tup [(.agg c83),(.one cI)]) K w:=tied Ai Tryz.func47 h47 _ h
def F49 (a0:Option Addr) (a1:Int) (a2:I3) (K:(I3×Int×Unit)->Wp):Wp:=Af (.cells #[(vI a2.1),(vI a2.2.1),(vI a2.2.2.1)] 48) λb1=>Af (.cells #[(vI 0),(vI 0),(vI 0)] 94) λb2=>cN 34 #[(.pointer a0),(vI a1),(.bool false)] λx3=>Af (.cells #[(vI 0),(vI 0),(vI 0)] 83) λb4=>jI (λJ5=>lI (at0 b1) λx7=>jB (λJ8=>sif (decide (x7>=1)) (J8 ((decide (x7<=10)),())) (J8 (false,()))) λs9=>sif s9.1 (lds c48 (at0 b1) λ(x10:I3)=>Aa Tryz.prog 40 #[(.pointer a0),(vI x3),(vA c48 x10),(.bool true)] (.tup [(.agg c83),(.one cI)]) λ(x11:(I3×Int×Unit))=>Ad (at0 b4) (vA c83 x11.1) 3<|J5 (x11.2.1,())) (jB (λJ12=>sif (decide (x7>=11)) (J12 ((decide (x7<=18)),())) (J12 (false,()))) λs13=>sif s13.1 (drew<|lds c48 (at0 b1) λ(x14:I3)=>cN 38 #[(.pointer a0),(vI x3)] λx15=>keep (λw=>Ap w (at0 b1) 0 (Cells.vals c48 x14))<|Aa Tryz.prog 43 #[(.pointer a0),(vI x3),(vI x15),(vA c48 x14)] (.tup [(.agg c83),(.one cI)]) λ(x16:(I3×Int×Unit))=>Ad (at0 b4) (vA c83 x16.1) 3<|J5 (x16.2.1,())) (sif (x7==60) (stC (at0 b1) (vI 15)<|lds c48 (at0 b1) λ(x17:I3)=>Aa Tryz.prog 43 #[(.pointer a0),(vI x3),(vI 0),(vA c48 x17)] (.tup [(.agg c83),(.one cI)]) λ(x18:(I3×Int×Unit))=>Ad (at0 b4) (vA c83 x18.1) 3<|J5 (x18.2.1,())) (jB (λJ19=>sif (decide (x7>=21)) (J19 ((decide (x7<=30)),())) (J19 (false,()))) λs20=>sif s20.1 (lds c48 (at0 b1) λ(x21:I3)=>Aa Tryz.prog 45 #[(.pointer a0),(vI x3),(vA c48 x21),(.bool true)] (.tup [(.agg c83),(.one cI)]) λ(x22:(I3×Int×Unit))=>Ad (at0 b4) (vA c83 x22.1) 3<|J5 (x22.2.1,())) (jB (λJ23=>sif (decide (x7>=31)) (J23 ((decide (x7<=33)),())) (J23 (false,()))) λs24=>sif s24.1 (lds c48 (at0 b1) λ(x25:I3)=>Aa Tryz.prog 47 #[(.pointer a0),(vI x3),(vA c48 x25)] (.tup [(.agg c83),(.one cI)]) λ(x26:(I3×Int×Unit))=>Ad (at0 b4) (vA c83 x26.1) 3<|J5 (x26.2.1,())) (J5 (1,()))))))) λs6=>sif (s6.1 !=0) (Ad (at0 b2) (.agg #[(vI 0),(vI 0),(vI 0)]) 3<|lds c94 (at0 b2) λ(x27:I3)=>K (x27,s6.1,())) (jU (λJ28=>jB (λJ30=>lI (at0 b1) λx32=>sif (x32==21) (J30 (true,())) (lI (at0 b1) λx33=>J30 ((x33==25),()))) λs31=>sif s31.1 (lI (at0 b4) λx34=>lds c48 (at0 b1) λ(x35:I3)=>Aa Tryz.prog 104 #[(.pointer a0),(vI x3),(vI x34),(vA c48 x35)] (.tup [(.one cI),(.one .bool)]) λ(x36:(Int×Bool×Unit))=>sif x36.2.1 (Ad (at0 b2) (.agg #[(vI x3),(vI x36.1),(vI 0)]) 3<|lds c94 (at0 b2) λ(x37:I3)=>K (x37,0,())) (J28 ())) (J28 ())) λs29=>lI (at0 b4) λx38=>lI (ad b4 1) λx39=>Aa Tryz.prog 52 #[(.pointer a0),(vI x3),(vI x38),(vI x39)] (.tup [(.agg c94),(.one cI)]) λ(x40:(I3×Int×Unit))=>Ad (at0 b2) (vA c94 x40.1) 3<|lds c94 (at0 b2) λ(x41:I3)=>K (x41,x40.2.1,()))
def h49:Hint:=(hS (hR 3) (hS (hR 4) (hS (hR 1) (hS (hR 1) (hJ ((mR [(10,12),(17,89)]),[(10,tI)]) (hS (hR 3) (.block (hJ (66584576,[(19,tB)]) (.region [] (.ops 3 (.split 22 (hO 4) (.skips 2 (hO 2))))) (hC (hR 9) (hJ (0xfe00000000,[(33,tB)]) (.region [] (.ops 3 (.split 36 (hO 4) (.skips 2 (hO 2))))) (hC (.region [0,1,2,3,5,4,6,7,8,9,10,11] (hO 12)) (hS (hR 3) (hC (hS (hR 2) (hR 9)) (hJ ((mR [(61,68)]),[(61,tB)]) (.region [] (.ops 3 (.split 64 (hO 4) (.skips 2 (hO 2))))) (hC (hR 9) (hJ ((mR [(75,82)]),[(75,tB)]) (.region [] (.ops 3 (.split 78 (hO 4) (.skips 2 (hO 2))))) (hC (hR 9) (hR 1))))))))))))) (hS (hS (hR 2) (hC (hS (hR 4) hL) hL)) (hJ (0x3ffffe00000000000000000003080,[]) (hJ ((mR [(93,101)]),[(100,tB)]) (.region [] (.ops 4 (.split 96 (.skips 3 (hO 1)) (hO 4)))) (hC (hS (hR 11) (hS (hR 1) (hC (hS (hR 5) hL) hL))) hL)) (hS (hR 11) hL))))))))
theorem A49 {a0:Option Addr}{a1:Int}{a2:I3}{K:(I3×Int×Unit)->Wp}{w:World}(h:F49 a0 a1 a2 K w):Aa Tryz.prog 49 #[(.pointer a0),(vI a1),(vA c48 a2)] (.tup [(.agg c94),(.one cI)]) K w:=tied Ai Tryz.func49 h49 _ h
def F52 (a0:Option Addr) (a1:Int) (a2:Int) (a3:Int) (K:(I3×Int×Unit)->Wp):Wp:=Af (.cells #[(vI 0),(vI 0),(vI 0)] 94) λb1=>cN 34 #[(.pointer a0),(vI a1),(.bool true)] λx2=>cN 34 #[(.pointer a0),(vI a2),(.bool true)] λx3=>Aa Tryz.prog 78 #[(.pointer a0),(vI (if x3>x2 then x3 else x2)),(.bool true)] (.one (.agg Bf)) λ(x4:(Int×Int×Int×Int×Int×Sl×Sl×Unit))=>Af (.cells #[(vI 0),(vI 0),(vI 0),(vI 0),(vI 0),(.slice none 0 0),(.slice none 0 0)] 135) λb5=>Ad (at0 b5) (vA Bf x4) 7<|sif (a3==0) (jI (λJ6=>jB (λJ8=>lI (at0 b5) λx10=>sif ((if x3>x2 then x3 else x2)==x10) (sif (decide ((if x3<x2 then x3 else x2)<(if x3>x2 then x3 else x2))) (lI (ad b5 4) λx11=>J8 ((decide (x11>0)),())) (J8 (false,()))) (J8 (false,()))) λs9=>sif s9.1 (lI (ad b5 4) λx12=>Aa Tryz.prog 106 #[(.pointer a0),(vI (W64 (x12-1)))] (.tup [(.agg Ky),(.one cI)]) λ(x13:(I4×Int×Unit))=>Af (.cells #[(vI 0),(vI 0),(vI 0),(vI 0)] 133) λb14=>Ad (at0 b14) (vA Ky x13.1) 4<|lI (ad b14 1) λx15=>J6 ((if (if x3<x2 then x3 else x2)>x15 then (if x3<x2 then x3 else x2) else x15),())) (J6 ((if x3>x2 then x3 else x2),()))) λs7=>Ad (at0 b1) (.agg #[(vI (if x3<x2 then x3 else x2)),(vI s7.1),(vI 0)]) 3<|lds c94 (at0 b1) λ(x16:I3)=>K (x16,0,())) (sif (a3==1) (jI (λJ17=>lI (ad b5 1) λx19=>sif (decide ((if x3>x2 then x3 else x2)<x19)) (drew<|lds Bf (at0 b5) λ(x20:(Int×Int×Int×Int×Int×Sl×Sl×Unit))=>lds Bf (at0 b5) λ(x21:(Int×Int×Int×Int×Int×Sl×Sl×Unit))=>cN 81 #[(vA Bf x21),(vI (if x3>x2 then x3 else x2))] λx22=>keep (λw=>Ap w (at0 b5) 0 (Cells.vals Bf x20))<|cN 79 #[(vA Bf x20),(vI (W64 (x22+1)))] λx23=>J17 (x23,())) (J17 ((if x3>x2 then x3 else x2),()))) λs18=>Ad (at0 b1) (.agg #[(vI (if x3<x2 then x3 else x2)),(vI s18.1),(vI 0)]) 3<|lds c94 (at0 b1) λ(x24:I3)=>K (x24,0,())) (sif (a3==2) (Aa Tryz.prog 78 #[(.pointer a0),(vI (if x3<x2 then x3 else x2)),(.bool false)] (.one (.agg Bf)) λ(x25:(Int×Int×Int×Int×Int×Sl×Sl×Unit))=>Aa Tryz.prog 78 #[(.pointer a0),(vI (if x3>x2 then x3 else x2)),(.bool false)] (.one (.agg Bf)) λ(x26:(Int×Int×Int×Int×Int×Sl×Sl×Unit))=>Af (.cells #[(vI 0),(vI 0),(vI 0),(vI 0),(vI 0),(.slice none 0 0),(.slice none 0 0)] 135) λb27=>Af (.cells #[(vI 0),(vI 0),(vI 0),(vI 0),(vI 0),(.slice none 0 0),(.slice none 0 0)] 135) λb28=>Ad (at0 b27) (vA Bf x25) 7<|Ad (at0 b28) (vA Bf x26) 7<|lI (at0 b27) λx29=>lI (ad b28 2) λx30=>Ad (at0 b1) (.agg #[(vI x29),(vI x30),(vI 1)]) 3<|lds c94 (at0 b1) λ(x31:I3)=>K (x31,0,())) (Ad (at0 b1) (.agg #[(vI 0),(vI 0),(vI 0)]) 3<|lds c94 (at0 b1) λ(x32:I3)=>K (x32,1,()))))
def h52:Hint:=(hS (hR 2) (hS (hR 8) (hS (hR 8) (hS (hR 5) (hS (hS (hR 1) (.block (hS (hR 2) (hC (hJ (0x3ffffff800006800,[(11,tI)]) (hJ ((mR [(35,50)]),[(49,tB)]) (.region [] (.ops 6 (.split 40 (.ops 5 (.split 45 (hO 4) (.skips 3 (hO 1)))) (.skips 3 (.ops 2 (.skips 3 (hO 1))))))) (hC (hS (hR 11) (hR 5)) hL)) (hS (hR 5) hL)) (hS (hR 2) (hC (hJ (0x3ff80000000000000800,[(11,tI)]) (hS (hR 5) (hC (.region (lR 7) (hO 7)) hL)) (hS (hR 5) hL)) (hS (hR 2) (hC (hS (hR 10) (hS (hR 9) hL)) hL)))))))) (hS (hR 3) hL))))))
theorem A52 {a0:Option Addr}{a1:Int}{a2:Int}{a3:Int}{K:(I3×Int×Unit)->Wp}{w:World}(h:F52 a0 a1 a2 a3 K w):Aa Tryz.prog 52 #[(.pointer a0),(vI a1),(vI a2),(vI a3)] (.tup [(.agg c94),(.one cI)]) K w:=tied Ai Tryz.func52 h52 _ h
def F78 (a0:Option Addr) (a1:Int) (a2:Bool) (K:(Int×Int×Int×Int×Int×Sl×Sl×Unit)->Wp):Wp:=Af (.cells #[(vI 0),(vI 0),(vI 0),(vI 0),(vI 0),(.slice none 0 0),(.slice none 0 0)] 135) λb1=>cN 130 #[(.pointer a0),(vI a1)] λx2=>jI (λJ3=>sif (!a2) (cN 87 #[(.pointer a0)] λx5=>J3 ((if (W64 (x5-1))<x2 then (W64 (x5-1)) else x2),())) (J3 (x2,()))) λs4=>Aa Tryz.prog 86 #[(.pointer a0),(vI s4.1)] (.one (.agg Bf)) λ(x6:(Int×Int×Int×Int×Int×Sl×Sl×Unit))=>Ad (at0 b1) (vA Bf x6) 7<|lds Bf (at0 b1) λ(x7:(Int×Int×Int×Int×Int×Sl×Sl×Unit))=>K x7
def h78:Hint:=(hS (hR 1) (hS (hR 4) (hJ (260224,[(7,tI)]) (hS (hR 2) (hC (hR 6) hL)) (hS (hR 4) hL))))
theorem A78 {a0:Option Addr}{a1:Int}{a2:Bool}{K:(Int×Int×Int×Int×Int×Sl×Sl×Unit)->Wp}{w:World}(h:F78 a0 a1 a2 K w):Aa Tryz.prog 78 #[(.pointer a0),(vI a1),(.bool a2)] (.one (.agg Bf)) K w:=tied Ai Tryz.func78 h78 _ h
def F79 (a0:(Int×Int×Int×Int×Int×Sl×Sl×Unit)) (a1:Int) (K:Int->Wp):Wp:=Af (.cells #[(vI a0.1),(vI a0.2.1),(vI a0.2.2.1),(vI a0.2.2.2.1),(vI a0.2.2.2.2.1),a0.2.2.2.2.2.1.v,a0.2.2.2.2.2.2.1.v] 135) λb1=>drew<|lI (at0 b1) λx2=>ld (.sl) (ad b1 6) λ(x3:Sl)=>lds Bf (at0 b1) λ(x4:(Int×Int×Int×Int×Int×Sl×Sl×Unit))=>cN 80 #[(vA Bf x4)] λx5=>keep (λw=>w.cell? (ad b1 6)=some (Cell.val (.sl) x3))<|keep (λw=>w.cell? (at0 b1)=some (Cell.val cI x2))<|ixI x3 (if x5<(if 0>a1 then 0 else a1) then x5 else (if 0>a1 then 0 else a1)) 1 λx7=>K (W64 (x2+x7))
def h79:Hint:=(hS (hR 2) (hS (.region (lR 14) (hO 14)) hL))
theorem A79 {a0:(Int×Int×Int×Int×Int×Sl×Sl×Unit)}{a1:Int}{K:Int->Wp}{w:World}(h:F79 a0 a1 K w):Aa Tryz.prog 79 #[(vA Bf a0),(vI a1)] rI K w:=tied Ai Tryz.func79 h79 _ h
def F80 (a0:(Int×Int×Int×Int×Int×Sl×Sl×Unit)) (K:Int->Wp):Wp:=Af (.cells #[(vI a0.1),(vI a0.2.1),(vI a0.2.2.1),(vI a0.2.2.2.1),(vI a0.2.2.2.2.1),a0.2.2.2.2.2.1.v,a0.2.2.2.2.2.2.1.v] 135) λb1=>ld (.sl) (ad b1 6) λ(x2:Sl)=>K (W64 (((x2.len:Nat):Int)-1))
def h80:Hint:=(hS (hR 2) (hS (hR 5) hL))
theorem A80 {a0:(Int×Int×Int×Int×Int×Sl×Sl×Unit)}{K:Int->Wp}{w:World}(h:F80 a0 K w):Aa Tryz.prog 80 #[(vA Bf a0)] rI K w:=tied Ai Tryz.func80 h80 _ h
def F81 (a0:(Int×Int×Int×Int×Int×Sl×Sl×Unit)) (a1:Int) (K:Int->Wp):Wp:=Af (.cells #[(vI a0.1),(vI a0.2.1),(vI a0.2.2.1),(vI a0.2.2.2.1),(vI a0.2.2.2.2.1),a0.2.2.2.2.2.1.v,a0.2.2.2.2.2.2.1.v] 135) λb1=>lds Bf (at0 b1) λ(x2:(Int×Int×Int×Int×Int×Sl×Sl×Unit))=>cN 80 #[(vA Bf x2)] λx3=>jI (λJ4=>sN (λs6 again7=>sif (decide (s6.1<s6.2.1)) (chk ((2:Int)≠0)<|drew<|lI (at0 b1) λx8=>ld (.sl) (ad b1 6) λ(x9:Sl)=>ix x9.a x9.len (W64 (Int.tdiv (W64 ((W64 (s6.1+s6.2.1))+1)) 2)) λp10=>ld cI (p10.add (scaled (Int.toNat (W64 (Int.tdiv (W64 ((W64 (s6.1+s6.2.1))+1)) 2))) 1)) λ(x11:Int)=>sif (decide ((W64 (x8+x11))<=a1)) (again7 ((W64 (Int.tdiv (W64 ((W64 (s6.1+s6.2.1))+1)) 2)),s6.2.1,())) (again7 (s6.1,(W64 ((W64 (Int.tdiv (W64 ((W64 (s6.1+s6.2.1))+1)) 2))-1)),()))) (J4 (s6.1,()))) (0,x3,())) λs5=>K s5.1
def h81:Hint:=(hS (hR 2) (hS (hR 4) (hJ (0xfffffce0,[(5,tI)]) (.block (.loop 0xfffffce0 [(5,tI),(6,tI)] (hS (hS (hR 3) (hC hL hL)) (.block (hS (hR 6) (hS (.region (lR 11) (hO 11)) (hC (hR 2) (hR 3)))))))) (hS (hR 2) hL))))
theorem A81 {a0:(Int×Int×Int×Int×Int×Sl×Sl×Unit)}{a1:Int}{K:Int->Wp}{w:World}(h:F81 a0 a1 K w):Aa Tryz.prog 81 #[(vA Bf a0),(vI a1)] rI K w:=tied Ai Tryz.func81 h81 _ h
def F86 (a0:Option Addr) (a1:Int) (K:(Int×Int×Int×Int×Int×Sl×Sl×Unit)->Wp):Wp:=Af (.cells #[(vI 0),(vI 0),(vI 0),(vI 0),(vI 0),(.slice none 0 0),(.slice none 0 0)] 135) λb1=>Aa Tryz.prog 106 #[(.pointer a0),(vI a1)] (.tup [(.agg Ky),(.one cI)]) λ(x2:(I4×Int×Unit))=>Af (.cells #[(vI 0),(vI 0),(vI 0),(vI 0)] 133) λb3=>Ad (at0 b3) (vA Ky x2.1) 4<|join (S:=Addr×Unit) (λJ4=>drew<|lds Ky (at0 b3) λ(x6:I4)=>lI (at0 b3) λx7=>lI (ad b3 1) λx8=>both (Af (.cells #[(vI 0),(vI 0),(vI 0),(vI 0),(vI 0),(.slice none 0 0),(.slice none 0 0)] 135) λb9=>keep (λw=>w.cell? (ad b3 1)=some (Cell.val cI x8))<|keep (λw=>w.cell? (at0 b3)=some (Cell.val cI x7))<|keep (λw=>Ap w (at0 b3) 0 (Cells.vals Ky x6))<|cS 25 #[(.pointer a0),(vI x7),(vI x8)] λx10=>keep (λw=>Ap w (at0 b3) 0 (Cells.vals Ky x6))<|Ad (at0 b9) (.agg #[(vI x6.1),(vI x6.2.1),(vI x6.2.2.1),(vI x6.2.2.2.1),(vI a1),x10.v,(.slice none 0 0)]) 7<|J4 ((at0 b9),()))<|cS 25 #[(.pointer a0),(vI x7),(vI x8)] λx11=>keep (λw=>Ap w (at0 b3) 0 (Cells.vals Ky x6))<|both (Af (.cells #[(vI 0),(vI 0),(vI 0),(vI 0),(vI 0),(.slice none 0 0),(.slice none 0 0)] 135) λb12=>keep (λw=>w.cell? (ad b3 1)=some (Cell.val cI x8))<|keep (λw=>w.cell? (at0 b3)=some (Cell.val cI x7))<|keep (λw=>Ap w (at0 b3) 0 (Cells.vals Ky x6))<|Ad (at0 b12) (.agg #[(vI x6.1),(vI x6.2.1),(vI x6.2.2.1),(vI x6.2.2.2.1),(vI a1),x11.v,(.slice none 0 0)]) 7<|J4 ((at0 b12),()))<|nothing) λs5=>ld (.sl) (s5.1.add 5) λ(x13:Sl)=>cS 131 #[x13.v] λx14=>stC (s5.1.add 6) x14.v<|lds Bf s5.1 λ(x15:(Int×Int×Int×Int×Int×Sl×Sl×Unit))=>Ad (at0 b1) (vA Bf x15) 7<|lds Bf (at0 b1) λ(x16:(Int×Int×Int×Int×Int×Sl×Sl×Unit))=>K x16
def h86:Hint:=(hS (hR 1) (hS (hR 9) (hJ (8372352,[(7,(.one .addr))]) (.region [0,1,2,3,4,5,6,7,8,10] (.float [9] (.ops 7 (.alt none (.plain (hO 3)) (.ops 2 (.alt none (.plain (hO 1)) .stop)))))) (hS (hR 5) (hS (hR 2) hL)))))
theorem A86 {a0:Option Addr}{a1:Int}{K:(Int×Int×Int×Int×Int×Sl×Sl×Unit)->Wp}{w:World}(h:F86 a0 a1 K w):Aa Tryz.prog 86 #[(.pointer a0),(vI a1)] (.one (.agg Bf)) K w:=tied Ai Tryz.func86 h86 _ h
def F87 (a0:Option Addr) (K:Int->Wp):Wp:=cN 23 #[(.pointer a0)] λx1=>cN 132 #[(.pointer a0),(vI x1)] λx2=>jI (λJ3=>cB 133 #[(.pointer a0)] λx5=>sif (!x5) (J3 ((W64 (x2+1)),())) (J3 (x2,()))) λs4=>K s4.1
def h87:Hint:=(hS (hR 1) (hS (hR 5) (hJ (7944,[(3,tI)]) (hS (hR 3) (hC (hR 3) hL)) (hS (hR 2) hL))))
theorem A87 {a0:Option Addr}{K:Int->Wp}{w:World}(h:F87 a0 K w):Aa Tryz.prog 87 #[(.pointer a0)] rI K w:=tied Ai Tryz.func87 h87 _ h
def F89 (a0:Value) (a1:Option Addr) (a2:Int) (a3:Int) (a4:I3) (a5:Bool) (K:(I3×Int×Unit)->Wp):Wp:=Af (.cells #[(vI a4.1),(vI a4.2.1),(vI a4.2.2.1)] 48) λb1=>Af (.cells #[(vI 0),(vI 0),(vI 0)] 83) λb2=>lI (at0 b1) λx3=>Cj Tryz.prog (do let d ←Deferred.ofValue a0 #[(vI x3)];invoke d.target d.args:Sem Next) (.one (.one .any)) λ(x4:Value)=>rdB Tryz.prog (do eqGuard .eql 173 (Operand.tmp 21) (Operand.const Value.nilFunc) x4 .nilFunc;binOp .eql 173 x4 .nilFunc:Sem Value) λr5=>sif r5 (Ad (at0 b2) (.agg #[(vI 0),(vI 0),(vI 0)]) 3<|lds c83 (at0 b2) λ(x6:I3)=>K (x6,1,())) (cN 34 #[(.pointer a1),(vI a2),(.bool a5)] λx7=>drew<|lI (ad b1 2) λx8=>Aa Tryz.prog 78 #[(.pointer a1),(vI x7),(.bool a5)] (.one (.agg Bf)) λ(x9:(Int×Int×Int×Int×Int×Sl×Sl×Unit))=>keep (λw=>w.cell? (ad b1 2)=some (Cell.val cI x8))<|Af (.cells (Value.cells (.agg #[(.pointer a1),(vI x7),(vI 0),(vI 1),(.bool false),(vI x8),(vI (if 0>a3 then 0 else a3)),(.bool a5),(.bool false),(vI x9.1),(vI x9.2.1),(vI x9.2.2.1),(vI x9.2.2.2.1),(vI x9.2.2.2.2.1),x9.2.2.2.2.2.1.v,x9.2.2.2.2.2.2.1.v])) 176) λb10=>nn (some (at0 b10)) λp11=>lds Bf (p11.add 9) λ(x12:(Int×Int×Int×Int×Int×Sl×Sl×Unit))=>cN 81 #[(vA Bf x12),(vI x7)] λx13=>nn (some (at0 b10)) λp14=>stC (p14.add 2) (vI x13)<|jU (λJ15=>lI (at0 b1) λx17=>sif (decide (x17>=25)) (lI (at0 b1) λx18=>sif (decide (x18<=28)) (nn (some (at0 b10)) λp19=>stC (p19.add 8) (.bool true)<|J15 ()) (lI (at0 b1) λx20=>nn (some (at0 b10)) λp21=>stC (p21.add 8) (.bool (x20==30))<|J15 ())) (lI (at0 b1) λx22=>nn (some (at0 b10)) λp23=>stC (p23.add 8) (.bool (x22==30))<|J15 ())) λs16=>jU (λJ24=>lI (ad b1 1) λx26=>sif (decide (x26>0)) (lI (ad b1 1) λx27=>nn (some (at0 b10)) λp28=>stC (p28.add 3) (vI (if 9999<x27 then 9999 else x27))<|nn (some (at0 b10)) λp29=>stC (p29.add 4) (.bool true)<|J24 ()) (J24 ())) λs25=>Cj Tryz.prog (do let d ←Deferred.ofValue x4 #[(.pointer (some (at0 b10)))];invoke d.target d.args:Sem Next) (.tup [(.agg c83),(.one cI)]) λ(x30:(I3×Int×Unit))=>Ad (at0 b2) (vA c83 x30.1) 3<|lds c83 (at0 b2) λ(x31:I3)=>K (x31,x30.2.1,()))
def h89:Hint:=(hS (hR 3) (hS (hR 5) (hS (hS (hR 2) (hC (hS (hR 3) hL) hL)) (hS (hR 5) (hS (.region (lR 14) (hO 14)) (hS (hR 10) (hJ ((mR [(50,66)]),[]) (.region [] (.ops 5 (.split 54 (.ops 5 (.split 59 (.skips 3 (hO 4)) (hO 7))) (.skips 3 (hO 9))))) (hJ ((mR [(66,78)]),[]) (hS (hR 3) (hC (hR 11) hL)) (hS (hR 7) hL)))))))))
theorem A89 {a0:Value}{a1:Option Addr}{a2:Int}{a3:Int}{a4:I3}{a5:Bool}{K:(I3×Int×Unit)->Wp}{w:World}(h:F89 a0 a1 a2 a3 a4 a5 K w):Aa Tryz.prog 89 #[a0,(.pointer a1),(vI a2),(vI a3),(vA c48 a4),(.bool a5)] (.tup [(.agg c83),(.one cI)]) K w:=tied Ai Tryz.func89 h89 _ h
def F90 (a0:Int) (K:Value->Wp):Wp:=sif (a0==1) (K (.func (.func 134) #[] #[])) (sif (a0==2) (K (.func (.func 135) #[] #[])) (sif (a0==3) (K (.func (.func 136) #[] #[])) (sif (a0==4) (K (.func (.func 137) #[] #[])) (sif (a0==5) (K (.func (.func 138) #[] #[])) (sif (a0==6) (K (.func (.func 139) #[] #[])) (sif (a0==7) (K (.func (.func 140) #[] #[])) (sif (a0==8) (K (.func (.func 141) #[] #[])) (sif (a0==9) (K (.func (.func 142) #[] #[])) (sif (a0==10) (K (.func (.func 143) #[] #[])) (K .nilFunc))))))))))
def h90:Hint:=(hS (hR 1) (hS (hS (hR 1) (.block (hS (hR 2) (hC (hS (hR 1) hL) (hS (hR 2) (hC (hS (hR 1) hL) (hS (hR 2) (hC (hS (hR 1) hL) (hS (hR 2) (hC (hS (hR 1) hL) (hS (hR 2) (hC (hS (hR 1) hL) (hS (hR 2) (hC (hS (hR 1) hL) (hS (hR 2) (hC (hS (hR 1) hL) (hS (hR 2) (hC (hS (hR 1) hL) (hS (hR 2) (hC (hS (hR 1) hL) (hS (hR 2) (hC (hS (hR 1) hL) hL)))))))))))))))))))))) (hS (hR 1) hL)))
theorem A90 {a0:Int}{K:Value->Wp}{w:World}(h:F90 a0 K w):Aa Tryz.prog 90 #[(vI a0)] (.one (.one .any)) K w:=tied Ai Tryz.func90 h90 _ h
def F96 (a0:Int) (K:Value->Wp):Wp:=sif (a0==11) (K (.func (.func 144) #[] #[])) (sif (a0==12) (K (.func (.func 145) #[] #[])) (sif (a0==13) (K (.func (.func 146) #[] #[])) (sif (a0==14) (K (.func (.func 147) #[] #[])) (sif (a0==15) (K (.func (.func 148) #[] #[])) (sif (a0==16) (K (.func (.func 149) #[] #[])) (sif (a0==17) (K (.func (.func 150) #[] #[])) (sif (a0==18) (K (.func (.func 151) #[] #[])) (K .nilFunc))))))))
def h96:Hint:=(hS (hR 1) (hS (hS (hR 1) (.block (hS (hR 2) (hC (hS (hR 1) hL) (hS (hR 2) (hC (hS (hR 1) hL) (hS (hR 2) (hC (hS (hR 1) hL) (hS (hR 2) (hC (hS (hR 1) hL) (hS (hR 2) (hC (hS (hR 1) hL) (hS (hR 2) (hC (hS (hR 1) hL) (hS (hR 2) (hC (hS (hR 1) hL) (hS (hR 2) (hC (hS (hR 1) hL) hL)))))))))))))))))) (hS (hR 1) hL)))
theorem A96 {a0:Int}{K:Value->Wp}{w:World}(h:F96 a0 K w):Aa Tryz.prog 96 #[(vI a0)] (.one (.one .any)) K w:=tied Ai Tryz.func96 h96 _ h
def F97 (a0:Int) (K:Value->Wp):Wp:=jB (λJ1=>sif (a0==21) (J1 ((a0==21),())) (J1 ((a0==25),()))) λs2=>sif s2.1 (K (.func (.func 152) #[] #[])) (jB (λJ3=>sif (a0==22) (J3 ((a0==22),())) (J3 ((a0==26),()))) λs4=>sif s4.1 (K (.func (.func 153) #[] #[])) (jB (λJ5=>sif (a0==23) (J5 ((a0==23),())) (J5 ((a0==27),()))) λs6=>sif s6.1 (K (.func (.func 154) #[] #[])) (jB (λJ7=>sif (a0==24) (J7 ((a0==24),())) (J7 ((a0==28),()))) λs8=>sif s8.1 (K (.func (.func 155) #[] #[])) (jB (λJ9=>sif (a0==29) (J9 ((a0==29),())) (J9 ((a0==30),()))) λs10=>sif s10.1 (K (.func (.func 156) #[] #[])) (K .nilFunc)))))
def h97:Hint:=(hS (hR 1) (hS (hS (hR 1) (.block (hJ (112,[(4,tB)]) (hS (hR 2) (hC hL (hR 2))) (hC (hS (hR 1) hL) (hJ (896,[(7,tB)]) (hS (hR 2) (hC hL (hR 2))) (hC (hS (hR 1) hL) (hJ (7168,[(10,tB)]) (hS (hR 2) (hC hL (hR 2))) (hC (hS (hR 1) hL) (hJ (57344,[(13,tB)]) (hS (hR 2) (hC hL (hR 2))) (hC (hS (hR 1) hL) (hJ (458752,[(16,tB)]) (hS (hR 2) (hC hL (hR 2))) (hC (hS (hR 1) hL) hL)))))))))))) (hS (hR 1) hL)))
theorem A97 {a0:Int}{K:Value->Wp}{w:World}(h:F97 a0 K w):Aa Tryz.prog 97 #[(vI a0)] (.one (.one .any)) K w:=tied Ai Tryz.func97 h97 _ h
def F101 (a0:Int) (K:Value->Wp):Wp:=sif (a0==31) (K (.func (.func 157) #[] #[])) (sif (a0==32) (K (.func (.func 158) #[] #[])) (sif (a0==33) (K (.func (.func 159) #[] #[])) (K .nilFunc)))
def Dz6:Hint:=(hS (hR 1) (hS (hS (hR 1) (.block (hS (hR 2) (hC (hS (hR 1) hL) (hS (hR 2) (hC (hS (hR 1) hL) (hS (hR 2) (hC (hS (hR 1) hL) hL)))))))) (hS (hR 1) hL)))
theorem Eq1 {a0:Int}{K:Value->Wp}{w:World}(h:F101 a0 K w):Aa Tryz.prog 101 #[(vI a0)] (.one (.one .any)) K w:=tied Ai Tryz.func101 Dz6 _ h
def F104 (a0:Option Addr) (a1:Int) (a2:Int) (a3:I3) (K:(Int×Bool×Unit)->Wp):Wp:=Af (.cells #[(vI a3.1),(vI a3.2.1),(vI a3.2.2.1)] 48) λb1=>lI (at0 b1) λx2=>Aa Tryz.prog 161 #[(.pointer a0),(vI a1),(.bool true),(.bool (x2==25))] rP λ(x3:Option Addr)=>jI (λJ4=>lI (ad b1 1) λx6=>sN (λs7 again8=>jB (λJ9=>sif (decide (s7.2.1>0)) (cB 162 #[(.pointer x3)] λx11=>J9 (x11,())) (J9 (false,()))) λs10=>sif s10.1 (cB 163 #[(.pointer x3)] λx12=>sif x12 (cN 164 #[(.pointer x3)] λx13=>again8 (x13,(W64 (s7.2.1-1)),())) (again8 (s7.1,s7.2.1,()))) (J4 (s7.1,()))) (a1,(W64 ((if 9999<(if 1>x6 then 1 else x6) then 9999 else (if 1>x6 then 1 else x6))-1)),())) λs5=>Aa Tryz.prog 78 #[(.pointer a0),(vI s5.1),(.bool true)] (.one (.agg Bf)) λ(x14:(Int×Int×Int×Int×Int×Sl×Sl×Unit))=>Af (.cells #[(vI 0),(vI 0),(vI 0),(vI 0),(vI 0),(.slice none 0 0),(.slice none 0 0)] 135) λb15=>Ad (at0 b15) (vA Bf x14) 7<|drew<|lI (ad b15 1) λx16=>lI (ad b15 4) λx17=>cN 130 #[(.pointer a0),(vI a2)] λx18=>keep (λw=>w.cell? (ad b15 4)=some (Cell.val cI x17))<|keep (λw=>w.cell? (ad b15 1)=some (Cell.val cI x16))<|K (x16,(decide (x18>x17)),())
def Dz3:Hint:=(hS (hR 3) (hS (hR 7) (hS (hR 2) (hJ (0x3fffe01800,[(11,tI)]) (hS (hR 6) (.block (.loop 0x3ffc001800 [(11,tI),(12,tI)] (hS (hJ (0xfc000000,[(31,tB)]) (.region [] (.ops 3 (.split 28 (hO 3) (.skips 2 (hO 1))))) (hC hL hL)) (.block (hS (hR 2) (hC (hS (hR 3) (hR 3)) hL))))))) (hS (hR 5) (hS (.region [0,1,2,3,4,6,7,5,8,9,10] (hO 11)) hL))))))
theorem Ep8 {a0:Option Addr}{a1:Int}{a2:Int}{a3:I3}{K:(Int×Bool×Unit)->Wp}{w:World}(h:F104 a0 a1 a2 a3 K w):Aa Tryz.prog 104 #[(.pointer a0),(vI a1),(vI a2),(vA c48 a3)] (.tup [(.one cI),(.one .bool)]) K w:=tied Ai Tryz.func104 Dz3 _ h
def F106 (a0:Option Addr) (a1:Int) (K:(I4×Int×Unit)->Wp):Wp:=Af (.cells #[(vI 0),(vI 0),(vI 0),(vI 0)] 133) λb1=>sif (decide (a1<0)) (Ad (at0 b1) (.agg #[(vI 0),(vI 0),(vI 0),(vI 0)]) 4<|lds Ky (at0 b1) λ(x2:I4)=>K (x2,2,())) (cN 165 #[(.pointer a0),(vI a1)] λx3=>sif (decide (x3<0)) (Ad (at0 b1) (.agg #[(vI 0),(vI 0),(vI 0),(vI 0)]) 4<|lds Ky (at0 b1) λ(x4:I4)=>K (x4,2,())) (cN 23 #[(.pointer a0)] λx5=>cN 132 #[(.pointer a0),(vI x5)] λx6=>sif (decide (a1<x6)) (cN 165 #[(.pointer a0),(vI (W64 (a1+1)))] λx7=>Aa Tryz.prog 166 #[(.pointer a0),(vI x3),(vI x7)] (.one (.agg Ky)) λ(x8:I4)=>Ad (at0 b1) (vA Ky x8) 4<|lds Ky (at0 b1) λ(x9:I4)=>K (x9,0,())) (cN 23 #[(.pointer a0)] λx10=>cN 23 #[(.pointer a0)] λx11=>Ad (at0 b1) (.agg #[(vI x3),(vI x10),(vI x11),(vI 0)]) 4<|lds Ky (at0 b1) λ(x12:I4)=>K (x12,0,()))))
def Dz1:Hint:=(hS (hR 2) (hS (hS (hR 2) (hC (hS (hR 3) hL) hL)) (hS (hR 4) (hS (hS (hR 2) (hC (hS (hR 3) hL) hL)) (hS (hS (hR 6) (hC (hS (hR 9) hL) hL)) (hS (hR 8) hL))))))
theorem Ep6 {a0:Option Addr}{a1:Int}{K:(I4×Int×Unit)->Wp}{w:World}(h:F106 a0 a1 K w):Aa Tryz.prog 106 #[(.pointer a0),(vI a1)] (.tup [(.agg Ky),(.one cI)]) K w:=tied Ai Tryz.func106 Dz1 _ h
def F130 (a0:Option Addr) (a1:Int) (K:Int->Wp):Wp:=cN 23 #[(.pointer a0)] λx1=>cN 132 #[(.pointer a0),(vI (if x1<(if 0>a1 then 0 else a1) then x1 else (if 0>a1 then 0 else a1)))] λx2=>K x2
def Dx3:Hint:=(hS (hR 1) (hS (hR 8) hL))
theorem En5 {a0:Option Addr}{a1:Int}{K:Int->Wp}{w:World}(h:F130 a0 a1 K w):Aa Tryz.prog 130 #[(.pointer a0),(vI a1)] rI K w:=tied Ai Tryz.func130 Dx3 _ h
def F133 (a0:Option Addr) (K:Bool->Wp):Wp:=cN 23 #[(.pointer a0)] λx1=>sif (decide (x1>0)) (cN 132 #[(.pointer a0),(vI x1)] λx2=>cN 165 #[(.pointer a0),(vI x2)] λx3=>K (x3==x1)) (K false)
def Dx0:Hint:=(hS (hR 1) (hS (hR 3) (hS (.region [] (.ops 3 (.split 8 (hO 9) (.skips 7 (hO 2))))) hL)))
theorem En2 {a0:Option Addr}{K:Bool->Wp}{w:World}(h:F133 a0 K w):Aa Tryz.prog 133 #[(.pointer a0)] rB K w:=tied Ai Tryz.func133 Dx0 _ h
def F134 (a0:Option Addr) (K:(I3×Int×Unit)->Wp):Wp:=Af (.cells #[(vI 0),(vI 0),(vI 0)] 83) λb1=>nn a0 λp2=>ld cI (p2.add 2) λ(x3:Int)=>sif (x3==0) (Aa Tryz.prog 179 #[] (.tup [(.agg c83),(.one cI)]) λ(x4:(I3×Int×Unit))=>Ad (at0 b1) (vA c83 x4.1) 3<|lds c83 (at0 b1) λ(x5:I3)=>K (x5,x4.2.1,())) (drew<|nn a0 λp6=>lds Bf (p6.add 9) λ(x7:(Int×Int×Int×Int×Int×Sl×Sl×Unit))=>nn a0 λp8=>ld cI (p8.add 2) λ(x9:Int)=>nn a0 λp10=>ld cI (p10.add 3) λ(x11:Int)=>cN 79 #[(vA Bf x7),(vI (W64 (x9-x11)))] λx12=>Aa Tryz.prog 180 #[(.pointer a0),(vI x12),(vI 0)] (.tup [(.agg c83),(.one cI)]) λ(x13:(I3×Int×Unit))=>Ad (at0 b1) (vA c83 x13.1) 3<|lds c83 (at0 b1) λ(x14:I3)=>K (x14,x13.2.1,()))
def Dw9:Hint:=(hS (hR 2) (hS (hS (hR 5) (hC (hS (hR 5) hL) hL)) (hS (.region (lR 20) (hO 20)) hL)))
theorem En1 {a0:Option Addr}{K:(I3×Int×Unit)->Wp}{w:World}(h:F134 a0 K w):Aa Tryz.prog 134 #[(.pointer a0)] (.tup [(.agg c83),(.one cI)]) K w:=tied Ai Tryz.func134 Dw9 _ h
def F135 (a0:Option Addr) (K:(I3×Int×Unit)->Wp):Wp:=Af (.cells #[(vI 0),(vI 0),(vI 0)] 83) λb1=>drew<|nn a0 λp2=>ld cI (p2.add 2) λ(x3:Int)=>cN 181 #[(.pointer a0)] λx4=>keep (λw=>w.cell? (p2.add 2)=some (Cell.val cI x3))<|sif (x3==x4) (Aa Tryz.prog 179 #[] (.tup [(.agg c83),(.one cI)]) λ(x5:(I3×Int×Unit))=>Ad (at0 b1) (vA c83 x5.1) 3<|lds c83 (at0 b1) λ(x6:I3)=>K (x6,x5.2.1,())) (drew<|nn a0 λp7=>lds Bf (p7.add 9) λ(x8:(Int×Int×Int×Int×Int×Sl×Sl×Unit))=>nn a0 λp9=>ld cI (p9.add 2) λ(x10:Int)=>nn a0 λp11=>ld cI (p11.add 3) λ(x12:Int)=>cN 181 #[(.pointer a0)] λx13=>keep (λw=>w.cell? (p11.add 3)=some (Cell.val cI x12))<|keep (λw=>w.cell? (p9.add 2)=some (Cell.val cI x10))<|keep (λw=>Ap w (p7.add 9) 0 (Cells.vals Bf x8))<|cN 79 #[(vA Bf x8),(vI (if x13<(W64 (x10+x12)) then x13 else (W64 (x10+x12))))] λx14=>Aa Tryz.prog 180 #[(.pointer a0),(vI x14),(vI 0)] (.tup [(.agg c83),(.one cI)]) λ(x15:(I3×Int×Unit))=>Ad (at0 b1) (vA c83 x15.1) 3<|lds c83 (at0 b1) λ(x16:I3)=>K (x16,x15.2.1,()))
def Dw8:Hint:=(hS (hR 2) (hS (hS (.region (lR 7) (hO 7)) (hC (hS (hR 5) hL) hL)) (hS (.region (lR 23) (hO 23)) hL)))
theorem En0 {a0:Option Addr}{K:(I3×Int×Unit)->Wp}{w:World}(h:F135 a0 K w):Aa Tryz.prog 135 #[(.pointer a0)] (.tup [(.agg c83),(.one cI)]) K w:=tied Ai Tryz.func135 Dw8 _ h
def F136 (a0:Option Addr) (K:(I3×Int×Unit)->Wp):Wp:=Af (.cells #[(vI 0),(vI 0),(vI 0)] 83) λb1=>nn a0 λp2=>ld cI (p2.add 9) λ(x3:Int)=>Aa Tryz.prog 180 #[(.pointer a0),(vI x3),(vI 0)] (.tup [(.agg c83),(.one cI)]) λ(x4:(I3×Int×Unit))=>Ad (at0 b1) (vA c83 x4.1) 3<|lds c83 (at0 b1) λ(x5:I3)=>K (x5,x4.2.1,())
def Dw7:Hint:=(hS (hR 2) (hS (hR 12) hL))
theorem Em9 {a0:Option Addr}{K:(I3×Int×Unit)->Wp}{w:World}(h:F136 a0 K w):Aa Tryz.prog 136 #[(.pointer a0)] (.tup [(.agg c83),(.one cI)]) K w:=tied Ai Tryz.func136 Dw7 _ h
def F137 (a0:Option Addr) (K:(I3×Int×Unit)->Wp):Wp:=Af (.cells #[(vI 0),(vI 0),(vI 0)] 83) λb1=>drew<|nn a0 λp2=>lds Bf (p2.add 9) λ(x3:(Int×Int×Int×Int×Int×Sl×Sl×Unit))=>nn a0 λp4=>lds Bf (p4.add 9) λ(x5:(Int×Int×Int×Int×Int×Sl×Sl×Unit))=>cN 182 #[(vA Bf x5)] λx6=>keep (λw=>Ap w (p2.add 9) 0 (Cells.vals Bf x3))<|cN 79 #[(vA Bf x3),(vI x6)] λx7=>Aa Tryz.prog 180 #[(.pointer a0),(vI x7),(vI 0)] (.tup [(.agg c83),(.one cI)]) λ(x8:(I3×Int×Unit))=>Ad (at0 b1) (vA c83 x8.1) 3<|lds c83 (at0 b1) λ(x9:I3)=>K (x9,x8.2.1,())
def Dw6:Hint:=(hS (hR 2) (hS (.region (lR 16) (hO 16)) hL))
theorem Em8 {a0:Option Addr}{K:(I3×Int×Unit)->Wp}{w:World}(h:F137 a0 K w):Aa Tryz.prog 137 #[(.pointer a0)] (.tup [(.agg c83),(.one cI)]) K w:=tied Ai Tryz.func137 Dw6 _ h
def F138 (a0:Option Addr) (K:(I3×Int×Unit)->Wp):Wp:=Af (.cells #[(vI 0),(vI 0),(vI 0)] 83) λb1=>nn a0 λp2=>lds Bf (p2.add 9) λ(x3:(Int×Int×Int×Int×Int×Sl×Sl×Unit))=>Af (.cells #[(vI 0),(vI 0),(vI 0),(vI 0),(vI 0),(.slice none 0 0),(.slice none 0 0)] 135) λb4=>Ad (at0 b4) (vA Bf x3) 7<|jU (λJ5=>nn a0 λp7=>ld (.ptr) p7 λ(x8:Option Addr)=>cN 87 #[(.pointer x8)] λx9=>jB (λJ10=>lI (ad b4 4) λx12=>sif (decide (x12<(W64 (x9-1)))) (nn a0 λp13=>ld cI (p13.add 3) λ(x14:Int)=>J10 ((decide (x14>1)),())) (J10 (false,()))) λs11=>sif s11.1 (drew<|nn a0 λp15=>ld (.ptr) p15 λ(x16:Option Addr)=>lI (ad b4 4) λx17=>nn a0 λp18=>ld cI (p18.add 3) λ(x19:Int)=>Aa Tryz.prog 86 #[(.pointer x16),(vI (if (W64 (x9-1))<(W64 ((W64 (x17+x19))-1)) then (W64 (x9-1)) else (W64 ((W64 (x17+x19))-1))))] (.one (.agg Bf)) λ(x20:(Int×Int×Int×Int×Int×Sl×Sl×Unit))=>Ad (at0 b4) (vA Bf x20) 7<|J5 ()) (J5 ())) λs6=>drew<|lds Bf (at0 b4) λ(x21:(Int×Int×Int×Int×Int×Sl×Sl×Unit))=>lds Bf (at0 b4) λ(x22:(Int×Int×Int×Int×Int×Sl×Sl×Unit))=>cN 80 #[(vA Bf x22)] λx23=>keep (λw=>Ap w (at0 b4) 0 (Cells.vals Bf x21))<|cN 79 #[(vA Bf x21),(vI (W64 (x23-1)))] λx24=>Ad (at0 b1) (.agg #[(vI x24),(vI 1),(vI 100000)]) 3<|lds c83 (at0 b1) λ(x25:I3)=>K (x25,0,())
def Dw5:Hint:=(hS (hR 2) (hS (hR 6) (hJ (0x3fffffffc20,[]) (hS (hR 7) (hJ (0x7ff0000,[(26,tB)]) (.region [] (.ops 5 (.split 20 (hO 6) (.skips 5 (hO 1))))) (hC (.region (lR 16) (hO 16)) hL))) (hS (.region (lR 8) (hO 8)) hL))))
theorem Em7 {a0:Option Addr}{K:(I3×Int×Unit)->Wp}{w:World}(h:F138 a0 K w):Aa Tryz.prog 138 #[(.pointer a0)] (.tup [(.agg c83),(.one cI)]) K w:=tied Ai Tryz.func138 Dw5 _ h
def F139 (a0:Option Addr) (K:(I3×Int×Unit)->Wp):Wp:=Af (.cells #[(vI 0),(vI 0),(vI 0)] 83) λb1=>drew<|nn a0 λp2=>lds Bf (p2.add 9) λ(x3:(Int×Int×Int×Int×Int×Sl×Sl×Unit))=>nn a0 λp4=>ld cI (p4.add 3) λ(x5:Int)=>cN 181 #[(.pointer a0)] λx6=>keep (λw=>w.cell? (p4.add 3)=some (Cell.val cI x5))<|keep (λw=>Ap w (p2.add 9) 0 (Cells.vals Bf x3))<|cN 79 #[(vA Bf x3),(vI (if x6<(W64 (x5-1)) then x6 else (W64 (x5-1))))] λx7=>Aa Tryz.prog 180 #[(.pointer a0),(vI x7),(vI 0)] (.tup [(.agg c83),(.one cI)]) λ(x8:(I3×Int×Unit))=>Ad (at0 b1) (vA c83 x8.1) 3<|lds c83 (at0 b1) λ(x9:I3)=>K (x9,x8.2.1,())
def Dw4:Hint:=(hS (hR 2) (hS (.region (lR 19) (hO 19)) hL))
theorem Em6 {a0:Option Addr}{K:(I3×Int×Unit)->Wp}{w:World}(h:F139 a0 K w):Aa Tryz.prog 139 #[(.pointer a0)] (.tup [(.agg c83),(.one cI)]) K w:=tied Ai Tryz.func139 Dw4 _ h
def F140 (a0:Option Addr) (K:(I3×Int×Unit)->Wp):Wp:=Af (.cells #[(vI 0),(vI 0),(vI 0)] 83) λb1=>Aa Tryz.prog 183 #[(.pointer a0),(vI 1),(vI 0),(vI 1)] (.tup [(.agg c83),(.one cI)]) λ(x2:(I3×Int×Unit))=>Ad (at0 b1) (vA c83 x2.1) 3<|lds c83 (at0 b1) λ(x3:I3)=>K (x3,x2.2.1,())
def Dw3:Hint:=(hS (hR 2) (hS (hR 6) hL))
theorem Em5 {a0:Option Addr}{K:(I3×Int×Unit)->Wp}{w:World}(h:F140 a0 K w):Aa Tryz.prog 140 #[(.pointer a0)] (.tup [(.agg c83),(.one cI)]) K w:=tied Ai Tryz.func140 Dw3 _ h
def F141 (a0:Option Addr) (K:(I3×Int×Unit)->Wp):Wp:=Af (.cells #[(vI 0),(vI 0),(vI 0)] 83) λb1=>Aa Tryz.prog 183 #[(.pointer a0),(vI (-1)),(vI 0),(vI 0)] (.tup [(.agg c83),(.one cI)]) λ(x2:(I3×Int×Unit))=>Ad (at0 b1) (vA c83 x2.1) 3<|lds c83 (at0 b1) λ(x3:I3)=>K (x3,x2.2.1,())
def Dw2:Hint:=(hS (hR 2) (hS (hR 6) hL))
theorem Em4 {a0:Option Addr}{K:(I3×Int×Unit)->Wp}{w:World}(h:F141 a0 K w):Aa Tryz.prog 141 #[(.pointer a0)] (.tup [(.agg c83),(.one cI)]) K w:=tied Ai Tryz.func141 Dw2 _ h
def F142 (a0:Option Addr) (K:(I3×Int×Unit)->Wp):Wp:=Af (.cells #[(vI 0),(vI 0),(vI 0)] 83) λb1=>Aa Tryz.prog 183 #[(.pointer a0),(vI 1),(vI (-1)),(vI 1)] (.tup [(.agg c83),(.one cI)]) λ(x2:(I3×Int×Unit))=>Ad (at0 b1) (vA c83 x2.1) 3<|lds c83 (at0 b1) λ(x3:I3)=>K (x3,x2.2.1,())
def Dw1:Hint:=(hS (hR 2) (hS (hR 6) hL))
theorem Em3 {a0:Option Addr}{K:(I3×Int×Unit)->Wp}{w:World}(h:F142 a0 K w):Aa Tryz.prog 142 #[(.pointer a0)] (.tup [(.agg c83),(.one cI)]) K w:=tied Ai Tryz.func142 Dw1 _ h
def F143 (a0:Option Addr) (K:(I3×Int×Unit)->Wp):Wp:=Af (.cells #[(vI 0),(vI 0),(vI 0)] 83) λb1=>Aa Tryz.prog 183 #[(.pointer a0),(vI (-1)),(vI 1),(vI 0)] (.tup [(.agg c83),(.one cI)]) λ(x2:(I3×Int×Unit))=>Ad (at0 b1) (vA c83 x2.1) 3<|lds c83 (at0 b1) λ(x3:I3)=>K (x3,x2.2.1,())
def Dw0:Hint:=(hS (hR 2) (hS (hR 6) hL))
theorem Em2 {a0:Option Addr}{K:(I3×Int×Unit)->Wp}{w:World}(h:F143 a0 K w):Aa Tryz.prog 143 #[(.pointer a0)] (.tup [(.agg c83),(.one cI)]) K w:=tied Ai Tryz.func143 Dw0 _ h
def F144 (a0:Option Addr) (K:(I3×Int×Unit)->Wp):Wp:=Af (.cells #[(vI 0),(vI 0),(vI 0)] 83) λb1=>cB 184 #[(.pointer a0)] λx2=>sif x2 (Aa Tryz.prog 179 #[] (.tup [(.agg c83),(.one cI)]) λ(x3:(I3×Int×Unit))=>Ad (at0 b1) (vA c83 x3.1) 3<|lds c83 (at0 b1) λ(x4:I3)=>K (x4,x3.2.1,())) (drew<|nn a0 λp5=>ld cI ((p5.add 9).add 4) λ(x6:Int)=>nn a0 λp7=>ld cI (p7.add 3) λ(x8:Int)=>Aa Tryz.prog 185 #[(.pointer a0),(vI (W64 (x6+x8)))] (.tup [(.agg c83),(.one cI)]) λ(x9:(I3×Int×Unit))=>Ad (at0 b1) (vA c83 x9.1) 3<|lds c83 (at0 b1) λ(x10:I3)=>K (x10,x9.2.1,()))
def Dv9:Hint:=(hS (hR 2) (hS (hS (hR 2) (hC (hS (hR 5) hL) hL)) (hS (.region (lR 16) (hO 16)) hL)))
theorem Em1 {a0:Option Addr}{K:(I3×Int×Unit)->Wp}{w:World}(h:F144 a0 K w):Aa Tryz.prog 144 #[(.pointer a0)] (.tup [(.agg c83),(.one cI)]) K w:=tied Ai Tryz.func144 Dv9 _ h
def F145 (a0:Option Addr) (K:(I3×Int×Unit)->Wp):Wp:=Af (.cells #[(vI 0),(vI 0),(vI 0)] 83) λb1=>nn a0 λp2=>ld cI ((p2.add 9).add 4) λ(x3:Int)=>sif (x3==0) (Aa Tryz.prog 179 #[] (.tup [(.agg c83),(.one cI)]) λ(x4:(I3×Int×Unit))=>Ad (at0 b1) (vA c83 x4.1) 3<|lds c83 (at0 b1) λ(x5:I3)=>K (x5,x4.2.1,())) (drew<|nn a0 λp6=>ld cI ((p6.add 9).add 4) λ(x7:Int)=>nn a0 λp8=>ld cI (p8.add 3) λ(x9:Int)=>Aa Tryz.prog 185 #[(.pointer a0),(vI (W64 (x7-x9)))] (.tup [(.agg c83),(.one cI)]) λ(x10:(I3×Int×Unit))=>Ad (at0 b1) (vA c83 x10.1) 3<|lds c83 (at0 b1) λ(x11:I3)=>K (x11,x10.2.1,()))
def Dv8:Hint:=(hS (hR 2) (hS (hS (hR 6) (hC (hS (hR 5) hL) hL)) (hS (.region (lR 16) (hO 16)) hL)))
theorem Em0 {a0:Option Addr}{K:(I3×Int×Unit)->Wp}{w:World}(h:F145 a0 K w):Aa Tryz.prog 145 #[(.pointer a0)] (.tup [(.agg c83),(.one cI)]) K w:=tied Ai Tryz.func145 Dv8 _ h
def F146 (a0:Option Addr) (K:(I3×Int×Unit)->Wp):Wp:=Af (.cells #[(vI 0),(vI 0),(vI 0)] 83) λb1=>cB 184 #[(.pointer a0)] λx2=>sif x2 (Aa Tryz.prog 179 #[] (.tup [(.agg c83),(.one cI)]) λ(x3:(I3×Int×Unit))=>Ad (at0 b1) (vA c83 x3.1) 3<|lds c83 (at0 b1) λ(x4:I3)=>K (x4,x3.2.1,())) (drew<|nn a0 λp5=>ld cI ((p5.add 9).add 4) λ(x6:Int)=>nn a0 λp7=>ld cI (p7.add 3) λ(x8:Int)=>Aa Tryz.prog 186 #[(.pointer a0),(vI (W64 (x6+x8)))] (.tup [(.agg c83),(.one cI)]) λ(x9:(I3×Int×Unit))=>Ad (at0 b1) (vA c83 x9.1) 3<|lds c83 (at0 b1) λ(x10:I3)=>K (x10,x9.2.1,()))
def Dv7:Hint:=(hS (hR 2) (hS (hS (hR 2) (hC (hS (hR 5) hL) hL)) (hS (.region (lR 16) (hO 16)) hL)))
theorem El9 {a0:Option Addr}{K:(I3×Int×Unit)->Wp}{w:World}(h:F146 a0 K w):Aa Tryz.prog 146 #[(.pointer a0)] (.tup [(.agg c83),(.one cI)]) K w:=tied Ai Tryz.func146 Dv7 _ h
def F147 (a0:Option Addr) (K:(I3×Int×Unit)->Wp):Wp:=Af (.cells #[(vI 0),(vI 0),(vI 0)] 83) λb1=>nn a0 λp2=>ld cI ((p2.add 9).add 4) λ(x3:Int)=>sif (x3==0) (Aa Tryz.prog 179 #[] (.tup [(.agg c83),(.one cI)]) λ(x4:(I3×Int×Unit))=>Ad (at0 b1) (vA c83 x4.1) 3<|lds c83 (at0 b1) λ(x5:I3)=>K (x5,x4.2.1,())) (drew<|nn a0 λp6=>ld cI ((p6.add 9).add 4) λ(x7:Int)=>nn a0 λp8=>ld cI (p8.add 3) λ(x9:Int)=>Aa Tryz.prog 186 #[(.pointer a0),(vI (W64 (x7-x9)))] (.tup [(.agg c83),(.one cI)]) λ(x10:(I3×Int×Unit))=>Ad (at0 b1) (vA c83 x10.1) 3<|lds c83 (at0 b1) λ(x11:I3)=>K (x11,x10.2.1,()))
def Dv6:Hint:=(hS (hR 2) (hS (hS (hR 6) (hC (hS (hR 5) hL) hL)) (hS (.region (lR 16) (hO 16)) hL)))
theorem El7 {a0:Option Addr}{K:(I3×Int×Unit)->Wp}{w:World}(h:F147 a0 K w):Aa Tryz.prog 147 #[(.pointer a0)] (.tup [(.agg c83),(.one cI)]) K w:=tied Ai Tryz.func147 Dv6 _ h
def F148 (a0:Option Addr) (K:(I3×Int×Unit)->Wp):Wp:=Af (.cells #[(vI 0),(vI 0),(vI 0)] 83) λb1=>drew<|nn a0 λp2=>ld cI ((p2.add 9).add 4) λ(x3:Int)=>nn a0 λp4=>ld cI (p4.add 3) λ(x5:Int)=>Aa Tryz.prog 186 #[(.pointer a0),(vI (W64 ((W64 (x3+x5))-1)))] (.tup [(.agg c83),(.one cI)]) λ(x6:(I3×Int×Unit))=>Ad (at0 b1) (vA c83 x6.1) 3<|lds c83 (at0 b1) λ(x7:I3)=>K (x7,x6.2.1,())
def Dv5:Hint:=(hS (hR 2) (hS (.region (lR 17) (hO 17)) hL))
theorem El6 {a0:Option Addr}{K:(I3×Int×Unit)->Wp}{w:World}(h:F148 a0 K w):Aa Tryz.prog 148 #[(.pointer a0)] (.tup [(.agg c83),(.one cI)]) K w:=tied Ai Tryz.func148 Dv5 _ h
def F149 (a0:Option Addr) (K:(I3×Int×Unit)->Wp):Wp:=Af (.cells #[(vI 0),(vI 0),(vI 0)] 83) λb1=>nn a0 λp2=>ld (.bool) (p2.add 4) λ(x3:Bool)=>sif (!x3) (nn a0 λp4=>ld (.ptr) p4 λ(x5:Option Addr)=>cN 87 #[(.pointer x5)] λx6=>Aa Tryz.prog 186 #[(.pointer a0),(vI x6)] (.tup [(.agg c83),(.one cI)]) λ(x7:(I3×Int×Unit))=>Ad (at0 b1) (vA c83 x7.1) 3<|lds c83 (at0 b1) λ(x8:I3)=>K (x8,x7.2.1,())) (nn a0 λp9=>ld cI (p9.add 3) λ(x10:Int)=>Aa Tryz.prog 186 #[(.pointer a0),(vI (W64 (x10-1)))] (.tup [(.agg c83),(.one cI)]) λ(x11:(I3×Int×Unit))=>Ad (at0 b1) (vA c83 x11.1) 3<|lds c83 (at0 b1) λ(x12:I3)=>K (x12,x11.2.1,()))
def Dv4:Hint:=(hS (hR 2) (hS (hS (hR 5) (hC (hS (hR 11) hL) hL)) (hS (hR 11) hL)))
theorem El5 {a0:Option Addr}{K:(I3×Int×Unit)->Wp}{w:World}(h:F149 a0 K w):Aa Tryz.prog 149 #[(.pointer a0)] (.tup [(.agg c83),(.one cI)]) K w:=tied Ai Tryz.func149 Dv4 _ h
def F150 (a0:Option Addr) (K:(I3×Int×Unit)->Wp):Wp:=Af (.cells #[(vI 0),(vI 0),(vI 0)] 83) λb1=>nn a0 λp2=>ld cI (p2.add 3) λ(x3:Int)=>Aa Tryz.prog 186 #[(.pointer a0),(vI (W64 (x3-1)))] (.tup [(.agg c83),(.one cI)]) λ(x4:(I3×Int×Unit))=>Ad (at0 b1) (vA c83 x4.1) 3<|lds c83 (at0 b1) λ(x5:I3)=>K (x5,x4.2.1,())
def Dv3:Hint:=(hS (hR 2) (hS (hR 11) hL))
theorem El4 {a0:Option Addr}{K:(I3×Int×Unit)->Wp}{w:World}(h:F150 a0 K w):Aa Tryz.prog 150 #[(.pointer a0)] (.tup [(.agg c83),(.one cI)]) K w:=tied Ai Tryz.func150 Dv3 _ h
def F151 (a0:Option Addr) (K:(I3×Int×Unit)->Wp):Wp:=Af (.cells #[(vI 0),(vI 0),(vI 0)] 83) λb1=>jB (λJ2=>nn a0 λp4=>ld (.bool) (p4.add 4) λ(x5:Bool)=>sif (!x5) (J2 (true,())) (nn a0 λp6=>ld cI (p6.add 3) λ(x7:Int)=>J2 ((decide (x7>100)),()))) λs3=>sif s3.1 (Aa Tryz.prog 179 #[] (.tup [(.agg c83),(.one cI)]) λ(x8:(I3×Int×Unit))=>Ad (at0 b1) (vA c83 x8.1) 3<|lds c83 (at0 b1) λ(x9:I3)=>K (x9,x8.2.1,())) (drew<|nn a0 λp10=>ld cI (p10.add 3) λ(x11:Int)=>nn a0 λp12=>ld (.ptr) p12 λ(x13:Option Addr)=>cN 87 #[(.pointer x13)] λx14=>keep (λw=>w.cell? (p10.add 3)=some (Cell.val cI x11))<|chk ((100:Int)≠0)<|Aa Tryz.prog 186 #[(.pointer a0),(vI (W64 ((W64 (Int.tdiv (W64 ((W64 (x11*x14))+99)) 100))-1)))] (.tup [(.agg c83),(.one cI)]) λ(x15:(I3×Int×Unit))=>Ad (at0 b1) (vA c83 x15.1) 3<|lds c83 (at0 b1) λ(x16:I3)=>K (x16,x15.2.1,()))
def Dv2:Hint:=(hS (hR 2) (hS (hJ (65520,[(15,tB)]) (.region [] (.ops 6 (.split 9 (.skips 5 (hO 1)) (hO 6)))) (hC (hS (hR 5) hL) hL)) (hS (.region (lR 19) (hO 19)) hL)))
theorem El3 {a0:Option Addr}{K:(I3×Int×Unit)->Wp}{w:World}(h:F151 a0 K w):Aa Tryz.prog 151 #[(.pointer a0)] (.tup [(.agg c83),(.one cI)]) K w:=tied Ai Tryz.func151 Dv2 _ h
def F152 (a0:Option Addr) (K:(I3×Int×Unit)->Wp):Wp:=Af (.cells #[(vI 0),(vI 0),(vI 0)] 83) λb1=>Aa Tryz.prog 187 #[(.pointer a0)] rP λ(x2:Option Addr)=>jI (λJ3=>Aa Tryz.prog 188 #[(.pointer a0),(.pointer x2),(.func (.func 163) #[] #[])] rB λ(x5:Bool)=>sif x5 (cN 164 #[(.pointer x2)] λx6=>J3 (x6,())) (cN 189 #[(.pointer a0)] λx7=>nn a0 λp8=>ld (.bool) (p8.add 7) λ(x9:Bool)=>sif x9 (drew<|nn a0 λp10=>ld (.ptr) p10 λ(x11:Option Addr)=>nn a0 λp12=>ld (.ptr) p12 λ(x13:Option Addr)=>cN 87 #[(.pointer x13)] λx14=>keep (λw=>w.cell? p10=some (Cell.val (.ptr) x11))<|Aa Tryz.prog 86 #[(.pointer x11),(vI (W64 (x14-1)))] (.one (.agg Bf)) λ(x15:(Int×Int×Int×Int×Int×Sl×Sl×Unit))=>J3 (x15.2.1,())) (J3 (x7,())))) λs4=>nn a0 λp16=>ld cI (p16.add 1) λ(x17:Int)=>sif (decide (s4.1<=x17)) (Aa Tryz.prog 179 #[] (.tup [(.agg c83),(.one cI)]) λ(x18:(I3×Int×Unit))=>Ad (at0 b1) (vA c83 x18.1) 3<|lds c83 (at0 b1) λ(x19:I3)=>K (x19,x18.2.1,())) (Aa Tryz.prog 180 #[(.pointer a0),(vI s4.1),(vI 0)] (.tup [(.agg c83),(.one cI)]) λ(x20:(I3×Int×Unit))=>Ad (at0 b1) (vA c83 x20.1) 3<|lds c83 (at0 b1) λ(x21:I3)=>K (x21,x20.2.1,()))
def Dv1:Hint:=(hS (hR 2) (hS (hR 3) (hS (hR 1) (hJ (0xffffff20,[(5,tI)]) (hS (hR 3) (hC (hR 3) (hS (hR 3) (hS (hR 4) (hC (.region (lR 14) (hO 14)) hL))))) (hS (hS (hR 6) (hC (hS (hR 5) hL) hL)) (hS (hR 7) hL))))))
theorem El2 {a0:Option Addr}{K:(I3×Int×Unit)->Wp}{w:World}(h:F152 a0 K w):Aa Tryz.prog 152 #[(.pointer a0)] (.tup [(.agg c83),(.one cI)]) K w:=tied Ai Tryz.func152 Dv1 _ h
def F153 (a0:Option Addr) (K:(I3×Int×Unit)->Wp):Wp:=Af (.cells #[(vI 0),(vI 0),(vI 0)] 83) λb1=>Aa Tryz.prog 187 #[(.pointer a0)] rP λ(x2:Option Addr)=>nn a0 λp3=>ld cI (p3.add 1) λ(x4:Int)=>sif (x4==0) (Aa Tryz.prog 179 #[] (.tup [(.agg c83),(.one cI)]) λ(x5:(I3×Int×Unit))=>Ad (at0 b1) (vA c83 x5.1) 3<|lds c83 (at0 b1) λ(x6:I3)=>K (x6,x5.2.1,())) (Aa Tryz.prog 190 #[(.pointer a0),(.pointer x2),(.func (.func 163) #[] #[])] rB λ(x7:Bool)=>sif (!x7) (Aa Tryz.prog 180 #[(.pointer a0),(vI 0),(vI 0)] (.tup [(.agg c83),(.one cI)]) λ(x8:(I3×Int×Unit))=>Ad (at0 b1) (vA c83 x8.1) 3<|lds c83 (at0 b1) λ(x9:I3)=>K (x9,x8.2.1,())) (cN 164 #[(.pointer x2)] λx10=>Aa Tryz.prog 180 #[(.pointer a0),(vI x10),(vI 0)] (.tup [(.agg c83),(.one cI)]) λ(x11:(I3×Int×Unit))=>Ad (at0 b1) (vA c83 x11.1) 3<|lds c83 (at0 b1) λ(x12:I3)=>K (x12,x11.2.1,())))
def Dv0:Hint:=(hS (hR 2) (hS (hR 3) (hS (hS (hR 5) (hC (hS (hR 5) hL) hL)) (hS (hS (hR 4) (hC (hS (hR 6) hL) hL)) (hS (hR 8) hL)))))
theorem El1 {a0:Option Addr}{K:(I3×Int×Unit)->Wp}{w:World}(h:F153 a0 K w):Aa Tryz.prog 153 #[(.pointer a0)] (.tup [(.agg c83),(.one cI)]) K w:=tied Ai Tryz.func153 Dv0 _ h
def F154 (a0:Option Addr) (K:(I3×Int×Unit)->Wp):Wp:=Af (.cells #[(vI 0),(vI 0),(vI 0)] 83) λb1=>Aa Tryz.prog 187 #[(.pointer a0)] rP λ(x2:Option Addr)=>jI (λJ3=>Aa Tryz.prog 188 #[(.pointer a0),(.pointer x2),(.func (.func 191) #[] #[])] rB λ(x5:Bool)=>sif x5 (cN 164 #[(.pointer x2)] λx6=>J3 (x6,())) (cN 189 #[(.pointer a0)] λx7=>J3 (x7,()))) λs4=>nn a0 λp8=>ld cI (p8.add 1) λ(x9:Int)=>sif (decide (s4.1<=x9)) (Aa Tryz.prog 179 #[] (.tup [(.agg c83),(.one cI)]) λ(x10:(I3×Int×Unit))=>Ad (at0 b1) (vA c83 x10.1) 3<|lds c83 (at0 b1) λ(x11:I3)=>K (x11,x10.2.1,())) (Aa Tryz.prog 180 #[(.pointer a0),(vI s4.1),(vI 1)] (.tup [(.agg c83),(.one cI)]) λ(x12:(I3×Int×Unit))=>Ad (at0 b1) (vA c83 x12.1) 3<|lds c83 (at0 b1) λ(x13:I3)=>K (x13,x12.2.1,()))
def Du9:Hint:=(hS (hR 2) (hS (hR 3) (hS (hR 1) (hJ (32544,[(5,tI)]) (hS (hR 3) (hC (hR 3) (hR 3))) (hS (hS (hR 6) (hC (hS (hR 5) hL) hL)) (hS (hR 7) hL))))))
theorem El0 {a0:Option Addr}{K:(I3×Int×Unit)->Wp}{w:World}(h:F154 a0 K w):Aa Tryz.prog 154 #[(.pointer a0)] (.tup [(.agg c83),(.one cI)]) K w:=tied Ai Tryz.func154 Du9 _ h
def F155 (a0:Option Addr) (K:(I3×Int×Unit)->Wp):Wp:=Af (.cells #[(vI 0),(vI 0),(vI 0)] 83) λb1=>Aa Tryz.prog 187 #[(.pointer a0)] rP λ(x2:Option Addr)=>nn a0 λp3=>ld cI (p3.add 1) λ(x4:Int)=>sif (x4==0) (Aa Tryz.prog 179 #[] (.tup [(.agg c83),(.one cI)]) λ(x5:(I3×Int×Unit))=>Ad (at0 b1) (vA c83 x5.1) 3<|lds c83 (at0 b1) λ(x6:I3)=>K (x6,x5.2.1,())) (Aa Tryz.prog 190 #[(.pointer a0),(.pointer x2),(.func (.func 192) #[] #[])] rB λ(x7:Bool)=>sif (!x7) (Aa Tryz.prog 180 #[(.pointer a0),(vI 0),(vI 1)] (.tup [(.agg c83),(.one cI)]) λ(x8:(I3×Int×Unit))=>Ad (at0 b1) (vA c83 x8.1) 3<|lds c83 (at0 b1) λ(x9:I3)=>K (x9,x8.2.1,())) (cN 164 #[(.pointer x2)] λx10=>Aa Tryz.prog 180 #[(.pointer a0),(vI x10),(vI 1)] (.tup [(.agg c83),(.one cI)]) λ(x11:(I3×Int×Unit))=>Ad (at0 b1) (vA c83 x11.1) 3<|lds c83 (at0 b1) λ(x12:I3)=>K (x12,x11.2.1,())))
def Du8:Hint:=(hS (hR 2) (hS (hR 3) (hS (hS (hR 5) (hC (hS (hR 5) hL) hL)) (hS (hS (hR 4) (hC (hS (hR 6) hL) hL)) (hS (hR 8) hL)))))
theorem Ek9 {a0:Option Addr}{K:(I3×Int×Unit)->Wp}{w:World}(h:F155 a0 K w):Aa Tryz.prog 155 #[(.pointer a0)] (.tup [(.agg c83),(.one cI)]) K w:=tied Ai Tryz.func155 Du8 _ h
def F156 (a0:Option Addr) (K:(I3×Int×Unit)->Wp):Wp:=Af (.cells #[(vI 0),(vI 0),(vI 0)] 83) λb1=>Aa Tryz.prog 187 #[(.pointer a0)] rP λ(x2:Option Addr)=>jU (λJ3=>cB 191 #[(.pointer x2)] λx5=>sif x5 (nn a0 λp6=>ld cI (p6.add 3) λ(x7:Int)=>nn a0 λp8=>stC (p8.add 3) (vI (W64 (x7-1)))<|J3 ()) (J3 ())) λs4=>Aa Tryz.prog 188 #[(.pointer a0),(.pointer x2),(.func (.func 191) #[] #[])] rB λ(x9:Bool)=>sif x9 (cN 164 #[(.pointer x2)] λx10=>Aa Tryz.prog 180 #[(.pointer a0),(vI x10),(vI 1)] (.tup [(.agg c83),(.one cI)]) λ(x11:(I3×Int×Unit))=>Ad (at0 b1) (vA c83 x11.1) 3<|lds c83 (at0 b1) λ(x12:I3)=>K (x12,x11.2.1,())) (drew<|nn a0 λp13=>ld cI (p13.add 1) λ(x14:Int)=>cN 189 #[(.pointer a0)] λx15=>keep (λw=>w.cell? (p13.add 1)=some (Cell.val cI x14))<|Aa Tryz.prog 180 #[(.pointer a0),(vI (if x14>x15 then x14 else x15)),(vI 1)] (.tup [(.agg c83),(.one cI)]) λ(x16:(I3×Int×Unit))=>Ad (at0 b1) (vA c83 x16.1) 3<|lds c83 (at0 b1) λ(x17:I3)=>K (x17,x16.2.1,()))
def Du7:Hint:=(hS (hR 2) (hS (hR 3) (hJ (65408,[]) (hS (hR 2) (hC (hR 8) hL)) (hS (hS (hR 3) (hC (hS (hR 8) hL) hL)) (hS (.region [0,1,3,4,5,6,2,7,8,9,10,11,12] (hO 13)) hL)))))
theorem Ek8 {a0:Option Addr}{K:(I3×Int×Unit)->Wp}{w:World}(h:F156 a0 K w):Aa Tryz.prog 156 #[(.pointer a0)] (.tup [(.agg c83),(.one cI)]) K w:=tied Ai Tryz.func156 Du7 _ h
def F157 (a0:Option Addr) (K:(I3×Int×Unit)->Wp):Wp:=Af (.cells #[(vI 0),(vI 0),(vI 0)] 83) λb1=>drew<|nn a0 λp2=>lds Bf (p2.add 9) λ(x3:(Int×Int×Int×Int×Int×Sl×Sl×Unit))=>nn a0 λp4=>ld (.ptr) p4 λ(x5:Option Addr)=>cB 193 #[(vA Bf x3)] λx6=>keep (λw=>w.cell? p4=some (Cell.val (.ptr) x5))<|cN 87 #[(.pointer x5)] λx7=>nn a0 λp8=>ld cI (p8.add 3) λ(x9:Int)=>jU (λJ10=>nn a0 λp12=>ld cI ((p12.add 9).add 4) λ(x13:Int)=>Hr (S:=Bool×Int×Int×Unit) (λs14 again15=>sif (decide (s14.2.2.1<=(W64 (x7-1)))) (nn a0 λp16=>ld (.ptr) p16 λ(x17:Option Addr)=>Aa Tryz.prog 86 #[(.pointer x17),(vI s14.2.2.1)] (.one (.agg Bf)) λ(x18:(Int×Int×Int×Int×Int×Sl×Sl×Unit))=>Af (.cells #[(vI 0),(vI 0),(vI 0),(vI 0),(vI 0),(.slice none 0 0),(.slice none 0 0)] 135) λb19=>Ad (at0 b19) (vA Bf x18) 7<|lds Bf (at0 b19) λ(x20:(Int×Int×Int×Int×Int×Sl×Sl×Unit))=>cB 193 #[(vA Bf x20)] λx21=>jI (λJ22=>jB (λJ24=>sif x21 (J24 ((!s14.1),())) (J24 (false,()))) λs25=>sif s25.1 (sif ((W64 (s14.2.1-1))==0) (lI (at0 b19) λx26=>Aa Tryz.prog 180 #[(.pointer a0),(vI x26),(vI 0)] (.tup [(.agg c83),(.one cI)]) λ(x27:(I3×Int×Unit))=>Ad (at0 b1) (vA c83 x27.1) 3<|lds c83 (at0 b1) λ(x28:I3)=>K (x28,x27.2.1,())) (J22 ((W64 (s14.2.1-1)),()))) (J22 (s14.2.1,()))) λs23=>again15 (x21,s23.1,(W64 (s14.2.2.1+1)),())) (J10 ())) (x6,x9,(W64 (x13+1)),())) λs11=>cN 189 #[(.pointer a0)] λx29=>nn a0 λp30=>ld cI (p30.add 1) λ(x31:Int)=>sif (x29 !=x31) (Aa Tryz.prog 180 #[(.pointer a0),(vI x29),(vI 1)] (.tup [(.agg c83),(.one cI)]) λ(x32:(I3×Int×Unit))=>Ad (at0 b1) (vA c83 x32.1) 3<|lds c83 (at0 b1) λ(x33:I3)=>K (x33,x32.2.1,())) (Aa Tryz.prog 179 #[] (.tup [(.agg c83),(.one cI)]) λ(x34:(I3×Int×Unit))=>Ad (at0 b1) (vA c83 x34.1) 3<|lds c83 (at0 b1) λ(x35:I3)=>K (x35,x34.2.1,()))
def Du6:Hint:=(hS (hR 2) (hS (.region [0,1,2,3,5,6,7,8,4,9,10,11,12] (hO 13)) (hS (hR 5) (hJ (0x3ffffffffc0003d8,[]) (hS (hR 7) (.block (.loop 0x3fffffff000003d8 [(4,tB),(6,tI),(7,tI)] (hS (hS (hR 3) (hC hL hL)) (hS (.block (hS (hR 8) (hS (hR 3) (hJ (0x1fffe00000000048,[(6,tI)]) (hJ ((mR [(45,50)]),[(49,tB)]) (.region [] (.ops 2 (.split 46 (hO 3) (.skips 2 (hO 1))))) (hC (hS (hR 3) (hS (hR 2) (hC (hS (hR 9) hL) hL))) hL)) (hR 2))))) (hR 3)))))) (hS (hS (hR 3) (hS (hR 6) (hC (hS (hR 7) hL) hL))) (hS (hR 5) hL))))))
theorem Ek7 {a0:Option Addr}{K:(I3×Int×Unit)->Wp}{w:World}(h:F157 a0 K w):Aa Tryz.prog 157 #[(.pointer a0)] (.tup [(.agg c83),(.one cI)]) K w:=tied Ai Tryz.func157 Du6 _ h
def F158 (a0:Option Addr) (K:(I3×Int×Unit)->Wp):Wp:=Af (.cells #[(vI 0),(vI 0),(vI 0)] 83) λb1=>nn a0 λp2=>lds Bf (p2.add 9) λ(x3:(Int×Int×Int×Int×Int×Sl×Sl×Unit))=>cB 193 #[(vA Bf x3)] λx4=>nn a0 λp5=>ld cI (p5.add 3) λ(x6:Int)=>jU (λJ7=>nn a0 λp9=>ld cI ((p9.add 9).add 4) λ(x10:Int)=>Hr (S:=Bool×Int×Int×Unit) (λs11 again12=>sif (decide (s11.2.2.1>=0)) (nn a0 λp13=>ld (.ptr) p13 λ(x14:Option Addr)=>Aa Tryz.prog 86 #[(.pointer x14),(vI s11.2.2.1)] (.one (.agg Bf)) λ(x15:(Int×Int×Int×Int×Int×Sl×Sl×Unit))=>Af (.cells #[(vI 0),(vI 0),(vI 0),(vI 0),(vI 0),(.slice none 0 0),(.slice none 0 0)] 135) λb16=>Ad (at0 b16) (vA Bf x15) 7<|lds Bf (at0 b16) λ(x17:(Int×Int×Int×Int×Int×Sl×Sl×Unit))=>cB 193 #[(vA Bf x17)] λx18=>jI (λJ19=>jB (λJ21=>sif x18 (J21 ((!s11.1),())) (J21 (false,()))) λs22=>sif s22.1 (sif ((W64 (s11.2.1-1))==0) (lI (at0 b16) λx23=>Aa Tryz.prog 180 #[(.pointer a0),(vI x23),(vI 0)] (.tup [(.agg c83),(.one cI)]) λ(x24:(I3×Int×Unit))=>Ad (at0 b1) (vA c83 x24.1) 3<|lds c83 (at0 b1) λ(x25:I3)=>K (x25,x24.2.1,())) (J19 ((W64 (s11.2.1-1)),()))) (J19 (s11.2.1,()))) λs20=>again12 (x18,s20.1,(W64 (s11.2.2.1-1)),())) (J7 ())) (x4,x6,(W64 (x10-1)),())) λs8=>nn a0 λp26=>ld cI (p26.add 1) λ(x27:Int)=>sif (x27==0) (Aa Tryz.prog 179 #[] (.tup [(.agg c83),(.one cI)]) λ(x28:(I3×Int×Unit))=>Ad (at0 b1) (vA c83 x28.1) 3<|lds c83 (at0 b1) λ(x29:I3)=>K (x29,x28.2.1,())) (Aa Tryz.prog 180 #[(.pointer a0),(vI 0),(vI 0)] (.tup [(.agg c83),(.one cI)]) λ(x30:(I3×Int×Unit))=>Ad (at0 b1) (vA c83 x30.1) 3<|lds c83 (at0 b1) λ(x31:I3)=>K (x31,x30.2.1,()))
def Du5:Hint:=(hS (hR 2) (hS (hR 6) (hS (hR 5) (hJ (0x1ffffffffc01f8,[]) (hS (hR 7) (.block (.loop 0x1fffffff0001f8 [(4,tB),(5,tI),(6,tI)] (hS (hS (hR 2) (hC hL hL)) (hS (.block (hS (hR 8) (hS (hR 3) (hJ (0xffff000000028,[(5,tI)]) (hJ (0x1f000000000,[(40,tB)]) (.region [] (.ops 2 (.split 37 (hO 3) (.skips 2 (hO 1))))) (hC (hS (hR 3) (hS (hR 2) (hC (hS (hR 9) hL) hL))) hL)) (hR 2))))) (hR 3)))))) (hS (hS (hR 5) (hC (hS (hR 5) hL) hL)) (hS (hR 6) hL))))))
theorem Ek6 {a0:Option Addr}{K:(I3×Int×Unit)->Wp}{w:World}(h:F158 a0 K w):Aa Tryz.prog 158 #[(.pointer a0)] (.tup [(.agg c83),(.one cI)]) K w:=tied Ai Tryz.func158 Du5 _ h
def F159 (a0:Option Addr) (K:(I3×Int×Unit)->Wp):Wp:=Af (.cells #[(vI 0),(vI 0),(vI 0)] 83) λb1=>Aa Tryz.prog 187 #[(.pointer a0)] rP λ(x2:Option Addr)=>nn x2 λp3=>ld cI ((p3.add 1).add 4) λ(x4:Int)=>jU (λJ5=>sU (λs7 again8=>cN 194 #[(.pointer x2)] λx9=>sif (decide (x9<0)) (jB (λJ10=>cB 162 #[(.pointer x2)] λx12=>sif (!x12) (J10 (true,())) (nn x2 λp13=>ld cI ((p13.add 1).add 4) λ(x14:Int)=>J10 ((x14 !=x4),()))) λs11=>sif s11.1 (Aa Tryz.prog 179 #[] (.tup [(.agg c83),(.one cI)]) λ(x15:(I3×Int×Unit))=>Ad (at0 b1) (vA c83 x15.1) 3<|lds c83 (at0 b1) λ(x16:I3)=>K (x16,x15.2.1,())) (again8 ())) (J5 ())) ()) λs6=>cN 194 #[(.pointer x2)] λx17=>join (S:=Value×Unit) (λJ18=>sif (decide (x17>=3)) (J18 ((.func (Fn.func 195) #[(.pointer x2)] #[]),())) (J18 ((.func (Fn.func 162) #[(.pointer x2)] #[]),()))) λs19=>jI (λJ20=>sI (λs22 again23=>Cj Tryz.prog (do let d ←Deferred.ofValue s19.1 #[];invoke d.target d.args:Sem Next) rB λ(x24:Bool)=>sif x24 (cN 194 #[(.pointer x2)] λx25=>jB (λJ26=>sif (decide (x25<0)) (J26 (true,())) (chk ((3:Int)≠0)<|chk ((3:Int)≠0)<|J26 (((Int.tmod x25 3) !=(Int.tmod x17 3)),()))) λs27=>sif s27.1 (again23 (s22.1,())) (sif (x25==x17) (again23 ((W64 (s22.1+1)),())) (sif ((W64 (s22.1-1))==0) (J20 ((W64 (s22.1-1)),())) (again23 ((W64 (s22.1-1)),()))))) (J20 (s22.1,()))) (1,())) λs21=>sif (decide (s21.1>0)) (Aa Tryz.prog 179 #[] (.tup [(.agg c83),(.one cI)]) λ(x28:(I3×Int×Unit))=>Ad (at0 b1) (vA c83 x28.1) 3<|lds c83 (at0 b1) λ(x29:I3)=>K (x29,x28.2.1,())) (cN 164 #[(.pointer x2)] λx30=>Aa Tryz.prog 180 #[(.pointer a0),(vI x30),(vI 1)] (.tup [(.agg c83),(.one cI)]) λ(x31:(I3×Int×Unit))=>Ad (at0 b1) (vA c83 x31.1) 3<|lds c83 (at0 b1) λ(x32:I3)=>K (x32,x31.2.1,()))
def Du4:Hint:=(hS (hR 2) (.scope (hS (hR 3) (hS (hR 6) (hJ (0x7fffe0008,[]) (.block (.loop 0x7fffe0008 [] (hS (hS (hR 3) (hC hL hL)) (.block (hJ (0xfff00000,[(31,tB)]) (.region [] (.ops 4 (.split 23 (.skips 7 (hO 1)) (hO 8)))) (hC (hS (hR 5) hL) hL)))))) (hS (hR 3) (hS (hR 3) (hJ (0x78000000080,[(7,(.one .any))]) (hS (hR 2) (hC (hR 3) hL)) (hS (hR 1) (hS hL (hJ (0x7fffff80000000300,[(8,tI)]) (.block (.loop 0x7fffff80000000300 [(8,tI)] (hS (hS (hR 2) (hC hL hL)) (.block (hS (hR 3) (hS (.block (hJ ((mR [(47,57)]),[(47,tB)]) (.region [] (.ops 3 (.split 50 (.skips 5 (hO 2)) (hO 7)))) (hC hL (hS (hR 4) (hC (hS (hR 3) hL) hL))))) (hS (hR 3) (hS (hR 2) (hC hL hL))))))))) (hS (hS (hR 2) (hC (hS (hR 5) hL) hL)) (hS (hR 8) hL)))))))))))))
theorem Ek5 {a0:Option Addr}{K:(I3×Int×Unit)->Wp}{w:World}(h:F159 a0 K w):Aa Tryz.prog 159 #[(.pointer a0)] (.tup [(.agg c83),(.one cI)]) K w:=tied Ai Tryz.func159 Du4 _ h
def F161 (a0:Option Addr) (a1:Int) (a2:Bool) (a3:Bool) (K:Option Addr->Wp):Wp:=Aa Tryz.prog 78 #[(.pointer a0),(vI a1),(.bool a2)] (.one (.agg Bf)) λ(x1:(Int×Int×Int×Int×Int×Sl×Sl×Unit))=>Af (.cells #[(vI 0),(vI 0),(vI 0),(vI 0),(vI 0),(.slice none 0 0),(.slice none 0 0)] 135) λb2=>Ad (at0 b2) (vA Bf x1) 7<|drew<|lds Bf (at0 b2) λ(x3:(Int×Int×Int×Int×Int×Sl×Sl×Unit))=>lds Bf (at0 b2) λ(x4:(Int×Int×Int×Int×Int×Sl×Sl×Unit))=>cN 81 #[(vA Bf x4),(vI a1)] λx5=>keep (λw=>Ap w (at0 b2) 0 (Cells.vals Bf x3))<|cN 87 #[(.pointer a0)] λx6=>keep (λw=>Ap w (at0 b2) 0 (Cells.vals Bf x3))<|Af (.cells (Value.cells (.agg #[(.pointer a0),(vI x3.1),(vI x3.2.1),(vI x3.2.2.1),(vI x3.2.2.2.1),(vI x3.2.2.2.2.1),x3.2.2.2.2.2.1.v,x3.2.2.2.2.2.2.1.v,(vI x5),(vI (W64 (x6-1))),(.bool a3)])) 201) λb7=>K (some (at0 b7))
def Du2:Hint:=(hS (hR 1) (hS (hR 6) (hS (.region [0,1,2,3,5,8,4,6,7,9,10,11] (hO 12)) hL)))
theorem Ek3 {a0:Option Addr}{a1:Int}{a2:Bool}{a3:Bool}{K:Option Addr->Wp}{w:World}(h:F161 a0 a1 a2 a3 K w):Aa Tryz.prog 161 #[(.pointer a0),(vI a1),(.bool a2),(.bool a3)] rP K w:=tied Ai Tryz.func161 Du2 _ h
def F162 (a0:Option Addr) (K:Bool->Wp):Wp:=drew<|nn a0 λp1=>ld cI (p1.add 8) λ(x2:Int)=>nn a0 λp3=>lds Bf (p3.add 1) λ(x4:(Int×Int×Int×Int×Int×Sl×Sl×Unit))=>cN 80 #[(vA Bf x4)] λx5=>keep (λw=>w.cell? (p1.add 8)=some (Cell.val cI x2))<|sif (decide ((W64 (x2+1))<x5)) (nn a0 λp6=>ld cI (p6.add 8) λ(x7:Int)=>nn a0 λp8=>stC (p8.add 8) (vI (W64 (x7+1)))<|K true) (drew<|nn a0 λp9=>ld cI ((p9.add 1).add 4) λ(x10:Int)=>nn a0 λp11=>ld cI (p11.add 9) λ(x12:Int)=>sif (decide (x10>=x12)) (K false) (drew<|nn a0 λp13=>ld (.ptr) p13 λ(x14:Option Addr)=>nn a0 λp15=>ld cI ((p15.add 1).add 4) λ(x16:Int)=>Aa Tryz.prog 86 #[(.pointer x14),(vI (W64 (x16+1)))] (.one (.agg Bf)) λ(x17:(Int×Int×Int×Int×Int×Sl×Sl×Unit))=>nn a0 λp18=>Ad (p18.add 1) (vA Bf x17) 7<|nn a0 λp19=>stC (p19.add 8) (vI 0)<|K true))
def Du1:Hint:=(hS (hR 1) (hS (hS (.region (lR 11) (hO 11)) (hC (hS (hR 8) (hS (hR 1) hL)) hL)) (hS (hS (.region (lR 10) (hO 10)) (hC (hS (hR 1) hL) hL)) (hS (.region (lR 19) (hO 19)) (hS (hR 1) hL)))))
theorem Ek2 {a0:Option Addr}{K:Bool->Wp}{w:World}(h:F162 a0 K w):Aa Tryz.prog 162 #[(.pointer a0)] rB K w:=tied Ai Tryz.func162 Du1 _ h
def F163 (a0:Option Addr) (K:Bool->Wp):Wp:=cB 196 #[(.pointer a0)] λx1=>sif x1 (drew<|nn a0 λp2=>ld cI ((p2.add 1).add 4) λ(x3:Int)=>nn a0 λp4=>ld cI (p4.add 9) λ(x5:Int)=>K (decide (x3<=x5))) (drew<|nn a0 λp6=>lds Bf (p6.add 1) λ(x7:(Int×Int×Int×Int×Int×Sl×Sl×Unit))=>nn a0 λp8=>ld cI (p8.add 8) λ(x9:Int)=>nn a0 λp10=>ld (.bool) (p10.add 10) λ(x11:Bool)=>cN 197 #[(vA Bf x7),(vI x9),(.bool x11)] λx12=>drew<|sif (x12 !=0) (nn a0 λp13=>ld cI (p13.add 8) λ(x14:Int)=>sif (x14==0) (K true) (nn a0 λp15=>lds Bf (p15.add 1) λ(x16:(Int×Int×Int×Int×Int×Sl×Sl×Unit))=>nn a0 λp17=>ld cI (p17.add 8) λ(x18:Int)=>nn a0 λp19=>ld (.bool) (p19.add 10) λ(x20:Bool)=>cN 197 #[(vA Bf x16),(vI (W64 (x18-1))),(.bool x20)] λx21=>K (x21 !=x12))) (K false))
def Du0:Hint:=(hS (hR 1) (hS (hS (hR 2) (hC (hS (.region (lR 11) (hO 11)) hL) hL)) (hS (.region (lR 14) (hO 14)) (hS (.region [0,1,2,3,4,5,6,7,8,9,10,11,12,13,14,15,16,17,18,19,20,21,23,22,24,25,26,27] (.ops 3 (.split 31 (.ops 6 (.split 37 (.skips 16 (hO 3)) (hO 19))) (.skips 23 (hO 2))))) hL))))
theorem Ek1 {a0:Option Addr}{K:Bool->Wp}{w:World}(h:F163 a0 K w):Aa Tryz.prog 163 #[(.pointer a0)] rB K w:=tied Ai Tryz.func163 Du0 _ h
def F164 (a0:Option Addr) (K:Int->Wp):Wp:=drew<|nn a0 λp1=>lds Bf (p1.add 1) λ(x2:(Int×Int×Int×Int×Int×Sl×Sl×Unit))=>nn a0 λp3=>ld cI (p3.add 8) λ(x4:Int)=>cN 79 #[(vA Bf x2),(vI x4)] λx5=>K x5
def Dt9:Hint:=(hS (hR 1) (hS (.region (lR 10) (hO 10)) hL))
theorem Ek0 {a0:Option Addr}{K:Int->Wp}{w:World}(h:F164 a0 K w):Aa Tryz.prog 164 #[(.pointer a0)] rI K w:=tied Ai Tryz.func164 Dt9 _ h
def F166 (a0:Option Addr) (a1:Int) (a2:Int) (K:I4->Wp):Wp:=Af (.cells #[(vI 0),(vI 0),(vI 0),(vI 0)] 133) λb1=>cS 25 #[(.pointer a0),(vI (if (W64 (a2-2))>a1 then (W64 (a2-2)) else a1)),(vI a2)] λx2=>ixI x2 (W64 (((x2.len:Nat):Int)-1)) 1 λx4=>sif (x4==13) (Ad (at0 b1) (.agg #[(vI a1),(vI (W64 (a2-1))),(vI a2),(vI 3)]) 4<|lds Ky (at0 b1) λ(x5:I4)=>K x5) (jB (λJ6=>sif (decide ((W64 (((x2.len:Nat):Int)-1))>0)) (ix x2.a x2.len (W64 ((W64 (((x2.len:Nat):Int)-1))-1)) λp8=>ld cI (p8.add (scaled (Int.toNat (W64 ((W64 (((x2.len:Nat):Int)-1))-1))) 1)) λ(x9:Int)=>J6 ((x9==13),())) (J6 (false,()))) λs7=>sif s7.1 (Ad (at0 b1) (.agg #[(vI a1),(vI (W64 (a2-2))),(vI a2),(vI 2)]) 4<|lds Ky (at0 b1) λ(x10:I4)=>K x10) (Ad (at0 b1) (.agg #[(vI a1),(vI (W64 (a2-1))),(vI a2),(vI 1)]) 4<|lds Ky (at0 b1) λ(x11:I4)=>K x11))
def Dt7:Hint:=(hS (hR 1) (hS (hR 8) (hS (hR 4) (hS (.block (hS (hR 6) (hC (hS (hR 6) hL) (hJ (0x1ffc0000000,[(30,tB)]) (.region [] (.ops 3 (.split 33 (hO 8) (.skips 6 (hO 2))))) (hC (hS (hR 6) hL) hL))))) (hS (hR 6) hL)))))
theorem Ej8 {a0:Option Addr}{a1:Int}{a2:Int}{K:I4->Wp}{w:World}(h:F166 a0 a1 a2 K w):Aa Tryz.prog 166 #[(.pointer a0),(vI a1),(vI a2)] (.one (.agg Ky)) K w:=tied Ai Tryz.func166 Dt7 _ h
def F179  (K:(I3×Int×Unit)->Wp):Wp:=Af (.cells #[(vI 0),(vI 0),(vI 0)] 83) λb1=>Ad (at0 b1) (.agg #[(vI 0),(vI 0),(vI 0)]) 3<|lds c83 (at0 b1) λ(x2:I3)=>K (x2,80,())
def Ds7:Hint:=(hS (hR 2) (hS (hR 3) hL))
theorem Ej0 {K:(I3×Int×Unit)->Wp}{w:World}(h:F179  K w):Aa Tryz.prog 179 #[] (.tup [(.agg c83),(.one cI)]) K w:=tied Ai Tryz.func179 Ds7 _ h
def F180 (a0:Option Addr) (a1:Int) (a2:Int) (K:(I3×Int×Unit)->Wp):Wp:=Af (.cells #[(vI 0),(vI 0),(vI 0)] 83) λb1=>nn a0 λp2=>ld (.ptr) p2 λ(x3:Option Addr)=>cN 38 #[(.pointer x3),(vI a1)] λx4=>Ad (at0 b1) (.agg #[(vI a1),(vI a2),(vI x4)]) 3<|lds c83 (at0 b1) λ(x5:I3)=>K (x5,0,())
def Ds6:Hint:=(hS (hR 2) (hS (hR 11) hL))
theorem Dm3 {a0:Option Addr}{a1:Int}{a2:Int}{K:(I3×Int×Unit)->Wp}{w:World}(h:F180 a0 a1 a2 K w):Aa Tryz.prog 180 #[(.pointer a0),(vI a1),(vI a2)] (.tup [(.agg c83),(.one cI)]) K w:=tied Ai Tryz.func180 Ds6 _ h
def F181 (a0:Option Addr) (K:Int->Wp):Wp:=nn a0 λp1=>ld (.bool) (p1.add 7) λ(x2:Bool)=>sif x2 (nn a0 λp3=>lds Bf (p3.add 9) λ(x4:(Int×Int×Int×Int×Int×Sl×Sl×Unit))=>cN 80 #[(vA Bf x4)] λx5=>K x5) (nn a0 λp6=>lds Bf (p6.add 9) λ(x7:(Int×Int×Int×Int×Int×Sl×Sl×Unit))=>cN 80 #[(vA Bf x7)] λx8=>K (if 0>(W64 (x8-1)) then 0 else (W64 (x8-1))))
def Ds5:Hint:=(hS (hR 1) (hS (hS (hR 4) (hC (hS (hR 6) hL) hL)) (hS (hR 8) hL)))
theorem Ei9 {a0:Option Addr}{K:Int->Wp}{w:World}(h:F181 a0 K w):Aa Tryz.prog 181 #[(.pointer a0)] rI K w:=tied Ai Tryz.func181 Ds5 _ h
def F182 (a0:(Int×Int×Int×Int×Int×Sl×Sl×Unit)) (K:Int->Wp):Wp:=Af (.cells #[(vI a0.1),(vI a0.2.1),(vI a0.2.2.1),(vI a0.2.2.2.1),(vI a0.2.2.2.2.1),a0.2.2.2.2.2.1.v,a0.2.2.2.2.2.2.1.v] 135) λb1=>jU (λJ2=>lds Bf (at0 b1) λ(x4:(Int×Int×Int×Int×Int×Sl×Sl×Unit))=>cN 80 #[(vA Bf x4)] λx5=>sI (λs6 again7=>sif (decide (s6.1<x5)) (lds Bf (at0 b1) λ(x8:(Int×Int×Int×Int×Int×Sl×Sl×Unit))=>cN 197 #[(vA Bf x8),(vI s6.1),(.bool true)] λx9=>sif (x9 !=0) (K s6.1) (again7 ((W64 (s6.1+1)),()))) (J2 ())) (0,())) λs3=>lds Bf (at0 b1) λ(x10:(Int×Int×Int×Int×Int×Sl×Sl×Unit))=>cN 80 #[(vA Bf x10)] λx11=>K (if 0>(W64 (x11-1)) then 0 else (W64 (x11-1)))
def Ds4:Hint:=(hS (hR 2) (hJ (32764,[]) (hS (hR 3) (.block (.loop 32716 [(6,tI)] (hS (hR 1) (hS (hC hL hL) (hS (.block (hS (hR 2) (hS (hR 4) (hC (hS (hR 2) hL) hL)))) (hR 2))))))) (hS (hR 5) hL)))
theorem Ei8 {a0:(Int×Int×Int×Int×Int×Sl×Sl×Unit)}{K:Int->Wp}{w:World}(h:F182 a0 K w):Aa Tryz.prog 182 #[(vA Bf a0)] rI K w:=tied Ai Tryz.func182 Ds4 _ h
def F183 (a0:Option Addr) (a1:Int) (a2:Int) (a3:Int) (K:(I3×Int×Unit)->Wp):Wp:=Af (.cells #[(vI 0),(vI 0),(vI 0)] 83) λb1=>cN 203 #[(.pointer a0),(vI a1)] λx2=>sif (decide (x2<0)) (Aa Tryz.prog 179 #[] (.tup [(.agg c83),(.one cI)]) λ(x3:(I3×Int×Unit))=>Ad (at0 b1) (vA c83 x3.1) 3<|lds c83 (at0 b1) λ(x4:I3)=>K (x4,x3.2.1,())) (nn a0 λp5=>lds Bf (p5.add 9) λ(x6:(Int×Int×Int×Int×Int×Sl×Sl×Unit))=>cN 79 #[(vA Bf x6),(vI (W64 (x2+a2)))] λx7=>Aa Tryz.prog 180 #[(.pointer a0),(vI x7),(vI a3)] (.tup [(.agg c83),(.one cI)]) λ(x8:(I3×Int×Unit))=>Ad (at0 b1) (vA c83 x8.1) 3<|lds c83 (at0 b1) λ(x9:I3)=>K (x9,x8.2.1,()))
def Ds3:Hint:=(hS (hR 2) (hS (hR 4) (hS (hS (hR 2) (hC (hS (hR 5) hL) hL)) (hS (hR 15) hL))))
theorem Dm2 {a0:Option Addr}{a1:Int}{a2:Int}{a3:Int}{K:(I3×Int×Unit)->Wp}{w:World}(h:F183 a0 a1 a2 a3 K w):Aa Tryz.prog 183 #[(.pointer a0),(vI a1),(vI a2),(vI a3)] (.tup [(.agg c83),(.one cI)]) K w:=tied Ai Tryz.func183 Ds3 _ h
def F184 (a0:Option Addr) (K:Bool->Wp):Wp:=drew<|nn a0 λp1=>ld cI ((p1.add 9).add 4) λ(x2:Int)=>nn a0 λp3=>ld (.ptr) p3 λ(x4:Option Addr)=>cN 87 #[(.pointer x4)] λx5=>keep (λw=>w.cell? ((p1.add 9).add 4)=some (Cell.val cI x2))<|K (x2==(W64 (x5-1)))
def Ds2:Hint:=(hS (hR 1) (hS (.region (lR 13) (hO 13)) hL))
theorem Ei7 {a0:Option Addr}{K:Bool->Wp}{w:World}(h:F184 a0 K w):Aa Tryz.prog 184 #[(.pointer a0)] rB K w:=tied Ai Tryz.func184 Ds2 _ h
def F185 (a0:Option Addr) (a1:Int) (K:(I3×Int×Unit)->Wp):Wp:=Af (.cells #[(vI 0),(vI 0),(vI 0)] 83) λb1=>drew<|nn a0 λp2=>ld (.ptr) p2 λ(x3:Option Addr)=>nn a0 λp4=>ld cI (p4.add 6) λ(x5:Int)=>nn a0 λp6=>ld cI (p6.add 6) λ(x7:Int)=>cN 36 #[(.pointer x3),(vI a1),(vI x5),(.bool false)] λx8=>keep (λw=>w.cell? (p6.add 6)=some (Cell.val cI x7))<|Ad (at0 b1) (.agg #[(vI x8),(vI 2),(vI x7)]) 3<|lds c83 (at0 b1) λ(x9:I3)=>K (x9,0,())
def Ds1:Hint:=(hS (hR 2) (hS (.region [0,1,2,3,4,5,6,7,8,10,11,12,13,9,14,15,16] (hO 17)) hL))
theorem Ei6 {a0:Option Addr}{a1:Int}{K:(I3×Int×Unit)->Wp}{w:World}(h:F185 a0 a1 K w):Aa Tryz.prog 185 #[(.pointer a0),(vI a1)] (.tup [(.agg c83),(.one cI)]) K w:=tied Ai Tryz.func185 Ds1 _ h
def F186 (a0:Option Addr) (a1:Int) (K:(I3×Int×Unit)->Wp):Wp:=Af (.cells #[(vI 0),(vI 0),(vI 0)] 83) λb1=>join (S:=Addr×Unit) (λJ2=>drew<|nn a0 λp4=>ld (.ptr) p4 λ(x5:Option Addr)=>nn a0 λp6=>ld (.ptr) p6 λ(x7:Option Addr)=>both (Af (.cells #[(vI 0),(vI 0),(vI 0),(vI 0),(vI 0),(.slice none 0 0),(.slice none 0 0)] 135) λb8=>keep (λw=>w.cell? p6=some (Cell.val (.ptr) x7))<|keep (λw=>w.cell? p4=some (Cell.val (.ptr) x5))<|cN 87 #[(.pointer x7)] λx9=>keep (λw=>w.cell? p4=some (Cell.val (.ptr) x5))<|Aa Tryz.prog 86 #[(.pointer x5),(vI (if 0>(if (W64 (x9-1))<a1 then (W64 (x9-1)) else a1) then 0 else (if (W64 (x9-1))<a1 then (W64 (x9-1)) else a1)))] (.one (.agg Bf)) λ(x10:(Int×Int×Int×Int×Int×Sl×Sl×Unit))=>Ad (at0 b8) (vA Bf x10) 7<|J2 ((at0 b8),()))<|cN 87 #[(.pointer x7)] λx11=>keep (λw=>w.cell? p4=some (Cell.val (.ptr) x5))<|both (Af (.cells #[(vI 0),(vI 0),(vI 0),(vI 0),(vI 0),(.slice none 0 0),(.slice none 0 0)] 135) λb12=>keep (λw=>w.cell? p6=some (Cell.val (.ptr) x7))<|keep (λw=>w.cell? p4=some (Cell.val (.ptr) x5))<|Aa Tryz.prog 86 #[(.pointer x5),(vI (if 0>(if (W64 (x11-1))<a1 then (W64 (x11-1)) else a1) then 0 else (if (W64 (x11-1))<a1 then (W64 (x11-1)) else a1)))] (.one (.agg Bf)) λ(x13:(Int×Int×Int×Int×Int×Sl×Sl×Unit))=>Ad (at0 b12) (vA Bf x13) 7<|J2 ((at0 b12),()))<|Aa Tryz.prog 86 #[(.pointer x5),(vI (if 0>(if (W64 (x11-1))<a1 then (W64 (x11-1)) else a1) then 0 else (if (W64 (x11-1))<a1 then (W64 (x11-1)) else a1)))] (.one (.agg Bf)) λ(x14:(Int×Int×Int×Int×Int×Sl×Sl×Unit))=>both (Af (.cells #[(vI 0),(vI 0),(vI 0),(vI 0),(vI 0),(.slice none 0 0),(.slice none 0 0)] 135) λb15=>keep (λw=>w.cell? p6=some (Cell.val (.ptr) x7))<|keep (λw=>w.cell? p4=some (Cell.val (.ptr) x5))<|Ad (at0 b15) (vA Bf x14) 7<|J2 ((at0 b15),()))<|nothing) λs3=>drew<|lds Bf s3.1 λ(x16:(Int×Int×Int×Int×Int×Sl×Sl×Unit))=>lds Bf s3.1 λ(x17:(Int×Int×Int×Int×Int×Sl×Sl×Unit))=>cN 182 #[(vA Bf x17)] λx18=>keep (λw=>Ap w s3.1 0 (Cells.vals Bf x16))<|cN 79 #[(vA Bf x16),(vI x18)] λx19=>Aa Tryz.prog 180 #[(.pointer a0),(vI x19),(vI 2)] (.tup [(.agg c83),(.one cI)]) λ(x20:(I3×Int×Unit))=>Ad (at0 b1) (vA c83 x20.1) 3<|lds c83 (at0 b1) λ(x21:I3)=>K (x21,x20.2.1,())
def Ds0:Hint:=(hS (hR 2) (hJ (2097088,[(6,(.one .addr))]) (.region [0,1,2,3,4,5,6,7,8,9,10,11,12,13,15] (.float [14] (.ops 9 (.alt none (.plain (hO 6)) (.ops 4 (.alt none (.plain (hO 2)) (.ops 1 (.alt none (.plain (hO 1)) .stop)))))))) (hS (.region (lR 10) (hO 10)) hL)))
theorem Ei5 {a0:Option Addr}{a1:Int}{K:(I3×Int×Unit)->Wp}{w:World}(h:F186 a0 a1 K w):Aa Tryz.prog 186 #[(.pointer a0),(vI a1)] (.tup [(.agg c83),(.one cI)]) K w:=tied Ai Tryz.func186 Ds0 _ h
def F187 (a0:Option Addr) (K:Option Addr->Wp):Wp:=drew<|nn a0 λp1=>ld (.ptr) p1 λ(x2:Option Addr)=>nn a0 λp3=>ld cI (p3.add 1) λ(x4:Int)=>nn a0 λp5=>ld (.bool) (p5.add 7) λ(x6:Bool)=>nn a0 λp7=>ld (.bool) (p7.add 8) λ(x8:Bool)=>Aa Tryz.prog 161 #[(.pointer x2),(vI x4),(.bool x6),(.bool x8)] rP λ(x9:Option Addr)=>K x9
def Dr9:Hint:=(hS (hR 1) (hS (.region (lR 18) (hO 18)) hL))
theorem Ei4 {a0:Option Addr}{K:Option Addr->Wp}{w:World}(h:F187 a0 K w):Aa Tryz.prog 187 #[(.pointer a0)] rP K w:=tied Ai Tryz.func187 Dr9 _ h
def F188 (a0:Option Addr) (a1:Option Addr) (a2:Value) (K:Bool->Wp):Wp:=jU (λJ1=>nn a0 λp3=>ld cI (p3.add 3) λ(x4:Int)=>sI (λs5 again6=>sif (decide (s5.1>0)) (cB 162 #[(.pointer a1)] λx7=>sif (!x7) (K false) (Cj Tryz.prog (do let d ←Deferred.ofValue a2 #[(.pointer a1)];invoke d.target d.args:Sem Next) rB λ(x8:Bool)=>sif x8 (again6 ((W64 (s5.1-1)),())) (again6 (s5.1,())))) (J1 ())) (x4,())) λs2=>K true
def Dr8:Hint:=(hS (hR 1) (hJ (4194240,[]) (hS (hR 5) (.block (.loop 4190400 [(7,tI)] (hS (hS (hR 2) (hC hL hL)) (.block (hS (hS (hR 3) (hC (hS (hR 1) hL) hL)) (hS (hR 3) (hC (hR 3) hL)))))))) (hS (hR 1) hL)))
theorem Ei3 {a0:Option Addr}{a1:Option Addr}{a2:Value}{K:Bool->Wp}{w:World}(h:F188 a0 a1 a2 K w):Aa Tryz.prog 188 #[(.pointer a0),(.pointer a1),a2] rB K w:=tied Ai Tryz.func188 Dr8 _ h
def F189 (a0:Option Addr) (K:Int->Wp):Wp:=drew<|nn a0 λp1=>ld (.ptr) p1 λ(x2:Option Addr)=>nn a0 λp3=>ld (.ptr) p3 λ(x4:Option Addr)=>cN 23 #[(.pointer x4)] λx5=>keep (λw=>w.cell? p1=some (Cell.val (.ptr) x2))<|cN 34 #[(.pointer x2),(vI x5),(.bool false)] λx6=>K x6
def Dr7:Hint:=(hS (hR 1) (hS (.region (lR 11) (hO 11)) hL))
theorem Ei2 {a0:Option Addr}{K:Int->Wp}{w:World}(h:F189 a0 K w):Aa Tryz.prog 189 #[(.pointer a0)] rI K w:=tied Ai Tryz.func189 Dr7 _ h
def F190 (a0:Option Addr) (a1:Option Addr) (a2:Value) (K:Bool->Wp):Wp:=jU (λJ1=>nn a0 λp3=>ld cI (p3.add 3) λ(x4:Int)=>sI (λs5 again6=>sif (decide (s5.1>0)) (cB 195 #[(.pointer a1)] λx7=>sif (!x7) (K false) (Cj Tryz.prog (do let d ←Deferred.ofValue a2 #[(.pointer a1)];invoke d.target d.args:Sem Next) rB λ(x8:Bool)=>sif x8 (again6 ((W64 (s5.1-1)),())) (again6 (s5.1,())))) (J1 ())) (x4,())) λs2=>K true
def Dr6:Hint:=(hS (hR 1) (hJ (4194240,[]) (hS (hR 5) (.block (.loop 4190400 [(7,tI)] (hS (hS (hR 2) (hC hL hL)) (.block (hS (hS (hR 3) (hC (hS (hR 1) hL) hL)) (hS (hR 3) (hC (hR 3) hL)))))))) (hS (hR 1) hL)))
theorem Ei1 {a0:Option Addr}{a1:Option Addr}{a2:Value}{K:Bool->Wp}{w:World}(h:F190 a0 a1 a2 K w):Aa Tryz.prog 190 #[(.pointer a0),(.pointer a1),a2] rB K w:=tied Ai Tryz.func190 Dr6 _ h
def F191 (a0:Option Addr) (K:Bool->Wp):Wp:=cB 196 #[(.pointer a0)] λx1=>sif (!x1) (cB 192 #[(.pointer a0)] λx2=>K x2) (K false)
def Dr5:Hint:=(hS (hR 1) (hS (.region [] (.ops 4 (.split 6 (hO 4) (.skips 2 (hO 2))))) hL))
theorem Ei0 {a0:Option Addr}{K:Bool->Wp}{w:World}(h:F191 a0 K w):Aa Tryz.prog 191 #[(.pointer a0)] rB K w:=tied Ai Tryz.func191 Dr5 _ h
def F192 (a0:Option Addr) (K:Bool->Wp):Wp:=cB 196 #[(.pointer a0)] λx1=>sif x1 (drew<|nn a0 λp2=>ld cI ((p2.add 1).add 4) λ(x3:Int)=>nn a0 λp4=>ld cI (p4.add 9) λ(x5:Int)=>K (decide (x3<=x5))) (drew<|nn a0 λp6=>ld cI (p6.add 8) λ(x7:Int)=>nn a0 λp8=>lds Bf (p8.add 1) λ(x9:(Int×Int×Int×Int×Int×Sl×Sl×Unit))=>cN 80 #[(vA Bf x9)] λx10=>keep (λw=>w.cell? (p6.add 8)=some (Cell.val cI x7))<|sif (decide (x7>=x10)) (K false) (drew<|nn a0 λp11=>lds Bf (p11.add 1) λ(x12:(Int×Int×Int×Int×Int×Sl×Sl×Unit))=>nn a0 λp13=>ld cI (p13.add 8) λ(x14:Int)=>nn a0 λp15=>ld (.bool) (p15.add 10) λ(x16:Bool)=>cN 197 #[(vA Bf x12),(vI x14),(.bool x16)] λx17=>drew<|sif (x17 !=0) (nn a0 λp18=>ld cI (p18.add 8) λ(x19:Int)=>nn a0 λp20=>lds Bf (p20.add 1) λ(x21:(Int×Int×Int×Int×Int×Sl×Sl×Unit))=>cN 80 #[(vA Bf x21)] λx22=>keep (λw=>w.cell? (p18.add 8)=some (Cell.val cI x19))<|sif ((W64 (x19+1))==x22) (K true) (nn a0 λp23=>lds Bf (p23.add 1) λ(x24:(Int×Int×Int×Int×Int×Sl×Sl×Unit))=>nn a0 λp25=>ld cI (p25.add 8) λ(x26:Int)=>nn a0 λp27=>ld (.bool) (p27.add 10) λ(x28:Bool)=>cN 197 #[(vA Bf x24),(vI (W64 (x26+1))),(.bool x28)] λx29=>K (x29 !=x17))) (K false)))
def Dr4:Hint:=(hS (hR 1) (hS (hS (hR 2) (hC (hS (.region (lR 11) (hO 11)) hL) hL)) (hS (hS (.region (lR 10) (hO 10)) (hC (hS (hR 1) hL) hL)) (hS (.region (lR 14) (hO 14)) (hS (.region [0,1,2,3,4,5,6,7,8,9,10,11,12,13,14,15,16,17,18,19,20,21,22,23,24,25,26,27,29,28,30,31,32,33] (.ops 3 (.split 41 (.ops 12 (.split 53 (.skips 16 (hO 3)) (hO 19))) (.skips 29 (hO 2))))) hL)))))
theorem Eh9 {a0:Option Addr}{K:Bool->Wp}{w:World}(h:F192 a0 K w):Aa Tryz.prog 192 #[(.pointer a0)] rB K w:=tied Ai Tryz.func192 Dr4 _ h
def F193 (a0:(Int×Int×Int×Int×Int×Sl×Sl×Unit)) (K:Bool->Wp):Wp:=Af (.cells #[(vI a0.1),(vI a0.2.1),(vI a0.2.2.1),(vI a0.2.2.2.1),(vI a0.2.2.2.2.1),a0.2.2.2.2.2.1.v,a0.2.2.2.2.2.2.1.v] 135) λb1=>lds Bf (at0 b1) λ(x2:(Int×Int×Int×Int×Int×Sl×Sl×Unit))=>cN 80 #[(vA Bf x2)] λx3=>drew<|sif (x3==0) (K true) (lds Bf (at0 b1) λ(x4:(Int×Int×Int×Int×Int×Sl×Sl×Unit))=>lds Bf (at0 b1) λ(x5:(Int×Int×Int×Int×Int×Sl×Sl×Unit))=>cN 182 #[(vA Bf x5)] λx6=>keep (λw=>Ap w (at0 b1) 0 (Cells.vals Bf x4))<|cN 197 #[(vA Bf x4),(vI x6),(.bool true)] λx7=>K (x7==0))
def Dr3:Hint:=(hS (hR 2) (hS (hR 3) (hS (.region (lR 10) (.ops 3 (.split 8 (.skips 5 (hO 2)) (hO 7)))) hL)))
theorem Eh8 {a0:(Int×Int×Int×Int×Int×Sl×Sl×Unit)}{K:Bool->Wp}{w:World}(h:F193 a0 K w):Aa Tryz.prog 193 #[(vA Bf a0)] rB K w:=tied Ai Tryz.func193 Dr3 _ h
def F194 (a0:Option Addr) (K:Int->Wp):Wp:=jB (λJ1=>drew<|nn a0 λp3=>ld cI (p3.add 8) λ(x4:Int)=>nn a0 λp5=>lds Bf (p5.add 1) λ(x6:(Int×Int×Int×Int×Int×Sl×Sl×Unit))=>cN 80 #[(vA Bf x6)] λx7=>keep (λw=>w.cell? (p3.add 8)=some (Cell.val cI x4))<|sif (decide (x4>=x7)) (J1 (true,())) (nn a0 λp8=>ld (.sl) ((p8.add 1).add 6) λ(x9:Sl)=>nn a0 λp10=>ld cI (p10.add 8) λ(x11:Int)=>ixI x9 (W64 (x11+1)) 1 λx13=>nn a0 λp14=>ld (.sl) ((p14.add 1).add 6) λ(x15:Sl)=>nn a0 λp16=>ld cI (p16.add 8) λ(x17:Int)=>ixI x15 x17 1 λx19=>J1 ((decide ((W64 (x13-x19))>1)),()))) λs2=>sif s2.1 (K (-1)) (jU (λJ20=>sI (λs22 again23=>sif (decide (s22.1<6)) (drew<|nn a0 λp24=>lds Bf (p24.add 1) λ(x25:(Int×Int×Int×Int×Int×Sl×Sl×Unit))=>nn a0 λp26=>ld cI (p26.add 8) λ(x27:Int)=>Dn1 ({ data:=#[40,91,123,41,93,125] }) s22.1 λb28=>cN 204 #[(vA Bf x25),(vI x27)] λx29=>sif (x29==(W64 ((b28.toNat:Nat):Int))) (K s22.1) (again23 ((W64 (s22.1+1)),()))) (J20 ())) (0,())) λs21=>K (-1))
def Dr2:Hint:=(hS (hR 1) (hS (hJ (0x1fffffffff0,[(40,tB)]) (.region (lR 37) (.ops 11 (.split 14 (.skips 25 (hO 1)) (hO 26)))) (hC (hS (hR 1) hL) hL)) (hJ (0x7fffe000000000c,[]) (hS (hR 1) (.block (.loop 0x7fffe000000000c [(41,tI)] (hS (hR 1) (hS (hC hL hL) (hS (.block (hS (hR 2) (hS (.region [0,1,2,3,4,5,6,7,9,10,11,8,12] (hO 13)) (hC (hS (hR 2) hL) hL)))) (hR 2))))))) (hS (hR 1) hL))))
theorem Eh7 {a0:Option Addr}{K:Int->Wp}{w:World}(h:F194 a0 K w):Aa Tryz.prog 194 #[(.pointer a0)] rI K w:=tied Ai Tryz.func194 Dr2 _ h
def F195 (a0:Option Addr) (K:Bool->Wp):Wp:=nn a0 λp1=>ld cI (p1.add 8) λ(x2:Int)=>sif (decide (x2>0)) (nn a0 λp3=>ld cI (p3.add 8) λ(x4:Int)=>nn a0 λp5=>stC (p5.add 8) (vI (W64 (x4-1)))<|K true) (nn a0 λp6=>ld cI ((p6.add 1).add 4) λ(x7:Int)=>sif (x7==0) (K false) (drew<|nn a0 λp8=>ld (.ptr) p8 λ(x9:Option Addr)=>nn a0 λp10=>ld cI ((p10.add 1).add 4) λ(x11:Int)=>Aa Tryz.prog 86 #[(.pointer x9),(vI (W64 (x11-1)))] (.one (.agg Bf)) λ(x12:(Int×Int×Int×Int×Int×Sl×Sl×Unit))=>nn a0 λp13=>Ad (p13.add 1) (vA Bf x12) 7<|nn a0 λp14=>lds Bf (p14.add 1) λ(x15:(Int×Int×Int×Int×Int×Sl×Sl×Unit))=>cN 80 #[(vA Bf x15)] λx16=>nn a0 λp17=>stC (p17.add 8) (vI (if 0>(W64 (x16-1)) then 0 else (W64 (x16-1))))<|K true))
def Dr1:Hint:=(hS (hR 1) (hS (hS (hR 5) (hC (hS (hR 8) (hS (hR 1) hL)) hL)) (hS (hS (hR 6) (hC (hS (hR 1) hL) hL)) (hS (.region (lR 15) (hO 15)) (hS (hR 11) (hS (hR 1) hL))))))
theorem Eh6 {a0:Option Addr}{K:Bool->Wp}{w:World}(h:F195 a0 K w):Aa Tryz.prog 195 #[(.pointer a0)] rB K w:=tied Ai Tryz.func195 Dr1 _ h
def F196 (a0:Option Addr) (K:Bool->Wp):Wp:=nn a0 λp1=>lds Bf (p1.add 1) λ(x2:(Int×Int×Int×Int×Int×Sl×Sl×Unit))=>cN 80 #[(vA Bf x2)] λx3=>K (x3==0)
def Dr0:Hint:=(hS (hR 1) (hS (hR 7) hL))
theorem Eh5 {a0:Option Addr}{K:Bool->Wp}{w:World}(h:F196 a0 K w):Aa Tryz.prog 196 #[(.pointer a0)] rB K w:=tied Ai Tryz.func196 Dr0 _ h
def F197 (a0:(Int×Int×Int×Int×Int×Sl×Sl×Unit)) (a1:Int) (a2:Bool) (K:Int->Wp):Wp:=Af (.cells #[(vI a0.1),(vI a0.2.1),(vI a0.2.2.1),(vI a0.2.2.2.1),(vI a0.2.2.2.2.1),a0.2.2.2.2.2.1.v,a0.2.2.2.2.2.2.1.v] 135) λb1=>lds Bf (at0 b1) λ(x2:(Int×Int×Int×Int×Int×Sl×Sl×Unit))=>cN 204 #[(vA Bf x2),(vI a1)] λx3=>cN 205 #[(vI x3)] λx4=>sif a2 (K (if 1<x4 then 1 else x4)) (K x4)
def Dq9:Hint:=(hS (hR 2) (hS (hR 5) (hS (hS (hR 1) (hC (hS (hR 3) hL) hL)) (hS (hR 2) hL))))
theorem Eh4 {a0:(Int×Int×Int×Int×Int×Sl×Sl×Unit)}{a1:Int}{a2:Bool}{K:Int->Wp}{w:World}(h:F197 a0 a1 a2 K w):Aa Tryz.prog 197 #[(vA Bf a0),(vI a1),(.bool a2)] rI K w:=tied Ai Tryz.func197 Dq9 _ h
def F203 (a0:Option Addr) (a1:Int) (K:Int->Wp):Wp:=nn a0 λp1=>ld cI (p1.add 3) λ(x2:Int)=>jU (λJ3=>nn a0 λp5=>ld cI (p5.add 2) λ(x6:Int)=>sN (λs7 again8=>jB (λJ9=>sif (decide (s7.2.1>=0)) (nn a0 λp11=>lds Bf (p11.add 9) λ(x12:(Int×Int×Int×Int×Int×Sl×Sl×Unit))=>cN 80 #[(vA Bf x12)] λx13=>J9 ((decide (s7.2.1<x13)),())) (J9 (false,()))) λs10=>sif s10.1 (jI (λJ14=>drew<|nn a0 λp16=>lds Bf (p16.add 9) λ(x17:(Int×Int×Int×Int×Int×Sl×Sl×Unit))=>nn a0 λp18=>ld cI (p18.add 5) λ(x19:Int)=>cN 204 #[(vA Bf x17),(vI s7.2.1)] λx20=>keep (λw=>w.cell? (p18.add 5)=some (Cell.val cI x19))<|sif (x20 !=x19) (J14 (s7.1,())) (sif ((W64 (s7.1-1))==0) (K s7.2.1) (J14 ((W64 (s7.1-1)),())))) λs15=>again8 (s15.1,(W64 (s7.2.1+a1)),())) (J3 ())) (x2,(W64 (x6+a1)),())) λs4=>K (-1)
def Dq4:Hint:=(hS (hR 1) (hS (hR 5) (hJ (0x7ffffffff870,[]) (hS (hR 7) (.block (.loop 0x7ffffffe0070 [(5,tI),(6,tI)] (hS (hJ (0xffe0000,[(27,tB)]) (.region [] (.ops 3 (.split 19 (hO 8) (.skips 7 (hO 1))))) (hC hL hL)) (hJ (0x7fff80000030,[(5,tI)]) (.block (hS (hS (.region [0,1,2,3,4,6,7,8,9,5,10] (hO 11)) (hC hL hL)) (hS (hR 3) (hS (hR 2) (hC (hS (hR 2) hL) hL))))) (hR 4)))))) (hS (hR 1) hL))))
theorem Dm1 {a0:Option Addr}{a1:Int}{K:Int->Wp}{w:World}(h:F203 a0 a1 K w):Aa Tryz.prog 203 #[(.pointer a0),(vI a1)] rI K w:=tied Ai Tryz.func203 Dq4 _ h
def F204 (a0:(Int×Int×Int×Int×Int×Sl×Sl×Unit)) (a1:Int) (K:Int->Wp):Wp:=Af (.cells #[(vI a0.1),(vI a0.2.1),(vI a0.2.2.1),(vI a0.2.2.2.1),(vI a0.2.2.2.2.1),a0.2.2.2.2.2.1.v,a0.2.2.2.2.2.2.1.v] 135) λb1=>drew<|ld (.sl) (ad b1 5) λ(x2:Sl)=>ld (.sl) (ad b1 6) λ(x3:Sl)=>ixI x3 a1 1 λx5=>ixI x2 x5 1 λx7=>K x7
def Dq3:Hint:=(hS (hR 2) (hS (.region (lR 10) (hO 10)) hL))
theorem Eg9 {a0:(Int×Int×Int×Int×Int×Sl×Sl×Unit)}{a1:Int}{K:Int->Wp}{w:World}(h:F204 a0 a1 K w):Aa Tryz.prog 204 #[(vA Bf a0),(vI a1)] rI K w:=tied Ai Tryz.func204 Dq3 _ h
end
section
open Go Go.Vx Cdc Trx Lns
section
variable {w w':World}{S:Nat->Prop}{p:Nat}{e:Enc}{lim na:Nat}{O:Nat->Prop}{M:Parts}
abbrev lnT (l:Ln):Cells.T Ky:=((l.from_:Int),(l.to_:Int),(l.next:Int),(l.kind:Int),())
theorem hal (e:Enc) (M:Parts):(atoms (aOf e M)).length=(aOf e M).length:=gW _
theorem Ay7 (A:List Int) (k:Nat):skI A (k:Int)=match sk A k with|some m=>(m:Int)|none=>-1:=by unfold skI;rw [aJ (by omega),dF];all_goals (cases sk A k<;>rfl)
theorem Bj7 (h:Txt w p e lim na O M){f x:Nat}(hfx:f<x) (hx:x<=(atoms (aOf e M)).length){K:Cells.T Ky->Wp}(hK:∀w',Ext w w'->K (lnT (lnC (atoms (aOf e M)) f x)) w') :
  Aa Tryz.prog 166 #[.pointer (some (at0 p)),.int .i64 (f:Int),.int .i64 (x:Int)] (.one (.agg Ky)) K w:=by
 refine Ej8 ?_;unfold F166;have few:=h.few;have lims:=h.lims;generalize hA:atoms (aOf e M)=A at *;(have hAl:A.length=(aOf e M).length:=by rw [←hA];exact hal e M);refine (St.start w).Af λb1 w1 S1 e1=>?_;have ew:W64 ((x:Int)-2)=(x:Int)-2:=wrap64 (by omega) (by omega);rw [ew];obtain ⟨g,hg⟩:∃g:Nat,g=max f (x-2):=⟨_,rfl⟩;have eg:(if (x:Int)-2>(f:Int) then (x:Int)-2 else (f:Int))=(g:Int):=(by split<;>omega);rw [eg];refine Ry (h.ext e1) λs w2 o2 e2=>?_;rw [hA] at o2;(have hsub:sub A (g:Int) (x:Int)=(A.drop g).take (x-g):=by unfold sub;simp);rw [hsub] at o2;have hl:=o2.len1;rw [gW,gI,gJ] at hl;have hsl:s.len=x-g:=(by omega);have get:∀i,i<x-g->((A.drop g).take (x-g))[i]?=A[g+i]?:=λi hi=>(by rw [gQ,aF hi,gU]);(have ew1:W64 (((s.len:Nat):Int)-1)=((x-g-1:Nat):Int):=by rw [wrap64 (by omega) (by omega)];omega);rw [ew1];have S2:=S1.ext e2;obtain ⟨a,ha⟩:∃a,A[x-1]?=some a:=⟨_,jC (by omega)⟩;(have ex1:W64 ((x:Int)-1)=((x-1:Nat):Int):=by rw [wrap64 (by omega) (by omega)];omega);have fin:∀{l:Ln} {W:World},St (λ_=>False) w W [(b1,.cells #[.int .i64 0,.int .i64 0,.int .i64 0,.int .i64 0] 133 (0,0))]->lnC A f x=l ->
   Ad (at0 b1) (.agg (Cells.vals Ky (lnT l)).toArray) 4 (lds Ky (at0 b1) λx=>K x) W:=by
  intro l W SW el
  exact SW.Ad 0 rfl rfl rfl rfl λw3 S3 _=>S3.lds 0 (lnT l) rfl (by subst el;exact hK w3 S3.upd)
 refine Ew (c:=.int .i64) (xs:=(A.drop g).take (x-g)) o2.in (by omega) (x:=a) (by rw [dF,get _ (by omega),←ha];congr 1;omega) λq=>Ac (λhc=>?_) (λhc=>?_);{simp only [jM] at hc;rw [ex1];exact fin (l:=⟨f,x-1,x,3⟩) S2 (by unfold lnC;rw [aF (by rw [ha,hc])])};{simp only [jO] at hc;(have h13:¬A[x-1]?=some 13:=by rw [ha];exact λh=>hc (kS h));refine Ae (λy W=>y=(decide (f+1<x/\A[x-2]?=some 13),())/\w2=W) ?_ ?_;{refine Ac (λhd=>?_) (λhd=>?_);{simp only [iI,kG] at hd;(have ew2:W64 (((x-g-1:Nat):Int)-1)=((x-g-2:Nat):Int):=by rw [wrap64 (by omega) (by omega)];omega);rw [ew2];obtain ⟨b,hb⟩:∃b,A[x-2]?=some b:=⟨_,jC (by omega)⟩;refine Ew (c:=.int .i64) (xs:=(A.drop g).take (x-g)) o2.in (by omega) (x:=b) (by rw [dF,get _ (by omega),←hb];congr 1;omega) λq2=>⟨Az ?_,rfl⟩;simp only [jM,iI,hb,dN];omega};{simp only [iH,kG] at hd;refine ⟨Az ?_,rfl⟩;simp only [dO,iI,lS];omega}};rintro _ _ ⟨rfl,rfl⟩;refine Ac (λhd=>?_) (λhd=>?_);{simp only [iI] at hd;have ew3:(x:Int)-2=((x-2:Nat):Int):=(by omega);rw [ew3];exact fin (l:=⟨f,x-2,x,2⟩) S2 (by unfold lnC;rw [aJ h13,aF hd])};{simp only [iH] at hd;rw [ex1];exact fin (l:=⟨f,x-1,x,1⟩) S2 (by unfold lnC;rw [aJ h13,aJ hd])}}
def Dl5 (r:Option Ln):Cells.T Ky×Int×Unit:=match r with
 |some l=>(lnT l,0,())
 |none=>(lnT ⟨0,0,0,0⟩,2,())
theorem Cp9 {i:Int}(h:Txt w p e lim na O M) (hi:i<2^62){K:Cells.T Ky×Int×Unit->Wp}(hK:∀w',Ext w w'->K (Dl5 (lnI (atoms (aOf e M)) i)) w') :
  Aa Tryz.prog 106 #[.pointer (some (at0 p)),.int .i64 i] (.tup [(.agg Ky),(.one (.int .i64))]) K w:=by
 refine Ep6 ?_;unfold F106;have few:=h.few;have lims:=h.lims;have hal:=hal e M;refine (St.start w).Af λb1 w1 S1 e1=>?_;refine Ac (λhc=>?_) (λhc=>?_);{simp only [iI] at hc;refine S1.Ad 0 rfl rfl rfl rfl λw2 S2 _=>S2.lds 0 (lnT ⟨0,0,0,0⟩) rfl ?_;have:=hK w2 S2.upd;unfold lnI at this;rw [aF hc] at this;exact this};simp only [iH] at hc;obtain ⟨n,rfl⟩:∃n:Nat,i=(n:Int):=⟨i.toNat,by omega⟩;unfold lnI at hK;rw [aJ hc,dF] at hK;refine Aa0 (h.ext e1) λw2 e2=>?_;have S2:=S1.ext e2;rw [Ay7];cases hf:sk (atoms (aOf e M)) n with
 |none=>refine Ac (λ_=>?_) (λh=>by simp at h);refine S2.Ad 0 rfl rfl rfl rfl λw3 S3 _=>S3.lds 0 (lnT ⟨0,0,0,0⟩) rfl ?_;have:=hK w3 S3.upd;unfold Oy at this;rw [hf] at this;exact this
 |some f=>refine Ac (λh=>by simp at h;omega) (λ_=>?_);obtain ⟨hnb,hfl,hnf,_⟩:=Rf hf;refine Iz (h.ext S2.upd) λw3 e3=>Uj (h.ext (S2.ext e3).upd) λw4 e4=>?_;have S4:=(S2.ext e3).ext e4;rw [dF,←hal,←Nh];refine Ac (λhlt=>?_) (λhlt=>?_);{simp only [iI] at hlt;(have ew:W64 ((n:Int)+1)=((n+1:Nat):Int):=by rw [wrap64 (by omega) (by omega)];omega);rw [ew];refine Aa0 (h.ext S4.upd) λw5 e5=>?_;have S5:=S4.ext e5;rw [Ay7];obtain ⟨x,hx⟩:=At5 (A:=atoms (aOf e M)) (k:=n+1) (by omega);obtain ⟨_,hxl,_,_⟩:=Rf hx;rw [hx];refine Bj7 (h.ext S5.upd) (Dc2 hf hx (by omega)) hxl λw6 e6=>(S5.ext e6).Ad 0 rfl rfl rfl rfl λw7 S7 _=>S7.lds 0 (lnT _) rfl ?_;have:=hK w7 S7.upd;unfold Oy at this;rw [hf] at this;simp only [hx] at this;exact this};{simp only [iH] at hlt;refine Iz (h.ext S4.upd) λw5 e5=>Iz (h.ext (S4.ext e5).upd) λw6 e6=>((S4.ext e5).ext e6).Ad 0 rfl rfl rfl rfl λw7 S7 _=>S7.lds 0 (lnT ⟨f,(aOf e M).length,(aOf e M).length,0⟩) rfl ?_;have:=hK w7 S7.upd;unfold Oy at this;rw [hf] at this;simp only [Zg (atoms (aOf e M)) (n+1) (by omega)] at this;rw [hal] at this;exact this}
theorem Cp4 {at_:Int}(h:Txt w p e lim na O M){K:Int->Wp}(hK:∀w',Ext w w'->K ((nb (atoms (aOf e M)) at_.toNat:Nat):Int) w') :
  Aa Tryz.prog 130 #[.pointer (some (at0 p)),.int .i64 at_] rI K w:=by
 refine En5 ?_;unfold F130;have hal:=hal e M;refine Iz h λw1 e1=>Uj (h.ext e1) λw2 e2=>?_;have:=hK w2 (e1.trans e2);have e:nb (atoms (aOf e M)) (if (((aOf e M).length:Nat):Int)<(if (0:Int)>at_ then (0:Int) else at_) then (((aOf e M).length:Nat):Int) else (if (0:Int)>at_ then (0:Int) else at_)).toNat=nb (atoms (aOf e M)) at_.toNat:=by
  by_cases h0:(0:Int)>at_
  ·rw [aF h0,aJ (by omega)]
   have:at_.toNat=(0:Int).toNat:=by omega
   rw [this]
  ·rw [aJ h0]
   split
   ·rw [dF,Am4 _ _ (by omega),Am4 _ _ (by omega)]
   ·rfl
 rw [e];exact this
theorem Bh1 (h:Txt w p e lim na O M){K:Bool->Wp}(hK:∀w',Ext w w'->K (ended (atoms (aOf e M))) w') :
  Aa Tryz.prog 133 #[.pointer (some (at0 p))] rB K w:=by
 refine En2 ?_;unfold F133;have hal:=hal e M;unfold ended at hK;refine Iz h λw1 e1=>Ac (λhc=>?_) (λhc=>?_)
 ·simp only [iI,kG] at hc;refine Uj (h.ext e1) λw2 e2=>Aa0 (h.ext (e1.trans e2)) λw3 e3=>?_;have:=hK w3 ((e1.trans e2).trans e3);rw [dF,←hal,←Nh,Ay7];rw [jP (by omega),lD] at this;cases hs:sk (atoms (aOf e M)) (brs (atoms (aOf e M))) with
  |none=>rw [hs] at this;(have e1:((-1:Int)==(((atoms (aOf e M)).length:Nat):Int))=false:=by rw [jO];omega);show K ((-1:Int)==_) w3;rw [e1];exact this
  |some m=>rw [hs] at this;(have e1:((m:Int)==(((atoms (aOf e M)).length:Nat):Int))=(some m==some (atoms (aOf e M)).length):=by rw [gV,jM,jM,dN];omega);show K ((m:Int)==_) w3;rw [e1];exact this
 {simp only [iH,kG] at hc;have:=hK w1 e1;rw [jQ (by omega),lW] at this;exact this}
theorem Bh2 (h:Txt w p e lim na O M){K:Int->Wp}(hK:∀w',Ext w w'->K ((lnN (atoms (aOf e M)):Nat):Int) w') :
  Aa Tryz.prog 87 #[.pointer (some (at0 p))] rI K w:=by refine A87 ?_;unfold F87;have few:=h.few;have lims:=h.lims;have hal:=hal e M;(have hb:brs (atoms (aOf e M))<=(atoms (aOf e M)).length:=by rw [Nh];exact Bg5 _ _);refine Iz h λw1 e1=>Uj (h.ext e1) λw2 e2=>?_;rw [dF,←hal,←Nh];refine Ae (λx W=>x=(((lnN (atoms (aOf e M)):Nat):Int),())/\Ext w W) ?_ (λx W hx=>by obtain ⟨rfl,hx⟩:=hx;exact hK W hx);refine Bh1 (h.ext (e1.trans e2)) λw3 e3=>?_;have e03:=(e1.trans e2).trans e3;refine Ac (λhc=>⟨?_,e03⟩) (λhc=>⟨?_,e03⟩);{simp only [dX] at hc;unfold lnN;rw [hc,wrap64 (by omega) (by omega)];simp};{simp only [nP] at hc;unfold lnN;rw [hc];simp}
end
end
end Go.Proofs.YtolhlldgnfbemaaGreatDoor
