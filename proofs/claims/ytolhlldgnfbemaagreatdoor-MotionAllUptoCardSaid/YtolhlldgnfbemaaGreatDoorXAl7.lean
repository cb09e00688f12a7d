/- YtolhlldgnfbemaaGreatDoorXAl7: parts of the proof, put together by program. -/
import Derived.Test.YtolhlldgnfbemaaGreatDoorXAl6
set_option linter.unusedVariables false
set_option linter.defProp false
set_option linter.unusedSimpArgs false
set_option linter.unusedSectionVars false
noncomputable section
set_option maxRecDepth 100000
namespace Go.Proofs.YtolhlldgnfbemaaGreatDoor
section
open Go Go.Vx Cdc Trx Gly Clu Lns Obx
namespace Mot
variable {A:List Int}{i:Nat}
def Ag2 (A:List Int) (i:Nat):List Int:=(List.range ((Ag A i).length+1)).map λj=>(Oi A i j:Int)
theorem Df6 (h:i<=brs A):nv (cuts (rowB A i))=iv (Ag2 A i):=by rw [Bf2 h];unfold Ag2;simp only [jL];rfl
theorem Cu1 (A:List Int) (i:Nat):(Ag2 A i).length=(Ag A i).length+1:=by unfold Ag2;simp
theorem Y6 {j:Nat}(h:j<=(Ag A i).length):(Ag2 A i)[j]?=some (Oi A i j:Int):=by unfold Ag2;rw [gX,oZ (by omega)];rfl
theorem Cd3 (h:i<=brs A) (c:Int):Aw A i c=(Aq A i).from_+Oi A i (min c.toNat (Ag A i).length):=by rw [Zv h];rcases lT c.toNat (Ag A i).length with u|u;{rw [gK (by omega)];unfold Aw;rw [dF]};{rw [oH u,Ej u,Ej (by omega)]}
theorem Bc4 (h:i<=brs A){j:Nat}{c:Cel}(hc:(Ag A i)[j]?=some c):c.to_=Aw A i ((j+1:Nat):Int):=by have hl:=(fG.1 hc).1;rcases lT (j+1) (Ag A i).length with u|u;{obtain ⟨d,hd⟩:=Dk u;rw [Ec u,Hg hd];exact (Gi A i).next j c d hc hd};{rw [Ej (by omega)];exact At8 h hc (by omega)}
theorem Al8 (h:i<=brs A){c d:Nat}(hcd:c<=d) (hd:d<=(Ag A i).length):Aw A i (c:Int)<=Aw A i (d:Int):=by rcases lT c d with u|u;{exact oK (Tj h u hd)};{rw [show c=d by omega];exact fJ _}
theorem Bv3 (h:i<=brs A){j:Nat}{c:Cel}(hc:(Ag A i)[j]?=some c):(rowB A i)[Oi A i j]?=some c.atom/\c.kind=wrd c.atom:=by have hl:=(fG.1 hc).1;obtain ⟨_,_,_,_,q⟩:=Yq (Cb h).ft (by have:=(Cb h).tn;have:=(Cb h).nl;omega) hc;exact ⟨by rw [Cu0 h hl,hc];rfl,q.kind⟩
end Mot
open Mot
abbrev RwT:=Cells.T Bf
structure Hy (w:World) (A:List Int) (i:Nat) (r:RwT):Prop where
 row:i<=brs A
 len:A.length<=1048576
 f:r.1=((Aq A i).from_:Int)
 t:r.2.1=((Aq A i).to_:Int)
 n:r.2.2.1=((Aq A i).next:Int)
 num:r.2.2.2.2.1=(i:Int)
 atoms:Bl w r.2.2.2.2.2.1 3 1 (iv (rowB A i))
 starts:Bl w r.2.2.2.2.2.2.1 3 1 (iv (Ag2 A i))
abbrev rwO (r:RwT):Obj:=.cells #[.int .i64 r.1,.int .i64 r.2.1,.int .i64 r.2.2.1,.int .i64 r.2.2.2.1,.int .i64 r.2.2.2.2.1,.slice r.2.2.2.2.2.1.a r.2.2.2.2.2.1.len r.2.2.2.2.2.1.cap,.slice r.2.2.2.2.2.2.1.a r.2.2.2.2.2.2.1.len r.2.2.2.2.2.2.1.cap] 135 (0,0)
abbrev rwZ:Obj:=.cells #[.int .i64 0,.int .i64 0,.int .i64 0,.int .i64 0,.int .i64 0,.slice none 0 0,.slice none 0 0] 135 (0,0)
section
variable {w w':World}{A:List Int}{i:Nat}{r:RwT}
theorem Hy.ext (h:Hy w A i r) (e:Ext w w'):Hy w' A i r:=⟨h.row,h.len,h.f,h.t,h.n,h.num,h.atoms.ext e,h.starts.ext e⟩
theorem Hy.slen (h:Hy w A i r):r.2.2.2.2.2.2.1.len=(Ag A i).length+1:=by have:=h.starts.len1;rw [gW,Cu1] at this;exact this.symm
theorem Hy.few (h:Hy w A i r):(Ag A i).length<=1048576/\(Aq A i).to_<=1048576/\(Aq A i).from_<=1048576/\(Aq A i).next<=1048576:=by have h1:=Ht h.row;have ok:=Cb h.row;have:=ok.tn;have:=ok.nl;have:=ok.ft;have:=h.len;omega
theorem Em (h:Hy w A i r){K:Int->Wp}(hK:∀w',Ext w w'->K ((Ag A i).length:Int) w') :
  Aa Tryz.prog 80 #[.agg (Cells.vals Bf r).toArray] rI K w:=by refine A80 (a0:=r) ?_;unfold F80;have hl:=h.slen;have fw:=h.few;refine (St.start w).Af λb1 w1 S1 e1=>S1.ld 0 rfl (x:=r.2.2.2.2.2.2.1) rfl ?_;rw [hl,wrap64 (by omega) (by omega)];have:=hK w1 e1;rw [show (((Ag A i).length+1:Nat):Int)-1=((Ag A i).length:Int) by omega];exact this
theorem Et (h:Hy w A i r){c:Int}{K:Int->Wp}(hK:∀w',Ext w w'->K (Aw A i c:Int) w') :
  Aa Tryz.prog 79 #[.agg (Cells.vals Bf r).toArray,.int .i64 c] rI K w:=by
 refine A79 (a0:=r) ?_;unfold F79;have hl:=h.slen;have fw:=h.few;refine (St.start w).Af λb1 w1 S1 e1=>S1.drew λw2 S2 e2 _=>S2.ld 0 rfl (x:=r.1) rfl (S2.ld 0 rfl (x:=r.2.2.2.2.2.2.1) rfl (S2.lds 0 r rfl ?_));refine Em (h.ext S2.upd) λw3 e3=>?_;have S3:=S2.ext e3;refine S3.keep 0 rfl (v:=.slice r.2.2.2.2.2.2.1.a r.2.2.2.2.2.2.1.len r.2.2.2.2.2.2.1.cap) rfl (S3.keep 0 rfl (v:=.int .i64 r.1) rfl ?_);have em:(if (((Ag A i).length:Nat):Int)<(if (0:Int)>c then (0:Int) else c) then (((Ag A i).length:Nat):Int) else (if (0:Int)>c then (0:Int) else c))=((min c.toNat (Ag A i).length:Nat):Int):=by
  split<;>split at * <;> omega
 rw [em];refine Ew (c:=.int .i64) (xs:=Ag2 A i) (h.ext S3.upd).starts (by omega) (x:=(Oi A i (min c.toNat (Ag A i).length):Int)) (by rw [dF];exact Y6 (by omega)) λp=>?_;have hp:=Cd3 h.row c;have hle:=Py h.row c;have hA:=h.len;rw [h.f,wrap64 (by omega) (by omega)];have:=hK w3 S3.upd;rw [hp] at this;rw [show (((Aq A i).from_:Nat):Int)+((Oi A i (min c.toNat (Ag A i).length):Nat):Int)=(((Aq A i).from_+Oi A i (min c.toNat (Ag A i).length):Nat):Int) by omega];exact this
theorem Vl (h:Hy w A i r){n:Int}{K:Int->Wp}(hK:∀w',Ext w w'->K (Dj (Ag A i) n:Int) w') :
  Aa Tryz.prog 81 #[.agg (Cells.vals Bf r).toArray,.int .i64 n] rI K w:=by refine A81 (a0:=r) ?_;unfold F81;have hl:=h.slen;have fw:=h.few;have hA:=h.len;refine (St.start w).Af λb1 w1 S1 e1=>S1.lds 0 r rfl (Em (h.ext e1) λw2 e2=>?_);have S2:=S1.ext e2;have S2:St (λ_=>False) w w2 [(b1,rwO r)]:=S2;refine Ae (λx W=>x=((Dj (Ag A i) n:Int),())/\Ext w W) ?_ (λx W hx=>by rw [hx.1];exact hK W hx.2);refine Ba (λx W=>∃lo hi:Nat,x=((lo:Int),(hi:Int),())/\lo<=hi/\hi<=(Ag A i).length/\(lo=0\/(Aw A i (lo:Int):Int)<=n)/\(∀j:Nat,hi<j->j<=(Ag A i).length->n<(Aw A i (j:Int):Int))/\St (λ_=>False) w W [(b1,rwO r)]) (λx _=>(x.2.1-x.1).toNat) ⟨0,(Ag A i).length,rfl,iW _,fJ _,.inl rfl,λj h1 h2=>by omega,S2⟩ ?_;rintro _ W ⟨lo,hi,rfl,h1,h2,h3,h4,SW⟩;dsimp only;refine Ac (λhc=>?_) (λhc=>?_);{simp only [iI] at hc;obtain ⟨m,hm⟩:∃m:Nat,m=(lo+hi+1)/2:=⟨_,rfl⟩;have ew1:W64 ((lo:Int)+(hi:Int))=(lo:Int)+hi:=wrap64 (by omega) (by omega);have ew2:W64 ((lo:Int)+(hi:Int)+1)=(lo:Int)+hi+1:=wrap64 (by omega) (by omega);(have ed:Int.tdiv ((lo:Int)+(hi:Int)+1) 2=(m:Int):=by rw [kF (by omega)];omega);have ew3:W64 (m:Int)=(m:Int):=wrap64 (by omega) (by omega);(have ew4:W64 ((m:Int)-1)=((m-1:Nat):Int):=by rw [wrap64 (by omega) (by omega)];omega);rw [ew1,ew2,ed,ew3,ew4];refine Dc (by decide) (SW.drew λw3 S3 e3 _=>S3.ld 0 rfl (x:=r.1) rfl (S3.ld 0 rfl (x:=r.2.2.2.2.2.2.1) rfl ?_));refine Ew (c:=.int .i64) (xs:=Ag2 A i) (h.ext S3.upd).starts (by omega) (x:=(Oi A i m:Int)) (by rw [dF];exact Y6 (by omega)) λp=>?_;have hp:=Zv h.row m;have hle:=Py h.row (m:Int);rw [h.f,wrap64 (by omega) (by omega),show (((Aq A i).from_:Nat):Int)+((Oi A i m:Nat):Int)=(Aw A i (m:Int):Int) by omega];refine Ac (λhg=>?_) (λhg=>?_);{simp only [iI] at hg;exact ⟨⟨m,hi,rfl,by omega,h2,.inr hg,h4,S3⟩,by omega⟩};{simp only [iH] at hg;refine ⟨⟨lo,m-1,rfl,by omega,by omega,h3,λj j1 j2=>?_,S3⟩,by omega⟩;have:=Al8 h.row (c:=m) (d:=j) (by omega) j2;omega}};{simp only [iH] at hc;obtain rfl:lo=hi:=(by omega);refine ⟨?_,SW.upd⟩;rw [Ac1 h2 (λj c hj hc'=>?_) (λc hc'=>?_)];{rw [Bc4 h.row hc'];have:=Al8 h.row (c:=j+1) (d:=lo) (by omega) h2;rcases h3 with rfl|h3;{omega};{omega}};{have hl2:=(fG.1 hc').1;rw [Bc4 h.row hc'];exact h4 (lo+1) (by omega) (by omega)}}
theorem Tz (h:Hy w A i r){j:Nat}{c:Cel}(hc:(Ag A i)[j]?=some c){K:Int->Wp}(hK:∀w',Ext w w'->K c.atom w') :
  Aa Tryz.prog 204 #[.agg (Cells.vals Bf r).toArray,.int .i64 (j:Int)] rI K w:=by refine Eg9 (a0:=r) ?_;unfold F204;have hl:=h.slen;have fw:=h.few;have hj:=(fG.1 hc).1;refine (St.start w).Af λb1 w1 S1 e1=>S1.drew λw2 S2 e2 _=>S2.ld 0 rfl (x:=r.2.2.2.2.2.1) rfl (S2.ld 0 rfl (x:=r.2.2.2.2.2.2.1) rfl ?_);have h2:=h.ext S2.upd;refine Ew (c:=.int .i64) (xs:=Ag2 A i) h2.starts (by omega) (x:=(Oi A i j:Int)) (by rw [dF];exact Y6 (by omega)) λp=>?_;exact Ew (c:=.int .i64) (xs:=rowB A i) h2.atoms (by omega) (x:=c.atom) (by rw [dF];exact (Bv3 h.row hc).1) λq=>hK w2 S2.upd
theorem Ox (h:Hy w A i r){j:Nat}(hj:j<(Ag A i).length){big:Bool}{K:Int->Wp}(hK:∀w',Ext w w'->K (Fg (Ag A i) j big:Int) w') :
  Aa Tryz.prog 197 #[.agg (Cells.vals Bf r).toArray,.int .i64 (j:Int),.bool big] rI K w:=by refine Eh4 (a0:=r) ?_;unfold F197;obtain ⟨c,hc⟩:=Dk hj;refine (St.start w).Af λb1 w1 S1 e1=>S1.lds 0 r rfl (Tz (h.ext e1) hc λw2 e2=>Ca4 λw3 e3=>?_);have e13:=(e1.trans e2).trans e3;have hk:=(Bv3 h.row hc).2;unfold Fg at hK;rw [hc] at hK;refine Ac (λhb=>?_) (λhb=>?_);{have:=hK w3 e13;rw [aF hb] at this;(have e:(if (1:Int)<((wrd c.atom:Nat):Int) then (1:Int) else ((wrd c.atom:Nat):Int))=((min c.kind 1:Nat):Int):=by rw [hk];split<;>omega);rw [e];exact this};{have:=hK w3 e13;rw [aJ (by rw [hb];decide)] at this;rw [←hk];exact this}
theorem I7 (h:Hy w A i r){K:Int->Wp}(hK:∀w',Ext w w'->K (Pv A i:Int) w') :
  Aa Tryz.prog 182 #[.agg (Cells.vals Bf r).toArray] rI K w:=by refine Ei8 (a0:=r) ?_;unfold F182;have fw:=h.few;refine (St.start w).Af λb1 w1 S1 e1=>?_;have S1:St (λ_=>False) w w1 [(b1,rwO r)]:=S1;refine Ae (λ_ W=>(∀(j:Nat) y,(Ag A i)[j]?=some y->y.kind=0)/\St (λ_=>False) w W [(b1,rwO r)]) ?_ ?_;{refine S1.lds 0 r rfl (Em (h.ext e1) λw2 e2=>?_);refine Ba (λx W=>∃c:Nat,x=((c:Int),())/\c<=(Ag A i).length/\(∀(j:Nat) y,j<c->(Ag A i)[j]?=some y->y.kind=0)/\St (λ_=>False) w W [(b1,rwO r)]) (λx _=>(((Ag A i).length:Int)-x.1).toNat) ⟨0,rfl,iW _,λj y hj=>by omega,S1.ext e2⟩ ?_;rintro _ W ⟨c,rfl,h1,h2,SW⟩;dsimp only;refine Ac (λhc=>?_) (λhc=>?_);{simp only [iI] at hc;(have ew:W64 ((c:Int)+1)=((c+1:Nat):Int):=by rw [wrap64 (by omega) (by omega)];omega);rw [ew];obtain ⟨x,hx⟩:=Dk (C:=Ag A i) (j:=c) (by omega);refine SW.lds 0 r rfl (Ox (h.ext SW.upd) (j:=c) (by omega) λw3 e3=>?_);(have hkb:Fg (Ag A i) c true=min x.kind 1:=by unfold Fg;rw [aF rfl,hx];rfl);rw [hkb];refine Ac (λhg=>?_) (λhg=>?_);{simp only [mY,ne_eq] at hg;have:=hK w3 (SW.ext e3).upd;rw [Bu8 hx (by omega) h2] at this;exact this};{simp only [mZ] at hg;refine ⟨⟨c+1,rfl,by omega,λj y hj hy=>?_,SW.ext e3⟩,by omega⟩;by_cases hjc:j=c;{subst hjc;rw [hx] at hy;cases hy;omega};{exact h2 j y (by omega) hy}}};{simp only [iH] at hc;exact ⟨λj y hy=>h2 j y (by have:=(fG.1 hy).1;omega) hy,SW⟩}};rintro _ W ⟨h0,SW⟩;refine SW.lds 0 r rfl (Em (h.ext SW.upd) λw3 e3=>?_);have:=hK w3 (SW.ext e3).upd;rw [Z9 h0] at this;rw [wrap64 (by omega) (by omega)];have e:(if (0:Int)>(((Ag A i).length:Nat):Int)-1 then (0:Int) else (((Ag A i).length:Nat):Int)-1)=(((Ag A i).length-1:Nat):Int):=(by split<;>omega);rw [e];exact this
theorem Ua (h:Hy w A i r){K:Bool->Wp}(hK:∀w',Ext w w'->K (Ez A i) w') :
  Aa Tryz.prog 193 #[.agg (Cells.vals Bf r).toArray] rB K w:=by
 refine Eh8 (a0:=r) ?_;unfold F193;have hbl:=Cu2 A i;refine (St.start w).Af λb1 w1 S1 e1=>?_;have S1:St (λ_=>False) w w1 [(b1,rwO r)]:=S1;refine S1.lds 0 r rfl (Em (h.ext e1) λw2 e2=>(S1.ext e2).drew λw3 S3 e3 _=>?_);refine Ac (λhc=>?_) (λhc=>?_);{simp only [jM] at hc;have:=hK w3 S3.upd;rw [hbl,show (Ag A i).length=0 by omega] at this;exact this}
 ·simp only [jO,ne_eq] at hc;refine S3.lds 0 r rfl (S3.lds 0 r rfl (I7 (h.ext S3.upd) λw4 e4=>?_));have S4:=S3.ext e4;have hs:=Aj6 A i;refine S4.keeps 0 (x:=r) rfl (Ox (h.ext S4.upd) (j:=Pv A i) (by omega) λw5 e5=>?_);have:=hK w5 (S4.ext e5).upd;rw [hbl] at this;have e:((Ag A i).length==0||Fg (Ag A i) (Pv A i) true==0)=(((Fg (Ag A i) (Pv A i) true:Nat):Int)==0):=by
   have:((Ag A i).length==0)=false:=by rw [jO];omega
   rw [this,bD,gV,jM,jM];omega
  rw [e] at this;exact this
end
end
section
open Go Go.Vx Cdc Trx Gly Clu Lns Obx Mot
section
variable {w w':World}{p:Nat}{e:Enc}{lim na:Nat}{O:Nat->Prop}{M:Parts}{A:List Int}
structure TxA (w:World) (p:Nat) (A:List Int):Prop where
 ex:∃e lim na O M,Txt w p e lim na O M/\atoms (aOf e M)=A
theorem TxA.ext (h:TxA w p A) (x:Ext w w'):TxA w' p A:=by obtain ⟨e,lim,na,O,M,h1,h2⟩:=h.ex;exact ⟨e,lim,na,O,M,h1.ext x,h2⟩
theorem TxA.len (h:TxA w p A):A.length<=1048576:=by obtain ⟨e,lim,na,O,M,h1,rfl⟩:=h.ex;rw [hal];exact h1.few
theorem TxA.at_ (h:TxA w p A){i:Nat}(hi:i<=brs A){K:Cells.T Ky×Int×Unit->Wp}(hK:∀w',Ext w w'->K (lnT (Aq A i),0,()) w') :
  Aa Tryz.prog 106 #[.pointer (some (at0 p)),.int .i64 (i:Int)] (.tup [(.agg Ky),(.one (.int .i64))]) K w:=by have hA:=h.len;have hb:=Gl A;obtain ⟨e,lim,na,O,M,h1,rfl⟩:=h.ex;refine Cp9 h1 (by omega) λw' x=>?_;have:=hK w' x;unfold lnI;rw [aJ (by omega),dF,Wx hi];exact this
theorem TxA.atoms (h:TxA w p A){f t:Int}{K:Sl->Wp}(hK:∀s w',Ar w' w.heap.size s 3 1 (iv (sub A f t))->Ext w w'->K s w') :
  Aa Tryz.prog 25 #[.pointer (some (at0 p)),.int .i64 f,.int .i64 t] rS K w:=by obtain ⟨e,lim,na,O,M,h1,rfl⟩:=h.ex;exact Ry h1 hK
theorem TxA.of (h:TxA w p A){x:Int}{K:Int->Wp}(hK:∀w',Ext w w'->K (ofI A x:Int) w') :
  Aa Tryz.prog 130 #[.pointer (some (at0 p)),.int .i64 x] rI K w:=by
 obtain ⟨e,lim,na,O,M,h1,rfl⟩:=h.ex;refine Cp4 h1 λw' x'=>?_;have:=hK w' x';unfold ofI inT at this;have e1:nb (Trx.atoms (aOf e M)) x.toNat=nb (Trx.atoms (aOf e M)) (min (max x 0) ((Trx.atoms (aOf e M)).length:Int)).toNat:=by
  rcases lT x.toNat (Trx.atoms (aOf e M)).length with u|u
  ·congr 1;omega
  ·rw [Am4 _ _ u,show (min (max x 0) ((Trx.atoms (aOf e M)).length:Int)).toNat=(Trx.atoms (aOf e M)).length by omega,Nh]
 rw [e1];exact this
theorem TxA.count (h:TxA w p A){K:Int->Wp}(hK:∀w',Ext w w'->K (lnN A:Int) w') :
  Aa Tryz.prog 87 #[.pointer (some (at0 p))] rI K w:=by obtain ⟨e,lim,na,O,M,h1,rfl⟩:=h.ex;exact Bh2 h1 hK
theorem TxA.Di1 (h:TxA w p A){K:Int->Wp}(hK:∀w',Ext w w'->K (A.length:Int) w') :
  Aa Tryz.prog 23 #[.pointer (some (at0 p))] rI K w:=by obtain ⟨e,lim,na,O,M,h1,rfl⟩:=h.ex;refine Iz h1 λw' x=>?_;have:=hK w' x;rw [hal] at this;exact this
theorem Bu2 (A:List Int) (i:Nat):sub A ((Aq A i).from_:Int) ((Aq A i).to_:Int)=rowB A i:=by unfold sub rowB;simp
theorem Ic (h:TxA w p A){i:Nat}(hi:i<=brs A){K:RwT->Wp}(hK:∀r w',Hy w' A i r->Ext w w'->K r w') :
  Aa Tryz.prog 86 #[.pointer (some (at0 p)),.int .i64 (i:Int)] (.one (.agg Bf)) K w:=by refine A86 ?_;unfold F86;have hA:=h.len;let rw1 (sa ss:Sl):RwT:=(((Aq A i).from_:Int),((Aq A i).to_:Int),((Aq A i).next:Int),((Aq A i).kind:Int),(i:Int),sa,ss,());let lnO:Obj:=.cells #[.int .i64 ((Aq A i).from_:Int),.int .i64 ((Aq A i).to_:Int),.int .i64 ((Aq A i).next:Int),.int .i64 ((Aq A i).kind:Int)] 133 (0,0);refine (St.start w).Af λb1 w1 S1 e1=>h.ext e1 |>.at_ hi λw2 e2=>(S1.ext e2).Af λb3 w3 S3 e3=>S3.Ad 0 rfl rfl rfl rfl λw4 S4 u4=>?_;have S4:St (λ_=>False) w w4 [(b3,lnO),(b1,rwZ)]:=S4;refine Ae (λx W=>∃b sa,x=(at0 b,())/\St (λ_=>False) w W [(b,rwO (rw1 sa ⟨none,0,0⟩)),(b3,lnO),(b1,rwZ)]/\Ar W w.heap.size sa 3 1 (iv (rowB A i))) ?_ ?_;{refine S4.drew λw5 S5 e5 _=>S5.lds 0 (lnT (Aq A i)) rfl (S5.ld 0 rfl (x:=((Aq A i).from_:Int)) rfl (S5.ld 0 rfl (x:=((Aq A i).to_:Int)) rfl ?_));refine ⟨?_,?_⟩;{refine S5.Af λb9 w6 S6 e6=>?_;refine S6.keep 1 rfl (v:=.int .i64 ((Aq A i).to_:Int)) rfl (S6.keep 1 rfl (v:=.int .i64 ((Aq A i).from_:Int)) rfl (S6.keeps 1 (x:=lnT (Aq A i)) rfl ?_));refine (h.ext S6.upd).atoms λsa w7 o7 e7=>?_;rw [Bu2] at o7;have S7:=S6.ext e7;have o7:=o7.mono S6.upd.size;refine S7.keeps 1 (x:=lnT (Aq A i)) rfl (S7.Ad 0 rfl rfl rfl rfl λw8 S8 u8=>?_);exact ⟨b9,sa,rfl,S8,o7.box (S7.at_ 0 rfl) (by decide) u8⟩};{refine (h.ext S5.upd).atoms λsa w6 o6 e6=>?_;rw [Bu2] at o6;have S6:=S5.ext e6;have o6:=o6.mono S5.upd.size;refine S6.keeps 0 (x:=lnT (Aq A i)) rfl ⟨?_,trivial⟩;refine S6.Af λb12 w7 S7 e7=>?_;refine S7.keep 1 rfl (v:=.int .i64 ((Aq A i).to_:Int)) rfl (S7.keep 1 rfl (v:=.int .i64 ((Aq A i).from_:Int)) rfl (S7.keeps 1 (x:=lnT (Aq A i)) rfl (S7.Ad 0 rfl rfl rfl rfl λw8 S8 u8=>?_)));exact ⟨b12,sa,rfl,S8,(o6.ext e7).box (S7.at_ 0 rfl) (by decide) u8⟩}};rintro _ W ⟨b,sa,rfl,SW,oa⟩;refine SW.ld (off:=5) 0 rfl (x:=sa) rfl ?_;refine Bc5 oa.in (by rw [Ti hi];have:=(Cb hi).tn;have:=(Cb hi).nl;omega) λss w2 o2 e2=>?_;rw [Df6 hi] at o2;have S2:=SW.ext e2;have o2:=o2.mono SW.upd.size;refine S2.stC (off:=6) 0 rfl (by show 6<7;decide) λw3 S3 u3=>?_;have S3:St (λ_=>False) w w3 [(b,rwO (rw1 sa ss)),(b3,lnO),(b1,rwZ)]:=S3;have oa3:=(oa.ext e2).box (S2.at_ 0 rfl) (by decide) u3;have os3:=o2.box (S2.at_ 0 rfl) (by decide) u3;refine S3.lds 0 (rw1 sa ss) rfl (S3.Ad 2 rfl rfl rfl rfl λw4 S4 u4=>?_);have oa4:=oa3.box (S3.at_ 2 rfl) (by decide) u4;have os4:=os3.box (S3.at_ 2 rfl) (by decide) u4;refine S4.lds 2 (rw1 sa ss) rfl (hK _ w4 ?_ S4.upd);exact ⟨hi,hA,rfl,rfl,rfl,rfl,oa4.in,os4.in⟩
theorem Jo (h:TxA w p A){x:Int}{tail:Bool}{K:RwT->Wp}(hK:∀r w',Hy w' A (Cc A x tail) r->Ext w w'->K r w') :
  Aa Tryz.prog 78 #[.pointer (some (at0 p)),.int .i64 x,.bool tail] (.one (.agg Bf)) K w:=by refine A78 ?_;unfold F78;have hA:=h.len;have hb:=Bc A;have hbl:=Gl A;have hof:=Aa9 A x;refine (St.start w).Af λb1 w1 S1 e1=>(h.ext e1).of λw2 e2=>?_;have S2:=S1.ext e2;have S2:St (λ_=>False) w w2 [(b1,rwZ)]:=S2;refine Ae (λy W=>y=((Cc A x tail:Int),())/\St (λ_=>False) w W [(b1,rwZ)]) ?_ ?_;{refine Ac (λhc=>?_) (λhc=>?_);{have ht:tail=false:=(by simpa using hc);subst ht;refine (h.ext S2.upd).count λw3 e3=>⟨?_,S2.ext e3⟩;(have ew:W64 ((lnN A:Int)-1)=((lnN A-1:Nat):Int):=by rw [wrap64 (by omega) (by omega)];omega);rw [ew];show _=(((min (ofI A x) (lnN A-1):Nat):Int),());congr 1;split<;>omega};{have ht:tail=true:=(by simpa using hc);subst ht;exact ⟨by unfold Cc;rw [aF rfl],S2⟩}};rintro _ W ⟨rfl,SW⟩;refine Ic (h.ext SW.upd) (Tc A x tail) λr w3 hr e3=>(SW.ext e3).Ad 0 rfl rfl rfl rfl λw4 S4 u4=>?_;have S4:St (λ_=>False) w w4 [(b1,rwO r)]:=S4;refine S4.lds 0 r rfl (hK r w4 ⟨hr.row,hr.len,hr.f,hr.t,hr.n,hr.num,?_,?_⟩ S4.upd);{exact hr.atoms.box ((SW.ext e3).at_ 0 rfl) (by decide) u4};{exact hr.starts.box ((SW.ext e3).at_ 0 rfl) (by decide) u4}
theorem Hy.box {i b:Nat}{c:Array Value}{fr:Nat×Nat}{t:TypeId}{r:RwT}(h:Hy w A i r) (hb:w.heap[b]?=some (.cells c t fr)) (ht:3≠t) (u:Upd (λk=>k=b) w w'):Hy w' A i r :=
 ⟨h.row,h.len,h.f,h.t,h.n,h.num,h.atoms.box hb ht u,h.starts.box hb ht u⟩
theorem Ns (h:TxA w p A){x:Int}{past:Bool}{K:Int->Wp}(hK:∀w',Ext w w'->K (Ak A x past:Int) w') :
  Aa Tryz.prog 34 #[.pointer (some (at0 p)),.int .i64 x,.bool past] rI K w:=by
 refine A34 ?_;unfold F34;have hA:=h.len;refine Jo h λr w1 hr e1=>?_;refine (St.start w).ext e1 |>.Af λb2 w2 S2 e2=>S2.Ad 0 rfl rfl rfl rfl λw3 S3 u3=>?_;have S3:St (λ_=>False) w w3 [(b2,rwO r)]:=S3;have hr:=(hr.ext e2).box (S2.at_ 0 rfl) (by decide) u3;have fw:=hr.few;refine (h.ext S3.upd).Di1 λw4 e4=>?_;have S4:=S3.ext e4;have hr:=hr.ext e4;refine S4.ld (off:=1) 0 rfl (x:=r.2.1) rfl ?_;have ein:(if ((A.length:Nat):Int)<(if (0:Int)>x then (0:Int) else x) then ((A.length:Nat):Int) else (if (0:Int)>x then (0:Int) else x))=(inT A x:Int):=by
  unfold inT
  split<;>split at * <;> omega
 rw [ein,hr.t];unfold Ak at hK;refine Ac (λhc=>?_) (λhc=>?_);{simp only [iI,jT] at hc;rw [aF (by omega)] at hK;refine Ac (λhp=>?_) (λhp=>?_);{subst hp;rw [aF rfl] at hK;refine S4.ld (off:=1) 0 rfl (x:=r.2.1) rfl ?_;rw [hr.t];exact hK w4 S4.upd};{subst hp;rw [aJ (by decide)] at hK;refine S4.drew λw5 S5 e5 _=>S5.lds 0 r rfl (S5.lds 0 r rfl (Em (hr.ext e5) λw6 e6=>?_));have S6:=S5.ext e6;rw [wrap64 (by omega) (by omega)];exact S6.keeps 0 (x:=r) rfl (Et ((hr.ext e5).ext e6) λw7 e7=>hK w7 (S6.ext e7).upd)}};{simp only [iH,jT] at hc;rw [aJ (by omega)] at hK;refine S4.drew λw5 S5 e5 _=>S5.lds 0 r rfl (S5.lds 0 r rfl (Vl (hr.ext e5) λw6 e6=>?_));have S6:=S5.ext e6;exact S6.keeps 0 (x:=r) rfl (Et ((hr.ext e5).ext e6) λw7 e7=>hK w7 (S6.ext e7).upd)}
theorem U9 (h:TxA w p A){line col:Int}{past:Bool}{K:Int->Wp}(hK:∀w',Ext w w'->K (Yd A line col past:Int) w') :
  Aa Tryz.prog 36 #[.pointer (some (at0 p)),.int .i64 line,.int .i64 col,.bool past] rI K w:=by
 refine A36 ?_;unfold F36;have hA:=h.len;have hb:=Bc A;have hbl:=Gl A;refine h.count λw0 e0=>?_;have ew:W64 ((lnN A:Int)-1)=(lnN A:Int)-1:=wrap64 (by omega) (by omega);rw [ew];have el:(if (lnN A:Int)-1<(if (0:Int)>line then (0:Int) else line) then (lnN A:Int)-1 else (if (0:Int)>line then (0:Int) else line))=(Eo A line:Int):=by
  unfold Eo
  split<;>split at * <;> omega
 rw [el];refine Ic (h.ext e0) (Ro A line).2 λr w1 hr e1=>?_;refine (St.start w).ext (e0.trans e1) |>.Af λb2 w2 S2 e2=>S2.Ad 0 rfl rfl rfl rfl λw3 S3 u3=>?_;have S3:St (λ_=>False) w w3 [(b2,rwO r)]:=S3;have hr:=(hr.ext e2).box (S2.at_ 0 rfl) (by decide) u3;have fw:=hr.few;unfold Yd at hK;refine Ae (λy W=>y=((if ((Ag A (Eo A line)).length:Int)<=col/\past=false then ((Ag A (Eo A line)).length:Int)-1 else col),())/\Ext w3 W) ?_ ?_;{refine S3.lds 0 r rfl (Em hr λw4 e4=>?_);rw [wrap64 (by omega) (by omega)];refine Ae (λy W=>y=(decide (((Ag A (Eo A line)).length:Int)<=col/\past=false),())/\w4=W) ?_ ?_;{refine Ac (λhc=>⟨Az ?_,rfl⟩) (λhc=>⟨Az ?_,rfl⟩);{simp only [iI,jT] at hc;cases past<;>simp [hc]};{simp only [iH,jT] at hc;simp [hc]}};rintro _ _ ⟨rfl,rfl⟩;refine Ac (λhc=>⟨?_,e4⟩) (λhc=>⟨?_,e4⟩);{rw [aF (cO hc)]};{rw [aJ (pW hc)]}};rintro _ w4 ⟨rfl,e4⟩;have S4:=S3.ext e4;exact S4.lds 0 r rfl (Et (hr.ext e4) λw5 e5=>hK w5 (S4.ext e5).upd)
theorem Qp (h:TxA w p A){x:Int}{K:Int->Wp}(hK:∀w',Ext w w'->K (Xh A x:Int) w') :
  Aa Tryz.prog 38 #[.pointer (some (at0 p)),.int .i64 x] rI K w:=by refine A38 ?_;unfold F38;refine Jo h λr w1 hr e1=>?_;refine (St.start w).ext e1 |>.Af λb2 w2 S2 e2=>S2.Ad 0 rfl rfl rfl rfl λw3 S3 u3=>?_;have S3:St (λ_=>False) w w3 [(b2,rwO r)]:=S3;have hr:=(hr.ext e2).box (S2.at_ 0 rfl) (by decide) u3;exact S3.lds 0 r rfl (Vl hr λw4 e4=>hK w4 (S3.ext e4).upd)
end
abbrev LdT:=Cells.T c83×Int×Unit
abbrev ldT (l:Ld):LdT:=((l.1.1,l.1.2.1,l.1.2.2,()),l.2,())
abbrev ldZ:Obj:=.cells #[.int .i64 0,.int .i64 0,.int .i64 0] 83 (0,0)
abbrev mvO (p:Nat) (s c k:Int) (counted:Bool) (arg goal:Int) (past big:Bool) (r:RwT):Obj :=
 .cells #[.pointer (some (at0 p)),.int .i64 s,.int .i64 c,.int .i64 k,.bool counted,.int .i64 arg,.int .i64 goal,.bool past,.bool big,.int .i64 r.1,.int .i64 r.2.1,.int .i64 r.2.2.1,.int .i64 r.2.2.2.1,.int .i64 r.2.2.2.2.1,.slice r.2.2.2.2.2.1.a r.2.2.2.2.2.1.len r.2.2.2.2.2.1.cap,.slice r.2.2.2.2.2.2.1.a r.2.2.2.2.2.2.1.len r.2.2.2.2.2.2.1.cap] 176 (0,0)
structure Dl (w:World) (b p:Nat) (A:List Int) (x count arg goal:Int) (past big:Bool) (r:RwT):Prop where
 tx:TxA w p A
 obj:w.heap[b]?=some (mvO p (Ak A x past:Int) ((Au A x past).2:Int) (kOf count:Int) (decide (0<count)) arg goal past big r)
 row:Hy w A (Au A x past).1 r
section
variable {w w':World}{b p:Nat}{A:List Int}{x count arg goal:Int}{past big:Bool}{r:RwT}
theorem Dl.ext (h:Dl w b p A x count arg goal past big r) (e:Ext w w'):Dl w' b p A x count arg goal past big r:=⟨h.tx.ext e,e.ext_get h.obj,h.row.ext e⟩
theorem Dl.tK (h:Dl w b p A x count arg goal past big r){K:Addr->Option Addr->Wp}(hK:K (at0 b) (some (at0 p)) w):nn (some (at0 b)) (λq=>ld (.ptr) q (K q)) w:=Am (Ce (off:=0) h.obj rfl hK)
theorem Dl.cK (h:Dl w b p A x count arg goal past big r){K:Addr->Int->Wp}(hK:K (at0 b) ((Au A x past).2:Int) w):nn (some (at0 b)) (λq=>ld (.int .i64) (q.add 2) (K q)) w:=Am (Ce (off:=2) h.obj rfl hK)
theorem Dl.sK (h:Dl w b p A x count arg goal past big r){K:Addr->Int->Wp}(hK:K (at0 b) (Ak A x past:Int) w):nn (some (at0 b)) (λq=>ld (.int .i64) (q.add 1) (K q)) w:=Am (Ce (off:=1) h.obj rfl hK)
theorem Dl.kK (h:Dl w b p A x count arg goal past big r){K:Addr->Int->Wp}(hK:K (at0 b) (kOf count:Int) w):nn (some (at0 b)) (λq=>ld (.int .i64) (q.add 3) (K q)) w:=Am (Ce (off:=3) h.obj rfl hK)
theorem Dl.Bj5 (h:Dl w b p A x count arg goal past big r){K:Addr->Bool->Wp}(hK:K (at0 b) (decide (0<count)) w):nn (some (at0 b)) (λq=>ld (.bool) (q.add 4) (K q)) w:=Am (Ce (off:=4) h.obj rfl hK)
theorem Dl.Dl6 (h:Dl w b p A x count arg goal past big r){K:Addr->Int->Wp}(hK:K (at0 b) arg w):nn (some (at0 b)) (λq=>ld (.int .i64) (q.add 5) (K q)) w:=Am (Ce (off:=5) h.obj rfl hK)
theorem Dl.Dd0 (h:Dl w b p A x count arg goal past big r){K:Addr->Int->Wp}(hK:K (at0 b) goal w):nn (some (at0 b)) (λq=>ld (.int .i64) (q.add 6) (K q)) w:=Am (Ce (off:=6) h.obj rfl hK)
theorem Dl.Cn6 (h:Dl w b p A x count arg goal past big r){K:Addr->Bool->Wp}(hK:K (at0 b) past w):nn (some (at0 b)) (λq=>ld (.bool) (q.add 7) (K q)) w:=Am (Ce (off:=7) h.obj rfl hK)
theorem Dl.Uz (h:Dl w b p A x count arg goal past big r){K:Addr->Bool->Wp}(hK:K (at0 b) big w):nn (some (at0 b)) (λq=>ld (.bool) (q.add 8) (K q)) w:=Am (Ce (off:=8) h.obj rfl hK)
theorem Dl.V8 (h:Dl w b p A x count arg goal past big r){K:Addr->Int->Wp}(hK:K (at0 b) r.1 w):nn (some (at0 b)) (λq=>ld (.int .i64) (q.add 9) (K q)) w:=Am (Ce (off:=9) h.obj rfl hK)
theorem Dl.Yk (h:Dl w b p A x count arg goal past big r){K:Addr->Int->Wp}(hK:K (at0 b) r.2.2.2.2.1 w):nn (some (at0 b)) (λq=>ld (.int .i64) ((q.add 9).add 4) (K q)) w:=Am (Ce (off:=13) h.obj rfl hK)
theorem Yn {o:Array Value}{off:Nat}{r:RwT}(h:(o.toList.drop off).take 7=Cells.vals Bf r):∀(j:Nat) v,(Cells.vals Bf r)[j]?=some v->o[off+j]?=some v:=by intro j v hv;rw [←h,gQ] at hv;split at hv;{rw [gU] at hv;simpa using hv};{cases hv}
theorem Dl.Oh (h:Dl w b p A x count arg goal past big r){K:Addr->RwT->Wp}(hK:K (at0 b) r w):nn (some (at0 b)) (λq=>lds Bf (q.add 9) (K q)) w :=
 Am (Qh (off:=9) h.obj (Yn (by rfl)) hK)
theorem Dl.keepRow (h:Dl w b p A x count arg goal past big r){K:World->Prop}(hK:K w):keep (λw=>Ap w ((at0 b).add 9) 0 (Cells.vals Bf r)) K w :=
 Bg (Gj (off:=9) _ 0 λj v hv=>by rw [dU];exact cell_of h.obj (Yn (r:=r) (by rfl) j v hv)) hK
theorem Dl.An2 (h:Dl w b p A x count arg goal past big r){K:World->Prop}(hK:K w):keep (λw=>w.cell? ((at0 b).add 2)=some (Cell.val (.int .i64) ((Au A x past).2:Int))) K w:=Bg (cell_of (off:=2) h.obj rfl) hK
theorem Dl.Cq2 (h:Dl w b p A x count arg goal past big r){K:World->Prop}(hK:K w):keep (λw=>w.cell? ((at0 b).add 3)=some (Cell.val (.int .i64) (kOf count:Int))) K w:=Bg (cell_of (off:=3) h.obj rfl) hK
theorem Dl.Bx2 (h:Dl w b p A x count arg goal past big r){K:World->Prop}(hK:K w):keep (λw=>w.cell? ((at0 b).add 5)=some (Cell.val (.int .i64) arg)) K w:=Bg (cell_of (off:=5) h.obj rfl) hK
theorem Dl.Cq3 (h:Dl w b p A x count arg goal past big r){K:World->Prop}(hK:K w):keep (λw=>w.cell? ((at0 b).add 6)=some (Cell.val (.int .i64) goal)) K w:=Bg (cell_of (off:=6) h.obj rfl) hK
theorem Dl.F6 (h:Dl w b p A x count arg goal past big r){K:World->Prop}(hK:K w):keep (λw=>w.cell? (at0 b)=some (Cell.val (.ptr) (some (at0 p)))) K w:=Bg (cell_of (off:=0) h.obj rfl) hK
theorem Dl.Cz0 (h:Dl w b p A x count arg goal past big r){K:World->Prop}(hK:K w):keep (λw=>w.cell? (((at0 b).add 9).add 4)=some (Cell.val (.int .i64) r.2.2.2.2.1)) K w:=Bg (cell_of (off:=13) h.obj rfl) hK
theorem Dx {W w0:World}{b1:Nat}{l:Ld}{K:LdT->Wp}(S:St (λ_=>False) w0 W [(b1,ldZ)]) (hK:∀w',Ext w0 w'->K (ldT l) w') :
  Ad (at0 b1) (.agg (Cells.vals c83 (ldT l).1).toArray) 3 (lds c83 (at0 b1) λy=>K (y,(ldT l).2.1,())) W :=
 S.Ad 0 rfl rfl rfl rfl λw1 S1 _=>S1.lds 0 (ldT l).1 rfl (hK w1 S1.upd)
theorem Df {K:LdT->Wp}(hK:∀w',Ext w w'->K (ldT (noP 80)) w'):Aa Tryz.prog 179 #[] (.tup [(.agg c83),(.one (.int .i64))]) K w:=by refine Ej0 ?_;unfold F179;exact (St.start w).Af λb1 w1 S1 e1=>S1.Ad 0 rfl rfl rfl rfl λw2 S2 _=>S2.lds 0 (ldT (noP 80)).1 rfl (hK w2 S2.upd)
theorem Ee (h:Dl w b p A x count arg goal past big r){n:Nat}{kind:Int}{K:LdT->Wp}(hK:∀w',Ext w w'->K (ldT (Bz A n kind)) w') :
  Aa Tryz.prog 180 #[.pointer (some (at0 b)),.int .i64 (n:Int),.int .i64 kind] (.tup [(.agg c83),(.one (.int .i64))]) K w:=by refine Dm3 ?_;unfold F180;refine (St.start w).Af λb1 w1 S1 e1=>(h.ext e1).tK (Qp (h.ext e1).tx λw2 e2=>?_);exact (S1.ext e2).Ad 0 rfl rfl rfl rfl λw3 S3 _=>S3.lds 0 (ldT (Bz A n kind)).1 rfl (hK w3 S3.upd)
theorem Ym (h:Dl w b p A x count arg goal past big r){K:Int->Wp}(hK:∀w',Ext w w'->K (Le A (Au A x past).1 past:Int) w') :
  Aa Tryz.prog 181 #[.pointer (some (at0 b))] rI K w:=by refine Ei9 ?_;unfold F181;have fw:=h.row.few;unfold Le at hK;refine h.Cn6 (Ac (λhp=>?_) (λhp=>?_));{refine h.Oh (Em h.row λw1 e1=>?_);have:=hK w1 e1;rw [aF hp] at this;exact this};{refine h.Oh (Em h.row λw1 e1=>?_);have:=hK w1 e1;rw [aJ (by rw [hp];decide)] at this;rw [wrap64 (by omega) (by omega)];have e:(if (0:Int)>(((Ag A (Au A x past).1).length:Nat):Int)-1 then (0:Int) else (((Ag A (Au A x past).1).length:Nat):Int)-1)=(((Ag A (Au A x past).1).length-1:Nat):Int):=(by split<;>omega);rw [e];exact this}
theorem Dl.bounds (h:Dl w b p A x count arg goal past big r):(Au A x past).2<=Le A (Au A x past).1 past/\Le A (Au A x past).1 past<=(Ag A (Au A x past).1).length/\(Ag A (Au A x past).1).length<=1048576/\1<=kOf count/\kOf count<=9999/\(Au A x past).1<=brs A/\(Au A x past).1<=1048576:=by have h1:=Cn4 A x past;have h2:=h.row.few;have h3:=h.row.row;have h4:=Gl A;have h5:=h.row.len;exact ⟨h1.1,h1.2,h2.1,Ud count,An3 count,h3,by omega⟩
theorem Cf1 (h:Dl w b p A x count arg goal past big r){a':Int}{K:LdT->Wp}(hK:∀w',Ext w w'->K (ldT (Dh A x 1 count a' past)) w') :
  Aa Tryz.prog 134 #[.pointer (some (at0 b))] (.tup [(.agg c83),(.one (.int .i64))]) K w:=by
 refine En1 ?_;unfold F134;obtain ⟨m1,m2,m3,m4,m5,m6,m7⟩:=h.bounds;rw [Ci4] at hK;refine (St.start w).Af λb1 w1 S1 e1=>?_;have h1:=h.ext e1;refine h1.cK (Ac (λhc=>?_) (λhc=>?_));{simp only [jM] at hc;rw [aF (by omega)] at hK;exact Df λw2 e2=>Dx (S1.ext e2) hK}
 ·simp only [jO,ne_eq] at hc;rw [aJ (by omega)] at hK;refine S1.drew λw2 S2 e2 _=>?_;have h2:=h1.ext e2;refine h2.Oh (h2.cK (h2.kK ?_));rw [wrap64 (by omega) (by omega)];refine Et h2.row λw3 e3=>Ee (h2.ext e3) λw4 e4=>Dx ((S2.ext e3).ext e4) ?_;have e:Aw A (Au A x past).1 (((Au A x past).2:Int)-(kOf count:Int))=Bo A ((Au A x past).1,(Au A x past).2-kOf count):=by
   unfold Bo
   dsimp only
   rcases oM (Au A x past).2 (kOf count) with u|u
   ·rw [Hw (by omega),Hw (c:=(((Au A x past).2-kOf count:Nat):Int)) (by omega)]
   ·congr 1;omega
  rw [e];exact hK
theorem Bn9 (h:Dl w b p A x count arg goal past big r){a':Int}{K:LdT->Wp}(hK:∀w',Ext w w'->K (ldT (Dh A x 2 count a' past)) w') :
  Aa Tryz.prog 135 #[.pointer (some (at0 b))] (.tup [(.agg c83),(.one (.int .i64))]) K w:=by refine En0 ?_;unfold F135;obtain ⟨m1,m2,m3,m4,m5,m6,m7⟩:=h.bounds;rw [Aw4] at hK;refine (St.start w).Af λb1 w1 S1 e1=>S1.drew λw2 S2 e2 _=>?_;have h2:=(h.ext e1).ext e2;refine h2.cK (Ym h2 λw3 e3=>(h2.ext e3).An2 (Ac (λhc=>?_) (λhc=>?_)));{simp only [jM] at hc;rw [aF (by omega)] at hK;exact Df λw4 e4=>Dx ((S2.ext e3).ext e4) hK};{simp only [jO,ne_eq] at hc;rw [aJ (by omega)] at hK;refine (S2.ext e3).drew λw4 S4 e4 _=>?_;have h4:=(h2.ext e3).ext e4;refine h4.Oh (h4.cK (h4.kK (Ym h4 λw5 e5=>?_)));have h5:=h4.ext e5;refine h5.Cq2 (h5.An2 (h5.keepRow ?_));rw [wrap64 (by omega) (by omega)];have em:(if ((Le A (Au A x past).1 past:Nat):Int)<((Au A x past).2:Int)+(kOf count:Int) then ((Le A (Au A x past).1 past:Nat):Int) else ((Au A x past).2:Int)+(kOf count:Int))=((min ((Au A x past).2+kOf count) (Le A (Au A x past).1 past):Nat):Int):=(by split<;>omega);rw [em];exact Et h5.row λw6 e6=>Ee (h5.ext e6) λw7 e7=>Dx (((S4.ext e5).ext e6).ext e7) hK}
theorem Bj8 (A:List Int) (x count arg:Int) (past:Bool):Dh A x 3 count arg past=Bz A (Aq A (Au A x past).1).from_ 0:=by unfold Dh Au;dsimp only;rw [Dy,aJ (by decide),aJ (by decide),aF rfl]
theorem Bs4 (A:List Int) (x count arg:Int) (past:Bool):Dh A x 4 count arg past=Bz A (Aw A (Au A x past).1 (Pv A (Au A x past).1)) 0:=by unfold Dh Au;dsimp only;rw [Dy,aJ (by decide),aJ (by decide),aJ (by decide),aF rfl]
theorem Ci3 (A:List Int) (x count arg:Int) (past:Bool):Dh A x 6 count arg past=Bz A (Aw A (Au A x past).1 (min ((kOf count:Int)-1) (Le A (Au A x past).1 past))) 0:=by unfold Dh Au Le;dsimp only;rw [Dy,aJ (by decide),aJ (by decide),aJ (by decide),aJ (by decide),aJ (by decide),aF rfl]
theorem Bm8 (h:Dl w b p A x count arg goal past big r){a':Int}{K:LdT->Wp}(hK:∀w',Ext w w'->K (ldT (Dh A x 3 count a' past)) w') :
  Aa Tryz.prog 136 #[.pointer (some (at0 b))] (.tup [(.agg c83),(.one (.int .i64))]) K w:=by refine Em9 ?_;unfold F136;rw [Bj8] at hK;refine (St.start w).Af λb1 w1 S1 e1=>(h.ext e1).V8 ?_;rw [h.row.f];exact Ee (h.ext e1) λw2 e2=>Dx (S1.ext e2) hK
theorem Ce7 (h:Dl w b p A x count arg goal past big r){a':Int}{K:LdT->Wp}(hK:∀w',Ext w w'->K (ldT (Dh A x 4 count a' past)) w') :
  Aa Tryz.prog 137 #[.pointer (some (at0 b))] (.tup [(.agg c83),(.one (.int .i64))]) K w:=by refine Em8 ?_;unfold F137;rw [Bs4] at hK;refine (St.start w).Af λb1 w1 S1 e1=>S1.drew λw2 S2 e2 _=>?_;have h2:=(h.ext e1).ext e2;refine h2.Oh (h2.Oh (I7 h2.row λw3 e3=>?_));have h3:=h2.ext e3;exact h3.keepRow (Et h3.row λw4 e4=>Ee (h3.ext e4) λw5 e5=>Dx (((S2.ext e3).ext e4).ext e5) hK)
theorem Cu9 (h:Dl w b p A x count arg goal past big r){a':Int}{K:LdT->Wp}(hK:∀w',Ext w w'->K (ldT (Dh A x 6 count a' past)) w') :
  Aa Tryz.prog 139 #[.pointer (some (at0 b))] (.tup [(.agg c83),(.one (.int .i64))]) K w:=by refine Em6 ?_;unfold F139;obtain ⟨m1,m2,m3,m4,m5,m6,m7⟩:=h.bounds;rw [Ci3] at hK;refine (St.start w).Af λb1 w1 S1 e1=>S1.drew λw2 S2 e2 _=>?_;have h2:=(h.ext e1).ext e2;refine h2.Oh (h2.kK (Ym h2 λw3 e3=>?_));have h3:=h2.ext e3;refine h3.Cq2 (h3.keepRow ?_);rw [wrap64 (by omega) (by omega)];have em:(if ((Le A (Au A x past).1 past:Nat):Int)<(kOf count:Int)-1 then ((Le A (Au A x past).1 past:Nat):Int) else (kOf count:Int)-1)=min ((kOf count:Int)-1) (Le A (Au A x past).1 past):=(by split<;>omega);rw [em];exact Et h3.row λw4 e4=>Ee (h3.ext e4) λw5 e5=>Dx (((S2.ext e3).ext e4).ext e5) hK
end
section
variable {w w':World}{b p:Nat}{A:List Int}{x count arg goal:Int}{past big:Bool}{r:RwT}
def Vq (A:List Int) (i:Nat) (a:Int) (j:Nat):Bool:=decide ((Ag A i)[j]?.map (·.atom)=some a)
theorem Bu9 (A:List Int) (i:Nat) (a:Int) (n c k:Nat):Hf (Ag A i) a (upL n c) k=upF (Vq A i a) (c+1) n k:=rfl
theorem Bv1 (A:List Int) (i:Nat) (a:Int) (c k:Nat):Hf (Ag A i) a (Ob c) k=dnF (Vq A i a) c k:=rfl
theorem Ab7 {i j:Nat}{a:Int}{c:Cel}(hc:(Ag A i)[j]?=some c):Vq A i a j=decide (c.atom=a):=by unfold Vq;rw [hc];simp
theorem Bg6 (h:Dl w b p A x count arg goal past big r){K:Int->Wp}
  (hK:∀w',Ext w w'->K (match Hf (Ag A (Au A x past).1) arg (upL (Ag A (Au A x past).1).length (Au A x past).2) (kOf count) with|some j=>(j:Int)|none=>-1) w') :
  Aa Tryz.prog 203 #[.pointer (some (at0 b)),.int .i64 1] rI K w:=by refine Dm1 ?_;unfold F203;obtain ⟨m1,m2,m3,m4,m5,m6,m7⟩:=h.bounds;rw [Bu9] at hK;generalize hi:(Au A x past).1=i at *;generalize hcc:(Au A x past).2=c at *;refine h.kK (Ae (λ_ W=>upF (Vq A i arg) (c+1) (Ag A i).length (kOf count)=none/\Ext w W) ?_ (λ_ W hW=>by have:=hK W hW.2;rw [hW.1] at this;exact this));refine h.cK ?_;rw [hcc,wrap64 (by omega) (by omega)];refine Ba (λs W=>∃k j:Nat,s=((k:Int),(j:Int),())/\1<=k/\k<=9999/\j<=(Ag A i).length+1/\upF (Vq A i arg) (c+1) (Ag A i).length (kOf count)=upF (Vq A i arg) j (Ag A i).length k/\Ext w W) (λs _=>((Ag A i).length+1-s.2.1).toNat) ⟨kOf count,c+1,by simp,m4,m5,by omega,rfl,Ext.refl w⟩ ?_;rintro _ W ⟨k,j,rfl,k1,k2,hj,hu,eW⟩;dsimp only;have hW:=h.ext eW;have hrow:=hW.row;rw [hi] at hrow;refine Ae (λy W'=>y=(decide (j<(Ag A i).length),())/\Ext w W') ?_ ?_;{refine Ac (λ_=>hW.Oh (Em hrow λw2 e2=>⟨Az ?_,eW.trans e2⟩)) (λhc=>?_);{simp only [iI];omega};{simp only [iH,jT] at hc;omega}};rintro _ W2 ⟨rfl,eW2⟩;have h2:=h.ext eW2;refine Ac (λhc=>?_) (λhc=>?_);{simp only [iI] at hc;obtain ⟨cl,hcl⟩:=Dk hc;(have ew:W64 ((j:Int)+1)=((j+1:Nat):Int):=by rw [wrap64 (by omega) (by omega)];omega);rw [ew];refine Ae (λy W'=>∃k':Nat,y=((k':Int),())/\1<=k'/\k'<=9999/\upF (Vq A i arg) j (Ag A i).length k=upF (Vq A i arg) (j+1) (Ag A i).length k'/\Ext w W') ?_ ?_;{refine Ci λw3 e3 _=>?_;have h3:=h2.ext e3;have hr3:=h3.row;rw [hi] at hr3;refine h3.Oh (h3.Dl6 (Tz hr3 hcl λw4 e4=>(h3.ext e4).Bx2 ?_));have e04:=(eW2.trans e3).trans e4;refine Ac (λhg=>?_) (λhg=>?_);{simp only [mY,ne_eq] at hg;exact ⟨k,rfl,k1,k2,Ay0 hc (by rw [Ab7 hcl,jQ hg]),e04⟩};{simp only [mZ] at hg;have hf:Vq A i arg j=true:=(by rw [Ab7 hcl,jP hg]);(have ewk:W64 ((k:Int)-1)=((k-1:Nat):Int):=by rw [wrap64 (by omega) (by omega)];omega);rw [ewk];refine Ac (λhz=>?_) (λhz=>?_);{simp only [jM] at hz;have:k=1:=(by omega);subst this;have:=hK w4 e04;rw [hu,Ag6 hc hf] at this;exact this};{simp only [jO,ne_eq] at hz;refine ⟨k-1,rfl,by omega,by omega,?_,e04⟩;(conv=>lhs;rw [show k=(k-1)+1 by omega]);exact O4 hc hf (by omega)}}};rintro _ W3 ⟨k',rfl,k1',k2',hu',eW3⟩;exact ⟨⟨k',j+1,rfl,k1',k2',by omega,hu.trans hu',eW3⟩,by omega⟩};{simp only [iH] at hc;exact ⟨hu.trans (O1 (by omega)),eW2⟩}
theorem Bn4 (h:Dl w b p A x count arg goal past big r){K:Int->Wp}
  (hK:∀w',Ext w w'->K (match Hf (Ag A (Au A x past).1) arg (Ob (Au A x past).2) (kOf count) with|some j=>(j:Int)|none=>-1) w') :
  Aa Tryz.prog 203 #[.pointer (some (at0 b)),.int .i64 (-1)] rI K w:=by refine Dm1 ?_;unfold F203;obtain ⟨m1,m2,m3,m4,m5,m6,m7⟩:=h.bounds;rw [Bv1] at hK;generalize hi:(Au A x past).1=i at *;generalize hcc:(Au A x past).2=c at *;refine h.kK (Ae (λ_ W=>dnF (Vq A i arg) c (kOf count)=none/\Ext w W) ?_ (λ_ W hW=>by have:=hK W hW.2;rw [hW.1] at this;exact this));refine h.cK ?_;rw [hcc,wrap64 (by omega) (by omega)];refine Ba (λs W=>∃k j:Nat,s=((k:Int),(j:Int)-1,())/\1<=k/\k<=9999/\j<=(Ag A i).length/\dnF (Vq A i arg) c (kOf count)=dnF (Vq A i arg) j k/\Ext w W) (λs _=>(s.2.1+1).toNat) ⟨kOf count,c,rfl,m4,m5,by omega,rfl,Ext.refl w⟩ ?_;rintro _ W ⟨k,j,rfl,k1,k2,hj,hu,eW⟩;dsimp only;have hW:=h.ext eW;have hrow:=hW.row;rw [hi] at hrow;refine Ae (λy W'=>y=(decide (0<j),())/\Ext w W') ?_ ?_;{refine Ac (λhc=>hW.Oh (Em hrow λw2 e2=>⟨Az ?_,eW.trans e2⟩)) (λhc=>⟨Az ?_,eW⟩);{simp only [iI,jT] at hc ⊢;omega};{simp only [iH,jT,iI,dO,lS] at hc ⊢;omega}};rintro _ W2 ⟨rfl,eW2⟩;have h2:=h.ext eW2;refine Ac (λhc=>?_) (λhc=>?_);{simp only [iI] at hc;obtain ⟨m,rfl⟩:∃m,j=m+1:=⟨j-1,by omega⟩;have em:((m+1:Nat):Int)-1=(m:Int):=(by omega);rw [em];obtain ⟨cl,hcl⟩:=Dk (C:=Ag A i) (j:=m) (by omega);(have ew:W64 ((m:Int)+-1)=(m:Int)-1:=by rw [wrap64 (by omega) (by omega)];omega);rw [ew];refine Ae (λy W'=>∃k':Nat,y=((k':Int),())/\1<=k'/\k'<=9999/\dnF (Vq A i arg) (m+1) k=dnF (Vq A i arg) m k'/\Ext w W') ?_ ?_;{refine Ci λw3 e3 _=>?_;have h3:=h2.ext e3;have hr3:=h3.row;rw [hi] at hr3;refine h3.Oh (h3.Dl6 (Tz hr3 hcl λw4 e4=>(h3.ext e4).Bx2 ?_));have e04:=(eW2.trans e3).trans e4;refine Ac (λhg=>?_) (λhg=>?_);{simp only [mY,ne_eq] at hg;exact ⟨k,rfl,k1,k2,Bb8 (by rw [Ab7 hcl,jQ hg]),e04⟩};{simp only [mZ] at hg;have hf:Vq A i arg m=true:=(by rw [Ab7 hcl,jP hg]);(have ewk:W64 ((k:Int)-1)=((k-1:Nat):Int):=by rw [wrap64 (by omega) (by omega)];omega);rw [ewk];refine Ac (λhz=>?_) (λhz=>?_);{simp only [jM] at hz;have:k=1:=(by omega);subst this;have:=hK w4 e04;rw [hu,Ah9 hf] at this;exact this};{simp only [jO,ne_eq] at hz;refine ⟨k-1,rfl,by omega,by omega,?_,e04⟩;(conv=>lhs;rw [show k=(k-1)+1 by omega]);exact X6 hf (by omega)}}};rintro _ W3 ⟨k',rfl,k1',k2',hu',eW3⟩;exact ⟨⟨k',m,rfl,k1',k2',by omega,hu.trans hu',eW3⟩,by omega⟩};{simp only [iH] at hc;have:j=0:=(by omega);subst this;exact ⟨hu,eW2⟩}
theorem Bv0 {C:List Cel}{a:Int}{n c k j:Nat}(h:Hf C a (upL n c) k=some j):c+1<=j/\j<n:=by have:=(Zh h).1;unfold upL at this;rw [nZ] at this;omega
theorem Bf0 {C:List Cel}{a:Int}{c k j:Nat}(h:Hf C a (Ob c) k=some j):j<c:=by have:=(Zh h).1;unfold Ob at this;rw [oC,bH] at this;omega
theorem An8 (h:Dl w b p A x count arg goal past big r){be kd:Int}(hb:-1<=be/\be<=1){K:LdT->Wp}
  (hK:∀w',Ext w w'->K (ldT (match Hf (Ag A (Au A x past).1) arg (upL (Ag A (Au A x past).1).length (Au A x past).2) (kOf count) with|some j=>Bz A (Aw A (Au A x past).1 ((j:Int)+be)) kd|none=>noP 80)) w') :
  Aa Tryz.prog 183 #[.pointer (some (at0 b)),.int .i64 1,.int .i64 be,.int .i64 kd] (.tup [(.agg c83),(.one (.int .i64))]) K w:=by
 refine Dm2 ?_;unfold F183;obtain ⟨m1,m2,m3,m4,m5,m6,m7⟩:=h.bounds;refine (St.start w).Af λb1 w1 S1 e1=>Bg6 (h.ext e1) λw2 e2=>?_;have S2:=S1.ext e2;have h2:=(h.ext e1).ext e2;cases hs:Hf (Ag A (Au A x past).1) arg (upL (Ag A (Au A x past).1).length (Au A x past).2) (kOf count) with
 |none=>rw [hs] at hK;refine Ac (λ_=>?_) (λhc=>by simp at hc);exact Df λw4 e4=>Dx (S2.ext e4) hK
 |some j=>rw [hs] at hK;have hlt:=Bv0 hs;refine Ac (λhc=>by simp at hc;omega) (λ_=>?_);refine h2.Oh ?_;dsimp only at hK ⊢;rw [wrap64 (by omega) (by omega)];exact Et h2.row λw6 e6=>Ee (h2.ext e6) λw7 e7=>Dx ((S2.ext e6).ext e7) hK
theorem Af3 (h:Dl w b p A x count arg goal past big r){be kd:Int}(hb:-1<=be/\be<=1){K:LdT->Wp}
  (hK:∀w',Ext w w'->K (ldT (match Hf (Ag A (Au A x past).1) arg (Ob (Au A x past).2) (kOf count) with|some j=>Bz A (Aw A (Au A x past).1 ((j:Int)+be)) kd|none=>noP 80)) w') :
  Aa Tryz.prog 183 #[.pointer (some (at0 b)),.int .i64 (-1),.int .i64 be,.int .i64 kd] (.tup [(.agg c83),(.one (.int .i64))]) K w:=by
 refine Dm2 ?_;unfold F183;obtain ⟨m1,m2,m3,m4,m5,m6,m7⟩:=h.bounds;refine (St.start w).Af λb1 w1 S1 e1=>Bn4 (h.ext e1) λw2 e2=>?_;have S2:=S1.ext e2;have h2:=(h.ext e1).ext e2;cases hs:Hf (Ag A (Au A x past).1) arg (Ob (Au A x past).2) (kOf count) with
 |none=>rw [hs] at hK;refine Ac (λ_=>?_) (λhc=>by simp at hc);exact Df λw4 e4=>Dx (S2.ext e4) hK
 |some j=>rw [hs] at hK;have hlt:=Bf0 hs;refine Ac (λhc=>by simp at hc;omega) (λ_=>?_);refine h2.Oh ?_;dsimp only at hK ⊢;rw [wrap64 (by omega) (by omega)];exact Et h2.row λw6 e6=>Ee (h2.ext e6) λw7 e7=>Dx ((S2.ext e6).ext e7) hK
theorem Br6 (h:Dl w b p A x count arg goal past big r){K:LdT->Wp}(hK:∀w',Ext w w'->K (ldT (Dh A x 7 count arg past)) w') :
  Aa Tryz.prog 140 #[.pointer (some (at0 b))] (.tup [(.agg c83),(.one (.int .i64))]) K w:=by
 refine Em5 ?_;unfold F140;rw [(Xi A x count arg past).1] at hK;refine (St.start w).Af λb1 w1 S1 e1=>An8 (h.ext e1) (by decide) λw2 e2=>Dx (S1.ext e2) λw' e'=>?_;have:=hK w' e';cases hs:Hf (Ag A (Au A x past).1) arg (upL (Ag A (Au A x past).1).length (Au A x past).2) (kOf count) with
 |none=>rw [hs] at this;exact this
 |some j=>rw [hs] at this;dsimp only at this ⊢;rw [Int.add_zero];exact this
theorem Ca7 (h:Dl w b p A x count arg goal past big r){K:LdT->Wp}(hK:∀w',Ext w w'->K (ldT (Dh A x 9 count arg past)) w') :
  Aa Tryz.prog 142 #[.pointer (some (at0 b))] (.tup [(.agg c83),(.one (.int .i64))]) K w:=by
 refine Em3 ?_;unfold F142;rw [(Xi A x count arg past).2.1] at hK;refine (St.start w).Af λb1 w1 S1 e1=>An8 (h.ext e1) (by decide) λw2 e2=>Dx (S1.ext e2) λw' e'=>?_;have:=hK w' e';cases hs:Hf (Ag A (Au A x past).1) arg (upL (Ag A (Au A x past).1).length (Au A x past).2) (kOf count) with
 |none=>rw [hs] at this;exact this
 |some j=>rw [hs] at this;exact this
theorem Br5 (h:Dl w b p A x count arg goal past big r){K:LdT->Wp}(hK:∀w',Ext w w'->K (ldT (Dh A x 8 count arg past)) w') :
  Aa Tryz.prog 141 #[.pointer (some (at0 b))] (.tup [(.agg c83),(.one (.int .i64))]) K w:=by
 refine Em4 ?_;unfold F141;rw [(Xi A x count arg past).2.2.1] at hK;refine (St.start w).Af λb1 w1 S1 e1=>Af3 (h.ext e1) (by decide) λw2 e2=>Dx (S1.ext e2) λw' e'=>?_;have:=hK w' e';cases hs:Hf (Ag A (Au A x past).1) arg (Ob (Au A x past).2) (kOf count) with
 |none=>rw [hs] at this;exact this
 |some j=>rw [hs] at this;dsimp only at this ⊢;rw [Int.add_zero];exact this
theorem Bm4 (h:Dl w b p A x count arg goal past big r){K:LdT->Wp}(hK:∀w',Ext w w'->K (ldT (Dh A x 10 count arg past)) w') :
  Aa Tryz.prog 143 #[.pointer (some (at0 b))] (.tup [(.agg c83),(.one (.int .i64))]) K w:=by
 refine Em2 ?_;unfold F143;rw [(Xi A x count arg past).2.2.2] at hK;refine (St.start w).Af λb1 w1 S1 e1=>Af3 (h.ext e1) (by decide) λw2 e2=>Dx (S1.ext e2) λw' e'=>?_;have:=hK w' e';cases hs:Hf (Ag A (Au A x past).1) arg (Ob (Au A x past).2) (kOf count) with
 |none=>rw [hs] at this;exact this
 |some j=>rw [hs] at this;exact this
theorem Bs5 (A:List Int) (x count arg:Int) (past:Bool):Dh A x 5 count arg past=((((Aw A (if (Au A x past).1<lnN A-1/\1<kOf count then min ((Au A x past).1+kOf count-1) (lnN A-1) else (Au A x past).1) (((Ag A (if (Au A x past).1<lnN A-1/\1<kOf count then min ((Au A x past).1+kOf count-1) (lnN A-1) else (Au A x past).1)).length:Int)-1):Nat):Int),1,100000),0):=by unfold Dh Au;dsimp only;rw [Dy,aJ (by decide),aJ (by decide),aJ (by decide),aJ (by decide),aF rfl]
theorem Cr7 (h:Dl w b p A x count arg goal past big r){a':Int}{K:LdT->Wp}(hK:∀w',Ext w w'->K (ldT (Dh A x 5 count a' past)) w') :
  Aa Tryz.prog 138 #[.pointer (some (at0 b))] (.tup [(.agg c83),(.one (.int .i64))]) K w:=by refine Em7 ?_;unfold F138;obtain ⟨m1,m2,m3,m4,m5,m6,m7⟩:=h.bounds;have hb:=Bc A;have hA:=h.row.len;have hbl:=Gl A;rw [Bs5] at hK;refine (St.start w).Af λb1 w1 S1 e1=>(h.ext e1).Oh (S1.Af λb4 w2 S2 e2=>S2.Ad 0 rfl rfl rfl rfl λw3 S3 u3=>?_);have S3:St (λ_=>False) w w3 [(b4,rwO r),(b1,ldZ)]:=S3;have h3:=h.ext S3.upd;have ewl:W64 ((lnN A:Int)-1)=(lnN A:Int)-1:=wrap64 (by omega) (by omega);refine Ae (λ_ W=>∃r',St (λ_=>False) w W [(b4,rwO r'),(b1,ldZ)]/\Hy W A (if (Au A x past).1<lnN A-1/\1<kOf count then min ((Au A x past).1+kOf count-1) (lnN A-1) else (Au A x past).1) r') ?_ ?_;{refine h3.tK (h3.tx.count λw4 e4=>?_);have S4:=S3.ext e4;have h4:=h3.ext e4;rw [ewl];refine Ae (λy W=>y=(decide ((Au A x past).1<lnN A-1/\1<kOf count),())/\w4=W) ?_ ?_;{refine S4.ld (off:=4) 0 rfl (x:=r.2.2.2.2.1) rfl ?_;rw [h.row.num];refine Ac (λhc=>h4.kK ⟨Az ?_,rfl⟩) (λhc=>⟨Az ?_,rfl⟩);{simp only [iI,kG] at hc ⊢;omega};{simp only [iH,iI,dO,lS] at hc ⊢;omega}};rintro _ _ ⟨rfl,rfl⟩;refine Ac (λhc=>?_) (λhc=>?_);{have hc:=cO hc;rw [aF hc];refine S4.drew λw5 S5 e5 _=>?_;have h5:=h4.ext e5;refine h5.tK (S5.ld (off:=4) 0 rfl (x:=r.2.2.2.2.1) rfl (h5.kK ?_));rw [h.row.num,wrap64 (a:=((Au A x past).1:Int)+(kOf count:Int)) (by omega) (by omega),wrap64 (by omega) (by omega)];have em:(if (lnN A:Int)-1<((Au A x past).1:Int)+(kOf count:Int)-1 then (lnN A:Int)-1 else ((Au A x past).1:Int)+(kOf count:Int)-1)=((min ((Au A x past).1+kOf count-1) (lnN A-1):Nat):Int):=(by split<;>omega);rw [em];refine Ic h5.tx (by omega) λr' w6 hr' e6=>(S5.ext e6).Ad 0 rfl rfl rfl rfl λw7 S7 u7=>⟨r',S7,hr'.box ((S5.ext e6).at_ 0 rfl) (by decide) u7⟩};{rw [aJ (pW hc)];exact ⟨r,S4,h4.row⟩}};rintro _ W ⟨r',SW,hr'⟩;generalize (if (Au A x past).1<lnN A-1/\1<kOf count then min ((Au A x past).1+kOf count-1) (lnN A-1) else (Au A x past).1)=j at *;have fw:=hr'.few;refine SW.drew λw5 S5 e5 _=>S5.lds 0 r' rfl (S5.lds 0 r' rfl (Em (hr'.ext e5) λw6 e6=>?_));have S6:=S5.ext e6;rw [wrap64 (by omega) (by omega)];refine S6.keeps 0 (x:=r') rfl (Et ((hr'.ext e5).ext e6) λw7 e7=>(S6.ext e7).Ad 1 rfl rfl rfl rfl λw8 S8 _=>?_);exact S8.lds 1 (((Aw A j (((Ag A j).length:Int)-1):Nat):Int),1,100000,()) rfl (hK w8 S8.upd)
end
section
variable {w w':World}{b p:Nat}{A:List Int}{x count arg goal g:Int}{past big:Bool}{r:RwT}
theorem Ai8 (h:Dl w b p A x count arg goal past big r){line:Int}{K:LdT->Wp}(hK:∀w',Ext w w'->K (ldT (Qc A line goal)) w') :
  Aa Tryz.prog 185 #[.pointer (some (at0 b)),.int .i64 line] (.tup [(.agg c83),(.one (.int .i64))]) K w:=by refine Ei6 ?_;unfold F185;refine (St.start w).Af λb1 w1 S1 e1=>S1.drew λw2 S2 e2 _=>?_;have h2:=(h.ext e1).ext e2;refine h2.tK (h2.Dd0 (h2.Dd0 (U9 h2.tx λw3 e3=>(h2.ext e3).Cq3 ?_)));exact (S2.ext e3).Ad 0 rfl rfl rfl rfl λw4 S4 _=>S4.lds 0 (ldT (Qc A line goal)).1 rfl (hK w4 S4.upd)
theorem Jj (h:Dl w b p A x count arg goal past big r){line:Int}{K:LdT->Wp}(hK:∀w',Ext w w'->K (ldT (Gf A line)) w') :
  Aa Tryz.prog 186 #[.pointer (some (at0 b)),.int .i64 line] (.tup [(.agg c83),(.one (.int .i64))]) K w:=by
 refine Ei5 ?_;unfold F186;have hb:=Bc A;have hA:=h.row.len;have hbl:=Gl A;have ewl:W64 ((lnN A:Int)-1)=(lnN A:Int)-1:=wrap64 (by omega) (by omega);have el:(if (0:Int)>(if (lnN A:Int)-1<line then (lnN A:Int)-1 else line) then (0:Int) else (if (lnN A:Int)-1<line then (lnN A:Int)-1 else line))=(Eo A line:Int):=by
  unfold Eo
  split<;>split at * <;> omega
 refine (St.start w).Af λb1 w1 S1 e1=>?_;have S1:St (λ_=>False) w w1 [(b1,ldZ)]:=S1;refine Ae (λy W=>∃b8 r',y=(at0 b8,())/\St (λ_=>False) w W [(b8,rwO r'),(b1,ldZ)]/\Hy W A (Eo A line) r') ?_ ?_;{refine S1.drew λw2 S2 e2 _=>?_;have h2:=(h.ext e1).ext e2;refine h2.tK (h2.tK ⟨?_,?_⟩);{refine S2.Af λb8 w3 S3 e3=>?_;have h3:=h2.ext e3;refine h3.F6 (h3.F6 (h3.tx.count λw4 e4=>?_));have h4:=h3.ext e4;rw [ewl,el];refine h4.F6 (Ic h4.tx (Ro A line).2 λr' w5 hr' e5=>?_);have S5:=(S3.ext e4).ext e5;exact S5.Ad 0 rfl rfl rfl rfl λw6 S6 u6=>⟨b8,r',rfl,S6,hr'.box (S5.at_ 0 rfl) (by decide) u6⟩};{refine h2.tx.count λw3 e3=>?_;have h3:=h2.ext e3;have S3:=S2.ext e3;rw [ewl,el];refine h3.F6 ⟨?_,?_⟩;{refine S3.Af λb12 w4 S4 e4=>?_;have h4:=h3.ext e4;refine h4.F6 (h4.F6 (Ic h4.tx (Ro A line).2 λr' w5 hr' e5=>?_));have S5:=S4.ext e5;exact S5.Ad 0 rfl rfl rfl rfl λw6 S6 u6=>⟨b12,r',rfl,S6,hr'.box (S5.at_ 0 rfl) (by decide) u6⟩};{refine Ic h3.tx (Ro A line).2 λr' w4 hr' e4=>⟨?_,trivial⟩;have h4:=h3.ext e4;refine (S3.ext e4).Af λb15 w5 S5 e5=>?_;have h5:=h4.ext e5;refine h5.F6 (h5.F6 ?_);exact S5.Ad 0 rfl rfl rfl rfl λw6 S6 u6=>⟨b15,r',rfl,S6,(hr'.ext e5).box (S5.at_ 0 rfl) (by decide) u6⟩}}};rintro _ W ⟨b8,r',rfl,SW,hr'⟩;have hW:=h.ext SW.upd;refine SW.drew λw2 S2 e2 _=>S2.lds 0 r' rfl (S2.lds 0 r' rfl (I7 (hr'.ext e2) λw3 e3=>?_));have S3:=S2.ext e3;refine S3.keeps 0 (x:=r') rfl (Et ((hr'.ext e2).ext e3) λw4 e4=>Ee (((hW.ext e2).ext e3).ext e4) λw5 e5=>?_);have S5:=(S3.ext e4).ext e5;exact S5.Ad 1 rfl rfl rfl rfl λw6 S6 _=>S6.lds 1 (ldT (Gf A line)).1 rfl (hK w6 S6.upd)
theorem Af9 (h:Dl w b p A x count arg goal past big r){K:Bool->Wp}(hK:∀w',Ext w w'->K (decide ((Au A x past).1=lnN A-1)) w') :
  Aa Tryz.prog 184 #[.pointer (some (at0 b))] rB K w:=by
 refine Ei7 ?_;unfold F184;have hb:=Bc A;have hA:=h.row.len;have hbl:=Gl A;refine Ci λw1 e1 _=>?_;have h1:=h.ext e1;refine h1.Yk (h1.tK (h1.tx.count λw2 e2=>(h1.ext e2).Cz0 ?_));rw [wrap64 (by omega) (by omega),h.row.num];have e:(((Au A x past).1:Int)==(lnN A:Int)-1)=decide ((Au A x past).1=lnN A-1):=by
  rw [gV,jM,iI];omega
 rw [e];exact hK w2 (e1.trans e2)
theorem Cc3 (A:List Int) (x g count:Int):Eu A x g 11 count=if (Au A x false).1=lnN A-1 then noP 80 else Qc A (((Au A x false).1:Int)+kOf count) (max g 0):=by unfold Eu Au;dsimp only;rw [Dy,aF rfl]
theorem Cx4 (A:List Int) (x g count:Int):Eu A x g 12 count=if (Au A x false).1=0 then noP 80 else Qc A (((Au A x false).1:Int)-kOf count) (max g 0):=by unfold Eu Au;dsimp only;rw [Dy,aJ (by decide),aF rfl]
theorem Cb9 (A:List Int) (x g count:Int):Eu A x g 13 count=if (Au A x false).1=lnN A-1 then noP 80 else Gf A (((Au A x false).1:Int)+kOf count):=by unfold Eu Au;dsimp only;rw [Dy,aJ (by decide),aJ (by decide),aF rfl]
theorem Cb7 (A:List Int) (x g count:Int):Eu A x g 14 count=if (Au A x false).1=0 then noP 80 else Gf A (((Au A x false).1:Int)-kOf count):=by unfold Eu Au;dsimp only;rw [Dy,aJ (by decide),aJ (by decide),aJ (by decide),aF rfl]
theorem Cc0 (A:List Int) (x g count:Int):Eu A x g 15 count=Gf A (((Au A x false).1:Int)+kOf count-1):=by unfold Eu Au;dsimp only;rw [Dy,aJ (by decide),aJ (by decide),aJ (by decide),aJ (by decide),aF rfl]
theorem Cc1 (A:List Int) (x g count:Int):Eu A x g 16 count=Gf A (if 0<count then (kOf count:Int)-1 else lnN A):=by unfold Eu;dsimp only;rw [aJ (by decide),aJ (by decide),aJ (by decide),aJ (by decide),aJ (by decide),aF rfl]
theorem Cm1 (A:List Int) (x g count:Int):Eu A x g 17 count=Gf A ((kOf count:Int)-1):=by unfold Eu;dsimp only;rw [aJ (by decide),aJ (by decide),aJ (by decide),aJ (by decide),aJ (by decide),aJ (by decide),aF rfl]
theorem Cb8 (A:List Int) (x g count:Int):Eu A x g 18 count=if count<=0\/100<kOf count then noP 80 else Gf A ((((kOf count*lnN A+99)/100:Nat):Int)-1):=by unfold Eu;dsimp only;rw [aJ (by decide),aJ (by decide),aJ (by decide),aJ (by decide),aJ (by decide),aJ (by decide),aJ (by decide),aF rfl]
theorem Ch8 (h:Dl w b p A x count arg (max g 0) false big r){K:LdT->Wp}(hK:∀w',Ext w w'->K (ldT (Eu A x g 11 count)) w') :
  Aa Tryz.prog 144 #[.pointer (some (at0 b))] (.tup [(.agg c83),(.one (.int .i64))]) K w:=by refine Em1 ?_;unfold F144;obtain ⟨m1,m2,m3,m4,m5,m6,m7⟩:=h.bounds;rw [Cc3] at hK;refine (St.start w).Af λb1 w1 S1 e1=>Af9 (h.ext e1) λw2 e2=>?_;have h2:=(h.ext e1).ext e2;have S2:=S1.ext e2;refine Ac (λhc=>?_) (λhc=>?_);{rw [aF (cO hc)] at hK;exact Df λw3 e3=>Dx (S2.ext e3) hK};{rw [aJ (pW hc)] at hK;refine S2.drew λw3 S3 e3 _=>?_;have h3:=h2.ext e3;refine h3.Yk (h3.kK ?_);rw [h.row.num,wrap64 (by omega) (by omega)];exact Ai8 h3 λw4 e4=>Dx (S3.ext e4) hK}
theorem Ag5 (h:Dl w b p A x count arg (max g 0) false big r){K:LdT->Wp}(hK:∀w',Ext w w'->K (ldT (Eu A x g 12 count)) w') :
  Aa Tryz.prog 145 #[.pointer (some (at0 b))] (.tup [(.agg c83),(.one (.int .i64))]) K w:=by refine Em0 ?_;unfold F145;obtain ⟨m1,m2,m3,m4,m5,m6,m7⟩:=h.bounds;rw [Cx4] at hK;refine (St.start w).Af λb1 w1 S1 e1=>?_;have h1:=h.ext e1;refine h1.Yk ?_;rw [h.row.num];refine Ac (λhc=>?_) (λhc=>?_);{simp only [jM] at hc;rw [aF (by omega)] at hK;exact Df λw3 e3=>Dx (S1.ext e3) hK};{simp only [jO,ne_eq] at hc;rw [aJ (by omega)] at hK;refine S1.drew λw3 S3 e3 _=>?_;have h3:=h1.ext e3;refine h3.Yk (h3.kK ?_);rw [h.row.num,wrap64 (by omega) (by omega)];exact Ai8 h3 λw4 e4=>Dx (S3.ext e4) hK}
theorem Bp5 (h:Dl w b p A x count arg goal false big r){K:LdT->Wp}(hK:∀w',Ext w w'->K (ldT (Eu A x g 13 count)) w') :
  Aa Tryz.prog 146 #[.pointer (some (at0 b))] (.tup [(.agg c83),(.one (.int .i64))]) K w:=by refine El9 ?_;unfold F146;obtain ⟨m1,m2,m3,m4,m5,m6,m7⟩:=h.bounds;rw [Cb9] at hK;refine (St.start w).Af λb1 w1 S1 e1=>Af9 (h.ext e1) λw2 e2=>?_;have h2:=(h.ext e1).ext e2;have S2:=S1.ext e2;refine Ac (λhc=>?_) (λhc=>?_);{rw [aF (cO hc)] at hK;exact Df λw3 e3=>Dx (S2.ext e3) hK};{rw [aJ (pW hc)] at hK;refine S2.drew λw3 S3 e3 _=>?_;have h3:=h2.ext e3;refine h3.Yk (h3.kK ?_);rw [h.row.num,wrap64 (by omega) (by omega)];exact Jj h3 λw4 e4=>Dx (S3.ext e4) hK}
theorem Bo5 (h:Dl w b p A x count arg goal false big r){K:LdT->Wp}(hK:∀w',Ext w w'->K (ldT (Eu A x g 14 count)) w') :
  Aa Tryz.prog 147 #[.pointer (some (at0 b))] (.tup [(.agg c83),(.one (.int .i64))]) K w:=by refine El7 ?_;unfold F147;obtain ⟨m1,m2,m3,m4,m5,m6,m7⟩:=h.bounds;rw [Cb7] at hK;refine (St.start w).Af λb1 w1 S1 e1=>?_;have h1:=h.ext e1;refine h1.Yk ?_;rw [h.row.num];refine Ac (λhc=>?_) (λhc=>?_);{simp only [jM] at hc;rw [aF (by omega)] at hK;exact Df λw3 e3=>Dx (S1.ext e3) hK};{simp only [jO,ne_eq] at hc;rw [aJ (by omega)] at hK;refine S1.drew λw3 S3 e3 _=>?_;have h3:=h1.ext e3;refine h3.Yk (h3.kK ?_);rw [h.row.num,wrap64 (by omega) (by omega)];exact Jj h3 λw4 e4=>Dx (S3.ext e4) hK}
theorem Cf6 (h:Dl w b p A x count arg goal false big r){K:LdT->Wp}(hK:∀w',Ext w w'->K (ldT (Eu A x g 15 count)) w') :
  Aa Tryz.prog 148 #[.pointer (some (at0 b))] (.tup [(.agg c83),(.one (.int .i64))]) K w:=by refine El6 ?_;unfold F148;obtain ⟨m1,m2,m3,m4,m5,m6,m7⟩:=h.bounds;rw [Cc0] at hK;refine (St.start w).Af λb1 w1 S1 e1=>S1.drew λw3 S3 e3 _=>?_;have h3:=(h.ext e1).ext e3;refine h3.Yk (h3.kK ?_);rw [h.row.num,wrap64 (a:=((Au A x false).1:Int)+(kOf count:Int)) (by omega) (by omega),wrap64 (by omega) (by omega)];exact Jj h3 λw4 e4=>Dx (S3.ext e4) hK
theorem Cf7 (h:Dl w b p A x count arg goal false big r){K:LdT->Wp}(hK:∀w',Ext w w'->K (ldT (Eu A x g 16 count)) w') :
  Aa Tryz.prog 149 #[.pointer (some (at0 b))] (.tup [(.agg c83),(.one (.int .i64))]) K w:=by refine El5 ?_;unfold F149;obtain ⟨m1,m2,m3,m4,m5,m6,m7⟩:=h.bounds;rw [Cc1] at hK;refine (St.start w).Af λb1 w1 S1 e1=>?_;have h1:=h.ext e1;refine h1.Bj5 (Ac (λhc=>?_) (λhc=>?_));{have hc:¬0<count:=(by simpa using hc);rw [aJ hc] at hK;exact h1.tK (h1.tx.count λw2 e2=>Jj (h1.ext e2) λw4 e4=>Dx ((S1.ext e2).ext e4) hK)};{have hc:0<count:=(by simpa using hc);rw [aF hc] at hK;refine h1.kK ?_;rw [wrap64 (by omega) (by omega)];exact Jj h1 λw4 e4=>Dx (S1.ext e4) hK}
theorem Cl3 (h:Dl w b p A x count arg goal false big r){K:LdT->Wp}(hK:∀w',Ext w w'->K (ldT (Eu A x g 17 count)) w') :
  Aa Tryz.prog 150 #[.pointer (some (at0 b))] (.tup [(.agg c83),(.one (.int .i64))]) K w:=by refine El4 ?_;unfold F150;obtain ⟨m1,m2,m3,m4,m5,m6,m7⟩:=h.bounds;rw [Cm1] at hK;refine (St.start w).Af λb1 w1 S1 e1=>?_;have h1:=h.ext e1;refine h1.kK ?_;rw [wrap64 (by omega) (by omega)];exact Jj h1 λw4 e4=>Dx (S1.ext e4) hK
theorem Cd4 (h:Dl w b p A x count arg goal false big r){K:LdT->Wp}(hK:∀w',Ext w w'->K (ldT (Eu A x g 18 count)) w') :
  Aa Tryz.prog 151 #[.pointer (some (at0 b))] (.tup [(.agg c83),(.one (.int .i64))]) K w:=by refine El3 ?_;unfold F151;obtain ⟨m1,m2,m3,m4,m5,m6,m7⟩:=h.bounds;have hb:=Bc A;have hA:=h.row.len;have hbl:=Gl A;rw [Cb8] at hK;refine (St.start w).Af λb1 w1 S1 e1=>?_;have h1:=h.ext e1;refine Ae (λy W=>y=(decide (count<=0\/100<kOf count),())/\w1=W) ?_ ?_;{refine h1.Bj5 (Ac (λhc=>⟨Az ?_,rfl⟩) (λhc=>h1.kK ⟨Az ?_,rfl⟩));{have hc:¬0<count:=(by simpa using hc);simp;omega};{have hc:0<count:=(by simpa using hc);simp only [iI,kG];omega}};rintro _ _ ⟨rfl,rfl⟩;refine Ac (λhc=>?_) (λhc=>?_);{rw [aF (cO hc)] at hK;exact Df λw3 e3=>Dx (S1.ext e3) hK};{have hc:=pW hc;rw [aJ hc] at hK;refine S1.drew λw3 S3 e3 _=>?_;have h3:=h1.ext e3;refine h3.kK (h3.tK (h3.tx.count λw4 e4=>?_));have h4:=h3.ext e4;refine h4.Cq2 (Dc (by decide) ?_);have hm:kOf count*lnN A<=100*lnN A:=fV _ (by omega);have hmi:(kOf count:Int)*(lnN A:Int)=((kOf count*lnN A:Nat):Int):=(by rw [jJ]);rw [hmi];generalize kOf count*lnN A=m at *;rw [wrap64 (a:=(m:Int)) (by omega) (by omega),wrap64 (a:=(m:Int)+99) (by omega) (by omega)];(have ed:Int.tdiv ((m:Int)+99) 100=(((m+99)/100:Nat):Int):=by rw [kF (by omega)];omega);rw [ed,wrap64 (a:=(((m+99)/100:Nat):Int)) (by omega) (by omega),wrap64 (by omega) (by omega)];exact Jj h4 λw5 e5=>Dx ((S3.ext e4).ext e5) hK}
end
end
end Go.Proofs.YtolhlldgnfbemaaGreatDoor
namespace Go.Vx
open Go
theorem least {P:Nat->Prop}(h:∃n,P n):∃n,P n/\∀m,P m->n<=m:=by
 obtain ⟨n,hn⟩:=h;induction n using Nat.strongRecOn with
 |ind n ih=>by_cases hc:∃k,k<n/\P k;{obtain ⟨k,h1,h2⟩:=hc;exact ih k h1 h2};{exact ⟨n,hn,λm hm=>Nat.le_of_not_lt λhl=>hc ⟨m,hl,hm⟩⟩}
open Classical in
theorem P5 {T G:Type}{body:T->(T->Wp)->Wp}{s0:T}{w:World}(J:G->T->Wp) (m:G->Nat) (g0:G) (h0:J g0 s0 w)
  (hr:∀g s w' (R:T->Wp),J g s w'->(∀g' s' w'',J g' s' w''->m g'<m g->R s' w'')->body s R w'):Hr body s0 w:=by
 have hex:∀s w,(∃g,J g s w)->∃n,(∃g,J g s w/\m g=n)/\∀g,J g s w->n<=m g:=λs w ⟨g,h⟩=>by
  obtain ⟨n,h1,h2⟩:=least (P:=λn=>∃g,J g s w/\m g=n) ⟨m g,g,h,rfl⟩
  exact ⟨n,h1,λg' h'=>h2 _ ⟨g',h',rfl⟩⟩
 let μ:T->World->Nat:=λs w=>if h:∃g,J g s w then Classical.choose (hex s w h) else 0;have hμ:∀s w (h:∃g,J g s w),μ s w=Classical.choose (hex s w h):=λs w h=>dif_pos h;have le:∀g s w,J g s w->μ s w<=m g:=λg s w h=>by
  rw [hμ s w ⟨g,h⟩]
  exact (pX (hex s w ⟨g,h⟩)).2 g h
 have at_:∀s w,(∃g,J g s w)->∃g,J g s w/\m g=μ s w:=λs w h=>by
  rw [hμ s w h]
  exact (pX (hex s w h)).1
 refine Ba (λs w=>∃g,J g s w) μ ⟨g0,h0⟩ λs w' hI=>?_;obtain ⟨g,h1,h2⟩:=at_ s w' hI;refine hr g s w' _ h1 λg' s' w'' h3 h4=>⟨⟨g',h3⟩,?_⟩;have:=le g' s' w'' h3;omega
end Go.Vx
namespace Go.Proofs.YtolhlldgnfbemaaGreatDoor
section
open Go Go.Vx Cdc Trx Gly Clu Lns Obx Mot
abbrev wkO (p:Nat) (r:RwT) (c last:Int) (big:Bool):Obj :=
 .cells #[.pointer (some (at0 p)),.int .i64 r.1,.int .i64 r.2.1,.int .i64 r.2.2.1,.int .i64 r.2.2.2.1,.int .i64 r.2.2.2.2.1,.slice r.2.2.2.2.2.1.a r.2.2.2.2.2.1.len r.2.2.2.2.2.1.cap,.slice r.2.2.2.2.2.2.1.a r.2.2.2.2.2.2.1.len r.2.2.2.2.2.2.1.cap,.int .i64 c,.int .i64 last,.bool big] 201 (0,0)
structure TxB (w:World) (p:Nat) (A:List Int) (b:Nat):Prop where
 ex:∃e lim na O M,Txt w p e lim na O M/\atoms (aOf e M)=A/\¬O b
structure Fa (w:World) (b p:Nat) (A:List Int) (big:Bool) (q:Nat×Nat) (r:RwT):Prop where
 tx:TxB w p A b
 obj:w.heap[b]?=some (wkO p r (q.2:Int) ((lnN A-1:Nat):Int) big)
 row:Hy w A q.1 r
 on:On A q
theorem Cb5 (v0 v1 v2 v3 v4 v5 v6 v7 v8 v9 v10 u1 u2 u3 u4 u5 u6 u7:Value):setRow #[v0,v1,v2,v3,v4,v5,v6,v7,v8,v9,v10] 1 [u1,u2,u3,u4,u5,u6,u7]=#[v0,u1,u2,u3,u4,u5,u6,u7,v8,v9,v10]:=by kernel_rfl
section
variable {w w':World}{b p:Nat}{A:List Int}{big:Bool}{q:Nat×Nat}{r:RwT}
theorem Ck8 {r':RwT}{c l:Int}(h:w.heap[b]?=some (wkO p r c l big)){K:World->Prop}(hK:∀w1,Upd (λk=>k=b) w w1->w1.heap[b]?=some (wkO p r' c l big)->K w1) :
  Ad ((at0 b).add 1) (.agg (Cells.vals Bf r').toArray) 7 K w :=
 Zy (off:=1) h rfl rfl (by show 1+7<=11;decide) λw1 u n _=>hK w1 u (n.trans (fC (λc=>some (Obj.cells c 201 (0,0))) (Cb5 ..)))
theorem Ax6 {c' c l:Int}(h:w.heap[b]?=some (wkO p r c l big)){K:World->Prop}(hK:∀w1,Upd (λk=>k=b) w w1->w1.heap[b]?=some (wkO p r c' l big)->K w1) :
  stC ((at0 b).add 8) (.int .i64 c') K w :=
 Jm (off:=8) h (by show 8<11;decide) λw1 u n _=>hK w1 u n
theorem TxB.ta (h:TxB w p A b):TxA w p A:=by obtain ⟨e,lim,na,O,M,h1,h2,_⟩:=h.ex;exact ⟨e,lim,na,O,M,h1,h2⟩
theorem TxB.ext (h:TxB w p A b) (x:Ext w w'):TxB w' p A b:=by obtain ⟨e,lim,na,O,M,h1,h2,h3⟩:=h.ex;exact ⟨e,lim,na,O,M,h1.ext x,h2,h3⟩
theorem TxB.upd {c:Array Value}{fr:Nat×Nat}{t:TypeId}(h:TxB w p A b) (hb:w.heap[b]?=some (.cells c t fr)) (ht:162≠t) (u:Upd (λk=>k=b) w w'):TxB w' p A b:=by obtain ⟨e,lim,na,O,M,h1,h2,h3⟩:=h.ex;refine ⟨e,lim,na,O,M,h1.upd u (λk hk hk2=>by subst hk2;exact h3 hk) (λk hk c' fr' hn=>?_),h2,h3⟩;subst hk;rw [hb] at hn;cases hn;exact ht rfl
theorem TxA.toB (h:TxA w p A) (hb:w.heap.size<=b):TxB w p A b:=by obtain ⟨e,lim,na,O,M,h1,h2⟩:=h.ex;exact ⟨e,lim,na,O,M,h1,h2,λhO=>by have:=h1.own b hO;omega⟩
theorem Fa.ext (h:Fa w b p A big q r) (e:Ext w w'):Fa w' b p A big q r:=⟨h.tx.ext e,e.ext_get h.obj,h.row.ext e,h.on⟩
theorem Fa.tK (h:Fa w b p A big q r){K:Addr->Option Addr->Wp}(hK:K (at0 b) (some (at0 p)) w):nn (some (at0 b)) (λq=>ld (.ptr) q (K q)) w:=Am (Ce (off:=0) h.obj rfl hK)
theorem Fa.cK (h:Fa w b p A big q r){K:Addr->Int->Wp}(hK:K (at0 b) (q.2:Int) w):nn (some (at0 b)) (λq=>ld (.int .i64) (q.add 8) (K q)) w:=Am (Ce (off:=8) h.obj rfl hK)
theorem Fa.Vo (h:Fa w b p A big q r){K:Addr->Int->Wp}(hK:K (at0 b) ((lnN A-1:Nat):Int) w):nn (some (at0 b)) (λq=>ld (.int .i64) (q.add 9) (K q)) w:=Am (Ce (off:=9) h.obj rfl hK)
theorem Fa.Uz (h:Fa w b p A big q r){K:Addr->Bool->Wp}(hK:K (at0 b) big w):nn (some (at0 b)) (λq=>ld (.bool) (q.add 10) (K q)) w:=Am (Ce (off:=10) h.obj rfl hK)
theorem Fa.Yk (h:Fa w b p A big q r){K:Addr->Int->Wp}(hK:K (at0 b) (q.1:Int) w):nn (some (at0 b)) (λq=>ld (.int .i64) ((q.add 1).add 4) (K q)) w:=by rw [←h.row.num] at hK;exact Am (Ce (off:=5) h.obj rfl hK)
theorem Fa.stK (h:Fa w b p A big q r){K:Addr->Sl->Wp}(hK:K (at0 b) r.2.2.2.2.2.2.1 w):nn (some (at0 b)) (λq=>ld (.sl) ((q.add 1).add 6) (K q)) w:=Am (Ce (off:=7) h.obj rfl hK)
theorem Fa.Oh (h:Fa w b p A big q r){K:Addr->RwT->Wp}(hK:K (at0 b) r w):nn (some (at0 b)) (λq=>lds Bf (q.add 1) (K q)) w :=
 Am (Qh (off:=1) h.obj (Yn (by rfl)) hK)
theorem Fa.An2 (h:Fa w b p A big q r){K:World->Prop}(hK:K w):keep (λw=>w.cell? ((at0 b).add 8)=some (Cell.val (.int .i64) (q.2:Int))) K w:=Bg (cell_of (off:=8) h.obj rfl) hK
theorem Fa.few (h:Fa w b p A big q r):q.2<=(Ag A q.1).length/\(Ag A q.1).length<=1048576/\q.1<=1048576/\lnN A<=1048577:=by have h1:=h.row.few;have h2:=h.on.col;have h3:=h.on.row;have h4:=Gl A;have h5:=h.row.len;have h6:=Bc A;omega
theorem U8 {x:Nat}{past:Bool}(h:TxA w p A) (hx:Ak A (x:Int) past=x){K:Option Addr->Wp}(hK:∀b r w',Fa w' b p A big (Au A (x:Int) past) r->w.heap.size<=b->Ext w w'->K (some (at0 b)) w') :
  Aa Tryz.prog 161 #[.pointer (some (at0 p)),.int .i64 (x:Int),.bool past,.bool big] rP K w:=by refine Ek3 ?_;unfold F161;have hb:=Bc A;have hA:=h.len;have hbl:=Gl A;refine Jo h λr w1 hr e1=>?_;refine (St.start w).ext e1 |>.Af λb2 w2 S2 e2=>S2.Ad 0 rfl rfl rfl rfl λw3 S3 u3=>?_;have S3:St (λ_=>False) w w3 [(b2,rwO r)]:=S3;have hr:=(hr.ext e2).box (S2.at_ 0 rfl) (by decide) u3;refine S3.drew λw4 S4 e4 _=>S4.lds 0 r rfl (S4.lds 0 r rfl (Vl (hr.ext e4) λw5 e5=>?_));have S5:=S4.ext e5;refine S5.keeps 0 (x:=r) rfl ((h.ext S5.upd).count λw6 e6=>?_);have S6:=S5.ext e6;refine S6.keeps 0 (x:=r) rfl ?_;(have ewl:W64 ((lnN A:Int)-1)=((lnN A-1:Nat):Int):=by rw [wrap64 (by omega) (by omega)];omega);rw [ewl];(have ep:(Au A (x:Int) past).2=Dj (Ag A (Cc A (x:Int) past)) (x:Int):=by unfold Au;rw [hx]);refine S6.Af λb7 w7 S7 e7=>hK b7 r w7 ⟨?_,by rw [ep];exact S7.at_ 0 rfl,?_,(Rj A (x:Int) past).1⟩ (S7.ge 0 rfl) S7.upd;{exact (h.toB (S7.ge 0 rfl)).ext S7.upd};{have:=(((hr.ext e4).ext e5).ext e6).ext e7;exact this}
theorem Om (h:Fa w b p A big q r){K:Int->Wp}(hK:∀w',Ext w w'->K (Bo A q:Int) w') :
  Aa Tryz.prog 164 #[.pointer (some (at0 b))] rI K w:=by refine Ek0 ?_;unfold F164;refine Ci λw1 e1 _=>?_;have h1:=h.ext e1;exact h1.Oh (h1.cK (Et h1.row λw2 e2=>hK w2 (e1.trans e2)))
theorem Wi (h:Fa w b p A big q r){K:Bool->Wp}(hK:∀w',Ext w w'->K ((Ag A q.1).length==0) w') :
  Aa Tryz.prog 196 #[.pointer (some (at0 b))] rB K w:=by refine Eh5 ?_;unfold F196;refine h.Oh (Em h.row λw2 e2=>?_);(have e:(((Ag A q.1).length:Int)==0)=((Ag A q.1).length==0):=by rw [gV,jM,jM];omega);rw [e];exact hK w2 e2
theorem Aa5 {p q:Nat×Nat}(h:On A p) (hq:La A p=some q):Plc A q:=by have hb:=Bc A;have hg:=Bb1 A;have hr:=h.row;have hc:=h.col;unfold La at hq;split at hq;{rename_i h0;cases hq;refine ⟨?_,.inl (by dsimp only;omega)⟩;dsimp only;rcases lT p.1 (lnN A) with u|u;{exact u};{have hp:p.1=brs A/\lnN A=brs A:=(by omega);have:=tail_nil hp.2;rw [hp.1] at hc;omega}};{split at hq;{cases hq};{cases hq;exact ⟨by dsimp only;omega,by dsimp only;omega⟩}}
theorem Ab0 {p q:Nat×Nat}(h:On A p) (hq:Il A p=some q):Plc A q:=by obtain ⟨_,h2,h3,_⟩:=Yl h hq;exact ⟨h2,h3⟩
theorem Sj (h:Fa w b p A big q r){K:Bool->Wp}(hN:Il A q=none->∀w',Ext w w'->K false w')
  (hS:∀q' r' w',Il A q=some q'->Fa w' b p A big q' r'->Upd (λk=>k=b) w w'->K true w') :
  Aa Tryz.prog 162 #[.pointer (some (at0 b))] rB K w:=by refine Ek2 ?_;unfold F162;have fw:=h.few;have hb:=Bc A;refine Ci λw1 e1 _=>?_;have h1:=h.ext e1;refine h1.cK (h1.Oh (Em h1.row λw2 e2=>?_));have h2:=h1.ext e2;refine h2.An2 ?_;(have ew:W64 ((q.2:Int)+1)=((q.2+1:Nat):Int):=by rw [wrap64 (by omega) (by omega)];omega);rw [ew];refine Ac (λhc=>?_) (λhc=>?_);{simp only [iI] at hc;(have hn:Il A q=some (q.1,q.2+1):=by unfold Il;rw [aF (by omega)]);refine h2.cK (Am ?_);rw [ew];refine Ax6 h2.obj λw3 u3 n3=>?_;refine hS _ r w3 hn ⟨h2.tx.upd h2.obj (by decide) u3,n3,h2.row.box h2.obj (by decide) u3,(Yl h.on hn).1⟩ ?_;exact (Upd.Ed (e1.trans e2)).trans u3};{simp only [iH] at hc;refine Ci λw3 e3 _=>?_;have h3:=h2.ext e3;refine h3.Yk (h3.Vo ?_);refine Ac (λhg=>?_) (λhg=>?_);{simp only [iI,jT] at hg;(have hn:Il A q=none:=by unfold Il;rw [aJ (by omega),aF (by omega)]);exact hN hn w3 ((e1.trans e2).trans e3)};{simp only [iH,jT] at hg;(have hn:Il A q=some (q.1+1,0):=by unfold Il;rw [aJ (by omega),aJ (by omega)]);refine Ci λw4 e4 _=>?_;have h4:=h3.ext e4;refine h4.tK (h4.Yk ?_);(have ewn:W64 ((q.1:Int)+1)=((q.1+1:Nat):Int):=by rw [wrap64 (by omega) (by omega)];omega);rw [ewn];have hon:=(Yl h.on hn).1;refine Ic h4.tx.ta hon.row λr' w5 hr' e5=>?_;have h5:=h4.ext e5;refine Am (Ck8 h5.obj λw6 u6 n6=>Am (Ax6 n6 λw7 u7 n7=>?_));refine hS _ r' w7 hn ⟨(h5.tx.upd h5.obj (by decide) u6).upd n6 (by decide) u7,n7,(hr'.box h5.obj (by decide) u6).box n6 (by decide) u7,hon⟩ ?_;exact (Upd.Ed ((((e1.trans e2).trans e3).trans e4).trans e5)).trans (u6.trans u7)}}
theorem Ad2 (h:Fa w b p A big q r){K:Bool->Wp}(hN:La A q=none->∀w',Ext w w'->K false w')
  (hS:∀q' r' w',La A q=some q'->Fa w' b p A big q' r'->Upd (λk=>k=b) w w'->K true w') :
  Aa Tryz.prog 195 #[.pointer (some (at0 b))] rB K w:=by refine Eh6 ?_;unfold F195;have fw:=h.few;have hb:=Bc A;refine h.cK (Ac (λhc=>?_) (λhc=>?_));{simp only [iI,kG] at hc;(have hn:La A q=some (q.1,q.2-1):=by unfold La;rw [aF (by omega)]);(have ew:W64 ((q.2:Int)-1)=((q.2-1:Nat):Int):=by rw [wrap64 (by omega) (by omega)];omega);refine h.cK (Am ?_);rw [ew];refine Ax6 h.obj λw3 u3 n3=>?_;exact hS _ r w3 hn ⟨h.tx.upd h.obj (by decide) u3,n3,h.row.box h.obj (by decide) u3,(Aa5 h.on hn).on⟩ u3};{simp only [iH,kG] at hc;refine h.Yk (Ac (λhg=>?_) (λhg=>?_));{simp only [jM] at hg;(have hn:La A q=none:=by unfold La;rw [aJ (by omega),aF (by omega)]);exact hN hn w (Ext.refl w)};{simp only [jO,ne_eq] at hg;(have hn:La A q=some (q.1-1,(Ag A (q.1-1)).length-1):=by unfold La;rw [aJ (by omega),aJ (by omega)]);refine Ci λw4 e4 _=>?_;have h4:=h.ext e4;refine h4.tK (h4.Yk ?_);(have ewn:W64 ((q.1:Int)-1)=((q.1-1:Nat):Int):=by rw [wrap64 (by omega) (by omega)];omega);rw [ewn];have hon:=(Aa5 h.on hn).on;refine Ic h4.tx.ta hon.row λr' w5 hr' e5=>?_;have h5:=h4.ext e5;refine Am (Ck8 h5.obj λw6 u6 n6'=>?_);have hr6:=hr'.box h5.obj (by decide) u6;have fw6:=hr6.few;refine Am (Qh (off:=1) (x:=r') n6' (Yn (by rfl)) (Em hr6 λw7 e7=>?_));have n7':=e7.ext_get n6';have hr7:=hr6.ext e7;dsimp only at fw6;rw [wrap64 (by dsimp only;omega) (by dsimp only;omega)];have em:(if (0:Int)>(((Ag A (q.1-1)).length:Nat):Int)-1 then (0:Int) else (((Ag A (q.1-1)).length:Nat):Int)-1)=(((Ag A (q.1-1)).length-1:Nat):Int):=(by split<;>omega);rw [em];refine Am (Ax6 n7' λw8 u8 n8'=>?_);refine hS _ r' w8 hn ⟨((h5.tx.upd h5.obj (by decide) u6).ext e7).upd n7' (by decide) u8,n8',hr7.box n7' (by decide) u8,hon⟩ ?_;exact (Upd.Ed (e4.trans e5)).trans ((u6.trans (Upd.Ed e7)).trans u8)}}
theorem Dc9 {C:List Cel}{i j:Nat}{b:Bool}:(((Fg C i b:Nat):Int) !=((Fg C j b:Nat):Int))=(Fg C i b !=Fg C j b):=by rw [gV,mY,mY];omega
theorem Bx3 {C:List Cel}{i:Nat}{b:Bool}:(((Fg C i b:Nat):Int) !=0)=(Fg C i b !=0):=by rw [gV,mY,mY];omega
theorem D8 (h:Fa w b p A big q r) (hp:Plc A q){K:Bool->Wp}(hK:∀w',Ext w w'->K (Ll A big q) w') :
  Aa Tryz.prog 163 #[.pointer (some (at0 b))] rB K w:=by refine Ek1 ?_;unfold F163;have fw:=h.few;have hrow:=hp.row;unfold Ll at hK;refine Wi h λw1 e1=>?_;have h1:=h.ext e1;refine Ac (λhc=>?_) (λhc=>?_);{rw [hc] at hK;refine Ci λw2 e2 _=>?_;have h2:=h1.ext e2;refine h2.Yk (h2.Vo ?_);rw [jP (by omega)];exact hK w2 (e1.trans e2)};{rw [hc,bD] at hK;have hlen:(Ag A q.1).length≠0:=(by simpa using hc);(have hcol:q.2<(Ag A q.1).length:=by have:=hp.col;omega);refine Ci λw2 e2 _=>?_;have h2:=h1.ext e2;refine h2.Oh (h2.cK (h2.Uz (Ox h2.row hcol λw3 e3=>Ci λw4 e4 _=>?_)));have h4:=(h2.ext e3).ext e4;have e04:=((e1.trans e2).trans e3).trans e4;rw [Bx3];refine Ac (λhk=>?_) (λhk=>?_);{rw [hk,lD] at hK;refine h4.cK (Ac (λhz=>?_) (λhz=>?_));{simp only [jM] at hz;have:=hK w4 e04;rw [show (q.2==0)=true by rw [jM];omega,fB] at this;exact this};{simp only [jO,ne_eq] at hz;(have ew:W64 ((q.2:Int)-1)=((q.2-1:Nat):Int):=by rw [wrap64 (by omega) (by omega)];omega);refine h4.Oh (h4.cK (h4.Uz ?_));rw [ew];refine Ox h4.row (j:=q.2-1) (by omega) λw5 e5=>?_;have:=hK w5 (e04.trans e5);rw [show (q.2==0)=false by rw [jO];omega,bD,←Dc9] at this;exact this}};{rw [hk,lW] at hK;exact hK w4 e04}}
theorem Ad3 (h:Fa w b p A big q r) (hp:(Ag A q.1).length=0->q.1<lnN A){K:Bool->Wp}(hK:∀w',Ext w w'->K (Vs A big q) w') :
  Aa Tryz.prog 192 #[.pointer (some (at0 b))] rB K w:=by refine Eh9 ?_;unfold F192;have fw:=h.few;unfold Vs at hK;refine Wi h λw1 e1=>?_;have h1:=h.ext e1;refine Ac (λhc=>?_) (λhc=>?_);{rw [hc] at hK;have:=hp (by simpa using hc);refine Ci λw2 e2 _=>?_;have h2:=h1.ext e2;refine h2.Yk (h2.Vo ?_);rw [jP (by omega)];exact hK w2 (e1.trans e2)};{rw [hc,bD] at hK;refine Ci λw2 e2 _=>?_;have h2:=h1.ext e2;refine h2.cK (h2.Oh (Em h2.row λw3 e3=>(h2.ext e3).An2 ?_));have h3:=h2.ext e3;have e03:=(e1.trans e2).trans e3;refine Ac (λhg=>?_) (λhg=>?_);{simp only [iI,jT] at hg;rw [jQ (show ¬q.2<(Ag A q.1).length by omega),lW,lW] at hK;exact hK w3 e03};{simp only [iH,jT] at hg;have hcol:q.2<(Ag A q.1).length:=(by omega);rw [jP hcol,lD] at hK;refine Ci λw4 e4 _=>?_;have h4:=h3.ext e4;refine h4.Oh (h4.cK (h4.Uz (Ox h4.row hcol λw5 e5=>Ci λw6 e6 _=>?_)));have h6:=(h4.ext e5).ext e6;have e06:=((e03.trans e4).trans e5).trans e6;rw [Bx3];refine Ac (λhk=>?_) (λhk=>?_);{rw [hk,lD] at hK;refine h6.cK (h6.Oh (Em h6.row λw7 e7=>(h6.ext e7).An2 ?_));have h7:=h6.ext e7;(have ew:W64 ((q.2:Int)+1)=((q.2+1:Nat):Int):=by rw [wrap64 (by omega) (by omega)];omega);rw [ew];refine Ac (λhz=>?_) (λhz=>?_);{simp only [jM] at hz;have:=hK w7 (e06.trans e7);rw [show (q.2+1==(Ag A q.1).length)=true by rw [jM];omega,fB] at this;exact this};{simp only [jO,ne_eq] at hz;refine h7.Oh (h7.cK (h7.Uz ?_));rw [ew];refine Ox h7.row (j:=q.2+1) (by omega) λw8 e8=>?_;have:=hK w8 ((e06.trans e7).trans e8);rw [show (q.2+1==(Ag A q.1).length)=false by rw [jO];omega,bD,←Dc9] at this;exact this}};{rw [hk,lW] at hK;exact hK w6 e06}}}
theorem Af6 (h:Fa w b p A big q r){K:Bool->Wp}(hK:∀w',Ext w w'->K (Qe A big q) w') :
  Aa Tryz.prog 191 #[.pointer (some (at0 b))] rB K w:=by refine Ei0 ?_;unfold F191;unfold Qe at hK;refine Wi h λw1 e1=>Ac (λhc=>?_) (λhc=>?_);{have hn:(Ag A q.1).length≠0:=(by simpa using hc);rw [show ((Ag A q.1).length !=0)=true by rw [mY];exact hn,lD] at hK;exact Ad3 (h.ext e1) (λh0=>absurd h0 hn) λw2 e2=>hK w2 (e1.trans e2)};{have hn:(Ag A q.1).length=0:=(by simpa using hc);rw [show ((Ag A q.1).length !=0)=false by rw [mZ];exact hn,lW] at hK;exact hK w1 e1}
end
namespace Mot
def Y4:List Int:=[40,91,123,41,93,125]
theorem Bu6 {c:Cel}(ha:c.alone=true){b:Nat}(hb:b<6) (h:c.atom=Y4.getD b 0):sortB c=some b:=by rcases (by omega:b=0\/b=1\/b=2\/b=3\/b=4\/b=5) with rfl|rfl|rfl|rfl|rfl|rfl<;>simp [sortB,ha,h,Y4]
theorem At4 {c:Cel}(h:∀j,j<6->c.atom≠Y4.getD j 0):sortB c=none:=by have h0:=h 0 (by decide);have h1:=h 1 (by decide);have h2:=h 2 (by decide);have h3:=h 3 (by decide);have h4:=h 4 (by decide);have h5:=h 5 (by decide);simp [Y4] at h0 h1 h2 h3 h4 h5;simp [sortB,h0,h1,h2,h3,h4,h5]
theorem Ci8 {A:List Int}{i j:Nat}{c:Cel}(h:i<=brs A) (hc:(Ag A i)[j]?=some c):c.alone=decide (Oi A i (j+1)=Oi A i j+1):=by have hl:=(fG.1 hc).1;obtain ⟨_,_,_,_,q⟩:=Yq (Cb h).ft (by have:=(Cb h).tn;have:=(Cb h).nl;omega) hc;have h1:=Bc4 h hc;have h2:c.from_=Aw A i (j:Int):=(by rw [Ec hl,Hg hc]);have h3:=Zv h j;have h4:=Zv h (j+1);rw [q.alone,gV,iI,iI];omega
end Mot
theorem Cm6 {g:FuncId}{recv:Array Value}{t:RTy}{K:t.T->Wp}{w:World}(hf:((Tryz.prog.funcs[g]?).map λfn=>(fn.body.isNone,fn.name == "runtime.NumGoroutine"))=some (false,false)) (h:Aa Tryz.prog g recv t K w) :
  Cj Tryz.prog (do let d ←Deferred.ofValue (.func (.func g) recv #[]) #[];invoke d.target d.args:Sem Next) t K w:=by
 refine .inl ⟨g,recv,?_,h⟩;have:=Ir (P:=Tryz.prog) (f:=g) (args:=recv) hf w;simp only [Deferred.ofValue,pure_bind,invoke];have e:(recv++#[]++#[]:Array Value)=recv:=(by simp);first
  |exact this
  |(rw [e];exact this)
section
variable {w w':World}{b p:Nat}{A:List Int}{big:Bool}{q:Nat×Nat}{r:RwT}
theorem Xl (h:Fa w b p A big q r){K:Int->Wp}(hK:∀w',Ext w w'->K (match Uy A q with|some n=>(n:Int)|none=>-1) w') :
  Aa Tryz.prog 194 #[.pointer (some (at0 b))] rI K w:=by
 refine Eh7 ?_;unfold F194;have fw:=h.few;have sl:=h.row.slen;have hrow:=h.row.row;unfold Uy at hK;(have ewp:W64 ((q.2:Int)+1)=((q.2+1:Nat):Int):=by rw [wrap64 (by omega) (by omega)];omega);refine Ae (λy W=>y=(decide (¬∃c,(Ag A q.1)[q.2]?=some c/\c.alone=true),())/\Ext w W) ?_ ?_
 ·refine Ci λw1 e1 _=>?_;have h1:=h.ext e1;refine h1.cK (h1.Oh (Em h1.row λw2 e2=>(h1.ext e2).An2 ?_));have h2:=h1.ext e2;refine Ac (λhg=>?_) (λhg=>?_);{simp only [iI,jT] at hg;refine ⟨?_,e1.trans e2⟩;rw [jP];rintro ⟨c,hc,_⟩;have:=(fG.1 hc).1;omega}
  ·simp only [iH,jT] at hg;obtain ⟨c,hc⟩:=Dk (C:=Ag A q.1) (j:=q.2) (by omega);refine h2.stK (h2.cK ?_);rw [ewp];refine Ew (c:=.int .i64) (xs:=Ag2 A q.1) h2.row.starts (by omega) (x:=(Oi A q.1 (q.2+1):Int)) (by rw [dF];exact Y6 (by omega)) λp1=>h2.stK (h2.cK ?_);refine Ew (c:=.int .i64) (xs:=Ag2 A q.1) h2.row.starts (by omega) (x:=(Oi A q.1 q.2:Int)) (by rw [dF];exact Y6 (by omega)) λp2=>⟨?_,e1.trans e2⟩;have b1:=Dh0 hrow (c:=q.2) (d:=q.2+1) (by omega) (by omega);have b2:=Aw9 (Dh1 hrow (c:=q.2+1) (by omega));have b3:=Ti hrow;have fr:=h.row.few;rw [wrap64 (by omega) (by omega)];refine Az ?_;have ha:=Ci8 hrow hc;simp only [iI,kG];constructor;{rintro hd ⟨c',hc',ha'⟩;rw [hc] at hc';cases hc';rw [ha] at ha';have:=cO ha';omega}
   ·intro hn;have:c.alone=false:=by
     cases hcs:c.alone with
     |false=>rfl
     |true=>exact absurd ⟨c,hc,hcs⟩ hn
    rw [ha] at this;have:=pW this;omega
 rintro _ W ⟨rfl,eW⟩;refine Ac (λhc=>?_) (λhc=>?_)
 ·have hc:=cO hc;have:=hK W eW;have hnone:(Ag A q.1)[q.2]?.bind sortB=none:=by
   cases hg:(Ag A q.1)[q.2]? with
   |none=>rfl
   |some c =>
    show sortB c=none;cases ha:c.alone with
    |true=>exact absurd ⟨c,hg,ha⟩ hc
    |false=>simp [sortB,ha]
  rw [hnone] at this;exact this
 ·have hc:=pW hc;have hc:∃c,(Ag A q.1)[q.2]?=some c/\c.alone=true:=lJ hc;obtain ⟨c,hc,ha⟩:=hc;rw [hc] at hK;have hK:∀w',Ext w w'->K (match sortB c with|some n=>(n:Int)|none=>-1) w':=hK;refine Ae (λ_ W=>(∀j,j<6->c.atom≠Y4.getD j 0)/\Ext w W) ?_ (λ_ W hW=>by have:=hK W hW.2;rw [At4 hW.1] at this;exact this);refine Ba (λx W=>∃j:Nat,x=((j:Int),())/\j<=6/\(∀i,i<j->c.atom≠Y4.getD i 0)/\Ext w W) (λx _=>(6-x.1).toNat) ⟨0,rfl,iW _,λi hi=>by omega,eW⟩ ?_;rintro _ W1 ⟨j,rfl,hj,hno,eW1⟩;dsimp only;refine Ac (λhg=>?_) (λhg=>?_)
  ·simp only [iI] at hg;refine Ci λw2 e2 _=>?_;have h2:=h.ext (eW1.trans e2);refine h2.Oh (h2.cK ?_);obtain ⟨y,hy,hyv⟩:∃y:UInt8,({ data:=#[40,91,123,41,93,125] }:ByteArray)[((j:Int)).toNat]?=some y/\((y.toNat:Nat):Int)=Y4.getD j 0:=by
    rcases (by omega:j=0\/j=1\/j=2\/j=3\/j=4\/j=5) with rfl|rfl|rfl|rfl|rfl|rfl<;>exact ⟨_,rfl,rfl⟩
   have hyb:=y.toNat_lt;refine ⟨y,⟨by omega,hy⟩,Tz h2.row hc λw3 e3=>?_⟩;have e03:=(eW1.trans e2).trans e3;rw [wrap64 (by omega) (by omega),hyv];(have ew:W64 ((j:Int)+1)=((j+1:Nat):Int):=by rw [wrap64 (by omega) (by omega)];omega);rw [ew];refine Ac (λhe=>?_) (λhe=>?_);{simp only [jM] at he;have:=hK w3 e03;rw [Bu6 ha (by omega) he] at this;exact this};{simp only [jO,ne_eq] at he;refine ⟨⟨j+1,rfl,by omega,λi hi=>?_,e03⟩,by omega⟩;by_cases hij:i=j;{subst hij;exact he};{exact hno i (by omega)}}
  {simp only [iH] at hg;exact ⟨λi hi=>hno i (by omega),eW1⟩}
theorem Xg {f:Nat×Nat->Bool}{met:Value}{bm kk:Nat}{s c arg goal:Int}{cd past bg:Bool}{r0:RwT}(hm:w.heap[bm]?=some (mvO p s c (kk:Int) cd arg goal past bg r0)) (hk:kk<=9999) (h:Fa w b p A big q r)
  (hmet:∀q' r' W (K:Bool->Wp),Fa W b p A big q' r'->Plc A q'->(∀W',Ext W W'->K (f q') W')->Cj Tryz.prog (do let d ←Deferred.ofValue met #[.pointer (some (at0 b))];invoke d.target d.args:Sem Next) (.one (.one .bool)) K W)
  {K:Bool->Wp} (hF:(if kk=0 then some q else Oa A f q kk)=none->∀w',Upd (λk=>k=b) w w'->K false w')
  (hT:∀q' r' w',(if kk=0 then some q else Oa A f q kk)=some q'->Fa w' b p A big q' r'->Upd (λk=>k=b) w w'->K true w') :
  Aa Tryz.prog 188 #[.pointer (some (at0 bm)),.pointer (some (at0 b)),met] rB K w:=by refine Ei3 ?_;unfold F188;generalize htg:(if kk=0 then some q else Oa A f q kk)=tg at hF hT;refine Ae (λ_ W=>∃q' r',tg=some q'/\Fa W b p A big q' r'/\Upd (λk=>k=b) w W) ?_ (λ_ W ⟨q',r',h1,h2,h3⟩=>hT q' r' W h1 h2 h3);refine Am (Ce (off:=3) (x:=(kk:Int)) hm rfl ?_);refine P5 (λ(g:Nat×(Nat×Nat)×RwT) x W=>x=((g.1:Int),())/\g.1<=9999/\Fa W b p A big g.2.1 g.2.2/\Upd (λk=>k=b) w W/\(if g.1=0 then some g.2.1 else Oa A f g.2.1 g.1)=tg) (λg=>(aft A g.2.1).length) (kk,q,r) ⟨rfl,hk,h,Upd.refl _ _,htg⟩ ?_;rintro ⟨k,q',r'⟩ _ W R ⟨rfl,hk',hW,uW,ht⟩ hR;dsimp only at hW hk' ht hR ⊢;refine Ac (λhc=>?_) (λhc=>?_);{simp only [iI,kG] at hc;rw [aJ (by omega)] at ht;refine Sj hW (λhn W1 e1=>?_) (λq2 r2 W1 hn hW1 u1=>?_);{refine Bh (hF ?_ W1 (uW.trans (Upd.Ed e1)));rw [←ht];exact Br2 hn};{refine Ah (hmet q2 r2 W1 _ hW1 (Ab0 hW.on hn) λW2 e2=>?_);have u2:=(uW.trans u1).trans (Upd.Ed e2);(have hlen:(aft A q2).length<(aft A q').length:=by rw [Jv hn];simp);refine Ac (λhf=>?_) (λhf=>?_);{(have ew:W64 ((k:Int)-1)=((k-1:Nat):Int):=by rw [wrap64 (by omega) (by omega)];omega);rw [ew];refine hR (k-1,q2,r2) _ W2 ⟨rfl,by dsimp only;omega,hW1.ext e2,u2,?_⟩ hlen;dsimp only;rw [←ht];by_cases h1:k=1;{subst h1;rw [aF rfl,Cg3 hn hf]};{rw [aJ (by omega)];have:=Br3 (k:=k-1) hn hf (by omega);rw [show k-1+1=k by omega] at this;exact this.symm}};{refine hR (k,q2,r2) _ W2 ⟨rfl,hk',hW1.ext e2,u2,?_⟩ hlen;dsimp only;rw [aJ (by omega),←ht];exact (Cr1 hn hf).symm}}};{simp only [iH,kG] at hc;rw [aF (by omega)] at ht;exact ⟨q',r',ht.symm,hW,uW⟩}
theorem G8 {f:Nat×Nat->Bool}{met:Value}{bm kk:Nat}{s c arg goal:Int}{cd past bg:Bool}{r0:RwT}(hm:w.heap[bm]?=some (mvO p s c (kk:Int) cd arg goal past bg r0)) (hk:1<=kk/\kk<=9999) (h:Fa w b p A big q r)
  (hmet:∀q' r' W (K:Bool->Wp),Fa W b p A big q' r'->Plc A q'->(∀W',Ext W W'->K (f q') W')->Cj Tryz.prog (do let d ←Deferred.ofValue met #[.pointer (some (at0 b))];invoke d.target d.args:Sem Next) (.one (.one .bool)) K W)
  {K:Bool->Wp} (hF:Rx A f q kk=none->∀w',Upd (λk=>k=b) w w'->K false w')
  (hT:∀q' r' w',Rx A f q kk=some q'->Fa w' b p A big q' r'->Upd (λk=>k=b) w w'->K true w') :
  Aa Tryz.prog 190 #[.pointer (some (at0 bm)),.pointer (some (at0 b)),met] rB K w:=by refine Ei1 ?_;unfold F190;generalize htg:Rx A f q kk=tg at hF hT;refine Ae (λ_ W=>∃q' r',tg=some q'/\Fa W b p A big q' r'/\Upd (λk=>k=b) w W) ?_ (λ_ W ⟨q',r',h1,h2,h3⟩=>hT q' r' W h1 h2 h3);refine Am (Ce (off:=3) (x:=(kk:Int)) hm rfl ?_);refine P5 (λ(g:Nat×(Nat×Nat)×RwT) x W=>x=((g.1:Int),())/\g.1<=9999/\Fa W b p A big g.2.1 g.2.2/\Upd (λk=>k=b) w W/\(if g.1=0 then some g.2.1 else Rx A f g.2.1 g.1)=tg) (λg=>(bef A g.2.1).length) (kk,q,r) ⟨rfl,hk.2,h,Upd.refl _ _,by dsimp only;rw [aJ (by omega)];exact htg⟩ ?_;rintro ⟨k,q',r'⟩ _ W R ⟨rfl,hk',hW,uW,ht⟩ hR;dsimp only at hW hk' ht hR ⊢;refine Ac (λhc=>?_) (λhc=>?_);{simp only [iI,kG] at hc;rw [aJ (by omega)] at ht;refine Ad2 hW (λhn W1 e1=>?_) (λq2 r2 W1 hn hW1 u1=>?_);{refine Bh (hF ?_ W1 (uW.trans (Upd.Ed e1)));rw [←ht];exact Bt5 hn};{refine Ah (hmet q2 r2 W1 _ hW1 (Aa5 hW.on hn) λW2 e2=>?_);have u2:=(uW.trans u1).trans (Upd.Ed e2);(have hlen:(bef A q2).length<(bef A q').length:=by rw [Rw hn];simp);refine Ac (λhf=>?_) (λhf=>?_);{(have ew:W64 ((k:Int)-1)=((k-1:Nat):Int):=by rw [wrap64 (by omega) (by omega)];omega);rw [ew];refine hR (k-1,q2,r2) _ W2 ⟨rfl,by dsimp only;omega,hW1.ext e2,u2,?_⟩ hlen;dsimp only;rw [←ht];by_cases h1:k=1;{subst h1;rw [aF rfl,Cj4 hn hf]};{rw [aJ (by omega)];have:=Bt6 (k:=k-1) hn hf (by omega);rw [show k-1+1=k by omega] at this;exact this.symm}};{refine hR (k,q2,r2) _ W2 ⟨rfl,hk',hW1.ext e2,u2,?_⟩ hlen;dsimp only;rw [aJ (by omega),←ht];exact (Cv0 hn hf).symm}}};{simp only [iH,kG] at hc;rw [aF (by omega)] at ht;exact ⟨q',r',ht.symm,hW,uW⟩}
theorem Ap9 {W:World}{q':Nat×Nat}{r':RwT}{K:Bool->Wp}(h:Fa W b p A big q' r') (hp:Plc A q') (hK:∀W',Ext W W'->K (Ll A big q') W'):Cj Tryz.prog (do let d ←Deferred.ofValue (.func (.func 163) #[] #[]) #[.pointer (some (at0 b))];invoke d.target d.args:Sem Next) (.one (.one .bool)) K W :=
 func_x (caps:=#[]) (by kernel_rfl) (D8 h hp hK)
theorem Cr6 {W:World}{q':Nat×Nat}{r':RwT}{K:Bool->Wp}(h:Fa W b p A big q' r') (hp:Plc A q') (hK:∀W',Ext W W'->K (Vs A big q') W'):Cj Tryz.prog (do let d ←Deferred.ofValue (.func (.func 192) #[] #[]) #[.pointer (some (at0 b))];invoke d.target d.args:Sem Next) (.one (.one .bool)) K W :=
 func_x (caps:=#[]) (by kernel_rfl) (Ad3 h (λ_=>hp.row) hK)
theorem Ao4 {W:World}{q':Nat×Nat}{r':RwT}{K:Bool->Wp}(h:Fa W b p A big q' r') (hp:Plc A q') (hK:∀W',Ext W W'->K (Qe A big q') W'):Cj Tryz.prog (do let d ←Deferred.ofValue (.func (.func 191) #[] #[]) #[.pointer (some (at0 b))];invoke d.target d.args:Sem Next) (.one (.one .bool)) K W :=
 func_x (caps:=#[]) (by kernel_rfl) (Af6 h hK)
end
namespace Mot
variable {A:List Int}
theorem Cd2 (A:List Int) (x:Int) (past:Bool):Au A (Ak A x past:Int) past=Au A x past:=by obtain ⟨h1,h2,h3⟩:=Rj A x past;rw [←h2];exact Cn3 h1 h3
theorem Ci2 (A:List Int):Ak A (A.length:Int) false=Dv A:=by
 have hb:=Bc A;have hr:Cc A (A.length:Int) false=lnN A-1:=by
  unfold Cc ofI
  rw [aJ (by decide),Ut (fJ _),←Nh];omega
 have ok:=Cb (A:=A) (i:=lnN A-1) (by omega);unfold Ak;rw [hr,Ut (fJ _),aF (by have:=ok.tn;have:=ok.nl;omega),aJ (by decide)];rfl
def Ck7 (A:List Int) (x count:Int) (past big:Bool):Ld :=
 if (Hl (Bv A (Ll A big)) (Ak A x past+1) (kOf count)).getD (if past then (Aq A (lnN A-1)).to_ else Dv A)<=Ak A x past then noP 80
 else Bz A ((Hl (Bv A (Ll A big)) (Ak A x past+1) (kOf count)).getD (if past then (Aq A (lnN A-1)).to_ else Dv A)) 0
def Cv1 (A:List Int) (x count:Int) (past big:Bool):Ld :=
 if Ak A x past=0 then noP 80 else Bz A ((beforeL (Bv A (Ll A big)) (Ak A x past) (kOf count)).getD 0) 0
def Ck9 (A:List Int) (x count:Int) (past big:Bool):Ld :=
 if (Hl (Bv A (Qe A big)) (Ak A x past+1) (kOf count)).getD (Dv A)<=Ak A x past then noP 80
 else Bz A ((Hl (Bv A (Qe A big)) (Ak A x past+1) (kOf count)).getD (Dv A)) 1
def Cu7 (A:List Int) (x count:Int) (past big:Bool):Ld :=
 if Ak A x past=0 then noP 80 else Bz A ((beforeL (Bv A (Vs A big)) (Ak A x past) (kOf count)).getD 0) 1
def Cm5 (A:List Int) (x count:Int) (past big:Bool):Ld :=
 Bz A ((Hl (Bv A (Qe A big)) (Ak A x past) (kOf count)).getD (max (Dv A) (Ak A x past))) 1
theorem Da1 {big:Bool}{p:Nat×Nat}(h:On A p) (he:Qe A big p=true):Plc A p:=by have hb:=Bc A;have hg:=Bb1 A;have hr:=h.row;unfold Qe Vs at he;rw [aV,mY] at he;obtain ⟨h0,h1⟩:=he;rw [show ((Ag A p.1).length==0)=false by rw [jO];exact h0,bD,aV,aV,iI] at h1;refine ⟨?_,.inl h1.1.1⟩;rcases lT p.1 (lnN A) with u|u;{exact u};{have hp:p.1=brs A/\lnN A=brs A:=(by omega);have:=tail_nil hp.2;rw [hp.1] at h0;exact absurd this h0}
end Mot
section
variable {w w':World}{b p:Nat}{A:List Int}{x count arg goal:Int}{past big:Bool}{r:RwT}
structure TxN (w:World) (p:Nat) (A:List Int) (N:Nat):Prop where
 ex:∃e lim na O M,Txt w p e lim na O M/\atoms (aOf e M)=A/\∀k,O k->k<N
theorem TxA.n (h:TxA w p A):TxN w p A w.heap.size:=by obtain ⟨e,lim,na,O,M,h1,h2⟩:=h.ex;exact ⟨e,lim,na,O,M,h1,h2,h1.own⟩
theorem TxN.ext {N:Nat}(h:TxN w p A N) (x:Ext w w'):TxN w' p A N:=by obtain ⟨e,lim,na,O,M,h1,h2,h3⟩:=h.ex;exact ⟨e,lim,na,O,M,h1.ext x,h2,h3⟩
theorem TxN.toB {N:Nat}(h:TxN w p A N) (hb:N<=b):TxB w p A b:=by obtain ⟨e,lim,na,O,M,h1,h2,h3⟩:=h.ex;exact ⟨e,lim,na,O,M,h1,h2,λhO=>by have:=h3 b hO;omega⟩
theorem TxN.upd {N:Nat}{c:Array Value}{fr:Nat×Nat}{t:TypeId}(h:TxN w p A N) (hN:N<=b) (hb:w.heap[b]?=some (.cells c t fr)) (ht:162≠t) (u:Upd (λk=>k=b) w w'):TxN w' p A N:=by obtain ⟨e,lim,na,O,M,h1,h2,h3⟩:=h.ex;refine ⟨e,lim,na,O,M,h1.upd u (λk hk hk2=>by subst hk2;have:=h3 k hk;omega) (λk hk c' fr' hn=>?_),h2,h3⟩;subst hk;rw [hb] at hn;cases hn;exact ht rfl
theorem Bg7 {s c k arg goal:Int}{cd past bg:Bool}{r0:RwT}(ht:TxA w p A) (hm:w.heap[b]?=some (mvO p s c k cd arg goal past bg r0)){n:Nat}{kind:Int}{K:LdT->Wp}(hK:∀w',Ext w w'->K (ldT (Bz A n kind)) w') :
  Aa Tryz.prog 180 #[.pointer (some (at0 b)),.int .i64 (n:Int),.int .i64 kind] (.tup [(.agg c83),(.one (.int .i64))]) K w:=by refine Dm3 ?_;unfold F180;refine (St.start w).Af λb1 w1 S1 e1=>Am (Ce (off:=0) (x:=some (at0 p)) (e1.ext_get hm) rfl (Qp (ht.ext e1) λw2 e2=>?_));exact (S1.ext e2).Ad 0 rfl rfl rfl rfl λw3 S3 _=>S3.lds 0 (ldT (Bz A n kind)).1 rfl (hK w3 S3.upd)
theorem Tv {s c k arg goal:Int}{cd past bg:Bool}{r0:RwT}(ht:TxA w p A) (hm:w.heap[b]?=some (mvO p s c k cd arg goal past bg r0)){K:Int->Wp}(hK:∀w',Ext w w'->K (Dv A:Int) w') :
  Aa Tryz.prog 189 #[.pointer (some (at0 b))] rI K w:=by refine Ei2 ?_;unfold F189;refine Ci λw1 e1 _=>?_;have m1:=e1.ext_get hm;refine Am (Ce (off:=0) (x:=some (at0 p)) m1 rfl (Am (Ce (off:=0) (x:=some (at0 p)) m1 rfl ((ht.ext e1).Di1 λw2 e2=>?_))));refine Bg (cell_of (off:=0) (e2.ext_get m1) rfl) (Ns ((ht.ext e1).ext e2) λw3 e3=>?_);rw [Ci2];exact hK w3 ((e1.trans e2).trans e3)
theorem Nr (h:Dl w b p A x count arg goal past big r){K:Option Addr->Wp}(hK:∀bw r' w',Fa w' bw p A big (Au A x past) r'->w.heap.size<=bw->Ext w w'->K (some (at0 bw)) w') :
  Aa Tryz.prog 187 #[.pointer (some (at0 b))] rP K w:=by refine Ei4 ?_;unfold F187;refine Ci λw1 e1 _=>?_;have h1:=h.ext e1;refine h1.tK (h1.sK (h1.Cn6 (h1.Uz (U8 h1.tx (Nl A x past).clamp λbw r' w2 hw hge e2=>?_))));rw [Cd2] at hw;exact hK bw r' w2 hw (fK e1.size hge) (e1.trans e2)
theorem walked {w2 w3:World}{bw:Nat}(e:Ext w w2) (hge:w.heap.size<=bw) (u:Upd (λk=>k=bw) w2 w3):Ext w w3:=e.step u λk hk=>by subst hk;exact hge
theorem Ax2 (f:Nat×Nat->Bool) (A:List Int) (x:Int) (past:Bool) (k:Nat):Hl (Bv A f) (Ak A x past+1) k=(Oa A f (Au A x past) k).map (Bo A):=by obtain ⟨h1,h2,_⟩:=Rj A x past;rw [←h2];exact Cj5 f h1 k
theorem Ax0 (f:Nat×Nat->Bool) (A:List Int) (x:Int) (past:Bool) (k:Nat):beforeL (Bv A f) (Ak A x past) k=(Rx A f (Au A x past) k).map (Bo A):=by obtain ⟨h1,h2,_⟩:=Rj A x past;rw [←h2];exact Bt3 f h1 k
theorem Bm2 (h:Dl w b p A x count arg goal past big r){K:LdT->Wp}(hK:∀w',Ext w w'->K (ldT (Ck7 A x count past big)) w') :
  Aa Tryz.prog 152 #[.pointer (some (at0 b))] (.tup [(.agg c83),(.one (.int .i64))]) K w:=by refine El2 ?_;unfold F152;have hb:=Bc A;have hA:=h.row.len;have hbl:=Gl A;unfold Ck7 at hK;rw [Ax2] at hK;refine (St.start w).Af λb1 w1 S1 e1=>Nr (h.ext e1) λbw r' w2 hw hge e2=>?_;have h2:=(h.ext e1).ext e2;generalize hto:((Oa A (Ll A big) (Au A x past) (kOf count)).map (Bo A)).getD (if past then (Aq A (lnN A-1)).to_ else Dv A)=to at hK;refine Ae (λy W=>y=((to:Int),())/\Ext w1 W) ?_ ?_;{refine Xg (f:=Ll A big) (kk:=kOf count) h2.obj (An3 count) hw (λq' r' W K=>Ap9) (λhF w3 u3=>?_) (λq' r3 w3 hT hw3 u3=>?_);{have hk:=Ud count;rw [aJ (by omega)] at hF;rw [hF] at hto;have e3:=walked e2 hge u3;have h3:=(h.ext e1).ext e3;refine Ah (Tv h3.tx h3.obj λw4 e4=>?_);have h4:=h3.ext e4;refine h4.Cn6 (Ac (λhp=>?_) (λhp=>?_));{rw [aF hp] at hto;refine Ci λw5 e5 _=>?_;have h5:=h4.ext e5;refine h5.tK (h5.tK (h5.tx.count λw6 e6=>(h5.ext e6).F6 ?_));(have ewl:W64 ((lnN A:Int)-1)=((lnN A-1:Nat):Int):=by rw [wrap64 (by omega) (by omega)];omega);rw [ewl];refine Ic (h5.ext e6).tx (by omega) λr6 w7 hr7 e7=>⟨?_,(((e3.trans e4).trans e5).trans e6).trans e7⟩;rw [hr7.t,←hto];rfl};{rw [aJ (by rw [hp];decide)] at hto;exact ⟨by rw [←hto];rfl,e3.trans e4⟩}};{have hk:=Ud count;rw [aJ (by omega)] at hT;rw [hT] at hto;refine Bh (Om hw3 λw4 e4=>⟨?_,(walked e2 hge u3).trans e4⟩);rw [←hto];rfl}};rintro _ W ⟨rfl,eW⟩;have hW:=(h.ext e1).ext eW;have SW:=S1.ext eW;refine hW.sK (Ac (λhc=>?_) (λhc=>?_));{simp only [iI] at hc;rw [aF (by omega)] at hK;exact Df λw3 e3=>Dx (SW.ext e3) hK};{simp only [iH] at hc;rw [aJ (by omega)] at hK;exact Ee hW λw3 e3=>Dx (SW.ext e3) hK}
theorem Ca5 (h:Dl w b p A x count arg goal past big r){K:LdT->Wp}(hK:∀w',Ext w w'->K (ldT (Ck9 A x count past big)) w') :
  Aa Tryz.prog 154 #[.pointer (some (at0 b))] (.tup [(.agg c83),(.one (.int .i64))]) K w:=by refine El0 ?_;unfold F154;unfold Ck9 at hK;rw [Ax2] at hK;refine (St.start w).Af λb1 w1 S1 e1=>Nr (h.ext e1) λbw r' w2 hw hge e2=>?_;have h2:=(h.ext e1).ext e2;generalize hto:((Oa A (Qe A big) (Au A x past) (kOf count)).map (Bo A)).getD (Dv A)=to at hK;refine Ae (λy W=>y=((to:Int),())/\Ext w1 W) ?_ ?_;{refine Xg (f:=Qe A big) (kk:=kOf count) h2.obj (An3 count) hw (λq' r' W K=>Ao4) (λhF w3 u3=>?_) (λq' r3 w3 hT hw3 u3=>?_);{have hk:=Ud count;rw [aJ (by omega)] at hF;rw [hF] at hto;have e3:=walked e2 hge u3;have h3:=(h.ext e1).ext e3;refine Ah (Tv h3.tx h3.obj λw4 e4=>⟨?_,e3.trans e4⟩);rw [←hto];rfl};{have hk:=Ud count;rw [aJ (by omega)] at hT;rw [hT] at hto;refine Bh (Om hw3 λw4 e4=>⟨?_,(walked e2 hge u3).trans e4⟩);rw [←hto];rfl}};rintro _ W ⟨rfl,eW⟩;have hW:=(h.ext e1).ext eW;have SW:=S1.ext eW;refine hW.sK (Ac (λhc=>?_) (λhc=>?_));{simp only [iI] at hc;rw [aF (by omega)] at hK;exact Df λw3 e3=>Dx (SW.ext e3) hK};{simp only [iH] at hc;rw [aJ (by omega)] at hK;exact Ee hW λw3 e3=>Dx (SW.ext e3) hK}
theorem Cj3 (h:Dl w b p A x count arg goal past big r){K:LdT->Wp}(hK:∀w',Ext w w'->K (ldT (Cv1 A x count past big)) w') :
  Aa Tryz.prog 153 #[.pointer (some (at0 b))] (.tup [(.agg c83),(.one (.int .i64))]) K w:=by refine El1 ?_;unfold F153;unfold Cv1 at hK;rw [Ax0] at hK;refine (St.start w).Af λb1 w1 S1 e1=>Nr (h.ext e1) λbw r' w2 hw hge e2=>?_;have h2:=(h.ext e1).ext e2;refine h2.sK (Ac (λhc=>?_) (λhc=>?_));{simp only [jM] at hc;rw [aF (by omega)] at hK;exact Df λw3 e3=>Dx ((S1.ext e2).ext e3) hK};{simp only [jO,ne_eq] at hc;rw [aJ (by omega)] at hK;refine G8 (f:=Ll A big) (kk:=kOf count) h2.obj ⟨Ud count,An3 count⟩ hw (λq' r' W K=>Ap9) (λhF w3 u3=>?_) (λq' r3 w3 hT hw3 u3=>?_);{rw [hF] at hK;have e3:=walked e2 hge u3;exact Bh (Ee (n:=0) ((h.ext e1).ext e3) λw4 e4=>Dx ((S1.ext e3).ext e4) hK)};{rw [hT] at hK;have e3:=walked e2 hge u3;exact Ah (Om hw3 λw4 e4=>Ee (((h.ext e1).ext e3).ext e4) λw5 e5=>Dx (((S1.ext e3).ext e4).ext e5) hK)}}
theorem Cj2 (h:Dl w b p A x count arg goal past big r){K:LdT->Wp}(hK:∀w',Ext w w'->K (ldT (Cu7 A x count past big)) w') :
  Aa Tryz.prog 155 #[.pointer (some (at0 b))] (.tup [(.agg c83),(.one (.int .i64))]) K w:=by refine Ek9 ?_;unfold F155;unfold Cu7 at hK;rw [Ax0] at hK;refine (St.start w).Af λb1 w1 S1 e1=>Nr (h.ext e1) λbw r' w2 hw hge e2=>?_;have h2:=(h.ext e1).ext e2;refine h2.sK (Ac (λhc=>?_) (λhc=>?_));{simp only [jM] at hc;rw [aF (by omega)] at hK;exact Df λw3 e3=>Dx ((S1.ext e2).ext e3) hK};{simp only [jO,ne_eq] at hc;rw [aJ (by omega)] at hK;refine G8 (f:=Vs A big) (kk:=kOf count) h2.obj ⟨Ud count,An3 count⟩ hw (λq' r' W K=>Cr6) (λhF w3 u3=>?_) (λq' r3 w3 hT hw3 u3=>?_);{rw [hF] at hK;have e3:=walked e2 hge u3;exact Bh (Ee (n:=0) ((h.ext e1).ext e3) λw4 e4=>Dx ((S1.ext e3).ext e4) hK)};{rw [hT] at hK;have e3:=walked e2 hge u3;exact Ah (Om hw3 λw4 e4=>Ee (((h.ext e1).ext e3).ext e4) λw5 e5=>Dx (((S1.ext e3).ext e4).ext e5) hK)}}
theorem Cx7 (A:List Int) (x:Int) (past big:Bool){k kk:Nat}(hk:1<=k) (hkk:kk=if Qe A big (Au A x past) then k-1 else k):Hl (Bv A (Qe A big)) (Ak A x past) k=(if kk=0 then some (Au A x past) else Oa A (Qe A big) (Au A x past) kk).map (Bo A):=by
 obtain ⟨h1,h2,_⟩:=Rj A x past;unfold Hl;rw [←h2,Bq0 _ h1 (λhe=>Da1 h1 he),gX];congr 1;unfold Oa;cases he:Qe A big (Au A x past) with
 |true=>rw [he,aF rfl] at hkk;rw [aF rfl];by_cases h0:kk=0;{rw [aF h0,show k-1=0 by omega];rfl};{rw [aJ h0];obtain ⟨m,hm⟩:∃m,k-1=m+1:=⟨k-2,by omega⟩;rw [hm,show kk-1=m by omega];rfl}
 |false=>rw [he,aJ (by decide)] at hkk;rw [aJ (by decide),aJ (by omega),hkk];rfl
theorem Cc6 {N:Nat}(h:Dl w b p A x count arg goal past big r) (hB:TxN w p A N) (hN:N<=b){K:LdT->Wp}(hK:∀w',Upd (λk=>k=b) w w'->K (ldT (Cm5 A x count past big)) w') :
  Aa Tryz.prog 156 #[.pointer (some (at0 b))] (.tup [(.agg c83),(.one (.int .i64))]) K w:=by
 refine Ek8 ?_;unfold F156;obtain ⟨m1,m2,m3,m4,m5,m6,m7⟩:=h.bounds;unfold Cm5 at hK;obtain ⟨kk,hkk⟩:∃kk,kk=if Qe A big (Au A x past) then kOf count-1 else kOf count:=⟨_,rfl⟩;rw [Cx7 A x past big m4 hkk] at hK;have hbs:b<w.heap.size:=lt_of_heap h.obj;refine (St.Cl6 (λk=>k=b) w (λk hk=>by subst hk;exact hbs)).Af λb1 w1 S1 e1=>Nr (h.ext e1) λbw r' w2 hw hge e2=>?_;have S1:St (λk=>k=b) w w1 [(b1,ldZ)]:=S1;have h2:=(h.ext e1).ext e2;have hB2:=(hB.ext e1).ext e2;(have hbw:b≠bw:=by have:=e1.size;omega);refine Ae (λ_ W=>∃rw',W.heap[b]?=some (mvO p (Ak A x past:Int) ((Au A x past).2:Int) (kk:Int) (decide (0<count)) arg goal past big r)/\Fa W bw p A big (Au A x past) rw'/\St (λk=>k=b) w W [(b1,ldZ)]/\w1.heap.size<=W.heap.size) ?_ ?_;{refine Af6 hw λw3 e3=>?_;have h3:=h2.ext e3;have S3:=(S1.ext e2).ext e3;have hsz:w1.heap.size<=w3.heap.size:=fK e2.size e3.size;refine Ac (λhc=>?_) (λhc=>?_);{rw [hc,aF rfl] at hkk;refine h3.kK (Am ?_);(have ew:W64 ((kOf count:Int)-1)=(kk:Int):=by rw [wrap64 (by omega) (by omega)];omega);rw [ew];refine Jm (off:=3) h3.obj (by show 3<16;decide) λw4 u4 n4 hsz4=>?_;have hw3:=hw.ext e3;have hB3:=hB2.ext e3;refine ⟨_,n4,⟨?_,u4.get hw3.obj (λhh=>hbw hh.symm),hw3.row.box h3.obj (by decide) u4,hw3.on⟩,S3.step u4 λk hk=>hk,by omega⟩;exact (hB3.upd hN h3.obj (by decide) u4).toB (by have:=e1.size;omega)};{rw [hc,aJ (by decide)] at hkk;subst hkk;exact ⟨_,h3.obj,hw.ext e3,S3,hsz⟩}};rintro _ W ⟨rw',hm,hwW,SW,hszW⟩;refine Xg (f:=Qe A big) (kk:=kk) hm (by rw [hkk];split<;>omega) hwW (λq' r' W K=>Ao4) (λhF w3 u3=>?_) (λq' r3 w3 hT hw3 u3=>?_)
 ·rw [hF] at hK;have S3:=SW.fresh u3 (λk hk=>.inr (by subst hk;exact fK e1.size hge)) (λy hy hk=>by
   rw [iT.1 hy] at hk
   have:=lt_of_heap (S1.at_ 0 rfl)
   dsimp only at hk
   omega)
  have hm3:=u3.get hm hbw;have t3:TxA w3 p A:=(hwW.tx.upd hwW.obj (by decide) u3).ta;refine Ah (Ci λw4 e4 _=>?_);have hm4:=e4.ext_get hm3;refine Am (Ce (off:=1) (x:=(Ak A x past:Int)) hm4 rfl (Tv (t3.ext e4) hm4 λw5 e5=>?_));have hm5:=e5.ext_get hm4;refine Bg (cell_of (off:=1) hm5 rfl) ?_;have em:(if (Ak A x past:Int)>(Dv A:Int) then (Ak A x past:Int) else (Dv A:Int))=((max (Dv A) (Ak A x past):Nat):Int):=(by split<;>omega);rw [em];refine Bg7 ((t3.ext e4).ext e5) hm5 λw6 e6=>?_;have S6:=((S3.ext e4).ext e5).ext e6;exact S6.Ad 0 rfl rfl rfl rfl λw7 S7 _=>S7.lds 0 (ldT (Bz A (max (Dv A) (Ak A x past)) 1)).1 rfl (hK w7 S7.upd)
 ·rw [hT] at hK;have S3:=SW.fresh u3 (λk hk=>.inr (by subst hk;exact fK e1.size hge)) (λy hy hk=>by
   rw [iT.1 hy] at hk
   have:=lt_of_heap (S1.at_ 0 rfl)
   dsimp only at hk
   omega)
  have hm3:=u3.get hm hbw;refine Bh (Om hw3 λw4 e4=>Bg7 (hw3.tx.ta.ext e4) (e4.ext_get hm3) λw5 e5=>?_);have S5:=(S3.ext e4).ext e5;exact S5.Ad 0 rfl rfl rfl rfl λw7 S7 _=>S7.lds 0 (ldT (Bz A (Bo A q') 1)).1 rfl (hK w7 S7.upd)
end
namespace Mot
variable {A:List Int}
def paN (A:List Int) (j:Nat):Bool:=Ez A j&&!Ez A (j-1)
def paP (A:List Int) (j:Nat):Bool:=Ez A j&&!Ez A (j+1)
theorem Bp1 (A:List Int) (x count:Int):Gx A x 31 count=(match upF (paN A) ((Au A x false).1+1) (lnN A) (kOf count) with
  |some j=>Bz A (Aq A j).from_ 0
  |none=>if Dv A=Ak A x false then noP 80 else Bz A (Dv A) 1):=by
 unfold Gx Au
 dsimp only
 rw [Dy,aF rfl];rfl
theorem Bp0 (A:List Int) (x count:Int):Gx A x 32 count=(match dnF (paP A) (Au A x false).1 (kOf count) with
  |some j=>Bz A (Aq A j).from_ 0
  |none=>if Ak A x false=0 then noP 80 else Bz A 0 0):=by
 unfold Gx Au
 dsimp only
 rw [Dy,aJ (by decide),aF rfl];rfl
theorem Bf3 {N:Nat}:∀(l:List Nat) (a:Nat),l.Pairwise (·<·)->(∀x∈l,a<=x/\x<=N)->l.length+a<=N+1\/l=[]
 |[],_,_,_=>.inr rfl
 |y::l,a,h,hb=>by
  left
  rw [pK] at h
  have hy:=hb y aH
  rcases Bf3 l (y+1) h.2 (λx hx=>⟨h.1 x hx,(hb x (aI _ hx)).2⟩) with hh|hh
  ·rw [dB];omega
  ·rw [hh];simp;omega
theorem Bd8 {p:Nat×Nat}(h:Plc A p):(aft A p).length<=A.length+1/\(bef A p).length<=A.length+1:=by
 have hr:=Aq5 A;rw [Qw h] at hr;have hall:∀q,q∈(bef A p).reverse++p::aft A p->Bo A q<=A.length:=λq hq=>by
  rw [←Qw h] at hq
  exact Py (Ba9.1 hq).on.row _
 (have h2:(((bef A p).reverse++p::aft A p).map (Bo A)).Pairwise (·<·):=by rw [oP];exact hr);rcases Bf3 (N:=A.length) _ 0 h2 (λx hx=>by
  obtain ⟨q,hq,rfl⟩:=gY.1 hx
  exact ⟨iW _,hall q hq⟩) with hh|hh
 {rw [gW,iE,pY,dB] at hh;omega};{simp at hh}
end Mot
section
variable {w w':World}{b p:Nat}{A:List Int}{x count arg goal g:Int}{past big:Bool}{r:RwT}
set_option maxHeartbeats 2000000 in
theorem Bo7 (h:Dl w b p A x count arg goal false big r){K:LdT->Wp}(hK:∀w',Ext w w'->K (ldT (Gx A x 31 count)) w') :
  Aa Tryz.prog 157 #[.pointer (some (at0 b))] (.tup [(.agg c83),(.one (.int .i64))]) K w:=by refine Ek7 ?_;unfold F157;obtain ⟨m1,m2,m3,m4,m5,m6,m7⟩:=h.bounds;have hb:=Bc A;have hA:=h.row.len;have hbl:=Gl A;rw [Bp1] at hK;have ewl:W64 ((lnN A:Int)-1)=(lnN A:Int)-1:=wrap64 (by omega) (by omega);refine (St.start w).Af λb1 w1 S1 e1=>S1.drew λw2 S2 e2 _=>?_;have h2:=(h.ext e1).ext e2;refine h2.Oh (h2.tK (Ua h2.row λw3 e3=>(h2.ext e3).F6 ((h2.ext e3).tx.count λw4 e4=>?_)));have h4:=(h2.ext e3).ext e4;have S4:=(S2.ext e3).ext e4;have S4:St (λ_=>False) w w4 [(b1,ldZ)]:=S4;refine h4.kK (Ae (λ_ W=>upF (paN A) ((Au A x false).1+1) (lnN A) (kOf count)=none/\St (λ_=>False) w W [(b1,ldZ)]) ?_ ?_);{refine h4.Yk ?_;rw [h.row.num,wrap64 (a:=((Au A x false).1:Int)+1) (by omega) (by omega),ewl];refine Ba (λs W=>∃k i:Nat,s=(Ez A (i-1),(k:Int),(i:Int),())/\1<=k/\k<=9999/\1<=i/\i<=brs A+1/\upF (paN A) ((Au A x false).1+1) (lnN A) (kOf count)=upF (paN A) i (lnN A) k/\St (λ_=>False) w W [(b1,ldZ)]) (λs _=>((brs A:Int)+1-s.2.2.1).toNat) ⟨kOf count,(Au A x false).1+1,by simp,m4,m5,by omega,by omega,rfl,S4⟩ ?_;rintro _ W ⟨k,i,rfl,k1,k2,i1,i2,hu,SW⟩;dsimp only;have hW:=h.ext SW.upd;refine Ac (λhc=>?_) (λhc=>?_);{simp only [iI] at hc;refine hW.tK (Ic hW.tx (i:=i) (by omega) λr1 w5 hr1 e5=>?_);refine (SW.ext e5).Af λb19 w6 S6 e6=>S6.Ad 0 rfl rfl rfl rfl λw7 S7 u7=>?_;have S7:St (λ_=>False) w w7 [(b19,rwO r1),(b1,ldZ)]:=S7;have hr7:=(hr1.ext e6).box (S6.at_ 0 rfl) (by decide) u7;refine S7.lds 0 r1 rfl (Ua hr7 λw8 e8=>?_);have S8:=S7.ext e8;have h8:=h.ext S8.upd;(have ewi:W64 ((i:Int)+1)=((i+1:Nat):Int):=by rw [wrap64 (by omega) (by omega)];omega);(have ewk:W64 ((k:Int)-1)=((k-1:Nat):Int):=by rw [wrap64 (by omega) (by omega)];omega);rw [ewi,ewk];refine Ae (λy W'=>∃k':Nat,y=((k':Int),())/\1<=k'/\k'<=9999/\upF (paN A) i (lnN A) k=upF (paN A) (i+1) (lnN A) k'/\St (λ_=>False) w W' [(b1,ldZ)]) ?_ ?_;{refine Ae (λy W'=>y=(paN A i,())/\w8=W') ?_ ?_;{unfold paN;refine Ac (λhg=>⟨?_,rfl⟩) (λhg=>⟨?_,rfl⟩);{rw [hg,lD]};{rw [hg,lW]}};rintro _ _ ⟨rfl,rfl⟩;refine Ac (λhf=>?_) (λhf=>?_);{have hf:paN A i=true:=hf;refine Ac (λhz=>?_) (λhz=>?_);{simp only [jM] at hz;have:k=1:=(by omega);subst this;refine S8.ld (off:=0) 0 rfl (x:=r1.1) rfl ?_;rw [hr1.f];refine Ee h8 λw9 e9=>?_;rw [hu,Ag6 (by omega) hf] at hK;exact Dx (S8.ext e9).tail hK};{simp only [jO,ne_eq] at hz;refine ⟨k-1,rfl,by omega,by omega,?_,S8.tail⟩;have:=O4 (n:=lnN A) (k:=k-1) (show i<lnN A by omega) hf (by omega);rw [show k-1+1=k by omega] at this;exact this}};{exact ⟨k,rfl,k1,k2,Ay0 (by omega) hf,S8.tail⟩}};rintro _ W9 ⟨k',rfl,k1',k2',hu',S9⟩;exact ⟨⟨k',i+1,by rw [nR],k1',k2',by omega,by omega,hu.trans hu',S9⟩,by omega⟩};{simp only [iH] at hc;exact ⟨hu.trans (O1 (by omega)),SW⟩}};rintro _ W ⟨hn,SW⟩;have hW:=h.ext SW.upd;rw [hn] at hK;have hK:∀w',Ext w w'->K (ldT (if Dv A=Ak A x false then noP 80 else Bz A (Dv A) 1)) w':=hK;refine Tv hW.tx hW.obj λw3 e3=>?_;have h3:=hW.ext e3;refine h3.sK (Ac (λhc=>?_) (λhc=>?_));{simp only [mY,ne_eq] at hc;have he:¬Dv A=Ak A x false:=(by omega);rw [aJ he] at hK;exact Ee h3 λw5 e5=>Dx ((SW.ext e3).ext e5) hK};{simp only [mZ] at hc;have he:Dv A=Ak A x false:=(by omega);rw [aF he] at hK;exact Df λw5 e5=>Dx ((SW.ext e3).ext e5) hK}
set_option maxHeartbeats 2000000 in
theorem Bo6 (h:Dl w b p A x count arg goal false big r){K:LdT->Wp}(hK:∀w',Ext w w'->K (ldT (Gx A x 32 count)) w') :
  Aa Tryz.prog 158 #[.pointer (some (at0 b))] (.tup [(.agg c83),(.one (.int .i64))]) K w:=by refine Ek6 ?_;unfold F158;obtain ⟨m1,m2,m3,m4,m5,m6,m7⟩:=h.bounds;have hb:=Bc A;have hA:=h.row.len;have hbl:=Gl A;rw [Bp0] at hK;refine (St.start w).Af λb1 w1 S1 e1=>?_;have h1:=h.ext e1;refine h1.Oh (Ua h1.row λw4 e4=>?_);have h4:=h1.ext e4;have S4:=S1.ext e4;have S4:St (λ_=>False) w w4 [(b1,ldZ)]:=S4;refine h4.kK (Ae (λ_ W=>dnF (paP A) (Au A x false).1 (kOf count)=none/\St (λ_=>False) w W [(b1,ldZ)]) ?_ ?_);{refine h4.Yk ?_;rw [h.row.num,wrap64 (a:=((Au A x false).1:Int)-1) (by omega) (by omega)];refine Ba (λs W=>∃k i:Nat,s=(Ez A i,(k:Int),(i:Int)-1,())/\1<=k/\k<=9999/\i<=brs A/\dnF (paP A) (Au A x false).1 (kOf count)=dnF (paP A) i k/\St (λ_=>False) w W [(b1,ldZ)]) (λs _=>(s.2.2.1+1).toNat) ⟨kOf count,(Au A x false).1,rfl,m4,m5,m6,rfl,S4⟩ ?_;rintro _ W ⟨k,i,rfl,k1,k2,i2,hu,SW⟩;dsimp only;have hW:=h.ext SW.upd;refine Ac (λhc=>?_) (λhc=>?_);{simp only [iI,jT] at hc;obtain ⟨m,rfl⟩:∃m,i=m+1:=⟨i-1,by omega⟩;have em:((m+1:Nat):Int)-1=(m:Int):=(by omega);rw [em];refine hW.tK (Ic hW.tx (i:=m) (by omega) λr1 w5 hr1 e5=>?_);refine (SW.ext e5).Af λb19 w6 S6 e6=>S6.Ad 0 rfl rfl rfl rfl λw7 S7 u7=>?_;have S7:St (λ_=>False) w w7 [(b19,rwO r1),(b1,ldZ)]:=S7;have hr7:=(hr1.ext e6).box (S6.at_ 0 rfl) (by decide) u7;refine S7.lds 0 r1 rfl (Ua hr7 λw8 e8=>?_);have S8:=S7.ext e8;have h8:=h.ext S8.upd;have ewi:W64 ((m:Int)-1)=(m:Int)-1:=wrap64 (by omega) (by omega);(have ewk:W64 ((k:Int)-1)=((k-1:Nat):Int):=by rw [wrap64 (by omega) (by omega)];omega);rw [ewi,ewk];refine Ae (λy W'=>∃k':Nat,y=((k':Int),())/\1<=k'/\k'<=9999/\dnF (paP A) (m+1) k=dnF (paP A) m k'/\St (λ_=>False) w W' [(b1,ldZ)]) ?_ ?_;{refine Ae (λy W'=>y=(paP A m,())/\w8=W') ?_ ?_;{unfold paP;refine Ac (λhg=>⟨?_,rfl⟩) (λhg=>⟨?_,rfl⟩);{rw [hg,lD]};{rw [hg,lW]}};rintro _ _ ⟨rfl,rfl⟩;refine Ac (λhf=>?_) (λhf=>?_);{have hf:paP A m=true:=hf;refine Ac (λhz=>?_) (λhz=>?_);{simp only [jM] at hz;have:k=1:=(by omega);subst this;refine S8.ld (off:=0) 0 rfl (x:=r1.1) rfl ?_;rw [hr1.f];refine Ee h8 λw9 e9=>?_;rw [hu,Ah9 hf] at hK;exact Dx (S8.ext e9).tail hK};{simp only [jO,ne_eq] at hz;refine ⟨k-1,rfl,by omega,by omega,?_,S8.tail⟩;have:=X6 (j:=m) (k:=k-1) hf (by omega);rw [show k-1+1=k by omega] at this;exact this}};{exact ⟨k,rfl,k1,k2,Bb8 hf,S8.tail⟩}};rintro _ W9 ⟨k',rfl,k1',k2',hu',S9⟩;exact ⟨⟨k',m,rfl,k1',k2',by omega,hu.trans hu',S9⟩,by omega⟩};{simp only [iH,jT] at hc;have:i=0:=(by omega);subst this;exact ⟨hu,SW⟩}};rintro _ W ⟨hn,SW⟩;have hW:=h.ext SW.upd;rw [hn] at hK;have hK:∀w',Ext w w'->K (ldT (if Ak A x false=0 then noP 80 else Bz A 0 0)) w':=hK;refine hW.sK (Ac (λhc=>?_) (λhc=>?_));{simp only [jM] at hc;rw [aF (by omega)] at hK;exact Df λw5 e5=>Dx (SW.ext e5) hK};{simp only [jO,ne_eq] at hc;rw [aJ (by omega)] at hK;exact Ee (n:=0) hW λw5 e5=>Dx (SW.ext e5) hK}
theorem Dn4 (a b:Nat):((Int.tmod (a:Int) 3) !=(Int.tmod (b:Int) 3))=decide (a%3≠b%3):=by rw [mW (by omega),mW (by omega),gV,mY,iI];omega
set_option maxHeartbeats 2000000 in
theorem Ba7 (h:Dl w b p A x count arg goal false big r){K:LdT->Wp}(hK:∀w',Ext w w'->K (ldT (Gx A x 33 0)) w') :
  Aa Tryz.prog 159 #[.pointer (some (at0 b))] (.tup [(.agg c83),(.one (.int .i64))]) K w:=by
 refine Ek5 ?_;unfold F159;obtain ⟨o1,o2,o3⟩:=Rj A x false;have hpl:=o3 rfl;have hA:=h.row.len;obtain ⟨l1,l2⟩:=Bd8 hpl;have hM:=Bp8 hpl;rw [Yg,Dy,←o2,show Cc A x false=(Au A x false).1 from rfl,hM] at hK;refine (St.start w).Af λb1 w1 S1 e1=>Nr (h.ext e1) λbw r' w2 hw hge e2=>?_;refine Am ?_;have nn0:∀{W:World} {K:Int->Wp} {q:Nat×Nat} {r0:RwT},Fa W bw p A big q r0->K (q.1:Int) W->ld (.int .i64) (((at0 bw).add 1).add 4) K W:=λhh hk=>by
  rw [←hh.row.num] at hk
  exact Ce (off:=5) hh.obj rfl hk
 refine nn0 hw ?_;have xt:∀{W:World},Upd (λk=>k=bw) w2 W->Ext w1 W:=λu=>walked e2 hge u;refine Ae (λ_ W=>∃q r0 n,headB A (Au A x false).1 (Au A x false)=some (q,n)/\Uy A q=some n/\Plc A q/\Fa W bw p A big q r0/\Upd (λk=>k=bw) w2 W) ?_ ?_
 ·refine P5 (λ(g:(Nat×Nat)×RwT) (_:Unit) W=>Fa W bw p A big g.1 g.2/\Plc A g.1/\g.1.1=(Au A x false).1/\headB A (Au A x false).1 (Au A x false)=headB A (Au A x false).1 g.1/\Upd (λk=>k=bw) w2 W) (λg=>(aft A g.1).length) (Au A x false,r') ⟨hw,hpl,rfl,rfl,Upd.refl _ _⟩ ?_;rintro ⟨q,r0⟩ _ W R ⟨hW,hq,hq1,hh,uW⟩ hR;dsimp only at hW hq hq1 hh hR ⊢;refine Xl hW λw3 e3=>?_;have hW3:=hW.ext e3;have u3:=uW.trans (Upd.Ed e3);cases hbr:Uy A q with
  |some n=>refine Ac (λhc=>by simp at hc;omega) (λ_=>?_);refine ⟨q,r0,n,?_,hbr,hq,hW3,u3⟩;rw [hh,←hq1];exact Bq9 hbr
  |none=>refine Ac (λ_=>?_) (λhc=>by simp at hc);refine Ae (λy W'=>(y=(true,())/\headB A (Au A x false).1 (Au A x false)=none/\Upd (λk=>k=bw) w2 W')\/(y=(false,())/\∃q2 r2,Il A q=some q2/\Fa W' bw p A big q2 r2/\Plc A q2/\q2.1=(Au A x false).1/\Upd (λk=>k=bw) w2 W')) ?_ ?_;{refine Sj hW3 (λhn w4 e4=>Bh (.inl ⟨rfl,?_,u3.trans (Upd.Ed e4)⟩)) (λq2 r2 w4 hn hW4 u4=>Ah (Am (nn0 hW4 ?_)));{rw [hh];exact Bq8 hbr hn};{by_cases he:q2.1=(Au A x false).1;{refine .inr ⟨?_,q2,r2,hn,hW4,Ab0 hq.on hn,he,u3.trans u4⟩;rw [he];have:(((Au A x false).1:Int) !=((Au A x false).1:Int))=false:=(by rw [mZ]);rw [this]};{refine .inl ⟨?_,?_,u3.trans u4⟩;{(have:((q2.1:Int) !=((Au A x false).1:Int))=true:=by rw [mY];omega);rw [this]};{rw [hh,An7 hbr hn];have:=(Yl hq.on hn).2.2.2;exact Bh8 (by omega)}}}};rintro _ w4 (⟨rfl,hn,u4⟩|⟨rfl,q2,r2,hn,hW4,hq2,he,u4⟩);{refine Bh ?_;rw [hn] at hK;exact Df λw5 e5=>Dx ((S1.ext (xt u4)).ext e5) hK};{refine Ah (hR (q2,r2) () w4 ⟨hW4,hq2,he,?_,u4⟩ ?_);{rw [hh];exact An7 hbr hn};{rw [Jv hn];simp}}
 rintro _ W ⟨q,r0,n,hh,hbr,hq,hW,uW⟩;rw [hh,Option.bind_some] at hK;dsimp only at hK;refine Xl hW λw3 e3=>?_;have hW3:=hW.ext e3;have u3:=uW.trans (Upd.Ed e3);rw [hbr];dsimp only;obtain ⟨l3,l4⟩:=Bd8 hq;refine Ae (λy W'=>y=((if n<3 then (.func (Fn.func 162) #[.pointer (some (at0 bw))] #[]:Value) else (.func (Fn.func 195) #[.pointer (some (at0 bw))] #[]:Value)),())/\w3=W') ?_ ?_;{refine Ac (λhc=>⟨?_,rfl⟩) (λhc=>⟨?_,rfl⟩);{simp only [iI,jT] at hc;rw [aJ (by omega)]};{simp only [iH,jT] at hc;rw [aF (by omega)]}};rintro _ _ ⟨rfl,rfl⟩;dsimp only;let lst:Nat×Nat->List Bk:=λq=>if n<3 then Yw A q else Qg A q;let rem:Nat×Nat->List (Nat×Nat):=λq=>if n<3 then aft A q else bef A q;have step:∀{q1:Nat×Nat} {r1:RwT} {V:World} {K:Bool->Wp},Fa V bw p A big q1 r1->(rem q1=[]->(∀d,Dt n (lst q1) d=none)->∀V',Ext V V'->K false V') ->
   (∀q2 r2 V',rem q1=q2::rem q2->(Uy A q2=none->∀d,Dt n (lst q1) d=Dt n (lst q2) d)->(∀b2,Uy A q2=some b2->∀d,Dt n (lst q1) d=if b2%3≠n%3 then Dt n (lst q2) d else if b2=n then Dt n (lst q2) (d+1) else if d=1 then some q2 else Dt n (lst q2) (d-1))->Fa V' bw p A big q2 r2->Upd (λk=>k=bw) V V'->K true V') ->
   Cj Tryz.prog (do let d ←Deferred.ofValue (if n<3 then (.func (Fn.func 162) #[.pointer (some (at0 bw))] #[]:Value) else (.func (Fn.func 195) #[.pointer (some (at0 bw))] #[]:Value)) #[];invoke d.target d.args:Sem Next) (.one (.one .bool)) K V:=by
  intro q1 r1 V K hV hN hS
  by_cases hn3:n<3
  ·have el:∀q,lst q=Yw A q:=λq=>aF hn3
   have er:∀q,rem q=aft A q:=λq=>aF hn3
   simp only [el,er] at hN hS
   rw [aF hn3]
   refine Cm6 (by kernel_rfl) (Sj hV (λhn V' e'=>hN (Yv hn) (λd=>Aj9 hn) V' e') λq2 r2 V' hn hV' u'=>?_)
   exact hS q2 r2 V' (Jv hn) (λhb d=>Aj8 hn hb) (λb2 hb d=>Aj7 hn hb) hV' u'
  ·have el:∀q,lst q=Qg A q:=λq=>aJ hn3
   have er:∀q,rem q=bef A q:=λq=>aJ hn3
   simp only [el,er] at hN hS
   rw [aJ hn3]
   refine Cm6 (by kernel_rfl) (Ad2 hV (λhn V' e'=>hN (Aq2 hn) (λd=>Ak2 hn) V' e') λq2 r2 V' hn hV' u'=>?_)
   exact hS q2 r2 V' (Rw hn) (λhb d=>Ak1 hn hb) (λb2 hb d=>Ak0 hn hb) hV' u'
 have hlst:(if n<3 then Yw A q else Qg A q)=lst q:=rfl;rw [hlst] at hK;have hrem:(rem q).length<=A.length+1:=by
  show (if n<3 then aft A q else bef A q).length<=_
  split<;>omega
 refine Ae (λy V=>∃d:Nat,y=((d:Int),())/\((0<d/\Dt n (lst q) 1=none/\Upd (λk=>k=bw) w2 V)\/(d=0/\∃q2 r2,Dt n (lst q) 1=some q2/\Fa V bw p A big q2 r2/\Upd (λk=>k=bw) w2 V))) ?_ ?_
 ·refine P5 (λ(g:Nat×(Nat×Nat)×RwT) y V=>y=((g.1:Int),())/\1<=g.1/\g.1+(rem g.2.1).length<=2097152/\Fa V bw p A big g.2.1 g.2.2/\Dt n (lst q) 1=Dt n (lst g.2.1) g.1/\Upd (λk=>k=bw) w2 V) (λg=>(rem g.2.1).length) (1,q,r0) ⟨rfl,fJ _,by dsimp only;omega,hW3,rfl,u3⟩ ?_;rintro ⟨d,q1,r1⟩ _ V R ⟨rfl,d1,d2,hV,hs,uV⟩ hR;dsimp only at d1 d2 hV hs hR ⊢;refine step hV (λhr hn V' e'=>Ah ⟨d,rfl,.inl ⟨d1,hs.trans (hn d),uV.trans (Upd.Ed e')⟩⟩) λq2 r2 V' hr hk hb hV' u'=>Bh (Xl hV' λV2 e2'=>?_);have hV2:=hV'.ext e2';have uV2:=(uV.trans u').trans (Upd.Ed e2');(have hlen:(rem q1).length=(rem q2).length+1:=by rw [hr];rfl);cases hb2:Uy A q2 with
  |none=>dsimp only;refine Ae (λy V'=>y=(true,())/\V2=V') (Ac (λ_=>⟨rfl,rfl⟩) (λhc=>by simp at hc)) ?_;rintro _ _ ⟨rfl,rfl⟩;refine Bh (hR (d,q2,r2) _ V2 ⟨rfl,d1,by dsimp only;omega,hV2,hs.trans (hk hb2 d),uV2⟩ (by dsimp only;omega))
  |some b2=>dsimp only;have hbb:=hb b2 hb2 d;refine Ae (λy V'=>y=(decide (b2%3≠n%3),())/\V2=V') (Ac (λhc=>by simp at hc;omega) (λ_=>Dc (by decide) (Dc (by decide) ⟨by rw [Dn4],rfl⟩))) ?_;rintro _ _ ⟨rfl,rfl⟩;refine Ac (λhc=>?_) (λhc=>?_);{rw [aF (cO hc)] at hbb;exact hR (d,q2,r2) _ V2 ⟨rfl,d1,by dsimp only;omega,hV2,hs.trans hbb,uV2⟩ (by dsimp only;omega)};{rw [aJ (pW hc)] at hbb;refine Ac (λhe=>?_) (λhe=>?_);{simp only [jM] at he;rw [aF (by omega)] at hbb;(have ew:W64 ((d:Int)+1)=((d+1:Nat):Int):=by rw [wrap64 (by omega) (by omega)];omega);rw [ew];exact hR (d+1,q2,r2) _ V2 ⟨rfl,by dsimp only;omega,by dsimp only;omega,hV2,hs.trans hbb,uV2⟩ (by dsimp only;omega)};{simp only [jO,ne_eq] at he;rw [aJ (by omega)] at hbb;(have ew:W64 ((d:Int)-1)=((d-1:Nat):Int):=by rw [wrap64 (by omega) (by omega)];omega);rw [ew];refine Ac (λhz=>?_) (λhz=>?_);{simp only [jM] at hz;rw [aF (by omega)] at hbb;exact ⟨d-1,rfl,.inr ⟨by omega,q2,r2,hs.trans hbb,hV2,uV2⟩⟩};{simp only [jO,ne_eq] at hz;rw [aJ (by omega)] at hbb;exact hR (d-1,q2,r2) _ V2 ⟨rfl,by dsimp only;omega,by dsimp only;omega,hV2,hs.trans hbb,uV2⟩ (by dsimp only;omega)}}}
 rintro _ V ⟨d,rfl,(⟨d1,hs,uV⟩|⟨d0,q2,r2,hs,hV,uV⟩)⟩;{rw [hs] at hK;refine Ac (λ_=>Df λw5 e5=>Dx ((S1.ext (xt uV)).ext e5) hK) (λhc=>?_);simp at hc;omega};{rw [hs] at hK;subst d0;refine Ac (λhc=>by simp at hc) (λ_=>Om hV λw5 e5=>?_);have x5:=(xt uV).trans e5;exact Ee ((h.ext e1).ext x5) λw6 e6=>Dx ((S1.ext x5).ext e6) hK}
end
abbrev mvM (kind count arg:Int):Cells.T c48:=(kind,count,arg,())
abbrev Kr (kind count arg:Int):Obj:=.cells #[.int .i64 kind,.int .i64 count,.int .i64 arg] 48 (0,0)
def vF:Option FuncId->Value
 |none=>.nilFunc
 |some g=>.func (.func g) #[] #[]
def Uz (kind:Int):Bool:=decide ((25<=kind/\kind<=28)\/kind=30)
section
variable {w w':World}{b p:Nat}{A:List Int}{x goal kind count arg:Int}{past big:Bool}
theorem Cc7 {t:TypeId}{ps rs:Array TypeId}{vr:Bool}(hu:Tryz.prog.underlying t=some (.func ps rs vr)){o1:Operand}{v:Option FuncId}{K:Bool->Wp}(h:K v.isNone w):rdB Tryz.prog (do eqGuard .eql t o1 (.const .nilFunc) (vF v) .nilFunc;binOp .eql t (vF v) .nilFunc:Sem Value) K w:=by
 refine ⟨v.isNone,?_,h⟩;cases v with
 |none=>have e:(Op.equal t .nilFunc .nilFunc).run Tryz.prog w=.ok true w:=Bi7 hu 9999;simp [eqGuard,binOp,vF,e]
 |some g=>have e:(Op.equal t (.func (.func g) #[] #[]) .nilFunc).run Tryz.prog w=.ok false w:=Br9 hu _ _ _ 9999;simp [eqGuard,binOp,vF,e]
theorem Dd5:Tryz.prog.underlying 173=some (.func #[174] #[83,37] false):=by kernel_rfl
theorem Zl {tab:Value}{v:Option FuncId}{ans:Ld}(h:TxA w p A)
  (htab:∀W (K:Value->Wp),K (vF v) W->Cj Tryz.prog (do let d ←Deferred.ofValue tab #[.int .i64 kind];invoke d.target d.args:Sem Next) (.one (.one .any)) K W)
  (hnil:v=none->ans=noP 1)
  (hdo:∀g,v=some g->((Tryz.prog.funcs[g]?).map λfn=>(fn.body.isNone,fn.name == "runtime.NumGoroutine"))=some (false,false)/\∀W b r N (K:LdT->Wp),Dl W b p A x count arg (max goal 0) past (Uz kind) r->TxN W p A N->N<=b->(∀W',Upd (λk=>k=b) W W'->K (ldT ans) W')->Aa Tryz.prog g #[.pointer (some (at0 b))] (.tup [(.agg c83),(.one (.int .i64))]) K W)
  {K:LdT->Wp} (hK:∀w',Ext w w'->K (ldT ans) w') :
  Aa Tryz.prog 89 #[tab,.pointer (some (at0 p)),.int .i64 x,.int .i64 goal,.agg (Cells.vals c48 (mvM kind count arg)).toArray,.bool past] (.tup [(.agg c83),(.one (.int .i64))]) K w:=by
 refine A89 (a4:=mvM kind count arg) ?_;unfold F89;refine (St.start w).Af λb1 w1 S1 e1=>S1.Af λb2 w2 S2 e2=>?_;have S2:St (λ_=>False) w w2 [(b2,ldZ),(b1,Kr kind count arg)]:=S2;refine S2.ld (off:=0) 1 rfl (x:=kind) rfl (htab w2 _ ?_);refine Cc7 Dd5 ?_;cases v with
 |none=>have ha:=hnil rfl;subst ha;refine Bh (S2.Ad 0 rfl rfl rfl rfl λw3 S3 _=>S3.lds 0 (ldT (noP 1)).1 rfl (hK w3 S3.upd))
 | some g =>
  obtain ⟨hg,hdo⟩:=hdo g rfl;refine Ah (Ns (h.ext S2.upd) λw3 e3=>?_);have S3:=S2.ext e3;refine S3.drew λw4 S4 e4 _=>S4.ld (off:=2) 1 rfl (x:=arg) rfl (Jo (h.ext S4.upd) λr w5 hr e5=>?_);have S5:=S4.ext e5;rw [Dy] at hr;have hr:Hy w5 A (Au A x past).1 r:=hr;refine S5.keep (off:=2) 1 rfl (v:=.int .i64 arg) rfl (S5.Am1 λb10 w6 S6 e6 hb10=>?_);have em:(if (0:Int)>goal then (0:Int) else goal)=max goal 0:=(by split<;>omega);rw [em] at S6;have S6:St (λ_=>False) w w6 [(b10,mvO p (Ak A x past:Int) 0 1 false arg (max goal 0) past false r),(b2,ldZ),(b1,Kr kind count arg)]:=S6;have hr6:=hr.ext e6;refine Am (Qh (off:=9) (x:=r) (S6.at_ 0 rfl) (Yn (by rfl)) (Vl (hr.ext e6) λw7 e7=>Am ?_));have S7:=S6.ext e7;refine S7.stC (off:=2) 0 rfl (by show 2<16;decide) λw8 S8 u8=>?_;have hr8:Hy w8 A (Au A x past).1 r:=(hr6.ext e7).box (S7.at_ 0 rfl) (by decide) u8;have S8:St (λ_=>False) w w8 [(b10,mvO p (Ak A x past:Int) ((Au A x past).2:Int) 1 false arg (max goal 0) past false r),(b2,ldZ),(b1,Kr kind count arg)]:=S8;refine Ae (λ_ W=>Hy W A (Au A x past).1 r/\St (λ_=>False) w W [(b10,mvO p (Ak A x past:Int) ((Au A x past).2:Int) 1 false arg (max goal 0) past (Uz kind) r),(b2,ldZ),(b1,Kr kind count arg)]) ?_ ?_
  ·have hset:∀(bb:Bool),bb=Uz kind->stC ((at0 b10).add 8) (.bool bb) (λW=>Hy W A (Au A x past).1 r/\St (λ_=>False) w W [(b10,mvO p (Ak A x past:Int) ((Au A x past).2:Int) 1 false arg (max goal 0) past (Uz kind) r),(b2,ldZ),(b1,Kr kind count arg)]) w8:=λbb hbb=>by
    subst hbb
    exact S8.stC (off:=8) 0 rfl (by show 8<16;decide) λw9 S9 u9=>⟨hr8.box (S8.at_ 0 rfl) (by decide) u9,S9⟩
   refine S8.ld (off:=0) 2 rfl (x:=kind) rfl (Ac (λhc=>?_) (λhc=>?_));{simp only [iI,jT] at hc;refine S8.ld (off:=0) 2 rfl (x:=kind) rfl (Ac (λhc2=>?_) (λhc2=>?_));{simp only [iI] at hc2;exact Am (hset true (by unfold Uz;rw [jP];exact .inl ⟨hc,hc2⟩))};{simp only [iH] at hc2;refine S8.ld (off:=0) 2 rfl (x:=kind) rfl (Am (hset _ ?_));unfold Uz;rw [gV,jM,iI];omega}};{simp only [iH,jT] at hc;refine S8.ld (off:=0) 2 rfl (x:=kind) rfl (Am (hset _ ?_));unfold Uz;rw [gV,jM,iI];omega}
  rintro _ w9 ⟨hr9,S9⟩;refine Ae (λ_ W=>Hy W A (Au A x past).1 r/\St (λ_=>False) w W [(b10,mvO p (Ak A x past:Int) ((Au A x past).2:Int) (kOf count:Int) (decide (0<count)) arg (max goal 0) past (Uz kind) r),(b2,ldZ),(b1,Kr kind count arg)]) ?_ ?_;{refine S9.ld (off:=1) 2 rfl (x:=count) rfl (Ac (λhc=>?_) (λhc=>?_));{simp only [iI,kG] at hc;refine S9.ld (off:=1) 2 rfl (x:=count) rfl (Am ?_);(have ek:(if (9999:Int)<count then (9999:Int) else count)=(kOf count:Int):=by unfold kOf;rw [aF hc];split<;>omega);rw [ek,jP hc];refine S9.stC (off:=3) 0 rfl (by show 3<16;decide) λw10 S10 u10=>Am (S10.stC (off:=4) 0 rfl (by show 4<16;decide) λw11 S11 u11=>⟨(hr9.box (S9.at_ 0 rfl) (by decide) u10).box (S10.at_ 0 rfl) (by decide) u11,S11⟩)};{simp only [iH,kG] at hc;(have ek:kOf count=1:=by unfold kOf;rw [aJ hc]);rw [ek,jQ hc];exact ⟨hr9,S9⟩}};rintro _ w10 ⟨hrow,S10⟩;have hge:w5.heap.size<=b10:=lK hb10.symm;have hmv:Dl w10 b10 p A x count arg (max goal 0) past (Uz kind) r:=⟨h.ext S10.upd,S10.at_ 0 rfl,hrow⟩;refine func_x (caps:=#[]) hg (hdo w10 b10 r w.heap.size _ hmv (h.n.ext S10.upd) (S10.ge 0 rfl) λw11 u11=>?_);have S11:St (λ_=>False) w w11 [(b2,ldZ),(b1,Kr kind count arg)]:=S10.tail.fresh u11 (λk hk=>.inr (by subst hk;exact S10.ge 0 rfl)) (λy hy hk=>by
   have hnd:=S10.nd
   simp only [dQ,mJ,bU,aG,kW,kX,not_or] at hnd
   rcases aG.1 hy with rfl|hy
   ·exact hnd.1.1 hk.symm
   ·rw [iT.1 hy] at hk
    exact hnd.1.2 hk.symm)
  exact S11.Ad 0 rfl rfl rfl rfl λw12 S12 _=>S12.lds 0 (ldT ans).1 rfl (hK w12 S12.upd)
theorem Ih {W w0:World}{b2:Nat}{o:Obj}{b1:Nat}{l:Ld}{K:LdT->Wp}(S:St (λ_=>False) w0 W [(b2,ldZ),(b1,o)]) (hK:∀w',Ext w0 w'->K (ldT l) w') :
  Ad (at0 b2) (.agg (Cells.vals c83 (ldT l).1).toArray) 3 (lds c83 (at0 b2) λy=>K (y,(ldT l).2.1,())) W :=
 S.Ad 0 rfl rfl rfl rfl λw1 S1 _=>S1.lds 0 (ldT l).1 rfl (hK w1 S1.upd)
def Ct1 (k:Int):Option FuncId:=if k=1 then some 134 else if k=2 then some 135 else if k=3 then some 136 else if k=4 then some 137 else if k=5 then some 138 else if k=6 then some 139 else if k=7 then some 140 else if k=8 then some 141 else if k=9 then some 142 else if k=10 then some 143 else none
def De5 (k:Int):Option FuncId:=if k=11 then some 144 else if k=12 then some 145 else if k=13 then some 146 else if k=14 then some 147 else if k=15 then some 148 else if k=16 then some 149 else if k=17 then some 150 else if k=18 then some 151 else none
def Ck6 (k:Int):Option FuncId:=if k=21\/k=25 then some 152 else if k=22\/k=26 then some 153 else if k=23\/k=27 then some 154 else if k=24\/k=28 then some 155 else if k=29\/k=30 then some 156 else none
def Co1 (k:Int):Option FuncId:=if k=31 then some 157 else if k=32 then some 158 else if k=33 then some 159 else none
theorem Kz {n:Int}{k:Int}{g:FuncId}{o:Option FuncId}{K:Value->Wp}{B:World->Prop}(hK:K (vF (if k=n then some g else o)) w) (h2:K (vF o) w->B w):sif (k==n) (K (.func (.func g) #[] #[])) B w:=by refine Ac (λhc=>?_) (λhc=>?_);{simp only [jM] at hc;rw [aF hc] at hK;exact hK};{simp only [jO,ne_eq] at hc;rw [aJ hc] at hK;exact h2 hK}
theorem As1 {K:Value->Wp}(hK:K (vF (Ct1 kind)) w):Aa Tryz.prog 90 #[.int .i64 kind] (.one (.one .any)) K w:=by refine A90 ?_;unfold F90;exact Kz hK λhK=>Kz hK λhK=>Kz hK λhK=>Kz hK λhK=>Kz hK λhK=>Kz hK λhK=>Kz hK λhK=>Kz hK λhK=>Kz hK λhK=>Kz hK λhK=>hK
theorem Ay8 {K:Value->Wp}(hK:K (vF (De5 kind)) w):Aa Tryz.prog 96 #[.int .i64 kind] (.one (.one .any)) K w:=by refine A96 ?_;unfold F96;exact Kz hK λhK=>Kz hK λhK=>Kz hK λhK=>Kz hK λhK=>Kz hK λhK=>Kz hK λhK=>Kz hK λhK=>Kz hK λhK=>hK
theorem Ar7 {K:Value->Wp}(hK:K (vF (Co1 kind)) w):Aa Tryz.prog 101 #[.int .i64 kind] (.one (.one .any)) K w:=by refine Eq1 ?_;unfold F101;exact Kz hK λhK=>Kz hK λhK=>Kz hK λhK=>hK
theorem Ak3 {m n:Int}{k:Int}{g:FuncId}{o:Option FuncId}{K:Value->Wp}{B:World->Prop}(hK:K (vF (if k=m\/k=n then some g else o)) w) (h2:K (vF o) w->B w) :
  join (S:=Bool×Unit) (λJ=>sif (k==m) (J ((k==m),())) (J ((k==n),()))) (λs=>sif s.1 (K (.func (.func g) #[] #[])) B) w:=by refine Ae (λy W=>y=(decide (k=m\/k=n),())/\w=W) ?_ ?_;{refine Ac (λhc=>⟨Az ?_,rfl⟩) (λhc=>⟨Az ?_,rfl⟩);{simp only [jM] at hc;simp [hc]};{simp only [jO,ne_eq] at hc;simp [hc]}};rintro _ _ ⟨rfl,rfl⟩;refine Ac (λhc=>?_) (λhc=>?_);{rw [aF (cO hc)] at hK;exact hK};{rw [aJ (pW hc)] at hK;exact h2 hK}
theorem Ar0 {K:Value->Wp}(hK:K (vF (Ck6 kind)) w):Aa Tryz.prog 97 #[.int .i64 kind] (.one (.one .any)) K w:=by refine A97 ?_;unfold F97;exact Ak3 hK λhK=>Ak3 hK λhK=>Ak3 hK λhK=>Ak3 hK λhK=>Ak3 hK λhK=>hK
theorem Yp (h:TxA w p A){K:LdT->Wp}(hK:∀w',Ext w w'->K (ldT (Dh A x kind count arg past)) w') :
  Aa Tryz.prog 40 #[.pointer (some (at0 p)),.int .i64 x,.agg (Cells.vals c48 (mvM kind count arg)).toArray,.bool past] (.tup [(.agg c83),(.one (.int .i64))]) K w:=by refine A40 (a2:=mvM kind count arg) ?_;unfold F40;refine (St.start w).Af λb1 w1 S1 e1=>S1.Af λb2 w2 S2 e2=>?_;have S2:St (λ_=>False) w w2 [(b2,ldZ),(b1,Kr kind count arg)]:=S2;refine S2.lds 1 (mvM kind count arg) rfl (Zl (v:=Ct1 kind) (ans:=Dh A x kind count arg past) (h.ext S2.upd) (λW K hk=>func_x (caps:=#[]) (by kernel_rfl) (As1 hk)) (λhn=>?_) (λg hg=>?_) λw3 e3=>Ih (S2.ext e3) hK);{have n1:¬kind=1:=λh=>absurd (h▸hn) (by decide);have n2:¬kind=2:=λh=>absurd (h▸hn) (by decide);have n3:¬kind=3:=λh=>absurd (h▸hn) (by decide);have n4:¬kind=4:=λh=>absurd (h▸hn) (by decide);have n5:¬kind=5:=λh=>absurd (h▸hn) (by decide);have n6:¬kind=6:=λh=>absurd (h▸hn) (by decide);have n7:¬kind=7:=λh=>absurd (h▸hn) (by decide);have n8:¬kind=8:=λh=>absurd (h▸hn) (by decide);have n9:¬kind=9:=λh=>absurd (h▸hn) (by decide);have n10:¬kind=10:=λh=>absurd (h▸hn) (by decide);unfold Dh;dsimp only;rw [aJ n1,aJ n2,aJ n3,aJ n4,aJ n5,aJ n6,aJ (by omega),aJ (by omega)]};{have up:∀{W:World} {b:Nat} {K:LdT->Wp},(∀W',Upd (λk=>k=b) W W'->K (ldT (Dh A x kind count arg past)) W')->∀W',Ext W W'->K (ldT (Dh A x kind count arg past)) W':=λhk W' e=>hk W' (Upd.Ed e);unfold Ct1 at hg;split at hg;{cases hg;subst kind;exact ⟨by kernel_rfl,λW b r N K hm _ _ hk=>Cf1 hm (up hk)⟩};split at hg;{cases hg;subst kind;exact ⟨by kernel_rfl,λW b r N K hm _ _ hk=>Bn9 hm (up hk)⟩};split at hg;{cases hg;subst kind;exact ⟨by kernel_rfl,λW b r N K hm _ _ hk=>Bm8 hm (up hk)⟩};split at hg;{cases hg;subst kind;exact ⟨by kernel_rfl,λW b r N K hm _ _ hk=>Ce7 hm (up hk)⟩};split at hg;{cases hg;subst kind;exact ⟨by kernel_rfl,λW b r N K hm _ _ hk=>Cr7 hm (up hk)⟩};split at hg;{cases hg;subst kind;exact ⟨by kernel_rfl,λW b r N K hm _ _ hk=>Cu9 hm (up hk)⟩};split at hg;{cases hg;subst kind;exact ⟨by kernel_rfl,λW b r N K hm _ _ hk=>Br6 hm (up hk)⟩};split at hg;{cases hg;subst kind;exact ⟨by kernel_rfl,λW b r N K hm _ _ hk=>Br5 hm (up hk)⟩};split at hg;{cases hg;subst kind;exact ⟨by kernel_rfl,λW b r N K hm _ _ hk=>Ca7 hm (up hk)⟩};split at hg;{cases hg;subst kind;exact ⟨by kernel_rfl,λW b r N K hm _ _ hk=>Bm4 hm (up hk)⟩};{cases hg}}
theorem I8 (h:TxA w p A){K:LdT->Wp}(hK:∀w',Ext w w'->K (ldT (Eu A x goal kind count)) w') :
  Aa Tryz.prog 43 #[.pointer (some (at0 p)),.int .i64 x,.int .i64 goal,.agg (Cells.vals c48 (mvM kind count arg)).toArray] (.tup [(.agg c83),(.one (.int .i64))]) K w:=by refine A43 (a3:=mvM kind count arg) ?_;unfold F43;refine (St.start w).Af λb1 w1 S1 e1=>S1.Af λb2 w2 S2 e2=>?_;have S2:St (λ_=>False) w w2 [(b2,ldZ),(b1,Kr kind count arg)]:=S2;refine S2.lds 1 (mvM kind count arg) rfl (Zl (v:=De5 kind) (ans:=Eu A x goal kind count) (h.ext S2.upd) (λW K hk=>func_x (caps:=#[]) (by kernel_rfl) (Ay8 hk)) (λhn=>?_) (λg hg=>?_) λw3 e3=>Ih (S2.ext e3) hK);{have n11:¬kind=11:=λh=>absurd (h▸hn) (by decide);have n12:¬kind=12:=λh=>absurd (h▸hn) (by decide);have n13:¬kind=13:=λh=>absurd (h▸hn) (by decide);have n14:¬kind=14:=λh=>absurd (h▸hn) (by decide);have n15:¬kind=15:=λh=>absurd (h▸hn) (by decide);have n16:¬kind=16:=λh=>absurd (h▸hn) (by decide);have n17:¬kind=17:=λh=>absurd (h▸hn) (by decide);have n18:¬kind=18:=λh=>absurd (h▸hn) (by decide);unfold Eu;dsimp only;rw [aJ n11,aJ n12,aJ n13,aJ n14,aJ n15,aJ n16,aJ n17,aJ n18]};{have up:∀{W:World} {b:Nat} {K:LdT->Wp},(∀W',Upd (λk=>k=b) W W'->K (ldT (Eu A x goal kind count)) W')->∀W',Ext W W'->K (ldT (Eu A x goal kind count)) W':=λhk W' e=>hk W' (Upd.Ed e);unfold De5 at hg;split at hg;{cases hg;subst kind;exact ⟨by kernel_rfl,λW b r N K hm _ _ hk=>Ch8 hm (up hk)⟩};split at hg;{cases hg;subst kind;exact ⟨by kernel_rfl,λW b r N K hm _ _ hk=>Ag5 hm (up hk)⟩};split at hg;{cases hg;subst kind;exact ⟨by kernel_rfl,λW b r N K hm _ _ hk=>Bp5 hm (up hk)⟩};split at hg;{cases hg;subst kind;exact ⟨by kernel_rfl,λW b r N K hm _ _ hk=>Bo5 hm (up hk)⟩};split at hg;{cases hg;subst kind;exact ⟨by kernel_rfl,λW b r N K hm _ _ hk=>Cf6 hm (up hk)⟩};split at hg;{cases hg;subst kind;exact ⟨by kernel_rfl,λW b r N K hm _ _ hk=>Cf7 hm (up hk)⟩};split at hg;{cases hg;subst kind;exact ⟨by kernel_rfl,λW b r N K hm _ _ hk=>Cl3 hm (up hk)⟩};split at hg;{cases hg;subst kind;exact ⟨by kernel_rfl,λW b r N K hm _ _ hk=>Cd4 hm (up hk)⟩};{cases hg}}
theorem Bd7 (A:List Int) (x kind count:Int) (past:Bool):Uk A x kind count past=if kind=21\/kind=25 then Ck7 A x count past (Uz kind) else if kind=22\/kind=26 then Cv1 A x count past (Uz kind) else if kind=23\/kind=27 then Ck9 A x count past (Uz kind) else if kind=24\/kind=28 then Cu7 A x count past (Uz kind) else if kind=29\/kind=30 then Cm5 A x count past (Uz kind) else noP 1:=rfl
theorem Ae8 (h:TxA w p A){K:LdT->Wp}(hK:∀w',Ext w w'->K (ldT (Uk A x kind count past)) w') :
  Aa Tryz.prog 45 #[.pointer (some (at0 p)),.int .i64 x,.agg (Cells.vals c48 (mvM kind count arg)).toArray,.bool past] (.tup [(.agg c83),(.one (.int .i64))]) K w:=by refine A45 (a2:=mvM kind count arg) ?_;unfold F45;refine (St.start w).Af λb1 w1 S1 e1=>S1.Af λb2 w2 S2 e2=>?_;have S2:St (λ_=>False) w w2 [(b2,ldZ),(b1,Kr kind count arg)]:=S2;refine S2.lds 1 (mvM kind count arg) rfl (Zl (v:=Ck6 kind) (ans:=Uk A x kind count past) (h.ext S2.upd) (λW K hk=>func_x (caps:=#[]) (by kernel_rfl) (Ar0 hk)) (λhn=>?_) (λg hg=>?_) λw3 e3=>Ih (S2.ext e3) hK);{have n21:¬kind=21:=λh=>absurd (h▸hn) (by decide);have n22:¬kind=22:=λh=>absurd (h▸hn) (by decide);have n23:¬kind=23:=λh=>absurd (h▸hn) (by decide);have n24:¬kind=24:=λh=>absurd (h▸hn) (by decide);have n25:¬kind=25:=λh=>absurd (h▸hn) (by decide);have n26:¬kind=26:=λh=>absurd (h▸hn) (by decide);have n27:¬kind=27:=λh=>absurd (h▸hn) (by decide);have n28:¬kind=28:=λh=>absurd (h▸hn) (by decide);have n29:¬kind=29:=λh=>absurd (h▸hn) (by decide);have n30:¬kind=30:=λh=>absurd (h▸hn) (by decide);rw [Bd7,aJ (by omega),aJ (by omega),aJ (by omega),aJ (by omega),aJ (by omega)]};{rw [Bd7];unfold Ck6 at hg;split at hg;{rename_i hk;cases hg;rw [aF hk];exact ⟨by kernel_rfl,λW b r N K hm _ _ hk=>Bm2 hm λW' e=>hk W' (Upd.Ed e)⟩};rename_i hk;rw [aJ hk];split at hg;{rename_i hk;cases hg;rw [aF hk];exact ⟨by kernel_rfl,λW b r N K hm _ _ hk=>Cj3 hm λW' e=>hk W' (Upd.Ed e)⟩};rename_i hk;rw [aJ hk];split at hg;{rename_i hk;cases hg;rw [aF hk];exact ⟨by kernel_rfl,λW b r N K hm _ _ hk=>Ca5 hm λW' e=>hk W' (Upd.Ed e)⟩};rename_i hk;rw [aJ hk];split at hg;{rename_i hk;cases hg;rw [aF hk];exact ⟨by kernel_rfl,λW b r N K hm _ _ hk=>Cj2 hm λW' e=>hk W' (Upd.Ed e)⟩};rename_i hk;rw [aJ hk];split at hg;{rename_i hk;cases hg;rw [aF hk];exact ⟨by kernel_rfl,λW b r N K hm hN hle hk=>Cc6 hm hN hle hk⟩};{cases hg}}
theorem Ae9 (h:TxA w p A){K:LdT->Wp}(hK:∀w',Ext w w'->K (ldT (Gx A x kind count)) w') :
  Aa Tryz.prog 47 #[.pointer (some (at0 p)),.int .i64 x,.agg (Cells.vals c48 (mvM kind count arg)).toArray] (.tup [(.agg c83),(.one (.int .i64))]) K w:=by refine A47 (a2:=mvM kind count arg) ?_;unfold F47;refine (St.start w).Af λb1 w1 S1 e1=>S1.Af λb2 w2 S2 e2=>?_;have S2:St (λ_=>False) w w2 [(b2,ldZ),(b1,Kr kind count arg)]:=S2;refine S2.lds 1 (mvM kind count arg) rfl (Zl (v:=Co1 kind) (ans:=Gx A x kind count) (h.ext S2.upd) (λW K hk=>func_x (caps:=#[]) (by kernel_rfl) (Ar7 hk)) (λhn=>?_) (λg hg=>?_) λw3 e3=>Ih (S2.ext e3) hK);{have n31:¬kind=31:=λh=>absurd (h▸hn) (by decide);have n32:¬kind=32:=λh=>absurd (h▸hn) (by decide);have n33:¬kind=33:=λh=>absurd (h▸hn) (by decide);unfold Gx;dsimp only;rw [aJ n31,aJ n32,aJ n33]};{have up:∀{W:World} {b:Nat} {K:LdT->Wp},(∀W',Upd (λk=>k=b) W W'->K (ldT (Gx A x kind count)) W')->∀W',Ext W W'->K (ldT (Gx A x kind count)) W':=λhk W' e=>hk W' (Upd.Ed e);unfold Co1 at hg;split at hg;{cases hg;subst kind;exact ⟨by kernel_rfl,λW b r N K hm _ _ hk=>Bo7 hm (up hk)⟩};split at hg;{cases hg;subst kind;exact ⟨by kernel_rfl,λW b r N K hm _ _ hk=>Bo6 hm (up hk)⟩};split at hg;{cases hg;subst kind;refine ⟨by kernel_rfl,λW b r N K hm _ _ hk=>Ba7 hm ?_⟩;have e:Gx A x 33 0=Gx A x 33 count:=(by rw [Yg,Yg]);rw [e];exact up hk};{cases hg}}
end
end
section
open Cdc Gly Clu Lns Obx
namespace Obx
def Ap1 (n:Nat):Nat:=if n=13 then 1 else if n=10 then 2 else if n<32\/n=127 then 3 else 0
def Cw4 (n:Nat):Nat:=if (9<=n/\n<=13)\/n=32 then 0 else if (48<=n/\n<=57)\/(65<=n/\n<=90)\/n=95\/(97<=n/\n<=122) then 2 else 1
theorem Dd8:((List.range 128).all λn=>cls (n:Int)==Ap1 n&&cnj (n:Int)==0&&wrd (n:Int)==Cw4 n)=true:=by kernel_rfl
theorem Bd2 {v:Int}(h:0<=v/\v<128):cls v=Ap1 v.toNat/\cnj v=0/\wrd v=Cw4 v.toNat:=by have h1:=aS.1 Dd8 v.toNat (bH.2 (by omega));have e:((v.toNat:Nat):Int)=v:=(by omega);rw [e] at h1;simp only [aV,jM] at h1;exact ⟨h1.1.1,h1.1.2,h1.2⟩
theorem By4 (n:Nat):Ap1 n<=3:=by unfold Ap1;split<;>(try split)<;>(try split)<;>omega
def Bu0 (l:List Int):Prop:=∀v∈l,0<=v/\v<128
theorem Dg1 {s:Sc}{a:Int}(ha:0<=a/\a<128) (hs:s.last<=3):joins s (cls a) (cnj a)=decide (s.last=1/\a=10):=by obtain ⟨h1,h2,_⟩:=Bd2 ha;have h3:=By4 a.toNat;rw [h1,h2];(have h10:Ap1 a.toNat=2↔a=10:=by unfold Ap1;split<;>(try split)<;>(try split)<;>omega);unfold joins;by_cases hc:s.last=1/\Ap1 a.toNat=2;{rw [aF hc,jP ⟨hc.1,h10.1 hc.2⟩]};{rw [aJ hc,jQ (λh=>hc ⟨h.1,h10.2 h.2⟩)];split;{rfl};{rename_i hap;simp only [not_or,apart,iI] at hap;have e0:s.last=0:=(by omega);have e1:Ap1 a.toNat=0:=(by omega);rw [e0,e1];rfl}}
theorem Dc8 {A:List Int}(h:Bu0 A):∀k,(sc (A.take k)).last<=3
 |0=>by simp [sc,Sc.zero]
 | k+1=>by
  by_cases hk:k<A.length
  ·rw [kT,jC hk]
   show (sc (A.take k++[A[k]])).last<=3
   rw [P8,Bh4,(Bd2 (h _ (jA hk))).1]
   exact By4 _
  ·have:=Dc8 h k
   rwa [jE (by omega)] at this ⊢
theorem bk7 {A:List Int}(h:Bu0 A){k:Nat}(hk:k<=A.length):bk A k = !(decide (0<k)&&(A[k-1]?==some 13)&&(A[k]?==some 10)):=by
 cases k with
 |zero=>rw [Y7];rfl
 | succ k =>
  by_cases he:k+1=A.length;{rw [he,Bc9,kL (fJ A.length)];simp}
  ·have ha:A[k+1]?=some A[k+1]:=jC (by omega);have hb:A[k]?=some A[k]:=jC (by omega);rw [By9 ha (by omega),Dg1 (h _ (jA _)) (Dc8 h _)];have hl:(sc (A.take (k+1))).last=Ap1 (A[k]).toNat:=by
    rw [kT,hb]
    show (sc (A.take k++[A[k]])).last=_
    rw [P8,Bh4,(Bd2 (h _ (jA _))).1]
   have h13:Ap1 (A[k]).toNat=1↔A[k]=13:=by
    have:=h A[k] (jA _)
    unfold Ap1;split<;>(try split)<;>(try split)<;>omega
   rw [hl,ha,nR,hb];rw [gV];simp [h13]
def Cv7 (A:List Int):Prop:=∀k:Nat,A[k]?=some 13->A[k+1]?≠some 10
theorem Db4 {A:List Int}(h:Bu0 A) (hn:Cv7 A){k:Nat}(hk:k<=A.length):bk A k=true:=by
 rw [bk7 h hk];cases k with
 |zero=>rfl
 |succ k =>
  rw [nR];cases h1:(A[k]?==some 13) with
  |false=>simp
  |true=>have:=hn k (by simpa using h1);simp [this]
theorem Cs2 {A:List Int}(h:Bu0 A) (hn:Cv7 A):cuts A=List.range (A.length+1):=by unfold cuts Oc;rw [oJ];intro k hk;exact Db4 h hn (by have:=bH.1 hk;omega)
theorem Dl0 {A:List Int}(h:Bu0 A) (hn:Cv7 A) (off:Nat){k:Nat}{a:Int}(ha:A[k]?=some a):(Xj A off)[k]?=some ⟨off+k,off+k+1,Cw4 a.toNat,true,a⟩:=by have hk:=(fG.1 ha).1;have hlen:(Xj A off).length=A.length:=(by rw [Vu,Cs2 h hn,lZ,nR]);obtain ⟨c,hc⟩:∃c,(Xj A off)[k]?=some c:=⟨_,jC (by omega)⟩;obtain ⟨i,j,h1,h2,h3,h4,h5,h6,_,_,h7,h8,h9⟩:=(Uf hc).ex;rw [Cs2 h hn] at h1 h2;rw [oZ (by omega)] at h1;rw [oZ (by omega)] at h2;cases h1;cases h2;rw [ha] at h7;cases h7;obtain ⟨_,_,hw⟩:=Bd2 (h _ (eY ha));rw [hc];obtain ⟨cf,ct,ck,ca,cat⟩:=c;dsimp only at *;have:ca=true:=h9.2 rfl;subst h5 h6 this;rw [h8,hw];rfl
theorem Ci7 {A:List Int}(h:Bu0 A) (hn:Cv7 A) (off:Nat):(Xj A off).length=A.length:=by rw [Vu,Cs2 h hn,lZ,nR]
end Obx
end
section
open Trx Gly Clu Lns Obx
namespace Obx
structure Good (A:List Int) (s:Int×Int×Int):Prop where
 lo:0<=s.1
 le:s.1<=s.2.1
 hi:s.2.1<=A.length
 b1:bk A s.1.toNat=true
 b2:bk A s.2.1.toNat=true
structure LcOk (A:List Int) (l:Ln) (c:Cel):Prop where
 lo:l.from_<=c.from_
 lt:c.from_<c.to_
 hi:c.to_<=l.to_
 b1:bk A c.from_=true
 b2:bk A c.to_=true
end Obx
namespace Obx
def Yy (L:List Int):Prop:=∀v∈L,v≠10/\v≠13
theorem Yy.cl {L:List Int}(h:Yy L):Cv7 L:=λk hk=>absurd rfl (h 13 (eY hk)).2
theorem Bn0 {A:List Int}{i:Nat}(h:isb A i=true):sk A (nb A i+1)=some (i+1)/\nb A (i+1)=nb A i+1:=by have hi:=Dg2 h;(have hn:nb A (i+1)=nb A i+1:=by rw [Tt,h];rfl);(have hle:nb A i+1<=brs A:=by rw [←hn,Nh];exact Ny A _ _ (by omega));obtain ⟨m,hm⟩:=At5 hle;obtain ⟨_,_,h3,h4⟩:=Rf hm;rw [hm];(have h1:¬i+1<m:=λhc=>by have:=h4 _ hc;omega);(have h2:¬m<i+1:=λhc=>by have:=Ny A m i (by omega);omega);exact ⟨by congr 1;omega,hn⟩
end Obx
namespace Obx
def file:List (List Int)->List Int->List Int
 |[],R=>R
 |l::Ls,R=>l++10::file Ls R
def A8:List (List Int)->Nat->Nat
 |_,0=>0
 |[],_+1=>0
 |l::Ls,k+1=>l.length+1+A8 Ls k
theorem Au3 (Ls:List (List Int)):A8 Ls 0=0:=by cases Ls<;>rfl
theorem Bk1 {X:List Int}:∀{l:List Int},Yy l->brs (l++10::X)=1+brs X
 |[],_=>by rw [aU,brs];rfl
 | a::l,h=>by
  have ha:=h a aH
  rw [aW,brs,Bk1 (l:=l) λv hv=>h v (aI _ hv)]
  have:isE a (l++10::X)=false:=by
   unfold isE
   simp [ha.1,ha.2]
  rw [this];simp
theorem Y3:∀{l:List Int},Yy l->brs l=0
 |[],_=>rfl
 |a::l,h=>by
  have ha:=h a aH
  rw [brs,Y3 (l:=l) λv hv=>h v (aI _ hv)]
  have:isE a l=false:=by unfold isE;simp [ha.1,ha.2]
  rw [this];simp
theorem Bu7 {X:List Int}{k:Nat}:∀{l:List Int},Yy l->sk (l++10::X) (k+1)=(sk X k).map (·+(l.length+1))
 |[],_=>by
  rw [aU,sk]
  have:isE 10 X=true:=rfl
  rw [this];rfl
 |a::l,h=>by
  have ha:=h a aH
  rw [aW,sk]
  have:isE a (l++10::X)=false:=by unfold isE;simp [ha.1,ha.2]
  rw [this]
  simp only [dO,dP]
  rw [Bu7 (l:=l) λv hv=>h v (aI _ hv),Option.map_map]
  congr 1
def Lines (Ls:List (List Int)):Prop:=∀l∈Ls,Yy l
theorem Ah1 {R:List Int}(hR:Yy R):∀{Ls:List (List Int)}(k:Nat),Lines Ls->sk (file Ls R) k=if k<=Ls.length then some (A8 Ls k) else none
 |Ls,0,_=>by rw [Ah0,Au3];simp
 |[],k+1,_=>by
  show sk R (k+1)=_
  rw [Zg R _ (by rw [Y3 hR];omega),aJ (by simp)]
 | l::Ls,k+1,h=>by
  rw [file,Bu7 (h l aH),Ah1 hR k λx hx=>h x (aI _ hx)]
  by_cases hk:k<=Ls.length
  ·rw [aF hk,aF (by simpa using hk),bI,A8]
   congr 1;omega
  ·rw [aJ hk,aJ (by simpa using hk)];rfl
theorem Bk3 {R:List Int}(hR:Yy R):∀{Ls:List (List Int)},Lines Ls->brs (file Ls R)=Ls.length
 |[],_=>Y3 hR
 |l::Ls,h=>by rw [file,Bk1 (h l aH),Bk3 hR λx hx=>h x (aI _ hx),dB];omega
theorem Ao3 (R:List Int):∀Ls:List (List Int),(file Ls R).length=A8 Ls Ls.length+R.length
 |[]=>by simp [file,Au3]
 |l::Ls=>by rw [file,iE,dB,Ao3 R Ls,dB,A8];omega
variable {Ls:List (List Int)}{R:List Int}
theorem Cy7 (hL:Lines Ls) (hR:Yy R):Oy (file Ls R) Ls.length=some ⟨A8 Ls Ls.length,A8 Ls Ls.length+R.length,A8 Ls Ls.length+R.length,0⟩:=by unfold Oy;rw [Ah1 hR _ hL,aF (fJ _),Ah1 hR _ hL,aJ (by omega)];simp only;rw [Ao3]
theorem Cp6 (hL:Lines Ls) (hR:Yy R):lnN (file Ls R)=Ls.length+(if Ls≠[]/\R=[] then 0 else 1):=by
 unfold lnN ended;rw [Bk3 hR hL,Ah1 hR _ hL,aF (fJ _),Ao3];congr 1;by_cases hr:R=[]
 ·subst hr;cases Ls with
  |nil=>simp [A8]
  |cons l Ls=>(have h1:A8 (l::Ls) (Ls.length+1)≠0:=by rw [A8];omega);have h2:0<A8 (l::Ls) (Ls.length+1):=(by omega);simp [h1,h2]
 ·have:0<R.length:=iO.2 hr;have hb:(some (A8 Ls Ls.length)==some (A8 Ls Ls.length+R.length))=false:=by
   rw [jO]
   intro h
   have:=kS h
   omega
  rw [hb,Bool.and_false,aJ (by decide),aJ (λh=>hr h.2)]
end Obx
namespace Mot
structure Tiny (A:List Int):Prop where
 no:Yy A
 asc:Bu0 A
 pos:0<A.length
variable {A:List Int}
theorem Tiny.row (h:Tiny A):brs A=0/\lnN A=1/\Aq A 0=⟨0,A.length,A.length,0⟩:=by have hL:Lines []:=λl hl=>(by cases hl);have h1:=Cy7 (Ls:=[]) (R:=A) hL h.no;have h2:=Cp6 (Ls:=[]) (R:=A) hL h.no;have e:file [] A=A:=rfl;have o:A8 [] ([]:List (List Int)).length=0:=rfl;rw [e,o,dU] at h1;rw [e] at h2;refine ⟨Y3 h.no,?_,?_⟩;{rw [h2];simp};{unfold Aq;have h1:Oy A 0=some ⟨0,A.length,A.length,0⟩:=h1;rw [h1];rfl}
theorem Tiny.Xj (h:Tiny A){k:Nat}{a:Int}(ha:A[k]?=some a):(Ag A 0)[k]?=some ⟨k,k+1,Cw4 a.toNat,true,a⟩:=by
 have e:Ag A 0=Obx.Xj A 0:=by
  unfold Ag Bx1
  rw [h.row.2.2]
  dsimp only
  rw [lM,Nat.sub_zero,jR]
 have:=Dl0 h.asc h.no.cl 0 ha;rw [e,this];simp
theorem Tiny.len (h:Tiny A):(Ag A 0).length=A.length:=by
 have e:Ag A 0=Obx.Xj A 0:=by
  unfold Ag Bx1
  rw [h.row.2.2]
  dsimp only
  rw [lM,Nat.sub_zero,jR]
 rw [e,Ci7 h.asc h.no.cl]
theorem Tiny.place (h:Tiny A){k:Nat}(hk:k<=A.length):Aw A 0 (k:Int)=k:=by by_cases hlt:k<A.length;{obtain ⟨a,ha⟩:∃a,A[k]?=some a:=⟨_,jC hlt⟩;rw [Ec (by rw [h.len];exact hlt),Hg (h.Xj ha)]};{rw [Ej (by rw [h.len];omega),h.row.2.2];show A.length=k;omega}
theorem Tiny.plc (h:Tiny A){k:Nat}(hk:k<A.length):Plc A (0,k):=⟨by have:=h.row.2.1;dsimp only;omega,.inl (by rw [h.len];exact hk)⟩
theorem Tiny.off (h:Tiny A){k:Nat}(hk:k<=A.length):Bo A (0,k)=k:=h.place hk
theorem Tiny.Dn3 (h:Tiny A):Au A 0 false=(0,0):=by have hp:=h.plc h.pos;have:=Cn3 (past:=false) hp.on (λ_=>hp);rw [h.off (iW _)] at this;exact this
theorem Cv3 {A:List Int}(h:A.all (λv=>decide (32<=v/\v<128))=true) (h0:0<A.length):Tiny A:=by rw [aS] at h;refine ⟨λv hv=>?_,λv hv=>?_,h0⟩;{have:=cO (h v hv);omega};{have:=cO (h v hv);omega}
theorem Db8:Dh [97,98,99] 0 2 0 0 false=Bz [97,98,99] 1 0:=by have h:Tiny [97,98,99]:=Cv3 (by decide) (by decide);rw [Aw4,h.Dn3];(have hm:Le [97,98,99] 0 false=2:=by unfold Le;rw [h.len];rfl);rw [hm,aJ (by decide)];have e:(min ((0:Nat)+kOf 0) 2)=1:=(by decide);dsimp only;rw [e,h.off (by decide)]
end Mot
end
section
open Go Go.Vx
def F9 (a0:(Int×Sl×Sl×Sl×Unit)) (K:Bool->Wp):Wp:=Af (.cells #[(vI a0.1),a0.2.1.v,a0.2.2.1.v,a0.2.2.2.1.v] 26) λb1=>lI (at0 b1) λx2=>ld (.sl) (ad b1 1) λ(x3:Sl)=>Aa Tryz.prog 11 #[(.agg #[(vI x2),x3.v,(.slice none 0 0),(.slice none 0 0)])] (.tup [(.one .ptr),(.one .ptr),(.one .bool)]) λ(x4:(Option Addr×Option Addr×Bool×Unit))=>jB (λJ5=>sif (!x4.2.2.1) (J5 (true,())) (J5 ((Option.isNone x4.1),()))) λs6=>sif s6.1 (K x4.2.2.1) (lI (at0 b1) λx7=>ld (.sl) (ad b1 1) λ(x8:Sl)=>Aa Tryz.prog 12 #[(vI x7),x8.v,(vI 65536)] (.tup [(.one .ptr),(.one cI)]) λ(x9:(Option Addr×Int×Unit))=>join (S:=Option Addr×Unit) (λJ10=>Hr (S:=Option Addr×Int×Unit) (λs12 again13=>ld (.sl) (ad b1 2) λ(x14:Sl)=>sif (decide (s12.2.1<((x14.len:Nat):Int))) (ld (.sl) (ad b1 3) λ(x15:Sl)=>cB 13 #[(.pointer x4.1),(.pointer s12.1),x15.v] λx16=>sif (!x16) (K false) (drew<|ld (.sl) (ad b1 2) λ(x17:Sl)=>ixl (.sl) x17 s12.2.1 1 λ(x19:Sl)=>ld (.sl) (ad b1 2) λ(x20:Sl)=>ix x20.a x20.len s12.2.1 λp21=>ld (.sl) (p21.add (scaled (Int.toNat s12.2.1) 1)) λ(x22:Sl)=>cS 15 #[x19.v] λx23=>keep (λw=>w.cell? (p21.add (scaled (Int.toNat s12.2.1) 1))=some (Cell.val (.sl) x22))<|keep (λw=>w.cell? (ad b1 2)=some (Cell.val (.sl) x20))<|cN 14 #[(.pointer x4.1),x23.v] λx24=>keep (λw=>w.cell? (p21.add (scaled (Int.toNat s12.2.1) 1))=some (Cell.val (.sl) x22))<|keep (λw=>w.cell? (ad b1 2)=some (Cell.val (.sl) x20))<|cN 16 #[(.pointer x9.1),x22.v] λx25=>sif (x24 !=x25) (K false) (nn x9.1 λp26=>ld (.sl) (p26.add 2) λ(x27:Sl)=>Aa Tryz.prog 17 #[x27.v] rP λ(x28:Option Addr)=>again13 (x28,(W64 (s12.2.1+1)),())))) (J10 (s12.1,()))) (x4.2.1,0,())) λs11=>ld (.sl) (ad b1 3) λ(x29:Sl)=>cB 13 #[(.pointer x4.1),(.pointer s11.1),x29.v] λx30=>K x30)
def h9:Hint:=(hS (hR 2) (hS (hR 13) (hS (hJ (33030144,[(24,tB)]) (.region [] (.ops 3 (.split 21 (.skips 2 (hO 1)) (hO 3)))) (hC (hS (hR 2) hL) hL)) (hS (hR 10) (hJ (0xffffffffc00000114,[(4,tP)]) (hS (hR 1) (.block (.loop 0xffffffffc00000114 [(4,tP),(8,tI)] (hS (hS (hR 5) (hC hL hL)) (hS (.block (hS (hS (hR 6) (hC (hS (hR 1) hL) hL)) (hS (hS (.region [0,1,2,3,4,5,8,9,10,11,12,13,6,7,14,15] (hO 16)) (hC (hS (hR 1) hL) hL)) (hR 6)))) (hR 3)))))) (hS (hR 6) hL))))))
theorem A9 {a0:(Int×Sl×Sl×Sl×Unit)}{K:Bool->Wp}{w:World}(h:F9 a0 K w):Aa Tryz.prog 9 #[(vA c26 a0)] rB K w:=tied Ai Tryz.func9 h9 _ h
def F11 (a0:(Int×Sl×Sl×Sl×Unit)) (K:(Option Addr×Option Addr×Bool×Unit)->Wp):Wp:=Af (.cells #[(vI a0.1),a0.2.1.v,a0.2.2.1.v,a0.2.2.2.1.v] 26) λb1=>cB 19 #[] λx2=>sif (!x2) (K (none,none,false,())) (lI (at0 b1) λx3=>ld (.sl) (ad b1 1) λ(x4:Sl)=>Aa Tryz.prog 12 #[(vI x3),x4.v,(vI 65536)] (.tup [(.one .ptr),(.one cI)]) λ(x5:(Option Addr×Int×Unit))=>sif (x5.2.1 !=0) (K (none,none,true,())) (drew<|lI (at0 b1) λx6=>ld (.sl) (ad b1 1) λ(x7:Sl)=>Du Tryz.prog rS (Builtin.append_ #[22,22] 22 #[(.slice none 0 0),x7.v]) λ(x8:Sl)=>keep (λw=>w.cell? (at0 b1)=some (Cell.val cI x6))<|Aa Tryz.prog 20 #[(vI x6),x8.v,(vI 65536)] (.tup [(.one .ptr),(.one cI)]) λ(x9:(Option Addr×Int×Unit))=>jB (λJ10=>sif (Option.isNone x9.1) (J10 (true,())) (J10 ((x9.2.1 !=0),()))) λs11=>sif s11.1 (K (none,none,false,())) (jU (λJ12=>sI (λs14 again15=>ld (.sl) (ad b1 2) λ(x16:Sl)=>sif (decide (s14.1<((x16.len:Nat):Int))) (drew<|ld (.sl) (ad b1 2) λ(x17:Sl)=>ixl (.sl) x17 s14.1 1 λ(x19:Sl)=>ld (.sl) (ad b1 2) λ(x20:Sl)=>ix x20.a x20.len s14.1 λp21=>ld (.sl) (p21.add (scaled (Int.toNat s14.1) 1)) λ(x22:Sl)=>cS 15 #[x19.v] λx23=>keep (λw=>w.cell? (p21.add (scaled (Int.toNat s14.1) 1))=some (Cell.val (.sl) x22))<|keep (λw=>w.cell? (ad b1 2)=some (Cell.val (.sl) x20))<|cN 14 #[(.pointer x9.1),x23.v] λx24=>keep (λw=>w.cell? (p21.add (scaled (Int.toNat s14.1) 1))=some (Cell.val (.sl) x22))<|keep (λw=>w.cell? (ad b1 2)=some (Cell.val (.sl) x20))<|cN 16 #[(.pointer x5.1),x22.v] λx25=>sif (x24 !=x25) (K (none,none,false,())) (again15 ((W64 (s14.1+1)),()))) (J12 ())) (0,())) λs13=>nn x5.1 λp26=>ld (.sl) (p26.add 2) λ(x27:Sl)=>Aa Tryz.prog 17 #[x27.v] rP λ(x28:Option Addr)=>K (x9.1,x28,true,()))))
def h11:Hint:=(hS (hR 4) (hS (hS (hR 2) (hC (hS (hR 3) hL) hL)) (hS (hR 10) (hS (hS (hR 2) (hC (hS (hR 3) hL) hL)) (hS (.region (lR 11) (hO 11)) (hS (hJ (0x1f80000000,[(36,tB)]) (.region [] (.ops 3 (.split 33 (.skips 2 (hO 1)) (hO 3)))) (hC (hS (hR 3) hL) hL)) (hJ (0xfffffe00000021c,[]) (hS (hR 1) (.block (.loop 0xfffffe00000021c [(9,tI)] (hS (hS (hR 5) (hC hL hL)) (hS (.block (hS (.region [0,1,2,3,4,5,8,9,10,11,12,13,6,7,14,15] (hO 16)) (hC (hS (hR 3) hL) hL))) (hR 3)))))) (hS (hR 9) hL))))))))
theorem A11 {a0:(Int×Sl×Sl×Sl×Unit)}{K:(Option Addr×Option Addr×Bool×Unit)->Wp}{w:World}(h:F11 a0 K w):Aa Tryz.prog 11 #[(vA c26 a0)] (.tup [(.one .ptr),(.one .ptr),(.one .bool)]) K w:=tied Ai Tryz.func11 h11 _ h
def F13 (a0:Option Addr) (a1:Option Addr) (a2:Sl) (K:Bool->Wp):Wp:=cN 23 #[(.pointer a0)] λx1=>cS 22 #[(.pointer a0),(vI 0),(vI x1)] λx2=>Du Tryz.prog rS (Builtin.append_ #[43,43] 43 #[(.slice none 0 0),x2.v]) λ(x3:Sl)=>cS 24 #[(.pointer a0)] λx4=>Du Tryz.prog (.one (.one .str)) (convert 22 9 x4.v) λx5=>jU (λJ6=>sI (λs8 again9=>sif (decide (s8.1<((a2.len:Nat):Int))) (ixs c50 a2 s8.1 7 λ(x11:(Int×Int×Int×Int×Int×Int×Bool×Unit))=>cB 18 #[(.pointer a0),(.pointer a1),(vA c50 x11)] λx12=>sif (!x12) (K false) (again9 ((W64 (s8.1+1)),()))) (J6 ())) (0,())) λs7=>cN 23 #[(.pointer a0)] λx13=>cS 25 #[(.pointer a0),(vI 0),(vI x13)] λx14=>cS 22 #[(.pointer a0),(vI 0),(vI x13)] λx15=>jB (λJ16=>nn a1 λp18=>ld (.sl) p18 λ(x19:Sl)=>sif (x13 !=((x19.len:Nat):Int)) (J16 (true,())) (sif (((x14.len:Nat):Int) !=x13) (J16 (true,())) (sif (((x3.len:Nat):Int) !=x13) (J16 (true,())) (sif (((x15.len:Nat):Int) !=x13) (J16 (true,())) (cS 24 #[(.pointer a0)] λx20=>Du Tryz.prog (.one (.one .str)) (convert 22 9 x20.v) λx21=>J16 ((!(ByteArray.toList x21==ByteArray.toList x5)),())))))) λs17=>sif s17.1 (K false) (jU (λJ22=>sI (λs24 again25=>sif (decide (s24.1<x13)) (jB (λJ26=>drew<|ixI x14 s24.1 1 λx29=>nn a1 λp30=>ld (.sl) p30 λ(x31:Sl)=>ixI x31 s24.1 1 λx33=>sif (x29 !=x33) (J26 (true,())) (ixI x15 s24.1 1 λx35=>ixI x3 s24.1 1 λx37=>J26 ((x35 !=x37),()))) λs27=>sif s27.1 (K false) (again25 ((W64 (s24.1+1)),()))) (J22 ())) (0,())) λs23=>K true)
def h13:Hint:=(hS (hR 1) (hS (hR 6) (hS (hR 4) (hJ (0xfffc00240,[]) (hS (hR 1) (.block (.loop 0xfffc00240 [(9,tI)] (hS (hS (hR 4) (hC hL hL)) (hS (.block (hS (hR 8) (hC (hS (hR 1) hL) hL))) (hR 3)))))) (hS (hR 3) (hS (hR 4) (hS (hR 4) (hS (hJ ((mR [(44,76)]),[(75,tB)]) (.region [] (.ops 8 (.split 51 (.skips 4 (.ops 2 (.skips 4 (.ops 2 (.skips 4 (.ops 2 (.skips 5 (hO 1)))))))) (.ops 6 (.split 57 (.skips 4 (.ops 2 (.skips 4 (.ops 2 (.skips 5 (hO 1)))))) (.ops 6 (.split 63 (.skips 4 (.ops 2 (.skips 5 (hO 1)))) (.ops 6 (.split 69 (.skips 5 (hO 1)) (hO 6)))))))))) (hC (hS (hR 1) hL) hL)) (hJ (0xfffffff0000000000000002040,[]) (hS (hR 1) (.block (.loop 0xfffffff0000000000000002040 [(13,tI)] (hS (hS (hR 3) (hC hL hL)) (hS (.block (hJ ((mR [(81,104)]),[(103,tB)]) (.region (lR 23) (.ops 13 (.split 93 (.skips 9 (hO 1)) (hO 10)))) (hC (hS (hR 1) hL) hL))) (hR 3)))))) (hS (hR 1) hL))))))))))
theorem A13 {a0:Option Addr}{a1:Option Addr}{a2:Sl}{K:Bool->Wp}{w:World}(h:F13 a0 a1 a2 K w):Aa Tryz.prog 13 #[(.pointer a0),(.pointer a1),a2.v] rB K w:=tied Ai Tryz.func13 h13 _ h
def F15 (a0:Sl) (K:Sl->Wp):Wp:=jS (λJ1=>Hr (S:=Sl×Int×Unit) (λs3 again4=>sif (decide (s3.2.1<((a0.len:Nat):Int))) (drew<|ix a0.a a0.len s3.2.1 λp5=>ld cI (p5.add (scaled (Int.toNat s3.2.1) 3)) λ(x6:Int)=>ix a0.a a0.len s3.2.1 λp7=>ld cI ((p7.add (scaled (Int.toNat s3.2.1) 3)).add 1) λ(x8:Int)=>ixf (.sl) a0 s3.2.1 3 2 λ(x10:Sl)=>Du Tryz.prog rS (Builtin.append_ #[43,43] 43 #[(.slice none 0 0),x10.v]) λ(x11:Sl)=>keep (λw=>w.cell? ((p7.add (scaled (Int.toNat s3.2.1) 3)).add 1)=some (Cell.val cI x8))<|keep (λw=>w.cell? (p5.add (scaled (Int.toNat s3.2.1) 3))=some (Cell.val cI x6))<|Af (.cells #[(vI x6),(vI x8),x11.v] 65) λb12=>Du Tryz.prog rS (Builtin.append_ #[39,39] 39 #[s3.1.v,(.slice (some (at0 b12)) 1 1)]) λ(x13:Sl)=>again4 (x13,(W64 (s3.2.1+1)),())) (J1 (s3.1,()))) (⟨none,0,0⟩,0,())) λs2=>K s2.1
def h15:Hint:=(hS (hR 1) (hS (hR 1) (hJ (0x7ffffff8,[(3,tS)]) (hS (hR 1) (.block (.loop 0x7ffffff8 [(3,tS),(4,tI)] (hS (hS (hR 4) (hC hL hL)) (hS (.block (.region (lR 21) (hO 21))) (hR 3)))))) (hS (hR 2) hL))))
theorem A15 {a0:Sl}{K:Sl->Wp}{w:World}(h:F15 a0 K w):Aa Tryz.prog 15 #[a0.v] rS K w:=tied Ai Tryz.func15 h15 _ h
def F18 (a0:Option Addr) (a1:Option Addr) (a2:(Int×Int×Int×Int×Int×Int×Bool×Unit)) (K:Bool->Wp):Wp:=Af (.cells #[(vI a2.1),(vI a2.2.1),(vI a2.2.2.1),(vI a2.2.2.2.1),(vI a2.2.2.2.2.1),(vI a2.2.2.2.2.2.1),(.bool a2.2.2.2.2.2.2.1)] 50) λb1=>lI (at0 b1) λx2=>sif (x2==1) (drew<|lI (ad b1 1) λx3=>ld (.bool) (ad b1 6) λ(x4:Bool)=>lI (ad b1 1) λx5=>ld (.bool) (ad b1 6) λ(x6:Bool)=>cN 34 #[(.pointer a0),(vI x3),(.bool x4)] λx7=>keep (λw=>w.cell? (ad b1 6)=some (Cell.val (.bool) x6))<|keep (λw=>w.cell? (ad b1 1)=some (Cell.val cI x5))<|cN 35 #[(.pointer a1),(vI x5),(.bool x6)] λx8=>K (x7==x8)) (sif (x2==2) (drew<|lI (ad b1 1) λx9=>lI (ad b1 2) λx10=>ld (.bool) (ad b1 6) λ(x11:Bool)=>lI (ad b1 1) λx12=>lI (ad b1 2) λx13=>ld (.bool) (ad b1 6) λ(x14:Bool)=>cN 36 #[(.pointer a0),(vI x9),(vI x10),(.bool x11)] λx15=>keep (λw=>w.cell? (ad b1 6)=some (Cell.val (.bool) x14))<|keep (λw=>w.cell? (ad b1 2)=some (Cell.val cI x13))<|keep (λw=>w.cell? (ad b1 1)=some (Cell.val cI x12))<|cN 37 #[(.pointer a1),(vI x12),(vI x13),(.bool x14)] λx16=>K (x15==x16)) (sif (x2==3) (drew<|lI (ad b1 1) λx17=>lI (ad b1 1) λx18=>cN 38 #[(.pointer a0),(vI x17)] λx19=>keep (λw=>w.cell? (ad b1 1)=some (Cell.val cI x18))<|cN 39 #[(.pointer a1),(vI x18)] λx20=>K (x19==x20)) (sif (x2==4) (lI (ad b1 1) λx21=>lds c48 (ad b1 3) λ(x22:I3)=>ld (.bool) (ad b1 6) λ(x23:Bool)=>Aa Tryz.prog 40 #[(.pointer a0),(vI x21),(vA c48 x22),(.bool x23)] (.tup [(.agg c83),(.one cI)]) λ(x24:(I3×Int×Unit))=>Af (.cells #[(vI 0),(vI 0),(vI 0)] 83) λb25=>Ad (at0 b25) (vA c83 x24.1) 3<|lI (ad b1 1) λx26=>lds c48 (ad b1 3) λ(x27:I3)=>ld (.bool) (ad b1 6) λ(x28:Bool)=>Aa Tryz.prog 41 #[(.pointer a1),(vI x26),(vA c48 x27),(.bool x28)] (.tup [(.agg c83),(.one cI)]) λ(x29:(I3×Int×Unit))=>Af (.cells #[(vI 0),(vI 0),(vI 0)] 83) λb30=>Ad (at0 b30) (vA c83 x29.1) 3<|lds c83 (at0 b25) λ(x31:I3)=>lds c83 (at0 b30) λ(x32:I3)=>cB 42 #[(vA c83 x31),(vI x24.2.1),(vA c83 x32),(vI x29.2.1)] λx33=>K x33) (sif (x2==5) (lI (ad b1 1) λx34=>lI (ad b1 2) λx35=>lds c48 (ad b1 3) λ(x36:I3)=>Aa Tryz.prog 43 #[(.pointer a0),(vI x34),(vI x35),(vA c48 x36)] (.tup [(.agg c83),(.one cI)]) λ(x37:(I3×Int×Unit))=>Af (.cells #[(vI 0),(vI 0),(vI 0)] 83) λb38=>Ad (at0 b38) (vA c83 x37.1) 3<|lI (ad b1 1) λx39=>lI (ad b1 2) λx40=>lds c48 (ad b1 3) λ(x41:I3)=>Aa Tryz.prog 44 #[(.pointer a1),(vI x39),(vI x40),(vA c48 x41)] (.tup [(.agg c83),(.one cI)]) λ(x42:(I3×Int×Unit))=>Af (.cells #[(vI 0),(vI 0),(vI 0)] 83) λb43=>Ad (at0 b43) (vA c83 x42.1) 3<|lds c83 (at0 b38) λ(x44:I3)=>lds c83 (at0 b43) λ(x45:I3)=>cB 42 #[(vA c83 x44),(vI x37.2.1),(vA c83 x45),(vI x42.2.1)] λx46=>K x46) (sif (x2==6) (lI (ad b1 1) λx47=>lds c48 (ad b1 3) λ(x48:I3)=>ld (.bool) (ad b1 6) λ(x49:Bool)=>Aa Tryz.prog 45 #[(.pointer a0),(vI x47),(vA c48 x48),(.bool x49)] (.tup [(.agg c83),(.one cI)]) λ(x50:(I3×Int×Unit))=>Af (.cells #[(vI 0),(vI 0),(vI 0)] 83) λb51=>Ad (at0 b51) (vA c83 x50.1) 3<|lI (ad b1 1) λx52=>lds c48 (ad b1 3) λ(x53:I3)=>ld (.bool) (ad b1 6) λ(x54:Bool)=>Aa Tryz.prog 46 #[(.pointer a1),(vI x52),(vA c48 x53),(.bool x54)] (.tup [(.agg c83),(.one cI)]) λ(x55:(I3×Int×Unit))=>Af (.cells #[(vI 0),(vI 0),(vI 0)] 83) λb56=>Ad (at0 b56) (vA c83 x55.1) 3<|lds c83 (at0 b51) λ(x57:I3)=>lds c83 (at0 b56) λ(x58:I3)=>cB 42 #[(vA c83 x57),(vI x50.2.1),(vA c83 x58),(vI x55.2.1)] λx59=>K x59) (sif (x2==7) (lI (ad b1 1) λx60=>lds c48 (ad b1 3) λ(x61:I3)=>Aa Tryz.prog 47 #[(.pointer a0),(vI x60),(vA c48 x61)] (.tup [(.agg c83),(.one cI)]) λ(x62:(I3×Int×Unit))=>Af (.cells #[(vI 0),(vI 0),(vI 0)] 83) λb63=>Ad (at0 b63) (vA c83 x62.1) 3<|lI (ad b1 1) λx64=>lds c48 (ad b1 3) λ(x65:I3)=>Aa Tryz.prog 48 #[(.pointer a1),(vI x64),(vA c48 x65)] (.tup [(.agg c83),(.one cI)]) λ(x66:(I3×Int×Unit))=>Af (.cells #[(vI 0),(vI 0),(vI 0)] 83) λb67=>Ad (at0 b67) (vA c83 x66.1) 3<|lds c83 (at0 b63) λ(x68:I3)=>lds c83 (at0 b67) λ(x69:I3)=>cB 42 #[(vA c83 x68),(vI x62.2.1),(vA c83 x69),(vI x66.2.1)] λx70=>K x70) (sif (x2==8) (lI (ad b1 1) λx71=>lds c48 (ad b1 3) λ(x72:I3)=>Aa Tryz.prog 49 #[(.pointer a0),(vI x71),(vA c48 x72)] (.tup [(.agg c94),(.one cI)]) λ(x73:(I3×Int×Unit))=>Af (.cells #[(vI 0),(vI 0),(vI 0)] 94) λb74=>Ad (at0 b74) (vA c94 x73.1) 3<|lI (ad b1 1) λx75=>lds c48 (ad b1 3) λ(x76:I3)=>Aa Tryz.prog 50 #[(.pointer a1),(vI x75),(vA c48 x76)] (.tup [(.agg c94),(.one cI)]) λ(x77:(I3×Int×Unit))=>Af (.cells #[(vI 0),(vI 0),(vI 0)] 94) λb78=>Ad (at0 b78) (vA c94 x77.1) 3<|lds c94 (at0 b74) λ(x79:I3)=>lds c94 (at0 b78) λ(x80:I3)=>cB 51 #[(vA c94 x79),(vI x73.2.1),(vA c94 x80),(vI x77.2.1)] λx81=>K x81) (sif (x2==9) (lI (ad b1 1) λx82=>lI (ad b1 2) λx83=>lI (ad b1 3) λx84=>Aa Tryz.prog 52 #[(.pointer a0),(vI x82),(vI x83),(vI x84)] (.tup [(.agg c94),(.one cI)]) λ(x85:(I3×Int×Unit))=>Af (.cells #[(vI 0),(vI 0),(vI 0)] 94) λb86=>Ad (at0 b86) (vA c94 x85.1) 3<|lI (ad b1 1) λx87=>lI (ad b1 2) λx88=>lI (ad b1 3) λx89=>Aa Tryz.prog 53 #[(.pointer a1),(vI x87),(vI x88),(vI x89)] (.tup [(.agg c94),(.one cI)]) λ(x90:(I3×Int×Unit))=>Af (.cells #[(vI 0),(vI 0),(vI 0)] 94) λb91=>Ad (at0 b91) (vA c94 x90.1) 3<|lds c94 (at0 b86) λ(x92:I3)=>lds c94 (at0 b91) λ(x93:I3)=>cB 51 #[(vA c94 x92),(vI x85.2.1),(vA c94 x93),(vI x90.2.1)] λx94=>K x94) (K true)))))))))
def h18:Hint:=(hS (hR 2) (hS (hS (hR 2) (.block (hS (hR 2) (hC (hS (.region [0,1,2,3,4,6,7,8,9,10,5,11,12,13] (hO 14)) hL) (hS (hR 2) (hC (hS (.region [0,1,2,3,4,5,6,8,9,10,11,12,13,14,7,15,16,17] (hO 18)) hL) (hS (hR 2) (hC (hS (.region [0,1,2,4,5,6,3,7,8,9] (hO 10)) hL) (hS (hR 2) (hC (hS (hR 14) (hS (hR 14) (hS (hR 6) hL))) (hS (hR 2) (hC (hS (hR 14) (hS (hR 14) (hS (hR 6) hL))) (hS (hR 2) (hC (hS (hR 14) (hS (hR 14) (hS (hR 6) hL))) (hS (hR 2) (hC (hS (hR 12) (hS (hR 12) (hS (hR 6) hL))) (hS (hR 2) (hC (hS (hR 12) (hS (hR 12) (hS (hR 6) hL))) (hS (hR 2) (hC (hS (hR 15) (hS (hR 15) (hS (hR 6) hL))) hL)))))))))))))))))))) (hS (hR 1) hL)))
theorem A18 {a0:Option Addr}{a1:Option Addr}{a2:(Int×Int×Int×Int×Int×Int×Bool×Unit)}{K:Bool->Wp}{w:World}(h:F18 a0 a1 a2 K w):Aa Tryz.prog 18 #[(.pointer a0),(.pointer a1),(vA c50 a2)] rB K w:=tied Ai Tryz.func18 h18 _ h
def F19  (K:Bool->Wp):Wp:=Af (.cells #[(.int .u8 97),(.int .u8 98),(.int .u8 99)] 5) λb1=>Aa Tryz.prog 20 #[(vI 1),(.slice (some (at0 b1)) 3 3),(vI 9)] (.tup [(.one .ptr),(.one cI)]) λ(x2:(Option Addr×Int×Unit))=>jB (λJ3=>sif (Option.isNone x2.1) (J3 (true,())) (J3 ((x2.2.1 !=0),()))) λs4=>sif s4.1 (K false) (Aa Tryz.prog 40 #[(.pointer x2.1),(vI 0),(.agg #[(vI 2),(vI 0),(vI 0)]),(.bool false)] (.tup [(.agg c83),(.one cI)]) λ(x5:(I3×Int×Unit))=>Af (.cells #[(vI 0),(vI 0),(vI 0)] 83) λb6=>Ad (at0 b6) (vA c83 x5.1) 3<|sif (x5.2.1==0) (lI (at0 b6) λx7=>K (x7==1)) (K false))
def h19:Hint:=(hS (hR 1) (hS (hR 7) (hS (hJ (64512,[(15,tB)]) (.region [] (.ops 3 (.split 12 (.skips 2 (hO 1)) (hO 3)))) (hC (hS (hR 1) hL) hL)) (hS (hR 9) (hS (.region [] (.ops 3 (.split 24 (hO 5) (.skips 3 (hO 2))))) hL)))))
theorem A19 {K:Bool->Wp}{w:World}(h:F19  K w):Aa Tryz.prog 19 #[] rB K w:=tied Ai Tryz.func19 h19 _ h
def F42 (a0:I3) (a1:Int) (a2:I3) (a3:Int) (K:Bool->Wp):Wp:=Af (.cells #[(vI a0.1),(vI a0.2.1),(vI a0.2.2.1)] 83) λb1=>Af (.cells #[(vI a2.1),(vI a2.2.1),(vI a2.2.2.1)] 83) λb2=>lI (at0 b1) λx3=>lI (at0 b2) λx4=>sif (x3==x4) (lI (ad b1 1) λx5=>lI (ad b2 1) λx6=>sif (x5==x6) (lI (ad b1 2) λx7=>lI (ad b2 2) λx8=>sif (x7==x8) (K (a1==a3)) (K false)) (K false)) (K false)
def h42:Hint:=(hS (hR 3) (hS (.region [] (.ops 6 (.split 14 (.ops 7 (.split 21 (.ops 7 (.split 28 (hO 5) (.skips 3 (hO 2)))) (.skips 5 (.ops 2 (.skips 3 (hO 2)))))) (.skips 5 (.ops 2 (.skips 5 (.ops 2 (.skips 3 (hO 2))))))))) hL))
theorem A42 {a0:I3}{a1:Int}{a2:I3}{a3:Int}{K:Bool->Wp}{w:World}(h:F42 a0 a1 a2 a3 K w):Aa Tryz.prog 42 #[(vA c83 a0),(vI a1),(vA c83 a2),(vI a3)] rB K w:=tied Ai Tryz.func42 h42 _ h
def F51 (a0:I3) (a1:Int) (a2:I3) (a3:Int) (K:Bool->Wp):Wp:=Af (.cells #[(vI a0.1),(vI a0.2.1),(vI a0.2.2.1)] 94) λb1=>Af (.cells #[(vI a2.1),(vI a2.2.1),(vI a2.2.2.1)] 94) λb2=>lI (at0 b1) λx3=>lI (at0 b2) λx4=>sif (x3==x4) (lI (ad b1 1) λx5=>lI (ad b2 1) λx6=>sif (x5==x6) (lI (ad b1 2) λx7=>lI (ad b2 2) λx8=>sif (x7==x8) (K (a1==a3)) (K false)) (K false)) (K false)
def h51:Hint:=(hS (hR 3) (hS (.region [] (.ops 6 (.split 14 (.ops 7 (.split 21 (.ops 7 (.split 28 (hO 5) (.skips 3 (hO 2)))) (.skips 5 (.ops 2 (.skips 3 (hO 2)))))) (.skips 5 (.ops 2 (.skips 5 (.ops 2 (.skips 3 (hO 2))))))))) hL))
theorem A51 {a0:I3}{a1:Int}{a2:I3}{a3:Int}{K:Bool->Wp}{w:World}(h:F51 a0 a1 a2 a3 K w):Aa Tryz.prog 51 #[(vA c94 a0),(vI a1),(vA c94 a2),(vI a3)] rB K w:=tied Ai Tryz.func51 h51 _ h
end
section
open Go Go.Vx Cdc Trx Gly Clu Lns Obx Mot
theorem Cs1:Je Tryz.prog 39 65 3 40:=Je.of (z:=.agg #[.int .i64 0,.int .i64 0,.slice none 0 0]) C39 C65 rfl rfl rfl (by decide)
section
variable {w w':World}
theorem Cj6 {K:Bool->Wp}(hK:∀w',Ext w w'->K true w'):Aa Tryz.prog 19 #[] rB K w:=by refine A19 ?_;unfold F19;refine (St.start w).Af λb1 w1 S1 e1=>?_;have hB:By w1 ⟨some (at0 b1),3,3⟩ [97,98,99]:=Bl.Jp (S1.at_ 0 rfl) (n:=3) (sz:=1) rfl;refine Au2 (e:=.u8) (lim:=9) hB (by decide) (by decide) λp O M w2 tx hA _ e2 _=>?_;(have hA:atoms (aOf .u8 M)=[97,98,99]:=by rw [hA];kernel_rfl);have ta:TxA w2 p [97,98,99]:=⟨_,_,_,_,_,tx,hA⟩;refine Ae (λx W=>x=(false,())/\w2=W) (Ah ⟨rfl,rfl⟩) ?_;rintro _ _ ⟨rfl,rfl⟩;refine Ah (Yp (kind:=2) (count:=0) (arg:=0) (x:=0) ta λw3 e3=>?_);rw [Db8];refine ((S1.ext e2).ext e3).Af λb6 w4 S4 e4=>S4.Ad 0 rfl rfl rfl rfl λw5 S5 _=>?_;exact Bh (S5.ld (off:=0) 0 rfl (x:=1) rfl (hK w5 S5.upd))
theorem V5 {c:Cell}{cs:List Cell}{s:Sl}{xs:List (Cells.T cs)}{n:Int}{j:Nat}{K:Addr->c.T->Wp}(h:SlX w s cs.length (flat cs xs)) (h0:0<=n){x:Cells.T cs}{y:c.T}(hx:xs[n.toNat]?=some x) (hy:(Cells.vals cs x)[j]?=some (c.val y))
  (hK:∀p,(∀w',Ext w w'->w'.cell? ((p.add (scaled (Int.toNat n) cs.length)).add j)=some (c.val y))->K p y w) :
  ix s.a s.len n (λp=>ld c ((p.add (scaled (Int.toNat n) cs.length)).add j) (K p)) w:=by
 have hlt:=(fG.1 hx).1;have hjl:j<cs.length:=by
  have:=(fG.1 hy).1
  rwa [Gm] at this
 have hl:=h.Na (by omega);obtain ⟨t,h⟩:=h.Av6 (by omega);refine h.ix h0 (by omega) (by omega) λb off ha hv=>?_;have hc:w.cell? (((⟨b,off,none⟩:Addr).add (scaled (Int.toNat n) cs.length)).add j)=some (c.val y):=by
  rw [addr_add,addr_add]
  have:=hv j (c.val y) (by rw [flat_get cs xs _ j x hx hjl];exact hy)
  simpa [Ei] using this
 exact F5 (x:=y) hc (hK _ λw' x'=>Vy hc x')
theorem Cq4 {c:Cell}{cs:List Cell}{s:Sl}{xs:List (Cells.T cs)}{n:Int}{K:Addr->c.T->Wp}(h:SlX w s cs.length (flat cs xs)) (h0:0<=n){x:Cells.T cs}{y:c.T}(hx:xs[n.toNat]?=some x) (hy:(Cells.vals cs x)[0]?=some (c.val y))
  (hK:∀p,(∀w',Ext w w'->w'.cell? (p.add (scaled (Int.toNat n) cs.length))=some (c.val y))->K p y w) :
  ix s.a s.len n (λp=>ld c (p.add (scaled (Int.toNat n) cs.length)) (K p)) w:=by
 have hlt:=(fG.1 hx).1;have hjl:0<cs.length:=by
  have:=(fG.1 hy).1
  rwa [Gm] at this
 have hl:=h.Na (by omega);obtain ⟨t,h⟩:=h.Av6 (by omega);refine h.ix h0 (by omega) (by omega) λb off ha hv=>?_;have hc:w.cell? ((⟨b,off,none⟩:Addr).add (scaled (Int.toNat n) cs.length))=some (c.val y):=by
  rw [addr_add]
  have:=hv 0 (c.val y) (by rw [flat_get cs xs _ 0 x hx hjl];exact hy)
  simpa [Ei] using this
 exact F5 (x:=y) hc (hK _ λw' x'=>Vy hc x')
set_option maxHeartbeats 400000 in
theorem Co2 {s:Sl}{es:List LEd}(h:EdX w s es){K:Sl->Wp}(hK:∀r ys w',Dh7 w' r 65 ys es->(∀k,r.blk k->w.heap.size<=k)->(∀(i:Nat) y,ys[i]?=some y->∀k,y.2.2.1.blk k->w.heap.size<=k)->Ext w w'->K r w') :
  Aa Tryz.prog 15 #[s.v] rS K w:=by
 refine A15 ?_;unfold F15;obtain ⟨ys0,hs,hyl,hy0⟩:=h.ex;have few:=h.few;have hsl:ys0.length=s.len:=SlX.Na (cs:=c65) hs (by decide);refine Ae (λx W=>∃ys,Ar W w.heap.size x.1 65 3 (flat c65 ys)/\ys.length=es.length/\(∀(i:Nat) y z,ys[i]?=some y->es[i]?=some z->y.1=z.f/\y.2.1=z.t/\Ar W w.heap.size y.2.2.1 3 1 (iv z.put)/\z.put.length<=1048576)/\Ext w W) ?_ ?_
 ·refine Ba (λx W=>∃(i:Nat) (ys:List (Cells.T c65)),i<=es.length/\x.2=((i:Int),())/\Ar W w.heap.size x.1 65 3 (flat c65 ys)/\ys.length=i/\(∀(j:Nat) y z,ys[j]?=some y->es[j]?=some z->y.1=z.f/\y.2.1=z.t/\Ar W w.heap.size y.2.2.1 3 1 (iv z.put)/\z.put.length<=1048576)/\Ext w W) (λx _=>((es.length:Int)-x.2.1).toNat) ⟨0,[],iW _,rfl,Ar.nil _ _ _ _,rfl,λj y z hy=>by simp at hy,Ext.refl w⟩ ?_;rintro ⟨r,_⟩ W ⟨i,ys,hi,rfl,hr,hl,hys,eW⟩;dsimp only at hr ⊢;have hrl:ys.length=r.len:=Ar.Na (cs:=c65) hr (by decide);refine Ac (λhc=>?_) (λhc=>?_)
  ·simp only [iI] at hc;obtain ⟨y,hy⟩:∃y,ys0[i]?=some y:=⟨_,jC (by omega)⟩;obtain ⟨z,hz⟩:∃z,es[i]?=some z:=⟨_,jC (by omega)⟩;obtain ⟨y1,y2,y3,y4⟩:=hy0 i y z hy hz;(have ew:W64 ((i:Int)+1)=((i+1:Nat):Int):=by rw [wrap64 (by omega) (by omega)];omega);rw [ew];refine Ci λw2 e2 _=>?_;have x2:=eW.trans e2;(have hyn:ys0[((i:Int)).toNat]?=some y:=by rw [dF];exact hy);have hs2:=hs.ext x2;refine Cq4 (c:=.int .i64) (cs:=c65) (xs:=ys0) (y:=y.1) hs2 (kQ i) hyn rfl λq1 k1=>?_;refine V5 (c:=.int .i64) (cs:=c65) (xs:=ys0) (j:=1) (y:=y.2.1) hs2 (kQ i) hyn rfl λq2 k2=>?_;refine V5 (c:=.sl) (cs:=c65) (xs:=ys0) (j:=2) (y:=y.2.2.1) hs2 (kQ i) hyn rfl λq3 k3=>?_;(have hpl:z.put.length=y.2.2.1.len:=by have:=y3.len1;rwa [gW] at this);refine En Qi Qi.ts_ (B:=w.heap.size) (s:=⟨none,0,0⟩) (x:=y.2.2.1) (vs:=[]) (us:=iv z.put) (Ar.nil w2 w.heap.size 3 1) (y3.ext x2) (λv hv=>by obtain ⟨n,_,rfl⟩:=gY.1 hv;rfl) (by
    show (0+y.2.2.1.len+(0+y.2.2.1.len)/4+512)*8<=2^48
    omega) (by have:=x2.size;omega) λs3 w3 o3 l3 u3 b3=>?_
   (have e3:Ext w2 w3:=(Ext.refl w2).step u3 λk hk=>by obtain ⟨_,hp,_⟩:=hk;cases hp);have x3:=x2.trans e3;rw [aU] at o3;refine Bg (k2 w3 e3) (Bg (k1 w3 e3) (Cm λb12 w4 e4 n4 hb4 _=>?_));have x4:=x3.trans e4;have hbox:SlX w4 ⟨some (at0 b12),1,1⟩ 3 (flat c65 [(y.1,y.2.1,s3,())]):=(Bl.Jp n4 (n:=1) (sz:=3) rfl).x;refine En Cs1 Cs1.ts_ (x:=⟨some (at0 b12),1,1⟩) (hr.ext ((e2.trans e3).trans e4)) hbox (λv hv=>by
    have hv:v∈[Value.int .i64 y.1,.int .i64 y.2.1,.slice s3.a s3.len s3.cap]:=hv
    simp only [aG,kW,kX] at hv
    rcases hv with rfl|rfl|rfl<;>rfl) (by
    show (r.len+1+(r.len+1)/4+512)*40<=2^48
    omega) (by have:=x4.size;omega) λr' w5 o5 l5 u5 b5=>?_
   have x5:Ext w w5:=x4.step u5 λk hk=>hr.Fq hk;have ef:flat c65 ys++flat c65 [(y.1,y.2.1,s3,())]=flat c65 (ys++[(y.1,y.2.1,s3,())]):=(by simp [flat]);rw [ef] at o5;have ne:∀{sl:Sl} {v:List Int} {V:World},Ar V w.heap.size sl 3 1 (iv v)->Ext V w4->Ar w5 w.heap.size sl 3 1 (iv v):=λho e=>(ho.ext e).ty (t:=3) u5 (λk hk c fr hn=>by
    obtain ⟨c',fr',hc'⟩:=(hr.ext ((e2.trans e3).trans e4)).in.Fv hk
    rw [hn] at hc'
    cases hc')
   refine ⟨⟨i+1,ys++[(y.1,y.2.1,s3,())],by omega,rfl,o5,by simp [hl],λj y' z' hy' hz'=>?_,x5⟩,by (try dsimp only);omega⟩;by_cases hj:j<ys.length;{rw [fZ hj] at hy';obtain ⟨g1,g2,g3,g4⟩:=hys j y' z' hy' hz';exact ⟨g1,g2,ne g3 ((e2.trans e3).trans e4),g4⟩}
   ·have hje:j=i:=by
     have:=(fG.1 hy').1
     simp at this;omega
    subst hje;rw [←hl,qA] at hy';cases hy';rw [hz] at hz';cases hz';exact ⟨y1,y2,ne o3 e4,y4⟩
  {simp only [iH] at hc;obtain rfl:i=es.length:=(by omega);exact ⟨ys,hr,hl,hys,eW⟩}
 rintro ⟨r,_⟩ W ⟨ys,hr,hl,hys,eW⟩;refine hK r ys W ⟨hr.in,hl,λi y z hy hz=>?_⟩ (λk hk=>hr.Fq hk) (λi y hy k hk=>?_) eW;{obtain ⟨g1,g2,g3,g4⟩:=hys i y z hy hz;exact ⟨g1,g2,⟨_,g3.in⟩,by omega⟩};{obtain ⟨z,hz⟩:∃z,es[i]?=some z:=⟨_,jC (by have:=(fG.1 hy).1;omega)⟩;exact (hys i y z hy hz).2.2.1.Fq hk}
abbrev lkO (y:Cells.T c26):Obj:=.cells #[.int .i64 y.1,.slice y.2.1.a y.2.1.len y.2.1.cap,.slice y.2.2.1.a y.2.2.1.len y.2.2.1.cap,.slice y.2.2.2.1.a y.2.2.2.1.len y.2.2.2.1.cap] 26 (0,0)
theorem EdX.ext {s:Sl}{es:List LEd}(h:EdX w s es) (e:Ext w w'):EdX w' s es:=by obtain ⟨ys,h1,h2,h3⟩:=h.ex;exact ⟨⟨ys,h1.ext e,h2,λi y x hy hx=>by obtain ⟨a,b,c,d⟩:=h3 i y x hy hx;exact ⟨a,b,c.ext e,d⟩⟩,h.few⟩
theorem Bo1 {e:Enc}{lim:Nat}{A:As}{es:List LEd}(h:Jy e lim A es=0):Dn e es<=lim:=by unfold Jy at h;split at h;{cases h};split at h;{cases h};rename_i hr;split at h;{cases h};split at h;{cases h};have gl:=V7 (A:=A) (es:=es) (a:=0) (dG _) (by simpa using hr);omega
theorem Da3 {c:Int}(h:1<=c/\c<=4):∃e:Enc,e.num=c:=by rcases (by omega:c=1\/c=2\/c=3\/c=4) with rfl|rfl|rfl|rfl;{exact ⟨.u8,rfl⟩};{exact ⟨.le,rfl⟩};{exact ⟨.be,rfl⟩};{exact ⟨.l1,rfl⟩}
end
end
section
open Go Go.Vx Cdc Trx
namespace Cdc
def Xx (B:List Int):Nat->List LEd->List Int
 |a,[]=>B.drop a
 |a,x::r=>(B.drop a).take (x.f.toNat-a)++x.put++Xx B x.t.toNat r
theorem apply_seq {e:Enc}{A:As}:∀{es:List LEd}{a:Int},0<=a->a<=A.length->Iy A.length a es=true->atoms (Dq e A es)=(atoms A).take a.toNat++Xx (atoms A) a.toNat es
 |[],a,_,_,_=>by
  show atoms A=_
  rw [Xx,jD]
 | x::r,a,h0,ha,hr=>by
  rw [Iy,aV,iI] at hr
  obtain ⟨⟨h1,h2,h3⟩,h4⟩:=hr
  have ih:=apply_seq (e:=e) (es:=r) (a:=x.t) (by omega) h3 h4
  have hl:(atoms A).length=A.length:=gW ..
  have hp:atoms (prs e x.put)=x.put:=by unfold prs atoms;rw [jL];exact List.map_id x.put
  rw [Dq]
  show List.map _ _=_
  rw [lG,lG,kE,kD]
  show (atoms (Dq e A r)).take _++atoms (prs e x.put)++(atoms (Dq e A r)).drop _=_
  rw [ih,hp,Xx,jW (by rw [gI];omega),jV (by rw [gI];omega),iM,gK (by omega),iY (by rw [gI];omega),aU]
  have e1:(atoms A).take x.f.toNat=(atoms A).take a.toNat++((atoms A).drop a.toNat).take (x.f.toNat-a.toNat):=by
   conv=>lhs;rw [show x.f.toNat=a.toNat+(x.f.toNat-a.toNat) by omega]
   rw [kY]
  rw [e1];simp [eG]
theorem De3 {B:List Int}{i:Nat}{es:List LEd}{v:Int}(hv:B[i]?=some v) (hf:∀x,es.head?=some x->(i:Int)<x.f):Xx B i es=v::Xx B (i+1) es:=by
 have hlt:=(fG.1 hv).1;have hd:B.drop i=v::B.drop (i+1):=(by rw [iZ hlt,(fG.1 hv).2]);cases es with
 |nil=>exact hd
 |cons x r=>have:=hf x rfl;obtain ⟨m,hm⟩:∃m,x.f.toNat-i=m+1:=⟨x.f.toNat-i-1,by omega⟩;rw [Xx,Xx,hd,hm,iK,show x.f.toNat-(i+1)=m by omega];rfl
theorem Ax1 {e:Enc}{A:As}(h:∀a∈atoms A,sz e a≠0):∀{es:List LEd},Jf e es=true->∀a∈atoms (Dq e A es),sz e a≠0
 |[],_=>h
 | x::r,hf=>by
  unfold Jf at hf
  rw [aY,aV] at hf
  have ih:=Ax1 h (es:=r) hf.2
  intro a ha
  rw [Dq] at ha
  obtain ⟨y,hy,rfl⟩:=gY.1 ha
  rw [bV,bV] at hy
  rcases hy with (hy|hy)|hy
  ·exact ih _ (gY.2 ⟨y,iU hy,rfl⟩)
  ·obtain ⟨b,hb,rfl⟩:=gY.1 hy
   have:=aS.1 hf.1 b hb
   rw [mY] at this
   exact this
  ·exact ih _ (gY.2 ⟨y,iV hy,rfl⟩)
theorem Cz9 {e:Enc}{B:List Int}(h:∀a∈B,sz e a≠0):B.length<=szs (prs e B):=by
 have:=Wn (l:=prs e B) λy hy=>by
  obtain ⟨a,ha,rfl⟩:=gY.1 hy
  have:=h a ha
  show 1<=sz e a
  omega
 unfold prs at this
 rwa [gW] at this
def Ql (e:Enc) (n:Nat) (es:List LEd):Int:=if 70000<es.length then 3 else if Iy n 0 es=false then 2 else if Jf e es=false then 11 else 0
theorem Az3 {e:Enc}{lim:Nat}{A:As}{es:List LEd}:Jy e lim A es=if Ql e A.length es≠0 then Ql e A.length es else if lim+Jt A es<szs A+Dn e es then 50 else 0:=by unfold Jy Ql;by_cases h1:70000<es.length;{rw [aF h1,aF h1,aF (by decide)]};{rw [aJ h1,aJ h1];by_cases h2:Iy A.length 0 es=false;{rw [aF h2,aF h2,aF (by decide)]};{rw [aJ h2,aJ h2];by_cases h3:Jf e es=false;{rw [aF h3,aF h3,aF (by decide)]};{rw [aJ h3,aJ h3,aJ (show ¬(0:Int)≠0 from λhh=>hh rfl)]}}}
end Cdc
section
variable {w w':World}{r:Nat}{e:Enc}{B:List Int}{F:Nat->Prop}{s:Sl}{es:List LEd}
structure EdR (w:World) (s:Sl) (ys:List (Cells.T c65)) (es:List LEd):Prop where
 row:SlX w s 3 (flat c65 ys)
 len:ys.length=es.length
 slen:ys.length=s.len
 each:∀(i:Nat) y x,ys[i]?=some y->es[i]?=some x->y.1=x.f/\y.2.1=x.t/\SlX w y.2.2.1 1 (iv x.put)/\x.put.length<=1048576
 few:es.length<=1048576
theorem EdX.toR (h:EdX w s es):∃ys,EdR w s ys es:=by obtain ⟨ys,h1,h2,h3⟩:=h.ex;exact ⟨ys,h1,h2,SlX.Na (cs:=c65) h1 (by decide),h3,h.few⟩
theorem EdR.ext {ys:List (Cells.T c65)}(h:EdR w s ys es) (x:Ext w w'):EdR w' s ys es:=⟨h.row.ext x,h.len,h.slen,λi y z hy hz=>by obtain ⟨a,b,c,d⟩:=h.each i y z hy hz;exact ⟨a,b,c.ext x,d⟩,h.few⟩
theorem EdR.get {ys:List (Cells.T c65)}(h:EdR w s ys es){i:Nat}(hi:i<es.length):∃y x,ys[((i:Int)).toNat]?=some y/\es[i]?=some x/\y.1=x.f/\y.2.1=x.t/\SlX w y.2.2.1 1 (iv x.put)/\x.put.length<=1048576/\y.2.2.1.len=x.put.length:=by have:=h.len;obtain ⟨y,hy⟩:∃y,ys[i]?=some y:=⟨_,jC (by omega)⟩;obtain ⟨x,hx⟩:∃x,es[i]?=some x:=⟨_,jC hi⟩;obtain ⟨a,b,c,d⟩:=h.each i y x hy hx;have hl:=c.len1;rw [gW] at hl;exact ⟨y,x,by rw [dF];exact hy,hx,a,b,c,d,hl.symm⟩
theorem wn (n:Nat) (h:n<=2^40):W64 ((n:Int)+1)=((n+1:Nat):Int):=by rw [wrap64 (by omega) (by omega)];omega
theorem Vd {n:Nat}{a:Int}{es:List LEd}{i:Nat}{x:LEd}(hx:es[i]?=some x):Iy n a (es.drop i)=(decide (a<=x.f/\x.f<=x.t/\x.t<=n)&&Iy n x.t (es.drop (i+1))):=by have hlt:=(fG.1 hx).1;rw [iZ hlt,(fG.1 hx).2,Iy]
set_option maxHeartbeats 1000000 in
theorem Ar3 {ys:List (Cells.T c65)}(h:Si w r e B F) (hE:EdR w s ys es){K:Int->Wp}(hK:∀w',Ext w w'->K (Ql e B.length es) w') :
  Aa Tryz.prog 28 #[.pointer (some (at0 r)),s.v] rI K w:=by
 refine A28 ?_;unfold F28;have hel:=hE.len;have hsl:=hE.slen;have few:=hE.few;refine Ac (λhc=>?_) (λhc=>?_);{simp only [iI,kG] at hc;have:=hK w (Ext.refl w);unfold Ql at this;rw [aF (by omega)] at this;exact this};simp only [iH,kG] at hc;have hK:∀w',Ext w w'->K (if Iy B.length 0 es=false then 2 else if Jf e es=false then 11 else 0) w':=λw' x=>by
  have:=hK w' x
  unfold Ql at this
  rwa [aJ (by omega)] at this
 refine Ae (λ_ W=>Ext w W/\Iy B.length 0 es=true) ?_ ?_;{refine Ba (λx W=>∃(a:Int) (i:Nat),x=(a,(i:Int),())/\i<=es.length/\Ext w W/\Iy B.length 0 es=Iy B.length a (es.drop i)) (λx _=>((es.length:Int)-x.2.1).toNat) ⟨0,0,rfl,iW _,Ext.refl _,rfl⟩ ?_;rintro _ W ⟨a,i,rfl,hi,eW,hr⟩;dsimp only;refine Ac (λhc2=>?_) (λhc2=>?_);{simp only [iI] at hc2;obtain ⟨y,x,g1,g2,g3,g4,_,_,_⟩:=(hE.ext eW).get (i:=i) (by omega);have g3:@Eq Int y.1 x.f:=g3;have g4:@Eq Int y.2.1 x.t:=g4;rw [Vd g2] at hr;refine Bx5 (cs:=c65) (xs:=ys) (hE.ext eW).row (by decide) (kQ i) g1 λp5=>?_;refine (St.start W).Fp rfl rfl rfl λb7 w2 S2 e2=>?_;have S2:St (λ_=>False) W w2 [(b7,.cells #[.int .i64 y.1,.int .i64 y.2.1,.slice y.2.2.1.a y.2.2.1.len y.2.2.1.cap] 65 (0,0))]:=S2;refine Ae (λz V=>z=(decide (¬(a<=x.f/\x.f<=x.t/\x.t<=B.length)),())/\St (λ_=>False) W V [(b7,.cells #[.int .i64 y.1,.int .i64 y.2.1,.slice y.2.2.1.a y.2.2.1.len y.2.2.1.cap] 65 (0,0))]) ?_ ?_;{refine S2.drew λw3 S3 e3 _=>S3.ld (off:=0) 0 rfl (x:=y.1) rfl (Ac (λh1=>⟨Az ?_,S3⟩) (λh1=>S3.ld (off:=1) 0 rfl (x:=y.2.1) rfl (S3.ld (off:=0) 0 rfl (x:=y.1) rfl (Ac (λh2=>⟨Az ?_,S3⟩) (λh2=>S3.ld (off:=1) 0 rfl (x:=y.2.1) rfl ((h.ext (eW.trans S3.upd)).Pj λsa hsa=>⟨Az ?_,S3⟩))))));{simp only [iI,lQ] at h1 ⊢;omega};{simp only [iI,iH,lQ] at h1 h2 ⊢;omega};{have hl:=hsa.len1;rw [gW] at hl;simp only [iI,iH,kG] at h1 h2 ⊢;omega}};rintro _ V ⟨rfl,SV⟩;refine Ac (λhb=>?_) (λhb=>?_);{have hb:=cO hb;rw [jQ hb,lW] at hr;have:=hK V (eW.trans SV.upd);rw [aF hr] at this;exact this};{have hb:=lJ λhn=>(pW hb) hn;rw [jP hb,lD] at hr;rw [wn i (by omega)];refine SV.ld (off:=1) 0 rfl (x:=y.2.1) rfl ⟨⟨y.2.1,i+1,rfl,by omega,eW.trans SV.upd,by rw [g4];exact hr⟩,by omega⟩}};{simp only [iH] at hc2;obtain rfl:i=es.length:=(by omega);rw [lY,Iy] at hr;exact ⟨eW,hr⟩}};rintro _ w1 ⟨e1,hr⟩;have hK:∀w',Ext w w'->K (if Jf e es=false then 11 else 0) w':=λw' x=>by
  have:=hK w' x
  rwa [aJ (by rw [hr];decide)] at this
 refine Ae (λ_ W=>Ext w W/\Jf e es=true) ?_ ?_
 ·refine Ba (λx W=>∃i:Nat,x=((i:Int),())/\i<=es.length/\Ext w W/\Jf e (es.take i)=true) (λx _=>((es.length:Int)-x.1).toNat) ⟨0,rfl,iW _,e1,rfl⟩ ?_;rintro _ W ⟨i,rfl,hi,eW,hf⟩;dsimp only;refine Ac (λhc2=>?_) (λhc2=>?_)
  ·simp only [iI] at hc2;obtain ⟨y,x,g1,g2,g3,g4,_,g6,g7⟩:=(hE.ext eW).get (i:=i) (by omega);(have ht:es.take (i+1)=es.take i++[x]:=by rw [kT,g2];rfl);refine Ae (λ_ V=>Ext w V/\(x.put.all λa=>sz e a !=0)=true) ?_ ?_
   ·refine Ba (λz V=>∃j:Nat,z=((j:Int),())/\j<=x.put.length/\Ext w V/\((x.put.take j).all λa=>sz e a !=0)=true) (λz _=>((x.put.length:Int)-z.1).toNat) ⟨0,rfl,iW _,eW,rfl⟩ ?_;rintro _ V ⟨j,rfl,hj,eV,hp⟩;dsimp only;have hEV:=hE.ext eV;obtain ⟨y',x',k1,k2,_,_,k5,_,_⟩:=hEV.get (i:=i) (by omega);rw [g1] at k1;cases k1;rw [g2] at k2;cases k2;refine V5 (c:=.sl) (cs:=c65) (xs:=ys) (j:=2) (y:=y.2.2.1) hEV.row (kQ i) g1 rfl λp25 _=>?_;refine Ac (λhc3=>?_) (λhc3=>?_)
    ·simp only [iI] at hc3;obtain ⟨v,hv⟩:∃v,x.put[j]?=some v:=⟨_,jC (by omega)⟩;refine Ci λw2 e2 _=>(h.ext (eV.trans e2)).Da4 ?_;have hE2:=hEV.ext e2;refine V5 (c:=.sl) (cs:=c65) (xs:=ys) (j:=2) (y:=y.2.2.1) hE2.row (kQ i) g1 rfl λp29 _=>?_;refine Bb4 (c:=.int .i64) (xs:=x.put) (k5.ext e2) (kQ j) (x:=v) (by rw [dF];exact hv) λp31=>?_;refine Al1 ?_;refine Ac (λhb=>?_) (λhb=>?_)
     ·have hb:(sz e v !=0)=false:=(by simpa using hb);have hall:Jf e es=false:=by
       unfold Jf
       rw [pV]
       refine ⟨x,eY g2,?_⟩
       rw [Bool.not_eq_true,pV]
       exact ⟨v,eY hv,by rw [hb];decide⟩
      have:=hK w2 (eV.trans e2);rw [aF hall] at this;exact this
     {have hb:(sz e v !=0)=true:=(by simpa using hb);rw [wn j (by omega)];refine ⟨⟨j+1,rfl,by omega,eV.trans e2,?_⟩,by omega⟩;rw [kT,hv,aX,hp];simp only [lU,aY,List.all_nil,hb,lD]}
    {simp only [iH] at hc3;obtain rfl:j=x.put.length:=(by omega);rw [jR] at hp;exact ⟨eV,hp⟩}
   rintro _ V ⟨eV,hp⟩;rw [wn i (by omega)];refine ⟨⟨i+1,rfl,by omega,eV,?_⟩,by omega⟩;rw [ht,Aw0,hf];show (true&&((x.put.all λa=>sz e a !=0)&&true))=true;rw [hp];rfl
  {simp only [iH] at hc2;obtain rfl:i=es.length:=(by omega);rw [jR] at hf;exact ⟨eW,hf⟩}
 rintro _ w2 ⟨e2,hf⟩;have:=hK w2 e2;rw [aJ (by rw [hf];decide)] at this;exact this
theorem Aj1 {l:List Int}{j:Nat}{v:Int}(hv:l[j]?=some v):szs (prs e (l.take (j+1)))=szs (prs e (l.take j))+sz e v:=by rw [kT,hv];show szs (List.map _ (_++[v]))=_;rw [lG,Bq];show szs (prs e (l.take j))+szs [(v,sz e v)]=_;simp [szs]
theorem Bm7 (l:List Int):szs (prs e l)<=4*l.length:=by
 induction l with
 |nil=>exact fJ _
 |cons a m ih=>show Cdc.szs ((a,sz e a)::prs e m)<=_;rw [Jl,dB];have:=Be5 e a;show sz e a+_<=_;omega
theorem Bf5 (h:Si w r e B F){K:Int->Wp}(hK:∀w',Ext w w'->K (szs (prs e B):Int) w') :
  Aa Tryz.prog 30 #[.pointer (some (at0 r))] rI K w:=by refine A30 ?_;unfold F30;have hB:=h.len;refine Ae (λx W=>x=((szs (prs e B):Int),())/\Ext w W) ?_ (by rintro _ W ⟨rfl,x⟩;exact hK W x);refine Ba (λx W=>∃j:Nat,x=((szs (prs e (B.take j)):Int),(j:Int),())/\j<=B.length/\Ext w W) (λx _=>((B.length:Int)-x.2.1).toNat) ⟨0,rfl,iW _,Ext.refl _⟩ ?_;rintro _ W ⟨j,rfl,hj,eW⟩;dsimp only;refine (h.ext eW).Pj λsa hsa=>?_;have hl:=hsa.len1;rw [gW] at hl;refine Ac (λhc=>?_) (λhc=>?_);{simp only [iI] at hc;obtain ⟨v,hv⟩:∃v,B[j]?=some v:=⟨_,jC (by omega)⟩;refine Ci λw2 e2 _=>(h.ext (eW.trans e2)).Da4 ((h.ext (eW.trans e2)).Pj λsa2 hsa2=>?_);refine Ew (c:=.int .i64) (xs:=B) hsa2 (kQ j) (x:=v) (by rw [dF];exact hv) λp=>Ak6 λw3 e3=>?_;have h1:=Aj1 (e:=e) hv;have h2:=Bm7 (e:=e) (B.take j);have h3:=Be5 e v;rw [gI] at h2;(have ew:W64 ((szs (prs e (B.take j)):Int)+(sz e v:Int))=(szs (prs e (B.take (j+1))):Int):=by rw [wrap64 (by omega) (by omega)];omega);rw [ew,wn j (by omega)];exact ⟨⟨j+1,rfl,by omega,(eW.trans e2).trans e3⟩,by omega⟩};{simp only [iH] at hc;obtain rfl:j=B.length:=(by omega);exact ⟨by rw [jR],eW⟩}
section
variable {w0 W:World}{N b bx:Nat}{sa st:Sl}{L T:List Int}{v:Int}
theorem Cn0 {R:World->Prop}(S:St (λ_=>False) w0 W [(bx,.cells #[.int .i64 v] 3 (0,0)),(b,r5O e sa st)]) (tw:Oj W N sa st L T) (hl:L.length<2^40) (hN:N<=W.heap.size) (h0:w0.heap.size<=N) (hb:b<N)
  (hK:∀sa' W',St (λ_=>False) w0 W' [(b,r5O e sa' st)]->Oj W' N sa' st (L++[v]) T->W.heap.size<=W'.heap.size->R W') :
  Du Tryz.prog (.one (.one .sl)) (Builtin.append_ #[43,43] 43 #[.slice sa.a sa.len sa.cap,.slice (some (at0 bx)) 1 1]) (λx=>nn (some (at0 b)) λp=>stC (p.add 2) (.slice x.a x.len x.cap) R) W:=by
 refine Bv6 tw (S.at_ 0 rfl) hl hN λsa' w4 t4 g4 u4=>?_;have S4:St (λ_=>False) w0 w4 [(b,r5O e sa st)]:=S.tail.fresh u4 (λk hk=>.inr (by have:=g4 k hk;omega)) (λz hz hk=>by
  rw [iT.1 hz] at hk
  have:=g4 _ hk
  dsimp only at this;omega)
 refine Am (S4.stC (off:=2) 0 rfl (by show 2<5;decide) λw5 S5 u5=>?_);exact hK sa' w5 S5 (t4.box (S4.at_ 0 rfl) (by decide) u5) (by have:=u4.size;have:=u5.size;omega)
theorem Cm9 {R:World->Prop}(S:St (λ_=>False) w0 W [(bx,.cells #[.int .i64 v] 3 (0,0)),(b,r5O e sa st)]) (tw:Oj W N sa st L T) (hl:T.length<2^40) (hN:N<=W.heap.size) (h0:w0.heap.size<=N) (hb:b<N)
  (hK:∀st' W',St (λ_=>False) w0 W' [(b,r5O e sa st')]->Oj W' N sa st' L (T++[v])->W.heap.size<=W'.heap.size->R W') :
  Du Tryz.prog (.one (.one .sl)) (Builtin.append_ #[43,43] 43 #[.slice st.a st.len st.cap,.slice (some (at0 bx)) 1 1]) (λx=>nn (some (at0 b)) λp=>stC (p.add 3) (.slice x.a x.len x.cap) R) W:=by
 refine Bv6 tw.swap (S.at_ 0 rfl) hl hN λst' w4 t4 g4 u4=>?_;have S4:St (λ_=>False) w0 w4 [(b,r5O e sa st)]:=S.tail.fresh u4 (λk hk=>.inr (by have:=g4 k hk;omega)) (λz hz hk=>by
  rw [iT.1 hz] at hk
  have:=g4 _ hk
  dsimp only at this;omega)
 refine Am (S4.stC (off:=3) 0 rfl (by show 3<5;decide) λw5 S5 u5=>?_);exact hK st' w5 S5 (t4.swap.box (S4.at_ 0 rfl) (by decide) u5) (by have:=u4.size;have:=u5.size;omega)
end
set_option maxHeartbeats 4000000 in
theorem U1 {ys:List (Cells.T c65)}{A:As}(h:Si w r e B F) (hA:A=prs e B) (hE:EdR w s ys es) (hs1:szs A<=65536){K:Int->Wp}
  (hno:Jy e 65536 A es≠0->∀w',Ext w w'->K (Jy e 65536 A es) w')
  (hyes:Jy e 65536 A es=0->∀F' w',Si w' r e (atoms (Dq e A es)) F'->Upd (λk=>k=r) w w'->(∀k,F' k->F k\/w.heap.size<=k)->K 0 w') :
  Aa Tryz.prog 16 #[.pointer (some (at0 r)),s.v] rI K w:=by
 refine A16 ?_;unfold F16;have hel:=hE.len;have hsl:=hE.slen;have few:=hE.few;(have hBA:B=atoms A:=by rw [hA];unfold prs atoms;rw [jL];exact (List.map_id B).symm);have hlen:A.length=B.length:=(by rw [hBA,gW]);have hB:=h.len;have h3:=Az3 (e:=e) (lim:=65536) (A:=A) (es:=es);rw [hlen] at h3;refine Ar3 h hE λw1 e1=>?_;refine Ac (λhc=>?_) (λhc=>?_);{have hc:Ql e B.length es≠0:=(by simpa using hc);rw [aF hc] at h3;rw [h3] at hno;exact hno hc w1 e1};have hc:Ql e B.length es=0:=(by simpa using hc);rw [aJ (by omega)] at h3;have hrf:es.length<=70000/\Iy B.length 0 es=true/\Jf e es=true:=by
  unfold Ql at hc
  split at hc
  ·cases hc
  split at hc
  ·cases hc
  split at hc
  ·cases hc
  exact ⟨by omega,by simpa using ‹¬Iy B.length 0 es=false›,by simpa using ‹¬Jf e es=false›⟩
 obtain ⟨hfew,hrng,hfit⟩:=hrf;(have hrngA:Iy A.length 0 es=true:=by rw [hlen];exact hrng);have hgone:=V7 (A:=A) (es:=es) (a:=0) (dG _) hrngA;refine Ae (λ_ W=>Ext w W/\Dn e es<=65536) ?_ ?_
 ·refine Ba (λx W=>∃i:Nat,x=((Dn e (es.take i):Int),(i:Int),())/\i<=es.length/\Ext w W/\Dn e (es.take i)<=65536) (λx _=>((es.length:Int)-x.2.1).toNat) ⟨0,rfl,iW _,e1,iW _⟩ ?_;rintro _ W ⟨i,rfl,hi,eW,hsz⟩;dsimp only;refine Ac (λhc2=>?_) (λhc2=>?_)
  ·simp only [iI] at hc2;obtain ⟨y,x,g1,g2,_,_,_,g6,g7⟩:=(hE.ext eW).get (i:=i) (by omega);(have ht:es.take (i+1)=es.take i++[x]:=by rw [kT,g2];rfl);(have hps:Dn e (es.take (i+1))=Dn e (es.take i)+szs (prs e x.put):=by rw [ht,Ve];rfl);have hall:Dn e es=Dn e (es.take (i+1))+Dn e (es.drop (i+1)):=by
    conv=>lhs;rw [←jD (i+1) es]
    rw [Ve]
   refine Ae (λz V=>z=((Dn e (es.take (i+1)):Int),())/\Ext w V/\Dn e (es.take (i+1))<=65536) ?_ ?_
   ·refine Ba (λz V=>∃j:Nat,z=(((Dn e (es.take i)+szs (prs e (x.put.take j)):Nat):Int),(j:Int),())/\j<=x.put.length/\Ext w V/\Dn e (es.take i)+szs (prs e (x.put.take j))<=65536) (λz _=>((x.put.length:Int)-z.2.1).toNat) ⟨0,rfl,iW _,eW,hsz⟩ ?_;rintro _ V ⟨j,rfl,hj,eV,hp⟩;dsimp only;have hEV:=hE.ext eV;obtain ⟨y',x',k1,k2,_,_,k5,_,_⟩:=hEV.get (i:=i) (by omega);rw [g1] at k1;cases k1;rw [g2] at k2;cases k2;refine V5 (c:=.sl) (cs:=c65) (xs:=ys) (j:=2) (y:=y.2.2.1) hEV.row (kQ i) g1 rfl λp25 _=>?_;refine Ac (λhc3=>?_) (λhc3=>?_)
    ·simp only [iI] at hc3;obtain ⟨v,hv⟩:∃v,x.put[j]?=some v:=⟨_,jC (by omega)⟩;refine Ci λw2 e2 _=>(h.ext (eV.trans e2)).Da4 ?_;have hE2:=hEV.ext e2;refine V5 (c:=.sl) (cs:=c65) (xs:=ys) (j:=2) (y:=y.2.2.1) hE2.row (kQ i) g1 rfl λp29 _=>?_;refine Bb4 (c:=.int .i64) (xs:=x.put) (k5.ext e2) (kQ j) (x:=v) (by rw [dF];exact hv) λp31=>?_;refine Ak6 λw3 e3=>(h.ext ((eV.trans e2).trans e3)).Dg0 λ_=>?_;have h1:=Aj1 (e:=e) hv;have h3':=Be5 e v;(have ew:W64 (((Dn e (es.take i)+szs (prs e (x.put.take j)):Nat):Int)+(sz e v:Int))=((Dn e (es.take i)+szs (prs e (x.put.take (j+1))):Nat):Int):=by rw [wrap64 (by omega) (by omega)];omega);rw [ew];refine Ac (λhb=>?_) (λhb=>?_)
     ·simp only [iI,kG] at hb;have hle:szs (prs e (x.put.take (j+1)))<=szs (prs e x.put):=by
       have:prs e (x.put.take (j+1))=(prs e x.put).take (j+1):=by unfold prs;rw [kE]
       rw [this];exact Wq _ _
      have h0:=Wq A (0:Int).toNat;rw [aF (by omega)] at h3;have:=hno (by rw [h3];decide) w3 ((eV.trans e2).trans e3);rw [h3] at this;exact this
     {simp only [iH,kG] at hb;rw [wn j (by omega)];exact ⟨⟨j+1,rfl,by omega,(eV.trans e2).trans e3,by omega⟩,by omega⟩}
    {simp only [iH] at hc3;obtain rfl:j=x.put.length:=(by omega);rw [jR] at hp ⊢;rw [←hps] at hp ⊢;exact ⟨rfl,eV,hp⟩}
   rintro _ V ⟨rfl,eV,hp⟩;rw [wn i (by omega)];exact ⟨⟨i+1,rfl,by omega,eV,hp⟩,by omega⟩
  {simp only [iH] at hc2;obtain rfl:i=es.length:=(by omega);rw [jR] at hsz;exact ⟨eW,hsz⟩}
 rintro _ w2 ⟨e2,hput⟩;refine Ci λw3 e3 _=>?_;have x3:=e2.trans e3;have h3':=h.ext x3;refine h3'.Da4 (h3'.Dg0 λ_=>?_);refine (St.start w3).Am1 λb25 w4 S4 e4 hb25=>?_;have S4:St (λ_=>False) w3 w4 [(b25,r5O e ⟨none,0,0⟩ ⟨none,0,0⟩)]:=S4;have hb4:b25<w4.heap.size:=lt_of_heap (S4.at_ 0 rfl);have h34:w3.heap.size<=w4.heap.size:=e4.size;obtain ⟨tgt,htg⟩:∃tgt,Xx B 0 es=tgt:=⟨_,rfl⟩;have happ:atoms (Dq e A es)=tgt:=by
  have:=apply_seq (e:=e) (A:=A) (es:=es) (a:=0) (dG _) (by omega) hrngA
  rw [this,←hBA,←htg];rfl
 have hap:=Zx (e:=e) (A:=A) (es:=es) (a:=0) (dG _) (by omega) hrngA;have hszt:szs (prs e tgt)=szs (Dq e A es):=by
  have hok:=Aq3 (e:=e) (A:=A) (by rw [hA];exact Bo4 e B) es
  rw [hok.prs,happ]
 have hfitt:∀a∈tgt,sz e a≠0:=by
  rw [←happ]
  exact Ax1 (A:=A) (by rw [←hBA];exact h.fit) hfit
 have hnum:tgt.length<=200000:=by
  have:=Cz9 hfitt
  omega
 refine Ae (λ_ W=>∃sa st T,St (λ_=>False) w3 W [(b25,r5O e sa st)]/\Oj W w4.heap.size sa st tgt T/\T.length=tgt.length) ?_ ?_
 ·refine Ba (λx W=>∃(k i:Nat) (g:Int) (sa st:Sl) (L T:List Int),x=((k:Int),g,(i:Int),())/\i<=B.length+1/\k<=es.length/\0<=g/\g<=B.length/\St (λ_=>False) w3 W [(b25,r5O e sa st)]/\Oj W w4.heap.size sa st L T/\T.length=L.length/\L++Xx B (max i g.toNat) (es.drop k)=tgt/\Iy B.length g (es.drop k)=true/\(∀x,es[k]?=some x->(i:Int)<=x.f)/\w4.heap.size<=W.heap.size) (λx _=>((B.length:Int)+1-x.2.2.1).toNat)
   ⟨0,0,0,⟨none,0,0⟩,⟨none,0,0⟩,[],[],rfl,iW _,iW _,dG _,by omega,S4,Oj.nil _ _,rfl,by rw [←htg];rfl,hrng,λx hx=>by
    obtain ⟨g1,_⟩:=U0 (i:=0) hrng hx
    simpa using g1,fJ _⟩ ?_
  rintro _ W ⟨k,i,g,sa,st,L,T,rfl,hi,hk,hg0,hg1,SW,tw,hT,hL,hr,hf,hWs⟩;dsimp only;have xW:Ext w W:=x3.trans SW.upd;refine (h.ext xW).Pj λs0 hs0=>?_;have hl0:=hs0.len1;rw [gW] at hl0;refine Ac (λhc2=>?_) (λhc2=>?_)
  ·simp only [iI] at hc2;have hin:i<=B.length:=(by omega);refine Ae (λz V=>∃(k':Nat) (g':Int) (sa' st':Sl) (L' T':List Int),z=((k':Int),g',())/\k'<=es.length/\0<=g'/\g'<=B.length/\St (λ_=>False) w3 V [(b25,r5O e sa' st')]/\Oj V w4.heap.size sa' st' L' T'/\T'.length=L'.length/\L'++Xx B (max (i+1) g'.toNat) (es.drop k')=tgt/\Iy B.length g' (es.drop k')=true/\(∀x,es[k']?=some x->(i:Int)<x.f)/\w4.heap.size<=V.heap.size) ?_ ?_
   ·refine Ae (λz V=>∃(k':Nat) (g':Int) (sa' st':Sl) (L' T':List Int),z=((k':Int),g',())/\k'<=es.length/\0<=g'/\g'<=B.length/\St (λ_=>False) w3 V [(b25,r5O e sa' st')]/\Oj V w4.heap.size sa' st' L' T'/\T'.length=L'.length/\L'++Xx B (max i g'.toNat) (es.drop k')=tgt/\Iy B.length g' (es.drop k')=true/\(∀x,es[k']?=some x->(i:Int)<x.f)/\w4.heap.size<=V.heap.size) ?_ ?_
    ·refine Ba (λz V=>∃(k':Nat) (g':Int) (sa' st':Sl) (L' T':List Int),z=((k':Int),g',())/\k'<=es.length/\0<=g'/\g'<=B.length/\St (λ_=>False) w3 V [(b25,r5O e sa' st')]/\Oj V w4.heap.size sa' st' L' T'/\T'.length=L'.length/\L'++Xx B (max i g'.toNat) (es.drop k')=tgt/\Iy B.length g' (es.drop k')=true/\(∀x,es[k']?=some x->(i:Int)<=x.f)/\w4.heap.size<=V.heap.size) (λz _=>((es.length:Int)-z.1).toNat) ⟨k,g,sa,st,L,T,rfl,hk,hg0,hg1,SW,tw,hT,hL,hr,hf,hWs⟩ ?_;rintro _ V ⟨k,g,sa,st,L,T,rfl,hk,hg0,hg1,SV,tw,hT,hL,hr,hf,hVs⟩;dsimp only;have xV:Ext w V:=x3.trans SV.upd;have hEV:=hE.ext xV;refine Ae (λz U=>z=(decide (∃x,es[k]?=some x/\x.f=(i:Int)),())/\V=U) ?_ ?_;{refine Ac (λhc3=>?_) (λhc3=>⟨Az ?_,rfl⟩);{simp only [iI] at hc3;obtain ⟨y,x,g1,g2,g3,_,_,_,_⟩:=hEV.get (i:=k) (by omega);refine Cq4 (c:=.int .i64) (cs:=c65) (xs:=ys) (y:=y.1) hEV.row (kQ k) g1 rfl λp _=>⟨Az ?_,rfl⟩;rw [g3,jM,iI];exact ⟨λhh=>⟨x,g2,hh⟩,λ⟨x',h1,h2⟩=>by rw [g2] at h1;cases h1;exact h2⟩};{simp only [iH] at hc3;simp only [dO,iI,lS];rintro ⟨x,hx,_⟩;have:=(fG.1 hx).1;omega}};rintro _ _ ⟨rfl,rfl⟩;refine Ac (λhb=>?_) (λhb=>?_)
     ·obtain ⟨x,hx,hxf⟩:=cO hb;have hkl:=(fG.1 hx).1;rw [Vd hx,aV,iI] at hr;obtain ⟨⟨r1,r2,r3⟩,r4⟩:=hr;have hd:es.drop k=x::es.drop (k+1):=(by rw [iZ hkl,(fG.1 hx).2]);have hL2:L++x.put++Xx B (max i x.t.toNat) (es.drop (k+1))=tgt:=by
       rw [←hL,hd,Xx,show max i g.toNat=i by omega,show x.f.toNat-i=0 by omega,iL,aU,show max i x.t.toNat=x.t.toNat by omega,eG]
      obtain ⟨y,x',g1,g2,g3,g4,_,g6,g7⟩:=hEV.get (i:=k) (by omega);rw [hx] at g2;cases g2;have hLl:L.length+x.put.length<=200000:=by
       have:=fC List.length hL2
       rw [iE,iE] at this
       omega
      refine Ae (λ_ U=>∃(sa' st':Sl) (T':List Int),St (λ_=>False) w3 U [(b25,r5O e sa' st')]/\Oj U w4.heap.size sa' st' (L++x.put) T'/\T'.length=(L++x.put).length/\w4.heap.size<=U.heap.size) ?_ ?_;{refine Ba (λz U=>∃(j:Nat) (sa' st':Sl) (T':List Int),z=((j:Int),())/\j<=x.put.length/\St (λ_=>False) w3 U [(b25,r5O e sa' st')]/\Oj U w4.heap.size sa' st' (L++x.put.take j) T'/\T'.length=(L++x.put.take j).length/\w4.heap.size<=U.heap.size) (λz _=>((x.put.length:Int)-z.1).toNat) ⟨0,sa,st,T,rfl,iW _,SV,by rw [iL,kM];exact tw,by rw [iL,kM];exact hT,hVs⟩ ?_;rintro _ U ⟨j,sa,st,T,rfl,hj,SU,tw,hT,hUs⟩;dsimp only;have xU:Ext w U:=x3.trans SU.upd;have hEU:=hE.ext xU;obtain ⟨y',x',k1,k2,_,_,k5,_,_⟩:=hEU.get (i:=k) (by omega);rw [g1] at k1;cases k1;rw [hx] at k2;cases k2;refine V5 (c:=.sl) (cs:=c65) (xs:=ys) (j:=2) (y:=y.2.2.1) hEU.row (kQ k) g1 rfl λp46 _=>?_;refine Ac (λhc3=>?_) (λhc3=>?_);{simp only [iI] at hc3;obtain ⟨v,hv⟩:∃v,x.put[j]?=some v:=⟨_,jC (by omega)⟩;refine SU.drew λw5 S5 e5 _=>Am (S5.ld (off:=2) 0 rfl (x:=sa) rfl ?_);refine V5 (c:=.sl) (cs:=c65) (xs:=ys) (j:=2) (y:=y.2.2.1) (hEU.ext e5).row (kQ k) g1 rfl λp50 _=>?_;refine Bb4 (c:=.int .i64) (xs:=x.put) (k5.ext e5) (kQ j) (x:=v) (by rw [dF];exact hv) λp52=>?_;(have hlt:(L++x.put.take j).length<2^40:=by rw [iE,gI];omega);refine S5.Af λb54 w6 S6 e6=>S6.keep (off:=2) 1 rfl (v:=.slice sa.a sa.len sa.cap) rfl (Cn0 S6 ((tw.ext e5).ext e6) hlt (by have:=e5.size;have:=e6.size;omega) h34 hb4 λsa' w7 S7 t7 z7=>?_);refine Am (S7.ld (off:=3) 0 rfl (x:=st) rfl (S7.Af λb59 w8 S8 e8=>Cm9 S8 (t7.ext e8) (by omega) (by have:=e5.size;have:=e6.size;have:=e8.size;omega) h34 hb4 λst' w9 S9 t9 z9=>?_));rw [wn j (by omega)];(have et:x.put.take (j+1)=x.put.take j++[v]:=by rw [kT,hv];rfl);refine ⟨⟨j+1,sa',st',T++[-1],rfl,by omega,S9,by rw [et,←eG];exact t9,by rw [et,←eG,iE,iE,hT];rfl,by have:=e5.size;have:=e6.size;have:=e8.size;omega⟩,by omega⟩};{simp only [iH] at hc3;obtain rfl:j=x.put.length:=(by omega);rw [jR] at tw hT;exact ⟨sa,st,T,SU,tw,hT,hUs⟩}};rintro _ U ⟨sa',st',T',SU,tw',hT',hUs⟩;have hEU:=hE.ext (x3.trans SU.upd);refine V5 (c:=.int .i64) (cs:=c65) (xs:=ys) (j:=1) (y:=y.2.1) hEU.row (kQ k) g1 rfl λp62 _=>?_;rw [wn k (by omega),g4];refine ⟨⟨k+1,x.t,sa',st',L++x.put,T',rfl,by omega,by omega,r3,SU,tw',hT',hL2,r4,λx2 hx2=>?_,hUs⟩,by omega⟩;have hr5:=r4;rw [Vd hx2,aV,iI] at hr5;omega
     {have hb:=pW hb;refine ⟨k,g,sa,st,L,T,rfl,hk,hg0,hg1,SV,tw,hT,hL,hr,λx hx=>?_,hVs⟩;have h1:=hf x hx;have h2:¬x.f=(i:Int):=λhh=>hb ⟨x,hx,hh⟩;omega}
    rintro _ V ⟨k,g,sa,st,L,T,rfl,hk,hg0,hg1,SV,tw,hT,hL,hr,hf,hVs⟩;have xV:Ext w V:=x3.trans SV.upd;dsimp only;refine Ae (λz U=>z=(decide (i<B.length/\g<=(i:Int)),())/\V=U) ((h.ext xV).Pj λs1 hs1=>?_) ?_;{have hl1:=hs1.len1;rw [gW] at hl1;refine Ac (λhc3=>⟨Az ?_,rfl⟩) (λhc3=>⟨Az ?_,rfl⟩);{simp only [iI,jT] at hc3 ⊢;omega};{simp only [iH] at hc3;simp only [dO,iI,lS];omega}};rintro _ _ ⟨rfl,rfl⟩;refine Ac (λhb=>?_) (λhb=>?_)
    ·obtain ⟨b1,b2⟩:=cO hb;obtain ⟨v,hv⟩:∃v,B[i]?=some v:=⟨_,jC b1⟩;rw [show max i g.toNat=i by omega,De3 hv (λx hx=>hf x (by rw [kZ] at hx;exact hx))] at hL;have hLl:L.length+1<=200000:=by
      have:=fC List.length hL
      rw [iE,dB] at this
      omega
     refine SV.drew λw5 S5 e5 _=>Am (S5.ld (off:=2) 0 rfl (x:=sa) rfl ((h.ext (xV.trans e5)).Pj λs2 hs2=>?_));refine Ew (c:=.int .i64) (xs:=B) hs2 (kQ i) (x:=v) (by rw [dF];exact hv) λp72=>?_;refine S5.Af λb74 w6 S6 e6=>S6.keep (off:=2) 1 rfl (v:=.slice sa.a sa.len sa.cap) rfl (Cn0 S6 ((tw.ext e5).ext e6) (by omega) (by have:=e5.size;have:=e6.size;omega) h34 hb4 λsa' w7 S7 t7 z7=>?_);refine S7.drew λw8 S8 e8 _=>Am (S8.ld (off:=3) 0 rfl (x:=st) rfl ((h.ext (x3.trans S8.upd)).Di2 λs3 T0 hs3 hT0=>?_));obtain ⟨u,hu⟩:∃u,T0[i]?=some u:=⟨_,jC (by omega)⟩;refine Ew (c:=.int .i64) (xs:=T0) hs3 (kQ i) (x:=u) (by rw [dF];exact hu) λp81=>?_;refine S8.Af λb83 w9 S9 e9=>S9.keep (off:=3) 1 rfl (v:=.slice st.a st.len st.cap) rfl (Cm9 S9 ((t7.ext e8).ext e9) (by omega) (by have:=e5.size;have:=e6.size;have:=e8.size;have:=e9.size;omega) h34 hb4 λst' w10 S10 t10 z10=>?_);exact ⟨k,g,sa',st',L++[v],T++[u],rfl,hk,hg0,hg1,S10,t10,by rw [iE,iE,hT];rfl,by rw [show max (i+1) g.toNat=i+1 by omega,eG];exact hL,hr,hf,by have:=e5.size;have:=e6.size;have:=e8.size;have:=e9.size;omega⟩
    ·have hb:=pW hb;refine ⟨k,g,sa,st,L,T,rfl,hk,hg0,hg1,SV,tw,hT,?_,hr,hf,hVs⟩;by_cases hg:(i:Int)<g;{rw [show max (i+1) g.toNat=max i g.toNat by omega];exact hL}
     ·have hn:i=B.length:=by
       rcases lT i B.length with u|u
       ·exact absurd ⟨u,by omega⟩ hb
       ·omega
      have hnil:es.drop k=[]:=by
       cases hd:es[k]? with
       |none=>rw [kV] at hd;exact iY hd
       |some x=>have h1:=hf x hd;rw [Vd hd,aV,iI] at hr;omega
      rw [hnil] at hL ⊢;rw [show max i g.toNat=i by omega] at hL;rw [show max (i+1) g.toNat=i+1 by omega];rw [Xx,iY (by omega)] at hL ⊢;exact hL
   rintro _ V ⟨k,g,sa,st,L,T,rfl,hk,hg0,hg1,SV,tw,hT,hL,hr,hf,hVs⟩;rw [wn i (by omega)];exact ⟨⟨k,i+1,g,sa,st,L,T,rfl,by omega,hk,hg0,hg1,SV,tw,hT,hL,hr,λx hx=>by have:=hf x hx;omega,hVs⟩,by omega⟩
  ·simp only [iH] at hc2;have hi':i=B.length+1:=(by omega);have hnil:es.drop k=[]:=by
    cases hd:es[k]? with
    |none=>rw [kV] at hd;exact iY hd
    |some x=>have h1:=hf x hd;rw [Vd hd,aV,iI] at hr;omega
   rw [hnil,Xx,iY (by omega),kM] at hL;subst hL;exact ⟨sa,st,T,SW,tw,hT⟩
 rintro _ w5 ⟨sa,st,T,S5,tw,hT⟩;have x5:Ext w w5:=x3.trans S5.upd;have hnew:Si w5 b25 e tgt (λk=>w3.heap.size<=k/\k<w5.heap.size):=⟨⟨sa,st,T,S5.at_ 0 rfl,tw.one.in,tw.two.in,hT,λk hk=>⟨by have:=tw.one.Fq hk;omega,tw.one.in.Ph hk⟩,λk hk=>⟨by have:=tw.two.Fq hk;omega,tw.two.in.Ph hk⟩⟩,⟨S5.ge 0 rfl,lt_of_heap (S5.at_ 0 rfl)⟩,hfitt,λk hk=>hk.2,by omega⟩;refine Ci λw6 e6 _=>?_;have S6:=S5.ext e6;refine (h.ext (x5.trans e6)).Dg0 λkl=>Bf5 (hnew.ext e6) λw7 e7=>Bg (kl w7 e7) ?_;have S7:=S6.ext e7;have x7:Ext w w7:=(x5.trans e6).trans e7;rw [hszt];refine Ac (λhb=>?_) (λhb=>?_);{simp only [iI,kG] at hb;rw [aF (by omega)] at h3;have:=hno (by rw [h3];decide) w7 x7;rw [h3] at this;exact this};{simp only [iH,kG] at hb;rw [aJ (by omega)] at h3;obtain ⟨sa0,st0,T0,h1,_,_,_,_,_⟩:=(h.ext x7).ex;have hrb:r<w.heap.size:=h.own r h.root;have hwr:w.heap.size<=w3.heap.size:=x3.size;(have hbr:b25≠r:=by have:=S7.ge 0 rfl;omega);refine Am (S7.ld (off:=2) 0 rfl (x:=sa) rfl (Am (Jm (off:=2) h1 (by show 2<5;decide) λw8 u8 n8 _=>?_)));have hb8:w8.heap[b25]?=some (r5O e sa st):=u8.get (S7.at_ 0 rfl) λhh=>hbr hh;refine Am (Ce (off:=3) (x:=st) hb8 rfl (Am (Jm (off:=3) n8 (by show 3<5;decide) λw9 u9 n9 _=>?_)));rw [←happ] at tw hT;have tw7:=(tw.ext e6).ext e7;have tw9:=(tw7.box h1 (by decide) u8).box n8 (by decide) u9;(have hlen9:(atoms (Dq e A es)).length<=1048576:=by rw [happ];omega);refine hyes h3 (λk=>k=r\/(w3.heap.size<=k/\k<w9.heap.size)) w9 ⟨⟨sa,st,T,n9,tw9.one.in,tw9.two.in,hT,λk hk=>.inr ⟨by have:=tw9.one.Fq hk;omega,tw9.one.in.Ph hk⟩,λk hk=>.inr ⟨by have:=tw9.two.Fq hk;omega,tw9.two.in.Ph hk⟩⟩,.inl rfl,by rw [happ];exact hfitt,λk hk=>?_,hlen9⟩ (((Upd.Ed x7).trans u8).trans u9) (λk hk=>?_);{rcases hk with rfl|hk;{have:=x7.size;have:=u8.size;have:=u9.size;omega};{exact hk.2}};{rcases hk with rfl|hk;{exact .inl h.root};{exact .inr (by omega)}}}
end
end
end Go.Proofs.YtolhlldgnfbemaaGreatDoor
