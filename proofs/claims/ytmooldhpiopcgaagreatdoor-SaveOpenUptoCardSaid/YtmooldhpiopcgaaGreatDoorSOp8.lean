/- YtmooldhpiopcgaaGreatDoorSOp8: parts of the proof, put together by program. -/
import Derived.Test.YtmooldhpiopcgaaGreatDoorSOp7
set_option linter.unusedVariables false
set_option linter.defProp false
set_option linter.unusedSimpArgs false
set_option linter.unusedSectionVars false
noncomputable section
set_option maxHeartbeats 2000000
set_option maxRecDepth 100000
namespace Go.Proofs.YtmooldhpiopcgaaGreatDoor
open Go.Proofs.Tryz
section
open Go Go.Vx Cdc Trx
section
variable {w w':World}
def Ar7 {b:Nat}{c:Array Value}{l:Bs}(h:w.heap[b]?=some (.cells c 5 (0,0))) (hc:c.toList=bv l):By w ⟨some (at0 b),l.length,l.length⟩ l:=by (have hs:c.size=l.length*1:=by rw [←mD,hc,nO];omega);have:=Dx.Jk h (n:=l.length) (sz:=1) hs;rw [hc] at this;exact this
def Kt {n:Int}{m:Nat}(hm:m<256) (h:n=(m:Int)):Value.int .u8 (IntKind.wrap .u8 n)=Value.int .u8 ((UInt8.ofNat m).toNat:Int):=by rw [h,Ey hm,Bu7 (by omega) (by omega)]
def Bg9 {a:Int}(ha:Scalar a){K:Sl->Wp}(hK:∀s w',By w' s (pt8 a)->Ext w w'->K s w'):Aa prog 232 #[vI a] rS K w:=by
 refine Dc1 ?_;unfold F232;obtain ⟨n,rfl⟩:∃n:Nat,a=(n:Int):=qN (by rcases ha with h|h<;>omega);(have td:∀m:Nat,Int.tdiv (n:Int) ((m:Nat):Int)=((n/m:Nat):Int):=λm=>by rw [vN (by omega)];rfl);(have tm:∀k m:Nat,Int.tmod (k:Int) ((m:Nat):Int)=((k%m:Nat):Int):=λk m=>by rw [xA (by omega)];rfl);have d64:=td 64;have d4096:=td 4096;have d262144:=td 262144;have hn:n<1114112:=(by rcases ha with h|h<;>omega);refine Ac (λh=>?_) (λh=>Ac (λh2=>?_) (λh2=>Ac (λh3=>?_) (λh3=>?_)));{simp only [pF] at h;refine Ag λb w1 e1 n1 _ _=>hK _ w1 ?_ e1;have:=Ar7 (l:=pt8 (n:Int)) n1 (by rw [Bk8 (by omega)];show [_]=[_];rw [Kt (m:=n) (by omega) rfl]);rw [Bk8 (by omega)] at this ⊢;exact this}
 ·simp only [pF,oK] at h h2;refine Ea (by decide) (Ea (by decide) (Ag λb w1 e1 n1 _ _=>hK _ w1 ?_ e1));have:=Ar7 (l:=pt8 (n:Int)) n1 (by
   rw [Bk7 (by omega) (by omega)]
   show [_,_]=[_,_]
   have e1:=td 64;have e2:=tm n 64
   simp only [xB] at e1 e2
   rw [e1,e2,wrap64 (a:=((n/64:Nat):Int)) (by omega) (by omega),iE (by omega),iE (by omega),Kt (m:=192+n/64) (by omega) (by omega),Kt (m:=128+n%64) (by omega) (by omega)])
  rw [Bk7 (by omega) (by omega)] at this ⊢;exact this
 ·simp only [pF,oK] at h h2 h3;refine Ea (by decide) (Ea (by decide) (Ea (by decide) (Ea (by decide) (Ag λb w1 e1 n1 _ _=>hK _ w1 ?_ e1))));have:=Ar7 (l:=pt8 (n:Int)) n1 (by
   rw [Bk6 ha (by omega) (by omega)]
   show [_,_,_]=[_,_,_]
   have e1:=td 64;have e2:=tm n 64;have e3:=td 4096;have e4:=tm (n/64) 64
   simp only [xB] at e1 e2 e3 e4
   rw [e1,e2,e3,wrap64 (a:=((n/64:Nat):Int)) (by omega) (by omega),wrap64 (a:=((n/4096:Nat):Int)) (by omega) (by omega),e4,iE (by omega),iE (by omega),iE (by omega),Kt (m:=224+n/4096) (by omega) (by omega),Kt (m:=128+n/64%64) (by omega) (by omega),Kt (m:=128+n%64) (by omega) (by omega)])
  rw [Bk6 ha (by omega) (by omega)] at this ⊢;exact this
 ·simp only [oK] at h h2 h3;refine Ea (by decide) (Ea (by decide) (Ea (by decide) (Ea (by decide) (Ea (by decide) (Ea (by decide) (Ag λb w1 e1 n1 _ _=>hK _ w1 ?_ e1))))));have:=Ar7 (l:=pt8 (n:Int)) n1 (by
   rw [Bk5 (by omega) (by omega)]
   show [_,_,_,_]=[_,_,_,_]
   have e1:=td 64;have e2:=tm n 64;have e3:=td 4096;have e4:=tm (n/64) 64;have e5:=td 262144;have e6:=tm (n/4096) 64
   simp only [xB] at e1 e2 e3 e4 e5 e6
   rw [e1,e2,e3,e5,wrap64 (a:=((n/64:Nat):Int)) (by omega) (by omega),wrap64 (a:=((n/4096:Nat):Int)) (by omega) (by omega),wrap64 (a:=((n/262144:Nat):Int)) (by omega) (by omega),e4,e6,iE (by omega),iE (by omega),iE (by omega),iE (by omega),
    Kt (m:=240+n/262144) (by omega) (by omega),Kt (m:=128+n/4096%64) (by omega) (by omega),Kt (m:=128+n/64%64) (by omega) (by omega),Kt (m:=128+n%64) (by omega) (by omega)])
  rw [Bk5 (by omega) (by omega)] at this ⊢;exact this
def Y5 {s t:Sl}{l m:Bs}{n:Nat}{ty:TypeId}(hs:Dx w s ty 1 (bv l)) (ht:By w t m) (hn:n<=l.length) (hl:l.length<2^60) (hm:m.length<2^60){K:Bool->Wp}(hK:iF w (K (decide ((l.drop n).take m.length=m)))) :
  Aa prog 223 #[s.v,vI n,t.v] rB K w:=by
 refine Dd0 ?_
 unfold F223
 have h1:=Ro hs;have h2:=Ro ht
 rw [iE (by omega)]
 refine Ac (λh=>?_) (λh=>?_)
 ·simp only [pF,sH] at h
  have:=hK w (Ext.refl w)
  rw [qO] at this
  ·exact this
  ·intro hc
   have:=lW List.length hc
   rw [nG,nH] at this;omega
 simp only [oK,sH] at h
 refine Ai (λ_ w'=>Ext w w'/\(l.drop n).take m.length=m) ?_ ?_
 ·refine Bo (λx w'=>∃i:Nat,i<=m.length/\x=((i:Int),())/\Ext w w'/\(l.drop n).take i=m.take i) (λx _=>((m.length:Int)-x.1).toNat) ⟨0,qI _,rfl,Ext.refl w,by simp⟩ ?_
  rintro _ w1 ⟨i,hi,rfl,e1,heq⟩
  refine Ac (λhc=>?_) (λhc=>?_)
  ·simp only [pF] at hc
   have him:i<m.length:=by omega
   have hil:n+i<l.length:=by omega
   have ew:W64 ((n:Int)+(i:Int))=((n+i:Nat):Int):=iD (by omega)
   rw [ew]
   refine Az λw2 e2 _=>Qr (hs.ext (e1.trans e2)) (by omega) (b:=l[n+i]) (by rw [kH];simp [hil]) λp=>Qr (ht.ext (e1.trans e2)) (by omega) (b:=m[i]) (by rw [kH];simp [him]) λq=>?_
   have g1:(l.drop n)[i]?=some l[n+i]:=by rw [nK];simp [hil]
   refine Ac (λhne=>?_) (λhne=>?_)
   ·simp only [wI] at hne
    have:=hK w2 (e1.trans e2)
    rw [qO] at this
    ·exact this
    ·intro hc2
     have h5:((l.drop n).take m.length)[i]?=m[i]?:=by rw [hc2]
     rw [nJ,iK him,g1,oP him] at h5
     exact hne (by rw [sW h5])
   ·have hne':((l[n+i].toNat:Int) !=(m[i].toNat:Int))=false:=hne
    simp only [bne_eq_false_iff_eq] at hne'
    have hbe:l[n+i]=m[i]:=wJ.1 (by omega)
    have ew2:W64 ((i:Int)+1)=((i+1:Nat):Int):=iD (by omega)
    refine ⟨⟨i+1,by omega,by rw [ew2],e1.trans e2,?_⟩,?_⟩
    ·rw [sO,sO,heq,g1,oP him,hbe]
    ·dsimp only
     rw [ew2];omega
  ·simp only [oK] at hc
   have:i=m.length:=by omega
   subst this
   exact ⟨e1,by rw [heq,rH]⟩
 ·rintro _ w1 ⟨e1,heq⟩
  have:=hK w1 e1
  rwa [uX heq] at this
def Bg3:∀(l:Bs) (a:Int),l.length<=3->-1000<=a->a<=1000->-1000000000<=Zx a l/\Zx a l<=1000000000:=by
 intro l a hl h0 h1
 match l,hl with
 |[],_=>exact ⟨by show -1000000000<=a;omega,by show a<=1000000000;omega⟩
 |[x],_=>have:=x.toNat_lt;exact ⟨by show _<=a*64+(x.toNat:Int)-128;omega,by show a*64+(x.toNat:Int)-128<=_;omega⟩
 |[x,y],_=>have:=x.toNat_lt;have:=y.toNat_lt;exact ⟨by show _<=(a*64+(x.toNat:Int)-128)*64+(y.toNat:Int)-128;omega,by show (a*64+(x.toNat:Int)-128)*64+(y.toNat:Int)-128<=_;omega⟩
 |[x,y,z],_=>have:=x.toNat_lt;have:=y.toNat_lt;have:=z.toNat_lt;exact ⟨by show _<=((a*64+(x.toNat:Int)-128)*64+(y.toNat:Int)-128)*64+(z.toNat:Int)-128;omega,by show ((a*64+(x.toNat:Int)-128)*64+(y.toNat:Int)-128)*64+(z.toNat:Int)-128<=_;omega⟩
def Bs1 (a:Int) (l:Bs) (x:UInt8):Zx a (l++[x])=Zx a l*64+(x.toNat:Int)-128:=by simp [Zx]
def Bf1 {s:Sl}{b:UInt8}{l r:Bs}{n m:Nat}{ty:TypeId}(hs:Dx w s ty 1 (bv l)) (hl:l.length<2^60) (hr:l.drop n=b::r) (hm0:1<=m) (hm4:m<=4) (hm:n+m<=l.length){K:Int->Wp}(hK:iF w (K (Ih m (b::r)))) :
  Aa prog 230 #[s.v,vI n,vI m] rI K w:=by
 refine Dc3 ?_;unfold F230;have h1:=Ro hs;have hb:=b.toNat_lt;have hnl:n<l.length:=(by omega);have hrl:r.length=l.length-n-1:=by
  have:=lW List.length hr
  rw [nH,kE] at this;omega
 have g0:l[n]?=some b:=by
  have:=lW (λx=>x[0]?) hr
  simp only [nK,xC,Nat.add_zero] at this
  exact this
 have gi:∀i,l[n+(i+1)]?=r[i]?:=λi=>by
  have:=lW (λx=>x[i+1]?) hr
  simp only [nK,List.getElem?_cons_succ] at this
  exact this
 refine (St.start w).Iz rfl rfl rfl λb1 w1 S1 e1=>S1.drew λw2 S2 e2 _=>Qr (hs.ext S2.upd) (by omega) (b:=b) (by rw [kH];exact g0) λp=>Ea (by omega) ?_;rw [addr_add,Fj,kH];have hlead:(#[(vI (0:Int)),(vI (0:Int)),(vI (192:Int)),(vI (224:Int)),(vI (240:Int))]:Array Value)[0+m*1]?=some (vI (Rk m)):=by
  match m,hm0,hm4 with
  |1,_,_=>rfl
  |2,_,_=>rfl
  |3,_,_=>rfl
  |4,_,_=>rfl
 (have hlb:0<=Rk m/\Rk m<=240:=by unfold Rk;(repeat' split)<;>omega);refine Af (S2.at_ 0 rfl) (x:=Rk m) hlead ?_;rw [wrap64 (a:=(b.toNat:Int)) (by omega) (by omega),wrap64 (a:=(b.toNat:Int)-Rk m) (by omega) (by omega)];refine Ai (λx w'=>x=(Ih m (b::r),())/\Ext w w') ?_ ?_
 ·refine Bo (λx w'=>∃i:Nat,1<=i/\i<=m/\x=(Zx ((b.toNat:Int)-Rk m) (r.take (i-1)),(i:Int),())/\Ext w w') (λx _=>((m:Int)-x.2.1).toNat) ⟨1,by omega,by omega,rfl,S2.upd⟩ ?_;rintro _ w3 ⟨i,hi1,him,rfl,e3⟩;refine Ac (λhc=>?_) (λhc=>?_)
  ·simp only [pF] at hc;have ew:W64 ((n:Int)+(i:Int))=((n+i:Nat):Int):=iD (by omega);rw [ew];have hil:n+i<l.length:=(by omega);refine Qr (hs.ext e3) (by omega) (b:=l[n+i]) (by rw [kH];simp [hil]) λq=>?_;have hxb:=l[n+i].toNat_lt;have hg:r[i-1]?=some l[n+i]:=by
    rw [←gi (i-1),show n+(i-1+1)=n+i by omega];simp [hil]
   have hbd:=Bg3 (r.take (i-1)) ((b.toNat:Int)-Rk m) (by rw [nG];omega) (by omega) (by omega);have hsn:Zx ((b.toNat:Int)-Rk m) (r.take (i+1-1))=Zx ((b.toNat:Int)-Rk m) (r.take (i-1))*64+(l[n+i].toNat:Int)-128:=by
    rw [show i+1-1=(i-1)+1 by omega,sO,hg]
    exact Bs1 _ _ _
   have ew2:W64 ((i:Int)+1)=((i+1:Nat):Int):=iD (by omega);rw [wrap64 (a:=Zx ((b.toNat:Int)-Rk m) (r.take (i-1))*64) (by omega) (by omega),wrap64 (a:=(l[n+i].toNat:Int)) (by omega) (by omega),wrap64 (a:=Zx ((b.toNat:Int)-Rk m) (r.take (i-1))*64+(l[n+i].toNat:Int)) (by omega) (by omega),wrap64 (a:=Zx ((b.toNat:Int)-Rk m) (r.take (i-1))*64+(l[n+i].toNat:Int)-128) (by omega) (by omega),ew2];refine ⟨⟨i+1,by omega,by omega,?_,e3⟩,?_⟩;{rw [hsn]};{dsimp only;omega}
  {simp only [oK] at hc;have:i=m:=(by omega);subst this;exact ⟨rfl,e3⟩}
 {rintro _ w3 ⟨rfl,e3⟩;exact hK w3 e3}
def Ar1 {s:Sl}{l:Bs}{n:Nat}{ty:TypeId}(hs:Dx w s ty 1 (bv l)) (hl:l.length<2^60) (hn:n<l.length){K:Int×Int×Unit->Wp}(hK:iF w (K ((nx8 (l.drop n)).1,((nx8 (l.drop n)).2:Nat),()))) :
  Aa prog 228 #[s.v,vI n] bJ K w:=by
 refine Dc5 ?_;unfold F228;have h1:=Ro hs;obtain ⟨b,r,hr⟩:∃b r,l.drop n=b::r:=⟨_,_,tV hn⟩;have hb:=b.toNat_lt;have hrl:r.length=l.length-n-1:=by
  have:=lW List.length hr
  rw [nH,kE] at this;omega
 have g0:l[n]?=some b:=by
  have:=lW (λx=>x[0]?) hr
  simp only [nK,xC,Nat.add_zero] at this
  exact this
 rw [hr] at hK;have hsz:=Qn b r;refine Ai (λ_ w'=>Ext w w'/\¬0<=(nx8 (b::r)).1) ?_ ?_
 ·refine Bo (λx w'=>∃i:Nat,1<=i/\i<=5/\x=((i:Int),())/\Ext w w'/\(0<=(nx8 (b::r)).1->i<=(nx8 (b::r)).2)) (λx _=>((5:Int)-x.1).toNat) ⟨1,by omega,by omega,rfl,Ext.refl w,λ_=>hsz.1⟩ ?_;rintro _ w1 ⟨i,hi1,hi5,rfl,e1,hno⟩;refine Ai (λx w'=>x=(decide (i<=4/\n+i<=l.length),())/\w1=w') ?_ ?_;{refine Ac (λh=>⟨Di ?_,rfl⟩) (λh=>⟨Di ?_,rfl⟩);{simp only [pF] at h ⊢;rw [iE (by omega)];omega};{simp only [oK,pF] at h ⊢;exact ⟨(λh=>by cases h),λh=>by omega⟩}};rintro _ w2 ⟨rfl,rfl⟩;refine Ac (λh=>?_) (λh=>?_)
  ·simp only [pF] at h;have ew:W64 ((i:Int)+1)=((i+1:Nat):Int):=iD (by omega);refine Ai (λ_ w'=>Ext w w'/\¬Hit (b::r) i) ?_ ?_
   ·refine Bf1 (hs.ext e1) hl hr hi1 h.1 h.2 λw3 e3=>?_;refine Ap1 (λhS=>Ac (λh=>by cases h) (λ_=>?_)) (λhS=>Ac (λ_=>⟨e1.trans e3,λhh=>hS hh.1⟩) (λh=>by cases h));refine Bg9 hS λt w4 ht e4=>?_;have hpl:(pt8 (Ih i (b::r))).length<=4:=by
     have hne:sz8 (Ih i (b::r))≠0/\sz8 (Ih i (b::r))<=4:=by
      unfold sz8
      rw [iP (by rcases hS with h|h<;>omega)]
      repeat' split
      all_goals decide
     have:=Bz2 .u8 _ hne.1
     show (pt .u8 _).length<=4
     rw [this];exact hne.2
    refine Y5 (hs.ext ((e1.trans e3).trans e4)) ht (by omega) hl (by omega) λw5 e5=>?_;rw [hr];have htl:=Ro ht;have e15:=((e1.trans e3).trans e4).trans e5;refine Ai (λx w'=>(x.1=true↔Hit (b::r) i)/\w5=w') ?_ ?_;{refine Ac (λh=>⟨?_,rfl⟩) (λh=>⟨?_,rfl⟩);{simp only [pX] at h;simp only [pF];exact ⟨λhh=>⟨hS,hh,by omega⟩,λhh=>hh.2.1⟩};{simp only [rF] at h;exact ⟨(λh=>by cases h),λhh=>by have:=hh.2.2;omega⟩}};rintro ⟨x,_⟩ w6 ⟨hx,rfl⟩;refine Ac (λhh=>?_) (λhh=>⟨e15,λhit=>by have h1:=hx.2 hit;have h2:x=false:=hh;rw [h2] at h1;cases h1⟩);have hit:=hx.1 hh;have:=hK w5 e15;rw [Ct8 hit] at this;exact this
   {rintro _ w3 ⟨e3,hno2⟩;refine ⟨⟨i+1,by omega,by omega,by rw [ew],e3,λh0=>?_⟩,?_⟩;{have:=hno h0;rcases Nat.lt_or_ge i (nx8 (b::r)).2 with h2|h2;{omega};{have:i=(nx8 (b::r)).2:=(by omega);subst this;exact absurd (Cs9 h0).1 hno2}};{dsimp only;rw [ew];omega}}
  {simp only [oK] at h;refine ⟨e1,λh0=>h ?_⟩;have h2:=hno h0;have h3:=hsz.2.1;rw [kE] at h3;omega}
 {rintro _ w1 ⟨e1,hneg⟩;refine Qr (hs.ext e1) (by omega) (b:=b) (by rw [kH];exact g0) λp=>?_;have:=hK w1 e1;rw [Cs8 hneg] at this;rw [wrap64 (a:=(b.toNat:Int)) (by omega) (by omega),iE (by omega)];exact this}
def By6 {e:Enc} {s:Sl} {l:Bs} {n:Nat} {ty:TypeId} (hs:Dx w s ty 1 (bv l)) (hl:l.length<2^59) (hn:n<l.length) {K:Int×Int×Unit->Wp} (hK:iF w (K ((nx e (l.drop n)).1,((nx e (l.drop n)).2:Nat),()))) :
  Aa prog 227 #[vI e.num,s.v,vI n] bJ K w:=by
 refine Dc6 ?_;unfold F227;have h1:=Ro hs;obtain ⟨b,r,hr⟩:∃b r,l.drop n=b::r:=⟨_,_,tV hn⟩;have hb:=b.toNat_lt;have g0:l[n]?=some b:=by
  have:=lW (λx=>x[0]?) hr
  simp only [nK,xC,Nat.add_zero] at this
  exact this
 have six:∀be:Bool,e.num=(if be then 3 else 2)->nx e=Pv be ->
   Aa prog 229 #[vI e.num,s.v,vI n] rI (λ(x4:Int)=>sif (decide (x4<(0:Int))) (
    ix s.a s.len (n:Int) λp5 =>
    ld (.int .u8) (p5.add (scaled (Int.toNat (n:Int)) 1)) λ(x6:Int) =>
    K ((W64 ((-1:Int)-(W64 x6))),(1:Int),())) (
    Aa prog 229 #[(vI e.num),s.v,(vI (W64 ((n:Int)+(2:Int))))] rI λ(x7:Int) =>
    join (S:=Bool×Unit) (λJ8 =>
     sif (decide (x4>=(55296:Int))) (
      sif (decide (x4<(56320:Int))) (
       sif (decide (x7>=(56320:Int))) (
        J8 ((decide (x7<(57344:Int))),())) (
        J8 (false,()))) (
       J8 (false,()))) (
      J8 (false,()))) λ(s9:Bool×Unit) =>
    sif s9.1 (
     K ((W64 ((W64 ((W64 ((65536:Int)+(W64 ((W64 (x4-(55296:Int)))*(1024:Int)))))+x7))-(56320:Int))),(4:Int),())) (
     K (x4,(2:Int),())))) w:=by
  intro be hbe hnx
  rw [hbe]
  rw [hnx] at hK
  refine Ad5 hs (by omega) (by omega) λw1 e1=>?_
  rw [hr] at hK ⊢
  have e2:W64 ((n:Int)+2)=((n+2:Nat):Int):=iD (by omega)
  rw [e2]
  cases r with
  |nil=>refine Ac (λ_=>?_) (λh=>by cases h);refine Qr (hs.ext e1) (by omega) (b:=b) (by rw [kH];exact g0) λp=>?_;rw [wrap64 (a:=(b.toNat:Int)) (by omega) (by omega),iE (by omega)];exact hK w1 e1
  | cons c r' =>
   have hc:=c.toNat_lt;(have hu:un be b c<65536:=by unfold un;split<;>omega);have hx4:unI be (b::c::r')=((un be b c:Nat):Int):=rfl;refine Ac (λh=>by simp only [pF] at h;omega) (λ_=>?_);refine Ad5 (hs.ext e1) (by omega) (by omega) λw2 e3=>?_;have e12:=e1.trans e3;have hd2:l.drop (n+2)=r':=by
    have:=lW (List.drop 2) hr
    rw [qH] at this
    simpa using this
   rw [hd2];refine Ai (λx w'=>(x.1=true↔(un be b c/1024=54/\∃d f r'',r'=d::f::r''/\un be d f/1024=55))/\w2=w') ?_ ?_
   ·have key:∀x7,x7=unI be r'->((56320<=x7/\x7<57344)↔∃d f r'',r'=d::f::r''/\un be d f/1024=55):=by
     rintro x7 rfl
     match r' with
     |[]=>exact ⟨λh=>by have h':(56320:Int)<=-1:=h.1;omega,by rintro ⟨d,f,r'',h,_⟩;cases h⟩
     |[d]=>exact ⟨λh=>by have h':(56320:Int)<=-1:=h.1;omega,by rintro ⟨d,f,r'',h,_⟩;cases h⟩
     |d::f::r''=>show ((56320:Int)<=((un be d f:Nat):Int)/\((un be d f:Nat):Int)<57344)↔_;constructor;{intro h;exact ⟨d,f,r'',rfl,by omega⟩};{rintro ⟨d',f',r3,h,hu⟩;cases h;omega}
    have key':=key _ rfl;refine Ac (λh=>Ac (λh2=>Ac (λh3=>⟨?_,rfl⟩) (λh3=>⟨?_,rfl⟩)) (λh2=>⟨?_,rfl⟩)) (λh=>⟨?_,rfl⟩);(all_goals (try simp only [pF,oK,sG] at h));(all_goals (try simp only [pF,oK,sG] at h2));(all_goals (try simp only [pF,oK,sG] at h3));(all_goals (try simp only [pF]));(all_goals have hx4:unI be (b::c::r')=((un be b c:Nat):Int):=rfl);{rw [←key'];constructor;{intro h4;exact ⟨by clear key key';omega,h3,h4⟩};{intro h4;exact h4.2.2}};{rw [←key'];exact ⟨(λh=>by cases h),λh4=>absurd h4.2.1 h3⟩};{exact ⟨(λh=>by cases h),λh4=>by have:=h4.1;clear key key' h4;omega⟩};{exact ⟨(λh=>by cases h),λh4=>by have:=h4.1;clear key key' h4;omega⟩}
   rintro ⟨x,_⟩ w3 ⟨hx,rfl⟩;refine Ac (λh=>?_) (λh=>?_)
   ·obtain ⟨h54,d,f,r'',rfl,h55⟩:=hx.1 h;have hd:=d.toNat_lt;have hf:=f.toNat_lt;(have hv:un be d f<65536:=by unfold un;split<;>omega);have:=hK w2 e12;show K ((W64 ((W64 ((W64 ((65536:Int)+(W64 ((W64 (((un be b c:Nat):Int)-(55296:Int)))*(1024:Int)))))+((un be d f:Nat):Int)))-(56320:Int))),(4:Int),()) w2;rw [wrap64 (a:=((un be b c:Nat):Int)-55296) (by omega) (by omega),wrap64 (a:=(((un be b c:Nat):Int)-55296)*1024) (by omega) (by omega),wrap64 (a:=(65536:Int)+_) (by omega) (by omega),wrap64 (a:=(65536:Int)+_+_) (by omega) (by omega),iE (by omega)];have e4:Pv be (b::c::d::f::r'')=(65536+((un be b c%1024*1024+un be d f%1024:Nat):Int),4):=by
     simp only [Pv];rw [iK h54,iK h55]
    rw [e4] at this;have e5:(65536:Int)+(((un be b c:Nat):Int)-55296)*1024+((un be d f:Nat):Int)-56320=65536+((un be b c%1024*1024+un be d f%1024:Nat):Int):=(by omega);rw [e5];exact this
   ·(have h:¬(un be b c/1024=54/\∃d f r'',r'=d::f::r''/\un be d f/1024=55):=λhh=>by have h1:=hx.2 hh;have h2:x=false:=h;rw [h2] at h1;cases h1);have:=hK w2 e12;have e4:Pv be (b::c::r')=(((un be b c:Nat):Int),2):=by
     simp only [Pv]
     split
     ·rename_i h54
      split
      ·rename_i d f r''
       rw [iP (λh55=>h ⟨h54,_,_,_,rfl,h55⟩)]
      ·rfl
     ·rfl
    rw [e4] at this;exact this
 cases e with
 |u8=>refine Ac (λ_=>?_) (λh=>by cases h);exact Ar1 hs (by omega) hn λw1 e1=>hK w1 e1
 |le=>exact Ac (λh=>by cases h) (λ_=>Ac (λh=>by cases h) (λ_=>six false rfl rfl))
 |be=>exact Ac (λh=>by cases h) (λ_=>Ac (λh=>by cases h) (λ_=>six true rfl rfl))
 |l1=>refine Ac (λh=>by cases h) (λ_=>Ac (λ_=>?_) (λh=>by cases h));refine Qr hs (by omega) (b:=b) (by rw [kH];exact g0) λp=>?_;rw [wrap64 (a:=(b.toNat:Int)) (by omega) (by omega)];have:=hK w (Ext.refl w);rw [hr] at this;exact this
def Az6 {e:Enc}{s:Sl}{l:Bs}(hs:By w s l) (hl:l.length<2^40){K:Sl×Int×Unit->Wp}(hK:∀s' w',Am w' w.heap.size s' 3 1 (iv (atoms (ats e l)))->Ext w w'->K (s',0,()) w') :
  Aa prog 224 #[vI e.num,s.v] (.tup [(.one .sl),(.one (.int .i64))]) K w:=by
 refine Dc9 ?_;unfold F224;have h1:=Ro hs;refine Bf3 (Ac (λh=>by cases h) (λ_=>?_));refine Ai (λx w'=>Am w' w.heap.size x.1 3 1 (iv (atoms (ats e l)))/\Ext w w') ?_ (λx w' h=>hK _ _ h.1 h.2);refine Bo (λx w'=>∃j,j<=(ats e l).length/\x.2=(((szs ((ats e l).take j):Nat):Int),())/\Am w' w.heap.size x.1 3 1 (iv (atoms ((ats e l).take j)))/\Ext w w') (λx _=>((l.length:Int)-x.2.1).toNat) ⟨0,qI _,rfl,Am.nil _ _ _ _,Ext.refl w⟩ ?_;rintro ⟨r,_⟩ w1 ⟨j,hj,rfl,ho,e1⟩;have hsj:szs ((ats e l).take j)<=l.length:=Ae0 j;have hol:=ho.len1;dsimp only at ho hol ⊢;rw [nO,nO,nG] at hol;refine Ac (λhc=>?_) (λhc=>?_)
 ·simp only [pF] at hc;obtain ⟨a,m,hqa,hnx,htk,hss,hm1,hsl⟩:=Yl (e:=e) (l:=l) (j:=j) (by omega);have hql:j<(ats e l).length:=(lY.1 hqa).1;refine By6 (hs.ext e1) (by omega) (by omega) λw2 e2=>?_;rw [hnx];refine Ag λb w3 e3 n3 hb3 hz3=>?_;have hal:=Ac5 (Jq e l);rw [Me] at hal;refine Ed Bm1 Bm1.ts_ (x:=⟨some (at0 b),1,1⟩) (ho.ext (e2.trans e3)) (Cc6 n3) (λv hv=>by rw [uZ.1 hv];rfl) (by
   show (r.len+1+(r.len+1)/4+512)*8<=2^48
   omega) (by have:=e1.size;have:=e2.size;omega) λs' w4 o4 l4 u4 b4=>?_
  (have e4:iv (atoms ((ats e l).take j))++[vI a]=iv (atoms ((ats e l).take (j+1))):=by rw [htk];simp);rw [e4] at o4;have ew:W64 (((szs ((ats e l).take j):Nat):Int)+(m:Int))=((szs ((ats e l).take (j+1)):Nat):Int):=iD (by omega);refine ⟨⟨j+1,by omega,by dsimp only;rw [ew],o4,((e1.trans e2).trans e3).step u4 λk hk=>ho.Dh hk⟩,?_⟩;dsimp only;rw [ew];omega
 {simp only [oK] at hc;have:=Aa3 (e:=e) (l:=l) (j:=j) (by omega);rw [this] at ho;exact ⟨ho,e1⟩}
end
end
section
namespace Flp
open Cdc
def Aw4:∀(n:Nat) (l:Bs),more n l=n->∀x∈l.take n,128<=x.toNat
 |0,l,_,x,hx=>by simp at hx
 |n+1,[],h,x,hx=>by simp at hx
 | n+1,b::r,h,x,hx=>by
  simp only [more] at h
  split at h
  ·rename_i hc
   rw [qC] at hx
   rcases iL.1 hx with rfl|hx
   ·unfold cont at hc
    have hc:=eq_of_beq hc
    omega
   ·exact Aw4 n r (by omega) x hx
  ·omega
def By1 (b:UInt8) (r:Bs) (hb:128<=b.toNat):∀x∈(b::r).take (nx8 (b::r)).2,128<=x.toNat:=by
 intro x hx;simp only [nx8] at hx;split at hx;{rw [qC,qE] at hx;rcases iL.1 hx with rfl|hx;{exact hb};{cases hx}};rename_i hn;obtain ⟨h0,h1⟩:=uY.1 hn;rw [La] at h0 h1 hx;have hx:x∈(b::r).take (Fg b.toNat).1:=hx;have hb2:(Fg b.toNat).1=0\/(2<=(Fg b.toNat).1/\128<=(Fg b.toNat).2.1):=by
  unfold Fg
  rw [iP (by omega)]
  repeat' split
  all_goals simp
 have h2:¬(Fg b.toNat).1<2:=(by omega);have hlo:128<=(Fg b.toNat).2.1:=(by omega);obtain ⟨k,hk⟩:∃k,(Fg b.toNat).1=k+2:=⟨(Fg b.toNat).1-2,by omega⟩;simp only [rowOf,iP h2] at h1;cases r with
 |nil=>simp only at h1;omega
 | cons c r' =>
  simp only at h1;split at h1;{simp only at h1;omega}
  ·rename_i hc;simp only at h1;rw [hk] at h1 hx;rw [qC,qC] at hx;have hm:=(Aa6 k r').1;have h1:more k r'=k:=by
    have:k+2-2=k:=rfl
    rw [this] at h1;omega
   rcases iL.1 hx with rfl|hx;{exact hb};rcases iL.1 hx with rfl|hx;{omega};{exact Aw4 k r' h1 x hx}
def high (l:Bs):Nat:=(l.filter λx=>decide (128<=x.toNat)).length
def Ad8 (l:List (Int×Nat)):Nat:=(l.filter λx=>decide (x.1<0)).length
def Ax8:∀(n:Nat) (l:Bs),l.length<=n->hrK n l=(high l,Ad8 (ats .u8 l))
 |0,l,h=>by
  obtain rfl:l=[]:=jH.1 (by omega)
  rw [Nl];rfl
 |n+1,[],_=>by rw [Nl];rfl
 | n+1,b::r,h=>by
  obtain ⟨s1,s2,s3⟩:=Qn b r
  have ih:=Ax8 n ((b::r).drop (nx8 (b::r)).2) (by rw [nH];simp only [kE] at h ⊢;omega)
  simp only [hrK]
  rw [ih]
  have ha:ats .u8 (b::r)=nx8 (b::r)::ats .u8 ((b::r).drop (nx8 (b::r)).2):=Ox .u8 (by simp)
  rw [ha]
  have h1:high (b::r)=high ((b::r).take (nx8 (b::r)).2)+high ((b::r).drop (nx8 (b::r)).2):=by
   unfold high
   rw [←oC,←qP,vG]
  have h2:high ((b::r).take (nx8 (b::r)).2)=if 128<=b.toNat then (nx8 (b::r)).2 else 0:=by
   split
   ·rename_i hb
    unfold high
    rw [oM.2 λx hx=>uX (By1 b r hb x hx),nG]
    omega
   ·rename_i hb
    have e:Fg b.toNat=(1,0,0):=by unfold Fg;rw [iK (by omega)]
    have er:rowOf (b::r)=(1,1):=by simp only [rowOf,e];rfl
    have:(nx8 (b::r)).2=1:=by simp only [nx8,er];rfl
    rw [this,qC,qE]
    unfold high
    rw [qQ,iP (by simpa using hb)];rfl
  rw [h1,h2]
  unfold Ad8
  rw [qQ]
  by_cases hx:(nx8 (b::r)).1<0
  ·rw [iK hx,iK (uX hx),kE]
   exact Prod.ext rfl (vJ _ _)
  ·rw [iP hx,iP (λhh=>hx (jY hh))]
   exact Prod.ext rfl (kY _)
end Flp
namespace Dq
open Go Go.Vx Dsk Cdc Trx Flp
section
variable {w w':World}
def Ab6 {enc:Int}{K:Sl->Wp}(hK:∀s w',By w' s (Ic enc)->Ext w w'->K s w'):Aa prog 213 #[vI enc] rS K w:=by refine Dd7 ?_;unfold F213;unfold Ic at hK;refine Ac (λh=>Ag λb w1 e1 n1 _ _=>?_) λh=>Ac (λh2=>Ag λb w1 e1 n1 _ _=>?_) λh2=>Ac (λh3=>Ag λb w1 e1 n1 _ _=>?_) λh3=>?_;{rw [iK (eq_of_beq h)] at hK;exact hK _ w1 (Um (l:=[239,187,191]) n1) e1};{rw [iP (by simpa using h),iK (eq_of_beq h2)] at hK;exact hK _ w1 (Um (l:=[255,254]) n1) e1};{rw [iP (by simpa using h),iP (by simpa using h2),iK (eq_of_beq h3)] at hK;exact hK _ w1 (Um (l:=[254,255]) n1) e1};{rw [iP (by simpa using h),iP (by simpa using h2),iP (by simpa using h3)] at hK;exact hK _ w (Am.nil w 0 _ _).in (Ext.refl _)}
def Aw5 (enc:Int):(Ic enc).length<=3:=by unfold Ic;(repeat' split);all_goals simp
def An1 {l m:List UInt8}:((l.drop 0).take m.length=m)↔m.isPrefixOf l=true:=by rw [List.drop_zero,wC,wE];exact eq_comm
def Ya {s:Sl}{l:List UInt8}(h:By w s l) (hl:l.length<=1048576){K:aI->Wp}(hK:iF w (K ((Ew l).1,(Ew l).2,()))):Aa prog 211 #[s.v] bJ K w:=by
 refine Dd9 (a0:=s) ?_
 unfold F211
 have hd:Ew l=if (Ic 1).isPrefixOf l then (1,3) else if (Ic 2).isPrefixOf l then (2,2) else if (Ic 3).isPrefixOf l then (3,2) else (0,0):=rfl
 rw [hd] at hK
 refine Ai (λ_ W=>Ext w W/\∀i:Nat,1<=i->i<4->(Ic i).isPrefixOf l=false) ?_ ?_
 ·refine Bo (λst W=>∃e:Nat,st=((e:Int),())/\1<=e/\e<=4/\Ext w W/\∀i:Nat,1<=i->i<e->(Ic i).isPrefixOf l=false) (λst _=>4-st.1.toNat) ⟨1,rfl,mJ _,by omega,Ext.refl _,λi h1 h2=>by omega⟩ ?_
  rintro _ W ⟨e,rfl,h1,h4,eW,hno⟩
  dsimp only
  refine Ac (λhle=>?_) λhgt=>?_
  ·have hle:e<=3:=by have:=jY hle;omega
   refine Ab6 λt w1 ht e1=>?_
   have hml:=Aw5 (e:Int)
   refine Y5 (n:=0) ((h.ext eW).ext e1) ht (qI _) (by omega) (by omega) λw2 e2=>?_
   refine Ac (λhb=>?_) λhb=>?_
   ·have hb:=An1.1 (jY hb)
    have htl:=Eh ht.x
    have hk:=hK w2 ((eW.trans e1).trans e2)
    rw [←htl]
    match e,h1,hle,hb,hno,hk with
    |1,_,_,hb,hno,hk =>
     have hb:(Ic 1).isPrefixOf l=true:=hb
     rw [iK hb] at hk;exact hk
    |2,_,_,hb,hno,hk =>
     have hb:(Ic 2).isPrefixOf l=true:=hb
     rw [iP (by rw [show (Ic 1).isPrefixOf l=false from hno 1 (by omega) (by omega)];simp),iK hb] at hk;exact hk
    |3,_,_,hb,hno,hk =>
     have hb:(Ic 3).isPrefixOf l=true:=hb
     rw [iP (by rw [show (Ic 1).isPrefixOf l=false from hno 1 (by omega) (by omega)];simp),iP (by rw [show (Ic 2).isPrefixOf l=false from hno 2 (by omega) (by omega)];simp),iK hb] at hk;exact hk
   ·have hb:(Ic e).isPrefixOf l=false:=by
     rw [wB];exact λhh=>sK hb (An1.2 hh)
    rw [iE (by omega)]
    refine ⟨⟨e+1,by rw [show ((e:Int)+1)=((e+1:Nat):Int) by omega],by omega,by omega,(eW.trans e1).trans e2,λi hi1 hi2=>?_⟩,by show 4-((e:Int)+1).toNat<4-(e:Int).toNat;omega⟩
    by_cases hie:i=e
    ·rw [hie];exact hb
    ·exact hno i hi1 (by omega)
  ·have hgt:¬e<=3:=by have:=sK hgt;omega
   exact ⟨eW,λi hi1 hi2=>hno i hi1 (by omega)⟩
 rintro _ W ⟨eW,hno⟩
 have hk:=hK W eW
 rw [iP (by rw [show (Ic 1).isPrefixOf l=false from hno 1 (by omega) (by omega)];simp),iP (by rw [show (Ic 2).isPrefixOf l=false from hno 2 (by omega) (by omega)];simp),iP (by rw [show (Ic 3).isPrefixOf l=false from hno 3 (by omega) (by omega)];simp)] at hk
 exact hk
end
end Dq
end
section
namespace Dq
open Go Go.Vx Dsk Cdc Trx Flp
section
variable {w w':World}
def Bm8:∀(n:Nat) (l:Bs),l.length<=n->(ats .u8 l).length<=l.length
 |0,l,h=>by
  obtain rfl:l=[]:=jH.1 (by omega)
  rw [Nl];simp
 |n+1,[],_=>by rw [Nl];simp
 |n+1,b::r,h=>by
  obtain ⟨s1,s2,s3⟩:=Qn b r
  have ih:=Bm8 n ((b::r).drop (nx8 (b::r)).2) (by rw [nH];simp only [kE] at h ⊢;omega)
  have ha:ats .u8 (b::r)=nx8 (b::r)::ats .u8 ((b::r).drop (nx8 (b::r)).2):=Ox .u8 (by simp)
  rw [nH] at ih
  rw [ha,kE]
  omega
def As7 {l:List UInt8} {s:Sl} (hl:l.length<=1048576) (h:By w s l) (hd:(Ew l).1=0) {K:Int×Value×Unit->Wp} (hK:∀v w',Ext w w'->K ((Rz l).1,v,()) w') :
  Aa prog 212 #[s.v] cO K w:=by
 refine Dd8 (a0:=s) ?_;unfold F212;have hlen:l.length=s.len:=By.len h;refine Ya h hl λw1 e1=>Ac (λhh=>by rw [hd] at hh;cases hh) λ_=>?_;have h1:=h.ext e1;(have hdiv:Int.tdiv ((s.len:Nat):Int) (2:Int)=((l.length/2:Nat):Int):=by rw [←hlen];rfl);have ew:W64 (Int.tdiv ((s.len:Nat):Int) (2:Int))=((l.length/2:Nat):Int):=(by rw [hdiv,iE (by omega)]);rw [ew];obtain ⟨u,hu⟩:∃u,u=l.length/2:=⟨_,rfl⟩;rw [←hu];have ew2:W64 ((2:Int)*(u:Int))=((2*u:Nat):Int):=iD (by omega);rw [ew2];obtain ⟨hi,hhi⟩:∃x,x=dv (fi (zc l 0 u)) (fi u):=⟨_,rfl⟩;obtain ⟨lo,hlo⟩:∃x,x=dv (fi (zc l 1 u)) (fi u):=⟨_,rfl⟩;have hg:Rz l=if 0<u/\ge lo 4602678819172646912=true/\le hi 4593671619917905920=true then (2,lo) else
  if 0<u/\ge hi 4602678819172646912=true/\le lo 4593671619917905920=true then (3,hi) else
  if (hrK l.length l).2=0 then (1,4607182418800017408) else
  if ge (dv (fi (((hrK l.length l).1:Int)-(hrK l.length l).2)) (fi (hrK l.length l).1)) 4604930618986332160=true then (1,dv (fi (((hrK l.length l).1:Int)-(hrK l.length l).2)) (fi (hrK l.length l).1)) else (4,sb 4607182418800017408 (dv (fi (((hrK l.length l).1:Int)-(hrK l.length l).2)) (fi (hrK l.length l).1))):=by
  rw [hhi,hlo,hu];rfl
 rw [hg] at hK;refine Rn.2 ⟨by decide,?_⟩;refine Ai (λ_ W=>Ext w W/\¬(0<u/\ge lo 4602678819172646912=true/\le hi 4593671619917905920=true)/\¬(0<u/\ge hi 4602678819172646912=true/\le lo 4593671619917905920=true)) ?_ ?_
 ·refine Ac (λhp=>?_) λhp=>?_
  ·(have hp:0<u:=by have:=jY hp;omega);refine Ag λb4 w2 e2 n2 hb2 hz2=>Ba n2 rfl rfl (by decide) λw3 u3 n3 z3=>?_;have e13:Ext w1 w3:=e2.step u3 λk hk=>(by omega);have n3:w3.heap[b4]?=some (.cells #[vI ((zc l 0 0:Nat):Int),vI ((zc l 1 0:Nat):Int)] 323 (0,0)):=n3;refine Ai (λ_ W=>Ext w1 W/\W.heap[b4]?=some (.cells #[vI ((zc l 0 u:Nat):Int),vI ((zc l 1 u:Nat):Int)] 323 (0,0))) ?_ ?_
   ·refine Bo (λst W=>∃i:Nat,st=((i:Int),())/\i<=2*u/\Ext w1 W/\W.heap[b4]?=some (.cells #[vI ((zc l 0 ((i+1)/2):Nat):Int),vI ((zc l 1 (i/2):Nat):Int)] 323 (0,0))) (λst _=>2*u-st.1.toNat) ⟨0,rfl,qI _,e13,n3⟩ ?_;rintro _ W ⟨i,rfl,hiu,eW,nW⟩;dsimp only;refine Ac (λhlt=>?_) λhge=>?_
    ·(have hlt:i<2*u:=by have:=jY hlt;omega);obtain ⟨x,hx⟩:∃x,l[i]?=some x:=⟨_,oP (by omega)⟩;have ez:((x.toNat:Int)==0)=(x==0):=Ac2 x 0 (by decide);(have hm:Int.tmod (i:Int) 2=((i%2:Nat):Int):=by rw [xA (by omega)];rfl);have z0:=Ai4 l 0 ((i+1)/2);have z1:=Ai4 l 1 (i/2);(have hd:∀j,j=i->l.getD j 1=x:=λj hj=>by rw [hj,rJ,hx];rfl);refine Ai (λ_ W'=>Ext w1 W'/\W'.heap[b4]?=some (.cells #[vI ((zc l 0 ((i+1+1)/2):Nat):Int),vI ((zc l 1 ((i+1)/2):Nat):Int)] 323 (0,0))) ?_ ?_
     ·refine Lr (h1.ext eW) (by omega) (b:=x) (by rw [kH];exact hx) λp=>?_;rw [ez,hm];refine Ac (λhb=>?_) λhb=>?_
      ·have hb:x=0:=eq_of_beq hb;refine Rn.2 ⟨by decide,Rn.2 ⟨by omega,?_⟩⟩;rw [kH];have ea:(at0 b4).add (scaled (i%2) 1)=(⟨b4,i%2,none⟩:Addr):=by
        show (at0 b4).add (i%2)=_
        rw [addr_add,kY]
       rw [ea];rcases xE i with h2|h2
       ·rw [h2];refine Af nW (off:=0) (x:=((zc l 0 ((i+1)/2):Nat):Int)) rfl (Rn.2 ⟨by omega,?_⟩);rw [iE (by omega)];refine Dj nW (by show 0<2;decide) λW2 u2 n2' z2=>⟨eW.step u2 λk hk=>by omega,?_⟩;have e1':zc l 0 ((i+1+1)/2)=zc l 0 ((i+1)/2)+1:=by
         rw [show (i+1+1)/2=(i+1)/2+1 by omega,Xz,hd _ (by omega),iK hb]
        rw [e1',show (i+1)/2=i/2 by omega];rw [show (i+1)/2=i/2 by omega] at n2';exact n2'
       ·rw [h2];refine Af nW (off:=1) (x:=((zc l 1 (i/2):Nat):Int)) rfl (Rn.2 ⟨by omega,?_⟩);rw [iE (by omega)];refine Dj nW (by show 1<2;decide) λW2 u2 n2' z2=>⟨eW.step u2 λk hk=>by omega,?_⟩;have e1':zc l 1 ((i+1)/2)=zc l 1 (i/2)+1:=by
         rw [show (i+1)/2=i/2+1 by omega,Xz,hd _ (by omega),iK hb]
        rw [e1',show (i+1+1)/2=(i+1)/2 by omega];exact n2'
      ·have hb:x≠0:=(by simpa using hb);refine ⟨eW,?_⟩;rcases xE i with h2|h2
       ·have e1':zc l 0 ((i+1+1)/2)=zc l 0 ((i+1)/2):=by
         rw [show (i+1+1)/2=(i+1)/2+1 by omega,Xz,hd _ (by omega),iP hb];rfl
        rw [e1',show zc l 1 ((i+1)/2)=zc l 1 (i/2) by rw [show (i+1)/2=i/2 by omega]];exact nW
       ·have e1':zc l 1 ((i+1)/2)=zc l 1 (i/2):=by
         rw [show (i+1)/2=i/2+1 by omega,Xz,hd _ (by omega),iP hb];rfl
        rw [e1',show (i+1+1)/2=(i+1)/2 by omega];exact nW
     rintro _ W2 ⟨eW2,nW2⟩;rw [iE (by omega)];exact ⟨⟨i+1,by rw [show ((i:Int)+1)=((i+1:Nat):Int) by omega],hlt,eW2,nW2⟩,by show 2*u-((i:Int)+1).toNat<2*u-(i:Int).toNat;omega⟩
    {(have hge:¬i<2*u:=by have:=sK hge;omega);obtain rfl:i=2*u:=(by omega);rw [show (2*u+1)/2=u by omega,show 2*u/2=u by omega] at nW;exact ⟨eW,nW⟩}
   rintro _ W ⟨eW,nW⟩;have hz0:=Ai4 l 0 u;have hz1:=Ai4 l 1 u;have eW':=e1.trans eW;refine Rn.2 ⟨by omega,?_⟩;have ea0:(at0 b4).add (scaled (Int.toNat 0) 1)=(⟨b4,0,none⟩:Addr):=by
    show (at0 b4).add 0=_
    rw [addr_add]
   have ea1:(at0 b4).add (scaled (Int.toNat 1) 1)=(⟨b4,1,none⟩:Addr):=by
    show (at0 b4).add 1=_
    rw [addr_add]
   rw [ea0,ea1];refine Af nW (off:=0) (x:=((zc l 0 u:Nat):Int)) rfl (Ai0 (Ai0 (Cd8 ⟨by omega,by omega⟩ ⟨by omega,by omega⟩ (Rn.2 ⟨by omega,Af nW (off:=1) (x:=((zc l 1 u:Nat):Int)) rfl (Ai0 (Ai0 (Cd8 ⟨by omega,by omega⟩ ⟨by omega,by omega⟩ ?_)))⟩))));rw [←hhi,←hlo];refine Ar (decide (ge lo 4602678819172646912=true/\le hi 4593671619917905920=true),()) (Bs2 (Ac (λh1=>Cl8 ⟨Di ?_,rfl⟩) λh1=>⟨Di ?_,rfl⟩)) (Ac (λhc=>?_) λhc=>?_);{rw [pF];exact ⟨λh2=>⟨h1,h2⟩,λh2=>h2.2⟩};{rw [pF];exact ⟨λh2=>(by cases h2),λh2=>by rw [h1] at h2;exact absurd h2.1 (by decide)⟩};{have hc:=jY hc;rw [iK ⟨hp,hc⟩] at hK;exact hK _ _ eW'};have hc:=sK hc;refine Ar (decide (ge hi 4602678819172646912=true/\le lo 4593671619917905920=true),()) (Bs2 (Ac (λh1=>Cl8 ⟨Di ?_,rfl⟩) λh1=>⟨Di ?_,rfl⟩)) (Ac (λhc2=>?_) λhc2=>?_);{rw [pF];exact ⟨λh2=>⟨h1,h2⟩,λh2=>h2.2⟩};{rw [pF];exact ⟨λh2=>(by cases h2),λh2=>by rw [h1] at h2;exact absurd h2.1 (by decide)⟩};{have hc2:=jY hc2;rw [iP (λhh=>hc hh.2),iK ⟨hp,hc2⟩] at hK;exact hK _ _ eW'};have hc2:=sK hc2;exact ⟨eW',λhh=>hc hh.2,λhh=>hc2 hh.2⟩
  {(have hp:¬0<u:=by have:=sK hp;omega);exact ⟨e1,λhh=>hp hh.1,λhh=>hp hh.1⟩}
 rintro _ W ⟨eW,n1,n2⟩;rw [iP n1,iP n2] at hK;clear n1 n2 hg hhi hlo;obtain ⟨hRH,hHl⟩:=Bl8 l.length l;have hcnt:=Ax8 l.length l (mJ _);obtain ⟨H,hH⟩:∃x,x=high l:=⟨_,rfl⟩;obtain ⟨R,hR⟩:∃x,x=Ad8 (ats .u8 l):=⟨_,rfl⟩;rw [←hH,←hR] at hcnt;rw [hcnt] at hK hRH hHl;dsimp only at hK hRH hHl;have hW:=h.ext eW;refine Ai (λx W'=>x=((H:Int),())/\W=W') ?_ ?_
 ·refine Bo (λst W'=>∃i:Nat,st=(((high (l.take i):Nat):Int),(i:Int),())/\i<=l.length/\W=W') (λst _=>l.length-st.2.1.toNat) ⟨0,by simp [high],qI _,rfl⟩ ?_;rintro _ _ ⟨i,rfl,hi',rfl⟩;dsimp only;refine Ac (λhlt=>?_) λhge=>?_
  ·(have hlt:i<l.length:=by have:=jY hlt;omega);obtain ⟨x,hx⟩:∃x,l[i]?=some x:=⟨_,oP hlt⟩;have hlen':high (l.take i)<=i:=by
    unfold high
    have:=qR (λx:UInt8=>decide (128<=x.toNat)) (l.take i)
    rw [nG] at this;omega
   have hs:high (l.take (i+1))=high (l.take i)+if 128<=x.toNat then 1 else 0:=by
    unfold high
    rw [sO,hx,qP,oC]
    congr 1
    show ([x].filter _).length=_
    rw [qQ]
    by_cases hb:128<=x.toNat
    ·rw [iK hb,iK (uX hb)];rfl
    ·rw [iP hb,iP (λhh=>hb (jY hh))];rfl
   refine Ar (((high (l.take (i+1)):Nat):Int),()) (Lr hW (by omega) (b:=x) (by rw [kH];exact hx) λp=>Ac (λhb=>?_) λhb=>?_) ?_;{(have hb:128<=x.toNat:=by have:=jY hb;omega);rw [iE (by omega),hs,iK hb];exact ⟨by rw [rE];rfl,rfl⟩};{(have hb:¬128<=x.toNat:=by have:=sK hb;omega);rw [hs,iP hb];exact ⟨rfl,rfl⟩};rw [iE (by omega)];exact ⟨⟨i+1,by rw [show ((i:Int)+1)=((i+1:Nat):Int) by omega],hlt,rfl⟩,by show l.length-((i:Int)+1).toNat<l.length-(i:Int).toNat;omega⟩
  {(have hge:¬i<l.length:=by have:=sK hge;omega);rw [sQ (by omega)];exact ⟨by rw [hH],rfl⟩}
 rintro _ _ ⟨rfl,rfl⟩;refine Az6 (e:=.u8) hW (by omega) λs8 w8 o8 e8=>?_;obtain ⟨A,hA⟩:∃A,A=ats .u8 l:=⟨_,rfl⟩;rw [←hA] at o8 hR;have hal:=o8.len1;(have hAl:A.length=s8.len:=by rw [←hal];simp [atoms]);(have hA40:A.length<=l.length:=by rw [hA];exact Bm8 _ l (mJ _));refine Ai (λx W'=>x=((R:Int),())/\w8=W') ?_ ?_
 ·refine Bo (λst W'=>∃i:Nat,st=(((Ad8 (A.take i):Nat):Int),(i:Int),())/\i<=A.length/\w8=W') (λst _=>A.length-st.2.1.toNat) ⟨0,by simp [Ad8],qI _,rfl⟩ ?_;rintro _ _ ⟨i,rfl,hi',rfl⟩;dsimp only;refine Ac (λhlt=>?_) λhge=>?_
  ·(have hlt:i<A.length:=by have:=jY hlt;omega);obtain ⟨x,hx⟩:∃x,A[i]?=some x:=⟨_,oP hlt⟩;have hlen':Ad8 (A.take i)<=i:=by
    unfold Ad8
    have:=qR (λx:Int×Nat=>decide (x.1<0)) (A.take i)
    rw [nG] at this;omega
   have hs:Ad8 (A.take (i+1))=Ad8 (A.take i)+if x.1<0 then 1 else 0:=by
    unfold Ad8
    rw [sO,hx,qP,oC]
    congr 1
    show ([x].filter _).length=_
    rw [qQ]
    by_cases hb:x.1<0
    ·rw [iK hb,iK (uX hb)];rfl
    ·rw [iP hb,iP (λhh=>hb (jY hh))];rfl
   (have hx':(atoms A)[Int.toNat (i:Int)]?=some x.1:=by rw [kH];simp [atoms,hx]);refine Ar (((Ad8 (A.take (i+1)):Nat):Int),()) (Nk (c:=.int .i64) (xs:=atoms A) o8.in.x (by omega) hx' λ_=>Ac (λhb=>?_) λhb=>?_) ?_;{have hb:=jY hb;rw [iE (by omega),hs,iK hb];exact ⟨by rw [rE];rfl,rfl⟩};{have hb:=sK hb;rw [hs,iP hb];exact ⟨rfl,rfl⟩};rw [iE (by omega)];exact ⟨⟨i+1,by rw [show ((i:Int)+1)=((i+1:Nat):Int) by omega],hlt,rfl⟩,by show A.length-((i:Int)+1).toNat<A.length-(i:Int).toNat;omega⟩
  {(have hge:¬i<A.length:=by have:=sK hge;omega);rw [sQ (by omega)];exact ⟨by rw [hR],rfl⟩}
 rintro _ _ ⟨rfl,rfl⟩;have e18:=eW.trans e8;refine Ac (λh0=>?_) λh0=>?_;{(have h0:R=0:=by have:(R:Int)=0:=eq_of_beq h0;omega);rw [iK h0] at hK;exact hK _ _ e18};have h0:R≠0:=by
  intro hh;rw [hh] at h0;cases h0
 rw [iP h0] at hK;rw [iE (by omega)];refine Ai0 (Ai0 (Cd8 ⟨by omega,by omega⟩ ⟨by omega,by omega⟩ (Bs2 (Ac (λhg=>?_) λhg=>?_))));{rw [iK hg] at hK;exact hK _ _ e18};{rw [iP (by rw [hg];decide)] at hK;exact Cw6 ⟨by omega,by omega⟩ ⟨by omega,by omega⟩ (hK _ _ e18)}
def An6 {l:List UInt8}{s:Sl}{enc:Int}(hl:l.length<=1048576) (h:By w s l){K:Int×Int×Unit->Wp}(hK:iF w (K ((He (λl=>(Rz l).1) enc l).1,(He (λl=>(Rz l).1) enc l).2,()))) :
  Aa prog 184 #[vI enc,s.v] bJ K w:=by
 refine Df7 (a1:=s) ?_;unfold F184;unfold He at hK;have hlen:l.length=s.len:=By.len h;refine Ac (λh0=>?_) λh0=>?_;{have h0:enc=0:=eq_of_beq h0;refine Ya h hl λw1 e1=>Ac (λh1=>?_) λh1=>?_;{have h1:(Ew l).1≠0:=(by simpa using h1);rw [iK ⟨h0,h1⟩] at hK;exact hK _ e1};{have h1:(Ew l).1=0:=(by simpa using h1);rw [iP (λhh=>hh.2 h1),iK h0] at hK;exact As7 hl (h.ext e1) h1 λv w2 e2=>hK _ (e1.trans e2)}};have h0:enc≠0:=(by simpa using h0);rw [iP (λhh=>h0 hh.1),iP h0] at hK;have hml:=Aw5 enc;obtain ⟨m,hm⟩:∃m,m=Ic enc:=⟨_,rfl⟩;rw [←hm] at hK hml;refine Ab6 λt w1 ht e1=>?_;rw [←hm] at ht;have htl:=By.len ht;have h1:=h.ext e1;refine Ac (λhgt=>?_) λhle=>?_
 ·have hgt:=jY hgt;have:m.isPrefixOf l=false:=by
   rw [wB];intro hh
   have:=(wC.1 hh).length_le
   omega
  rw [iP (by rw [this];simp)] at hK;exact hK _ e1
 have hle:=sK hle;have ne:∀{W:World} {i:Nat} {a b:UInt8},Ext w1 W->l[i]?=some a->m[i]?=some b->a≠b->K (enc,0,()) W:=λ{W i a b} eW ha hb hab=>by
  have:m.isPrefixOf l=false:=by
   rw [wB];intro hh
   obtain ⟨r,hr⟩:=wC.1 hh
   rw [←hr,mZ (lY.1 hb).1,hb] at ha
   exact hab (sW ha).symm
  rw [iP (by rw [this];simp)] at hK
  exact hK _ (e1.trans eW)
 refine Ai (λ_ W=>Ext w1 W/\m.isPrefixOf l=true) ?_ ?_
 ·refine Bo (λst W=>∃i:Nat,st=((i:Int),())/\i<=m.length/\Ext w1 W/\m.take i=l.take i) (λst _=>m.length-st.1.toNat) ⟨0,rfl,qI _,Ext.refl _,by simp⟩ ?_;rintro _ W ⟨i,rfl,hi,eW,hti⟩;dsimp only;refine Ac (λhlt=>?_) λhge=>?_
  ·(have hlt:i<m.length:=by have:=jY hlt;omega);obtain ⟨x,hx⟩:∃x,l[i]?=some x:=⟨_,oP (by omega)⟩;obtain ⟨y,hy⟩:∃y,m[i]?=some y:=⟨_,oP hlt⟩;refine Az λw2 e2 _=>Lr ((h1.ext eW).ext e2) (by omega) (b:=x) (by rw [kH];exact hx) λp=>Lr ((ht.ext eW).ext e2) (by omega) (b:=y) (by rw [kH];exact hy) λp'=>?_;refine Ac (λhb=>?_) λhb=>?_;{exact ne (eW.trans e2) hx hy λhh=>by rw [hh] at hb;simp at hb}
   ·have hb:x=y:=by
     have hb:((x.toNat:Nat):Int)=((y.toNat:Nat):Int):=by simpa using hb
     exact wJ.1 (by omega)
    rw [iE (by omega)];exact ⟨⟨i+1,by rw [show ((i:Int)+1)=((i+1:Nat):Int) by omega],hlt,eW.trans e2,by rw [sO,sO,hti,hx,hy,hb]⟩,by show m.length-((i:Int)+1).toNat<m.length-(i:Int).toNat;omega⟩
  {(have hge:¬i<m.length:=by have:=sK hge;omega);obtain rfl:i=m.length:=(by omega);refine ⟨eW,wC.2 (wE.2 ?_)⟩;rw [sQ (mJ _)] at hti;exact hti}
 rintro _ W ⟨eW,hp⟩;rw [iK hp] at hK;have hk:=hK W (e1.trans eW);rw [←htl];exact hk
end
end Dq
end
section
namespace Dq
open Go Go.Vx Dsk Cdc Trx Flp
section
variable {w w':World}{S R R':Nat->Prop}{r:Nat}{D D':Dk}{N M:Nat}{n:Nm}{f:Nat}{X:Fil}{sm:Sl}{b:List UInt8}{s:Sl}
abbrev Bi7 (a b:Int) (s:Sl) (n:Bool):Cells.T Qz:=(a,b,s,n,())
structure As3 (w w':World) (r:Nat) (R:Nat->Prop) (N:Nat) (z:Dk×Int×Option Fil×Lod) (R':Nat->Prop) (go:xM) (sd:Sl):Prop where
 disk:RS w' r R' z.1 (N+4)
 upd:Upd R w w'
 new:∀k,R' k->R k\/w.heap.size<=k
 file:match z.2.2.1 with
  |some X=>∃f sm,go=some (at0 f)/\GS w' f r X sm R'/\w.heap.size<=f/\∀k,sm.blk k->w.heap.size<=k
  |none=>go=none
 data:By w' sd z.2.2.2.data
 dnew:∀k,sd.blk k->w.heap.size<=k
def Ab5 (A:RS w r R D N) (hN:N+10<=2^40) (hn:n.size<2^62){enc limit:Int}{K:bD->Wp}
  (hK:∀R' w' go sd,let z:=Ib gG D n enc limit
   As3 w w' r R N z R' go sd->K (go,(z.2.2.2.enc,z.2.2.2.mark,sd,z.2.2.2.new,()),z.2.1,()) w') :
  Aa prog 143 #[dU r,.string n,vI enc,vI limit] (.tup [(.one .ptr),(.agg Qz),(.one (.int .i64))]) K w:=by
 refine Dh7 ?_;unfold F143;dsimp only at hK;unfold Ib at hK;refine Ag λb1 w1 e1 n1 hb1 hz1=>?_;(have nb1:¬R b1:=λhh=>by have:=A.lt _ hh;omega);have A1:=A.ext e1;have tell:∀{W:World} {a m:Int} {s:Sl} {nw:Bool} {J:aH->Wp},Upd R w1 W->(∀W',Upd (λk=>k=b1) W W'->J (a,m,s,nw,()) W') ->
   Ah (at0 b1) (.agg #[vI a,vI m,.slice s.a s.len s.cap,.bool nw]) 4 (lds Qz (at0 b1) J) W:=λ{W a m s nw J} u hJ=>by
  refine Ba (u.get n1 nb1) rfl rfl (by decide) λW' u' n' z'=>?_
  rw [Cc _ _ (by rfl)] at n'
  exact Dp (x:=Bi7 a m s nw) n' (λi v hv=>by rw [kY,←kQ];exact hv) (hJ W' u')
 have tellk:∀{W:World} {a m:Int} {s:Sl} {nw:Bool} {J:aH->Wp} {b2:Nat} {c:Array Value} {e:Int},Upd R w1 W->W.heap[b2]?=some (.cells c 247 (0,0))->c[5]?=some (vI e)->b2≠b1->(∀W',Upd (λk=>k=b1) W W'->J (a,m,s,nw,()) W') ->
   Ah (at0 b1) (.agg #[vI a,vI m,.slice s.a s.len s.cap,.bool nw]) 4 (keep (λw=>w.cell? (⟨b2,5,none⟩:Addr)=some (Cell.val (.int .i64) e)) (lds Qz (at0 b1) J)) W:=λ{W a m s nw J b2 c e} u h2 h5 hne hJ=>by
  refine Ba (u.get n1 nb1) rfl rfl (by decide) λW' u' n' z'=>?_
  rw [Cc _ _ (by rfl)] at n'
  exact Bc (cell_of (off:=5) (u'.get h2 hne) h5) (Dp (x:=Bi7 a m s nw) n' (λi v hv=>by rw [kY,←kQ];exact hv) (hJ W' u'))
 have err:∀{W:World} {R1:Nat->Prop} {D1:Dk} {e:Int},RS W r R1 D1 (N+4)->Upd R w W->(∀k,R1 k->R k\/w.heap.size<=k)->As3 w W r R N (D1,e,none,Nh) R1 none ⟨none,0,0⟩:=λA u h =>
  ⟨A,u,h,rfl,(Am.nil _ 0 _ _).in,λk hk=>absurd hk Du⟩
 have lb1:=lt_of_heap n1;have fr1:∀{W W':World} {R1:Nat->Prop} {D1:Dk} {M:Nat},RS W r R1 D1 M->(∀k,R1 k->R k\/w1.heap.size<=k)->Upd (λk=>k=b1) W W'->RS W' r R1 D1 M:=λA hR u=>A.frame u λk hk hh=>(hR k hk).elim (λh=>nb1 (hh▸h)) λhl=>(by omega);have up1:∀{W W':World},Upd R w1 W->Upd (λk=>k=b1) W W'->Upd R w W':=λu u'=>((Upd.Ae e1).trans u).new u' λk hk hh=>(by omega);have rn:∀{R1:Nat->Prop},(∀k,R1 k->R k\/w1.heap.size<=k)->∀k,R1 k->R k\/w.heap.size<=k:=λh k hk=>(h k hk).imp id λhh=>(by omega);have rself:∀k,R k->R k\/w1.heap.size<=k:=λk hk=>.inl hk;refine Ua hn (Ac (λhu=>?_) λhu=>?_);{have hu:userName n=false:=(by simpa using hu);rw [iK hu] at hK;exact tell (s:=⟨none,0,0⟩) (Upd.refl _ _) λW' u'=>hK R W' none ⟨none,0,0⟩ (err ((fr1 A1 rself u').mono (by omega)) (up1 (Upd.refl _ _) u') (rn rself))};have hu:¬userName n=false:=(by simpa using hu);rw [iP hu] at hK;refine Ar (decide (enc<0\/enc>4),()) (Ac (λh=>⟨Di ?_,rfl⟩) λh=>⟨Di ?_,rfl⟩) (Ac (λhc=>?_) λhc=>?_);{have h:=jY h;simp [h]};{have h:=sK h;simp [h]};{have hc:=jY hc;rw [iK hc] at hK;exact tell (s:=⟨none,0,0⟩) (Upd.refl _ _) λW' u'=>hK R W' none ⟨none,0,0⟩ (err ((fr1 A1 rself u').mono (by omega)) (up1 (Upd.refl _ _) u') (rn rself))};have hc:=sK hc;rw [iP hc] at hK;refine Ar (decide (limit<0\/limit>65536),()) (Ac (λh=>⟨Di ?_,rfl⟩) λh=>⟨Di ?_,rfl⟩) (Ac (λhc2=>?_) λhc2=>?_);{have h:=jY h;simp [h]};{have h:=sK h;simp [h]};{have hc2:=jY hc2;rw [iK hc2] at hK;exact tell (s:=⟨none,0,0⟩) (Upd.refl _ _) λW' u'=>hK R W' none ⟨none,0,0⟩ (err ((fr1 A1 rself u').mono (by omega)) (up1 (Upd.refl _ _) u') (rn rself))};have hc2:=sK hc2;rw [iP hc2] at hK;obtain ⟨q,hq⟩:∃q,q=Aj D n:=⟨_,rfl⟩;rw [←hq] at hK;dsimp only at hK;have hn32:n.size<=2^40:=by
  unfold userName at hu
  simp only [Bool.and_eq_false_iff,uY,Bool.not_eq_false,pF] at hu
  omega
 refine Tn A1 (by omega) hn λw2 R2 m2 s2 k2 A2 u2 hR2=>Oe λb11 w3 e3 n3 hb3=>?_;rw [←hq] at A2 n3;have A3:=A2.ext e3;have u13:=u2.trans (Upd.Ae (S:=R) e3);have lb:=u2.size;have hd11:b11≠b1:=(by omega);refine Af n3 (off:=5) (x:=q.2.1) rfl (Ac (λh162=>?_) λh162=>?_);{have h162:q.2.1=162:=(by simpa using h162);rw [iK h162] at hK;refine Ar ((if 1>enc then 1 else enc),()) (Ac (λh=>⟨?_,rfl⟩) λh=>⟨?_,rfl⟩) ?_;{have h:enc=0:=eq_of_beq h;rw [h];rfl};{have h:enc≠0:=(by simpa using h);rw [iP (by omega)]};refine Ag λb15 w4 e4 n4 hb4 hz4=>tell (s:=⟨none,0,0⟩) (u13.trans (Upd.Ae e4)) λW' u'=>?_;have z3:=u13.size;(have nR2:¬R2 b15:=λhh=>by have:=A3.lt _ hh;omega);refine hK R2 W' (some (at0 b15)) ⟨none,0,0⟩ ⟨(fr1 (A3.ext e4) hR2 u').mono (by omega),up1 (u13.trans (Upd.Ae e4)) u',rn hR2,?_,(Am.nil _ 0 _ _).in,λk hk=>absurd hk Du⟩;exact ⟨b15,⟨none,0,0⟩,rfl,⟨u'.get n4 (by omega),(Am.nil _ 0 _ _).in,nR2,λk hk=>absurd hk Du,by show (0:Nat)<1024;decide,hn32⟩,by omega,λk hk=>absurd hk Du⟩};have h162:q.2.1≠162:=(by simpa using h162);rw [iP h162] at hK;refine Af n3 (off:=5) (x:=q.2.1) rfl (Ac (λh0=>?_) λh0=>?_);{have h0:q.2.1≠0:=(by simpa using h0);rw [iK h0] at hK;refine Az λw4 e4 _=>Af (e4.ext_get n3) (off:=5) (x:=q.2.1) rfl (tellk (s:=⟨none,0,0⟩) (u13.trans (Upd.Ae e4)) (e4.ext_get n3) rfl hd11 λW' u'=>?_);exact hK R2 W' none ⟨none,0,0⟩ (err ((fr1 (A3.ext e4) hR2 u').mono (by omega)) (up1 (u13.trans (Upd.Ae e4)) u') (rn hR2))};have h0:¬q.2.1≠0:=(by simpa using h0);rw [iP h0] at hK;obtain ⟨v,hv⟩:∃v,v=Aw q.1 n:=⟨_,rfl⟩;rw [←hv] at hK;refine Co2 A3 (by omega) hn λw5 R5 m5 s5 y1 y2 y3 k5 A5 u5 hR5 o5 ho5=>Oe λb21 w6 e6 n6 hb6=>?_;(have hvl:v.2.2.length<=1048576:=by rw [hv];exact Ve A3.ok n);rw [←hv] at A5 n6 o5;have A6:=A5.ext e6;have o6:=o5.ext e6;(have nb11:¬R2 b11:=λhh=>by have:=A2.lt _ hh;omega);have n36:=e6.ext_get (u5.get n3 nb11);have z3:=u13.size;have z5:=u5.size;have hR5':=Gu hR2 hR5 z3;have u16:=(Hg u13 (λk hk=>hR2 k hk) u5).trans (Upd.Ae (S:=R) e6);have hd21:b21≠b1:=(by omega);refine Af n6 (off:=5) (x:=v.2.1) rfl (Ac (λh1=>?_) λh1=>?_);{have h1:v.2.1≠0:=(by simpa using h1);rw [iK h1] at hK;refine Az λw7 e7 _=>Af (e7.ext_get n6) (off:=5) (x:=v.2.1) rfl (tellk (s:=⟨none,0,0⟩) (u16.trans (Upd.Ae e7)) (e7.ext_get n6) rfl hd21 λW' u'=>?_);exact hK R5 W' none ⟨none,0,0⟩ (err ((fr1 (A6.ext e7) hR5' u').mono (by omega)) (up1 (u16.trans (Upd.Ae e7)) u') (rn hR5'))};have h1:¬v.2.1≠0:=(by simpa using h1);rw [iP h1] at hK;obtain ⟨e,he⟩:∃e,e=He gG enc v.2.2:=⟨_,rfl⟩;rw [←he] at hK;have heb:=D8 (g:=gG) (enc:=enc) (b:=v.2.2);rw [←he] at heb;have hol:=Eh o6.in.x;refine Af n6 (off:=1) (x:=s5) rfl (An6 hvl o6.in λw7 e7=>Af (e7.ext_get n6) (off:=1) (x:=s5) rfl ?_);rw [show ((He (λl=>(Rz l).1) enc v.2.2).1,(He (λl=>(Rz l).1) enc v.2.2).2,())=(e.1,e.2,()) by rw [he]];dsimp only;rw [iE (by omega)];have u17:=u16.trans (Upd.Ae (S:=R) e7);have A7:=A6.ext e7;have o7:=o6.ext e7;refine Ac (λh2=>?_) λh2=>?_;{have h2:=jY h2;rw [iK (by omega)] at hK;exact tell (s:=⟨none,0,0⟩) u17 λW' u'=>hK R5 W' none ⟨none,0,0⟩ (err ((fr1 A7 hR5' u').mono (by omega)) (up1 u17 u') (rn hR5'))};have h2:=sK h2;rw [iP (by omega)] at hK;obtain ⟨k,hk⟩:∃k:Nat,e.2=(k:Int):=qN heb.1;rw [hk] at heb hK ⊢;refine Az λw8 e8 _=>?_;have n8:=e8.ext_get (e7.ext_get n6);have o8:=o7.ext e8;have hcap:=o8.in.le;have sb:∀j,s5.blk j->w3.heap.size<=j:=λj hj=>o5.Dh hj;refine Af n8 (off:=1) (x:=s5) rfl (Nr o8.in (by omega) (by omega) (by omega) (by omega) (by omega) λs9 hs9 hl9 _ hb9=>?_);refine Dp (b:=b11) (off:=2) (x:=trT q.2.2) (e8.ext_get (e7.ext_get n36)) (λi v hv=>An2 i v hv) (Ag λb32 w9 e9 n9 hb9' hz9=>Az λw10 e10 _=>?_);have e810:=e9.trans e10;have n10:=e810.ext_get n8;have o10:=o8.ext e810;refine Af n10 (off:=1) (x:=s5) rfl (Nr o10.in (by omega) (by omega) (by omega) (by omega) (by omega) λs11 hs11 hl11 _ hb11=>?_);have u110:=(u17.trans (Upd.Ae (S:=R) e8)).trans (Upd.Ae (S:=R) e810);have z8:=(u17.trans (Upd.Ae (S:=R) e8)).size;have z17:=u16.size;(have ht:((bv v.2.2).drop ((0:Int).toNat*1)).take (((k:Int).toNat-(0:Int).toNat)*1)=bv (v.2.2.take k):=by rw [kH];simp [tK]);rw [ht] at hs9;have ht2:((bv v.2.2).drop ((k:Int).toNat*1)).take ((((s5.len:Nat):Int).toNat-(k:Int).toNat)*1)=bv (v.2.2.drop k):=by
  rw [kH,kH,kX,kX,sQ (by simp;omega)]
  simp [vM]
 rw [ht2] at hs11;refine tell u110 λW' u'=>?_;(have nR5:¬R5 b32:=λhh=>by have:=(A7.ext e8).lt _ hh;omega);(have sne:∀j,s5.blk j->j≠b1:=λj hj hh=>by have:=sb j hj;omega);rw [kH] at hK;refine hK R5 W' (some (at0 b32)) s11 ⟨(fr1 ((A7.ext e8).ext e810) hR5' u').mono (by omega),up1 u110 u',rn hR5',?_,hs11.upd u' λj hj=>sne j (hb11 j hj),λj hj=>by have:=sb j (hb11 j hj);omega⟩;refine ⟨b32,s9,rfl,⟨u'.get (e10.ext_get n9) (by omega),(hs9.ext e810).upd u' λj hj=>sne j (hb9 j hj),nR5,λj hj=>ho5 j (hb9 j hj),?_,hn32⟩,by omega,λj hj=>by have:=sb j (hb9 j hj);omega⟩;show (v.2.2.take k).length<1024;rw [nG];omega
end
end Dq
end
section
namespace Dq
open Go Go.Vx Dsk Cdc Trx Flp
structure Slo where
 f:Nat
 g:Nat
 X:Fil
 Y:Fil
 sm:Sl
 sg:Sl
structure Y6 (w:World) (d r:Nat) (F R:Nat->Prop) (s:Slo):Prop where
 fs:FS w s.f d s.X s.sm F
 gs:GS w s.g r s.Y s.sg R
 fR:¬R s.f
 mR:∀k,s.sm.blk k->¬R k
 gF:¬F s.g
 nF:∀k,s.sg.blk k->¬F k
abbrev fpV (o:Option Slo):Value:=.pointer (o.map λs=>at0 s.f)
abbrev gpV (o:Option Slo):Value:=.pointer (o.map λs=>at0 s.g)
abbrev Rt (d r:Nat) (sl:Nat->Option Slo) (so:Sl):Array Value:=#[dU d,dU r,fpV (sl 0),fpV (sl 1),gpV (sl 0),gpV (sl 1),.slice so.a so.len so.cap]
def mkB (n:Nat):UInt8:=UInt8.ofNat (n%200+40)
def slv (s:Sl):Value:=.slice s.a s.len s.cap
structure Wl (w:World) (wb d r:Nat) (F R:Nat->Prop) (D E:Dk) (N M:Nat) (sl:Nat->Option Slo) (so:Sl) (zs:List Sl):Prop where
 ds:DS w d F D N
 rs:RS w r R E M
 fr:∀k,F k->¬R k
 rty:∀k,R k->∀o,w.heap[k]?=some o->zty o=true
 r0:¬R 0
 box:w.heap[wb]?=some (.cells (Rt d r sl so) 158 (0,0))
 wF:¬F wb
 wR:¬R wb
 slo:∀i s,i<2->sl i=some s->Y6 w d r F R s
 nf:∀s t,sl 0=some s->sl 1=some t->s.f≠t.f/\s.g≠t.g
 ol:Am w 0 so 30 1 (zs.map slv)
 oF:∀k,so.blk k->¬F k/\¬R k
 ze:∃m,zs.length=2*m
 z:∀(i:Nat) s,zs[i]?=some s->(∃n,n<=2^30/\By w s (List.replicate n (mkB (i/2*2))))/\∀k,s.blk k->¬F k/\¬R k
 laid:Jc w
section
variable {w w':World}{S F R F' R':Nat->Prop}{wb d r:Nat}{D E D' E':Dk}{N M N' M':Nat}{sl sl':Nat->Option Slo}{so:Sl}{zs:List Sl}{f:Nat}{X:Fil}{sm:Sl}
def FS.frame (h:FS w f d X sm F) (u:Upd S w w') (h1:¬S f) (h2:∀k,sm.blk k->¬S k) (h0:¬S 0) (hF:∀k,F' k->F k\/w.heap.size<=k):FS w' f d X sm F' :=
 ⟨h.at_.upd u h1 h2,λhh=>(hF _ hh).elim h.nf λhl=>by have:=lt_of_heap h.at_.box;omega,λk hk hh=>(hF _ hh).elim (h.nm k hk) λhl=>by have:=h.at_.mkr.Ci hk;omega,h.laid.upd u h0,h.small,h.name,h.nz⟩
def Y6.frame {s:Slo}(h:Y6 w d r F R s) (u:Upd S w w') (h1:¬S s.f) (h2:¬S s.g) (h3:∀k,s.sm.blk k->¬S k) (h4:∀k,s.sg.blk k->¬S k) (h0:¬S 0) (hF:∀k,F' k->F k\/w.heap.size<=k) (hR:∀k,R' k->R k\/w.heap.size<=k):Y6 w' d r F' R' s :=
 ⟨h.fs.frame u h1 h3 h0 hF,h.gs.frame u h2 h4 hR,λhh=>(hR _ hh).elim h.fR λhl=>by have:=lt_of_heap h.fs.at_.box;omega,λk hk hh=>(hR _ hh).elim (h.mR k hk) λhl=>by have:=h.fs.at_.mkr.Ci hk;omega,
  λhh=>(hF _ hh).elim h.gF λhl=>by have:=lt_of_heap h.gs.box;omega,λk hk hh=>(hF _ hh).elim (h.nF k hk) λhl=>by have:=h.gs.mkr.Ci hk;omega⟩
structure Chg (F R:Nat->Prop) (i:Nat) (sl:Nat->Option Slo) (S:Nat->Prop):Prop where
 on:∀k,S k->F k\/R k\/∃s,i<2/\sl i=some s/\(k=s.f\/k=s.g)
def RS.thin (h:RS w r R E M):RS w r (λk=>R k/\∀o,w.heap[k]?=some o->zty o=true) E M:=⟨h.at_.thin,h.ok⟩
def Xi {a b:Nat}{c c':Array Value}{t t':TypeId}{x y:Nat×Nat}(h1:w.heap[a]?=some (.cells c t x)) (h2:w.heap[b]?=some (.cells c' t' y)) (h:t≠t'):a≠b:=λhh=>by rw [hh,h2] at h1;cases h1;exact h rfl
def Le {s:Sl}{t t':TypeId}{sz:Nat}{vs:List Value}{a:Nat}{c:Array Value}{x:Nat×Nat}(hs:Dx w s t sz vs) (h:w.heap[a]?=some (.cells c t' x)) (hne:t≠t'):∀k,s.blk k->k≠a:=λk hk=>by obtain ⟨c',fr',h'⟩:=hs.Bf hk;exact Xi h' h hne
def Wl.step (h:Wl w wb d r F R D E N M sl so zs) (u:Upd S w w'){i:Nat}(hS:Chg F R i sl S) (A:DS w' d F' D' N') (B:RS w' r R' E' M') (hF:∀k,F' k->F k\/w.heap.size<=k) (hR:∀k,R' k->R k\/w.heap.size<=k) (hFR:∀k,F' k->¬R' k)
  (hty:∀k,R' k->∀o,w'.heap[k]?=some o->zty o=true) (hj:∀j,j≠i->sl' j=sl j) (hi:i<2->(sl' i=none/\sl i=none)\/∃s s',sl i=some s/\sl' i=some s'/\s'.f=s.f/\s'.g=s.g/\Y6 w' d r F' R' s'):Wl w' wb d r F' R' D' E' N' M' sl' so zs:=by
 have pos:=h.ds.pos;have notS:∀k,¬F k->¬R k->(∀s,i<2->sl i=some s->k≠s.f/\k≠s.g)->¬S k:=λk h1 h2 h3 hk=>by
  rcases hS.on k hk with hh|hh|⟨s,hi2,hs,hh⟩
  ·exact h1 hh
  ·exact h2 hh
  ·obtain ⟨a,b⟩:=h3 s hi2 hs
   rcases hh with hh|hh
   ·exact a hh
   ·exact b hh
 have fb:∀s,i<2->sl i=some s->w.heap[s.f]?=some (.cells (Gg d s.X s.sm) 110 (0,0))/\w.heap[s.g]?=some (.cells (Gg r s.Y s.sg) 245 (0,0)):=λs h2 hs=>⟨(h.slo i s h2 hs).fs.at_.box,(h.slo i s h2 hs).gs.box⟩;have n0:¬S 0:=notS 0 h.ds.no0 h.r0 λs h2 hs=>⟨λhh=>(h.slo i s h2 hs).fs.nz hh.symm,λhh=>by
  obtain ⟨c,t,fr,h1,h3⟩:=h.laid
  have:=(fb s h2 hs).2
  rw [←hh,h1] at this
  have he:=sW this
  injection he with hc
  rw [hc] at h3
  have h3:some (Value.pointer (some (at0 r)))=some (Dq.rty 26):=h3
  unfold Dq.rty at h3
  cases h3⟩
 have bt:∀{t:TypeId} {s:Sl} {sz:Nat} {vs:List Value},Dx w s t sz vs->t≠110->t≠245->(∀k,s.blk k->¬F k/\¬R k)->∀k,s.blk k->¬S k:=λhs h1 h2 h3 k hk=>notS k (h3 k hk).1 (h3 k hk).2 λs h2' hs'=>⟨Le hs (fb s h2' hs').1 h1 k hk,Le hs (fb s h2' hs').2 h2 k hk⟩;have kF:∀k,k<w.heap.size->¬F k->¬F' k:=λk hk h1 hh=>(hF k hh).elim h1 λhl=>(by omega);have kR:∀k,k<w.heap.size->¬R k->¬R' k:=λk hk h1 hh=>(hR k hh).elim h1 λhl=>(by omega);have lw:=lt_of_heap h.box;have hsl:∀k,k<2->fpV (sl' k)=fpV (sl k)/\gpV (sl' k)=gpV (sl k):=λk hk=>by
  by_cases hki:k=i
  ·subst hki
   rcases hi hk with ⟨a,b⟩|⟨s,s',a,b,c,e,_⟩
   ·rw [a,b];exact ⟨rfl,rfl⟩
   ·rw [a,b];show _/\_;simp only [fpV,gpV,jL,c,e,and_self]
  ·rw [hj k hki];exact ⟨rfl,rfl⟩
 refine ⟨A,B,hFR,hty,kR 0 pos h.r0,?_,kF wb lw h.wF,kR wb lw h.wR,?_,?_,h.ol.upd u (λk _ hk=>bt h.ol.in (by decide) (by decide) h.oF k hk),λk hk=>?_,h.ze,λj s hs=>?_,h.laid.upd u n0⟩
 ·have hc:Rt d r sl' so=Rt d r sl so:=by
   unfold Rt
   rw [(hsl 0 (by omega)).1,(hsl 0 (by omega)).2,(hsl 1 (by omega)).1,(hsl 1 (by omega)).2]
  rw [hc];exact u.get h.box (notS wb h.wF h.wR λs h2 hs=>⟨Xi h.box (fb s h2 hs).1 (by decide),Xi h.box (fb s h2 hs).2 (by decide)⟩)
 ·intro j s hj2 hs;by_cases hji:j=i;{subst hji;rcases hi hj2 with ⟨a,b⟩|⟨s0,s',a,b,c,e,g⟩;{rw [a] at hs;cases hs};{rw [b] at hs;cases hs;exact g}}
  ·rw [hj j hji] at hs;have H:=h.slo j s hj2 hs;have hne:∀t,i<2->sl i=some t->s.f≠t.f/\s.g≠t.g:=λt hi2 ht=>by
    rcases (show (j=0/\i=1)\/(j=1/\i=0) by omega) with ⟨a,b⟩|⟨a,b⟩
    ·subst a;subst b;exact h.nf s t hs ht
    ·subst a;subst b;obtain ⟨p,q⟩:=h.nf t s ht hs;exact ⟨p.symm,q.symm⟩
   refine H.frame u (notS _ H.fs.nf H.fR λt h2 ht=>⟨(hne t h2 ht).1,Xi H.fs.at_.box (fb t h2 ht).2 (by decide)⟩) (notS _ H.gF H.gs.nf λt h2 ht=>⟨(Xi H.gs.box (fb t h2 ht).1 (by decide)),(hne t h2 ht).2⟩)
    (bt H.fs.at_.mkr (by decide) (by decide) λk hk=>⟨H.fs.nm k hk,H.mR k hk⟩) (bt H.gs.mkr (by decide) (by decide) λk hk=>⟨H.nF k hk,H.gs.nm k hk⟩) n0 hF hR
 ·intro s t hs ht;have get:∀k q,k<2->sl' k=some q->∃q',sl k=some q'/\q'.f=q.f/\q'.g=q.g:=λk q hk hq=>by
   by_cases hki:k=i
   ·subst hki
    rcases hi hk with ⟨a,b⟩|⟨s0,s',a,b,c,e,g⟩
    ·rw [a] at hq;cases hq
    ·rw [b] at hq;cases hq;exact ⟨s0,a,c.symm,e.symm⟩
   ·rw [hj k hki] at hq;exact ⟨q,hq,rfl,rfl⟩
  obtain ⟨a,ha,a1,a2⟩:=get 0 s (by omega) hs;obtain ⟨b,hb,b1,b2⟩:=get 1 t (by omega) ht;rw [←a1,←a2,←b1,←b2];exact h.nf a b ha hb
 {have:=h.ol.in.Ci hk;exact ⟨kF k this (h.oF k hk).1,kR k this (h.oF k hk).2⟩};{obtain ⟨⟨n,hn,hb⟩,h2⟩:=h.z j s hs;exact ⟨⟨n,hn,hb.upd u (bt hb (by decide) (by decide) h2)⟩,λk hk=>⟨kF k (hb.Ci hk) (h2 k hk).1,kR k (hb.Ci hk) (h2 k hk).2⟩⟩}
def Wl.Ac8 (h:Wl w wb d r F R D E N M sl so zs) (u:Upd F w w') (A:DS w' d F' D' N') (hF:∀k,F' k->F k\/w.heap.size<=k):Wl w' wb d r F' R D' E N' M sl so zs :=
 h.step (i:=2) u ⟨λk hk=>.inl hk⟩ A (h.rs.frame u λk hk hh=>h.fr k hh hk) hF (λk hk=>.inl hk) (λk hk hh=>(hF k hk).elim (λh1=>h.fr k h1 hh) λhl=>by have:=h.rs.lt k hh;omega)
  (λk hk o ho=>h.rty k hk o (by rw [u.at_ k (h.rs.lt k hk) (λhh=>h.fr k hh hk)] at ho;exact ho)) (λ_ _=>rfl) (λhh=>by omega)
def Wl.Co6 (h:Wl w wb d r F R D E N M sl so zs) (u:Upd R w w') (B:RS w' r R' E' M') (hR:∀k,R' k->R k\/w.heap.size<=k):Wl w' wb d r F (λk=>R' k/\∀o,w'.heap[k]?=some o->zty o=true) D E' N M' sl so zs :=
 h.step (i:=2) u ⟨λk hk=>.inr (.inl hk)⟩ (h.ds.frame u λk hk hh=>h.fr k hk hh) B.thin (λk hk=>.inl hk) (λk hk=>hR k hk.1) (λk hk hh=>(hR k hh.1).elim (λh1=>h.fr k hk h1) λhl=>by have:=h.ds.lt k hk;omega)
  (λk hk=>hk.2) (λ_ _=>rfl) (λhh=>by omega)
def Wl.ext (h:Wl w wb d r F R D E N M sl so zs) (e:Ext w w'):Wl w' wb d r F R D E N M sl so zs :=
 h.Ac8 (Upd.Ae e) (h.ds.ext e) λk hk=>.inl hk
def Wl.okF (h:Wl w wb d r F R D E N M sl so zs) (ok:Bj D N'):Wl w wb d r F R D E N' M sl so zs:=⟨⟨h.ds.disk,ok,h.ds.ty,h.ds.no0⟩,h.rs,h.fr,h.rty,h.r0,h.box,h.wF,h.wR,h.slo,h.nf,h.ol,h.oF,h.ze,h.z,h.laid⟩
def Wl.okR (h:Wl w wb d r F R D E N M sl so zs) (ok:Bj E M'):Wl w wb d r F R D E N M' sl so zs:=⟨h.ds,⟨h.rs.at_,ok⟩,h.fr,h.rty,h.r0,h.box,h.wF,h.wR,h.slo,h.nf,h.ol,h.oF,h.ze,h.z,h.laid⟩
end
end Dq
end
section
namespace Dq
open Go Go.Vx Dsk Cdc Trx Flp
structure WB (B0:Nat) (w:World) (wb d r:Nat) (D:Dk) (N:Nat) (F R:Nat->Prop) (sl:Nat->Option Slo) (so:Sl) (zs:List Sl):Prop where
 wl:Wl w wb d r F R D D N N sl so zs
 eq:∀i s,i<2->sl i=some s->s.X=s.Y/\B0<=s.f/\B0<=s.g
 bF:∀k,F k->B0<=k
 bR:∀k,R k->B0<=k
 bw:B0<=wb
 bo:∀k,so.blk k->B0<=k
section
variable {B0:Nat}{w w':World}{S F R F' R':Nat->Prop}{wb d r:Nat}{D E D' E':Dk}{N M N' M':Nat}{sl sl':Nat->Option Slo}{so:Sl}{zs:List Sl}{n:Nm}
def WB.ext (h:WB B0 w wb d r D N F R sl so zs) (e:Ext w w'):WB B0 w' wb d r D N F R sl so zs:=⟨h.wl.ext e,h.eq,h.bF,h.bR,h.bw,h.bo⟩
def WB.okN (h:WB B0 w wb d r D N F R sl so zs) (ok:Bj D N'):WB B0 w wb d r D N' F R sl so zs:=⟨(h.wl.okF ok).okR ok,h.eq,h.bF,h.bR,h.bw,h.bo⟩
def WB.mono (h:WB B0 w wb d r D N F R sl so zs) (hm:N<=N'):WB B0 w wb d r D N' F R sl so zs:=h.okN (h.wl.ds.ok.mono hm)
def WB.szB (h:WB B0 w wb d r D N F R sl so zs):B0<=w.heap.size:=by have:=lt_of_heap h.wl.box;have:=h.bw;omega
def WB.both (h:WB B0 w wb d r D N F R sl so zs){w1 w2:World}(H1:Wl w1 wb d r F' R D' D N' N sl so zs) (u1:Upd F w w1) (hF:∀k,F' k->F k\/w.heap.size<=k) (u2:Upd R w1 w2) (A:RS w2 r R' D' N') (hR:∀k,R' k->R k\/w1.heap.size<=k) :
  WB B0 w2 wb d r D' N' F' (λk=>R' k/\∀o,w2.heap[k]?=some o->zty o=true) sl so zs/\Upd (λk=>B0<=k) w w2:=by have hB:=h.szB;have z1:=u1.size;refine ⟨⟨H1.Co6 u2 A hR,h.eq,λk hk=>(hF k hk).elim (h.bF k) λhl=>by omega,λk hk=>(hR k hk.1).elim (h.bR k) λhl=>by omega,h.bw,h.bo⟩,?_⟩;exact (u1.mono λk _ hk=>h.bF k hk).new u2 λk _ hk=>h.bR k hk
def Wl.noR {t:TypeId}(h:Wl w wb d r F R D E N M sl so zs) (ht:∀fr,zty (.cells #[] t fr)=false):Et w R t:=λk hk c fr hc=>by have h1:=h.rty k hk _ hc;have h2:=ht fr;unfold zty at h1 h2;simp only at h1 h2;rw [h1] at h2;cases h2
def Nv (h:Wl w wb d r F R D E N M sl so zs){K:xM->Wp}(hK:K (some (at0 d)) w):ld .ptr (at0 wb) K w:=Af h.box (off:=0) (x:=some (at0 d)) rfl hK
def Rq (h:Wl w wb d r F R D E N M sl so zs){K:xM->Wp}(hK:K (some (at0 r)) w):ld .ptr ((at0 wb).add 1) K w:=by rw [addr_add];exact Af h.box (off:=0+1) (x:=some (at0 r)) rfl hK
def L8 (h:WB B0 w wb d r D N F R sl so zs) (hN:N<=2^40){K:Bool->Wp}(hK:iF w (K true)):Aa prog 115 #[dU wb] rB K w:=by
 refine j115 ?_;unfold F115;refine Ad (Nv h.wl (Xj h.wl.ds.disk h.wl.ds.ok λs w1 o1 e1=>Ad ?_));have h1:=h.ext e1;refine Rq h1.wl ?_;obtain ⟨sf,sl',sa,sq,ds,es,qr,ql,A⟩:=h1.wl.rs.at_;refine Uu A h1.wl.rs.ok hN λt w2 o2 e2=>?_;obtain ⟨L,hL⟩:∃L,L=if D.down=true then [] else Dsk.names D.seen:=⟨_,rfl⟩;rw [←hL] at o1 o2;have o1:=o1.ext e2;have l1:=o1.len1;have l2:=o2.len1;rw [nO] at l1 l2;have hLl:L.length<=16:=by
  rw [hL];split
  ·simp
  ·exact h.wl.ds.ok.seen.names.2
 refine Ac (λhh=>by simp at hh;omega) λ_=>?_;refine Ai (λ_ W=>Ext w W) ?_ λ_ W e=>hK W e;refine Bo (λst W=>∃j:Nat,st=((j:Int),())/\j<=L.length/\Ext w2 W) (λst _=>L.length-st.1.toNat) ⟨0,rfl,qI _,Ext.refl _⟩ ?_;rintro _ W ⟨j,rfl,hj,eW⟩;dsimp only;refine Ac (λhlt=>?_) λhge=>(e1.trans e2).trans eW;(have hlt:j<L.length:=by have:=jY hlt;omega);obtain ⟨x,hx⟩:∃x,L[j]?=some x:=⟨_,oP hlt⟩;refine Az λw3 e3 _=>Nk (c:=.str) (xs:=L) ((o1.ext eW).ext e3).in.x (by omega) (by rw [kH];exact hx) λ_=>Nk (c:=.str) (xs:=L) ((o2.ext eW).ext e3).in.x (by omega) (by rw [kH];exact hx) λ_=>?_;rw [bytes_eq];refine Ac (λhh=>by simp at hh) λ_=>?_;rw [iE (by omega)];exact ⟨⟨j+1,by rw [show ((j:Int)+1)=((j+1:Nat):Int) by omega],hlt,eW.trans e3⟩,by show L.length-((j:Int)+1).toNat<L.length-(j:Int).toNat;omega⟩
def Bm0 {o1 o2:Operand}{a b:Bool}{K:Bool->Wp}(h:K (a==b) w):rdB prog (do eqGuard .eql 4 o1 o2 (.bool a) (.bool b);binOp .eql 4 (.bool a) (.bool b):Sem Value) K w:=Pq u4b h
def Bu3 (h:RS w r R E M) (hN:M+2<=2^40) (hn:n.size<2^62){K:Cells.T Bq->Wp}
  (hK:∀w' R' m s s1 s2 s3 k,RS w' r R' (Aw E n).1 (M+2)->Upd R w w'->(∀k,R' k->R k\/w.heap.size<=k)->Dl w' w.heap.size s (Aw E n).2.2->(∀k,s.blk k->¬R' k)->K (m,s,s1,s2,s3,(Aw E n).2.1,k,()) w') :
  Aa prog 150 #[dU r,.agg #[.string Bx9,.string n,.string nmE,.slice none 0 0]] (.one (.agg Bq)) K w:=by obtain ⟨sf,sl,sa,sq,ds,es,qr,ql,A⟩:=h.at_;have hs:=Bm3 (D:=E) (n:=n);refine Yz A h.ok hN (.read n) hn (by show ByteArray.size nmE<_;decide) (x:=⟨none,0,0⟩) ⟨.inl ⟨by simp,rfl⟩⟩ (.inl rfl) (by show ([]:List UInt8).length<=_;decide) λw' R' s k hA u hR hd hd'=>?_;have hk:=hK w' R' (doP (.read n) E).2.n s (doP (.read n) E).2.st.1 (doP (.read n) E).2.st.2.1 (doP (.read n) E).2.st.2.2 k;have hok:=Vh h.ok n;rw [hs] at hk hok;exact hk ⟨hA,hok⟩ u hR hd hd'
def Ab3 (h:RS w r R E M) (hN:M+2<=2^40) (hn:n.size<2^62){K:Cells.T Bq->Wp}(hK:Y7 w r R M (Au E n).1 (Au E n).2.1 K) :
  Aa prog 150 #[dU r,.agg #[.string Ap0,.string n,.string nmE,.slice none 0 0]] (.one (.agg Bq)) K w:=by obtain ⟨sf,sl,sa,sq,ds,es,qr,ql,A⟩:=h.at_;have hd:=Am7 (D:=E) (n:=n);have h1:(Au E n).1=(doP (.remove n) E).1:=lW (·.1) hd;have h2:(Au E n).2.1=(doP (.remove n) E).2.err:=lW (·.2.1) hd;refine Yz A h.ok hN (.remove n) hn (by show ByteArray.size nmE<_;decide) (x:=⟨none,0,0⟩) ⟨.inl ⟨by simp,rfl⟩⟩ (.inl rfl) (by show ([]:List UInt8).length<=_;decide) λw' R' s k hA u hR _ _=>?_;rw [←h1] at hA;rw [←h2];exact hK w' R' _ s _ _ _ k ⟨hA,Iu h.ok n⟩ u hR
def L6 (h:WB B0 w wb d r D N F R sl so zs) (hN:N+2<=2^30) (hn:n.size<2^62){K:Bool->Wp}(hK:∀w' D' F' R',WB B0 w' wb d r D' (N+2) F' R' sl so zs->Upd (λk=>F k\/R k) w w'->(∀k,F' k->F k\/w.heap.size<=k)->(∀k,R' k->R k\/w.heap.size<=k)->K true w') :
  Aa prog 117 #[dU wb,.string n] rB K w:=by
 refine j117 ?_;unfold F117;refine Ad (Nv h.wl (Bk4 h.wl.ds (by omega) λF1 w1 s v hv A1 u1 hF1 o1 ho1=>Ad ?_));have H1:=h.wl.Ac8 u1 A1 hF1;refine Rq H1 (Bu3 H1.rs (by omega) hn λw2 R2 m t s1 s2 s3 k A2 u2 hR2 o2 ho2=>Oe λb7 w3 e3 n3 _=>?_);obtain ⟨H2,u02⟩:=h.both H1 u1 hF1 u2 A2 hR2;have H3:=H2.ext e3;have hs1:Dl w2 w.heap.size s (Aw D n).2.2:=o1.upd u2 λk _ hk hh=>by
  have:=h.wl.rs.lt k hh;have:=o1.Dh hk;omega
 have hrl:=Ve h.wl.ds.ok n;refine Az λw4 e4 _=>?_;have e34:=e3.trans e4;have n4:=e4.ext_get n3;have hv4:Hz w4 v (Aw D n).2.1:=by
  exact ((hv.upd u2 (H1.noR λ_=>rfl)).ext e34)
 refine hv4.Yy (Af n4 (off:=5) (x:=(Aw D n).2.1) rfl (Bm0 (Ac (λ_=>Af n4 (off:=1) (x:=t) rfl (Zl (hs1.ext e34).in.x (o2.ext e34).in.x (by omega) λw5 e5=>?_)) λhh=>?_)));{rw [uX rfl];have z1:=u1.size;exact hK w5 _ _ _ ((H3.ext e4).ext e5) (((u1.mono λk _ hk=>.inl hk).trans (u2.mono λk _ hk=>.inr hk)).trans (Upd.Ae (e34.trans e5))) hF1 λk hk=>(hR2 k hk.1).imp id λhl=>by omega};{exfalso;revert hh;by_cases h0:(Aw D n).2.1=0;{simp [h0]};{simp [h0]}}
def Bb4 (h:WB B0 w wb d r D N F R sl so zs) (hN:N+2<=2^30) (hn:n.size<2^62){K:Bool->Wp}(hK:∀w' D' F' R',WB B0 w' wb d r D' (N+2) F' R' sl so zs->Upd (λk=>B0<=k) w w'->K true w') :
  Aa prog 117 #[dU wb,.string n] rB K w :=
 L6 h hN hn λw' D' F' R' H u _ _=>hK w' D' F' R' H (u.mono λk _ hk=>hk.elim (h.bF k) (h.bR k))
end
end Dq
end
section
namespace Dq
open Go Go.Vx Dsk Cdc Trx Flp
structure Kw (w:World) (B0:Nat) (x:Cells.T c162) (data:List UInt8) (frows:List (Cells.T Dt)) (fl:List (Int×Ce)) (cb:xP):Prop where
 nm:x.2.2.1.size<=2^40
 ot:x.2.2.2.1.size<=2^40
 dt:Bytes w x.2.2.2.2.2.2.2.1 data
 dl:Lie (λk=>k<B0) x.2.2.2.2.2.2.2.1
 dn:data.length<=1048576
 ft:Hu w (λk=>k<B0) x.2.2.2.2.2.2.2.2.1 frows fl
 fn:fl.length<=2^30
 ct:SlX w x.2.2.2.2.2.2.2.2.2.2.1 1 (iv cb)
 cl:Lie (λk=>k<B0) x.2.2.2.2.2.2.2.2.2.2.1
 cn:cb.length<=2^44
abbrev Gy (x:Cells.T c162):Array Value:=(Cells.vals c162 x).toArray
section
variable {B0:Nat}{w w':World}{S F R F' R':Nat->Prop}{wb d r:Nat}{D E D' E':Dk}{N M N' M':Nat}{sl sl':Nat->Option Slo}{so:Sl}{zs:List Sl}{n:Nm}{x:Cells.T c162}{data:List UInt8}{frows:List (Cells.T Dt)}{fl:List (Int×Ce)}{cb:xP}
def Kw.upd (h:Kw w B0 x data frows fl cb) (u:Upd S w w') (hS:∀k,S k->B0<=k):Kw w' B0 x data frows fl cb :=
 have hh:∀k,k<B0->¬S k:=λk hk h'=>by have:=hS k h';omega
 ⟨h.nm,h.ot,SlX.Yd h.dt h.dl u hh,h.dl,h.dn,h.ft.upd u hh,h.fn,SlX.Yd h.ct h.cl u hh,h.cl,h.cn⟩
def Kw.ext (h:Kw w B0 x data frows fl cb) (e:Ext w w'):Kw w' B0 x data frows fl cb:=h.upd e λk h=>h.elim
abbrev AnsAt (w:World) (r:Nat) (R:Nat->Prop) (N:Nat) (D1:Dk) (e:Int) (y:Addr×Unit) (W:World):Prop :=
 ∃b7 R' c,y=(at0 b7,())/\RS W r R' D1 (N+2)/\Upd R w W/\(∀k,R' k->R k\/w.heap.size<=k)/\W.heap[b7]?=some (.cells c 247 (0,0))/\c[5]?=some (vI e)
def At4 (h:WB B0 w wb d r D N F R sl so zs) (hN:N+6<=2^30) (hx:Kw w B0 x data frows fl cb){K:Bool->Wp}(hK:∀w' D' F' R',WB B0 w' wb d r D' (N+4) F' R' sl so zs->Upd (λk=>B0<=k) w w'->K true w') :
  Aa prog 112 #[dU wb,.agg (Gy x)] rB K w:=by
 refine j112 (a1:=x) ?_
 unfold F112
 refine Ag λb1 w1 e1 n1 hb1 hz1=>?_
 have n1:w1.heap[b1]?=some (.cells (Gy x) 162 (0,0)):=n1
 have h1:=h.ext e1
 have x1:=hx.ext e1
 have hB:=h.szB
 have hnm:=hx.nm
 have hot:=hx.ot
 have nF1:¬F b1:=λhh=>by have:=h.wl.ds.lt b1 hh;omega
 have nR1:¬R b1:=λhh=>by have:=h.wl.rs.lt b1 hh;omega
 have lowR:∀{W:World} {R1:Nat->Prop},(∀k,R1 k->R k\/w1.heap.size<=k)->∀k,k<B0->¬R1 k:=λhR k hk hh=>(hR k hh).elim (λh'=>by have:=h.bR k h';omega) λhl=>by omega
 have lowF:∀k,k<B0->¬F k:=λk hk hh=>by have:=h.bF k hh;omega
 have lowR0:∀k,k<B0->¬R k:=λk hk hh=>by have:=h.bR k hh;omega
 have two:∀{w2:World} {F2:Nat->Prop} {D2:Dk} {N2:Nat},Ext w1 w2->∀{w3:World},DS w3 d F2 D2 (N+2)->Upd F w2 w3->(∀k,F2 k->F k\/w2.heap.size<=k)->Wl w3 wb d r F2 R D2 D (N+2) N sl so zs/\w3.heap[b1]?=some (.cells (Gy x) 162 (0,0))/\Kw w3 B0 x data frows fl cb/\Upd F w w3/\(∀k,F2 k->F k\/w.heap.size<=k):=λ{w2 F2 D2 N2} e2 {w3} A u hF =>
  ⟨(h1.ext e2).wl.Ac8 u A hF,u.get (e2.ext_get n1) nF1,(x1.ext e2).upd u h.bF,(Upd.Ae (e1.trans e2)).trans u,λk hk=>(hF k hk).imp id λhl=>by have:=e2.size;omega⟩
 refine Ai (λ_ W=>∃D' F' R',WB B0 W wb d r D' (N+4) F' R' sl so zs/\Upd (λk=>B0<=k) w W) ?_ (λ_ W ⟨D',F',R',H,u⟩=>hK W D' F' R' H u)
 refine Af n1 (off:=0) (x:=x.1) rfl (Ac (λ_=>?_) λ_=>Ac (λ_=>?_) λ_=>Ac (λ_=>?_) λ_=>Ac (λ_=>?_) λ_=>Ac (λ_=>?_) λ_=>Ac (λ_=>?_) λ_=>Ac (λ_=>?_) λ_=>Ac (λ_=>?_) λ_=>Ac (λ_=>?_) λ_=>?_)
 ·
  refine Az λw2 e2 _=>Ad (Nv (h1.ext e2).wl (Af (e2.ext_get n1) (off:=8) (x:=x.2.2.2.2.2.2.2.2.1) rfl (Ay6 (x1.ext e2).ft hx.fn λs rows' w3 o3 e3=>?_)))
  have e13:=e2.trans e3
  have H3:=h1.ext e13
  refine Bc (cell_of (off:=0) H3.wl.box rfl) (Co8 H3.wl.ds (o3.in.mono λk hk=>⟨hk.2,λhh=>by have:=(h1.ext e2).wl.ds.lt k hh;omega⟩) (by have:=hx.fn;omega) λF4 w4 A4 u4 hF4=>?_)
  obtain ⟨H4,n4,x4,u04,hF04⟩:=two (N2:=0) e13 A4 u4 hF4
  refine Az λw5 e5 _=>Ad (Rq (H4.ext e5) (Af (e5.ext_get n4) (off:=8) (x:=x.2.2.2.2.2.2.2.2.1) rfl ?_))
  obtain ⟨sf,sl1,sa,sq,ds,es,qr,ql,A⟩:=(H4.ext e5).rs.at_
  have z4:=u04.size
  have z5:=e5.size
  refine Ab0 A ((x4.ext e5).ft.mono λk hk=>⟨by omega,lowR0 k hk⟩) hx.fn λw6 R6 B6 u6 hR6=>?_
  obtain ⟨HB,uu⟩:=h.both (H4.ext e5) (u04.trans (Upd.Ae e5)) hF04 u6 ⟨B6,A4.ok⟩ hR6
  exact ⟨_,_,_,HB.mono (by omega),uu⟩
 ·
  refine Az λw2 e2 _=>Ad (Nv (h1.ext e2).wl ?_)
  have lc:∀{W:World} {K:aJ->Wp},W.heap[b1]?=some (.cells (Gy x) 162 (0,0))->K (x.2.2.2.2.2.2.2.2.2.1,x.2.2.2.2.2.2.2.2.2.2.1,()) W->lds c72 (⟨b1,9,none⟩:Addr) K W:=λhb hk=>Dp (off:=9) (x:=((x.2.2.2.2.2.2.2.2.2.1,x.2.2.2.2.2.2.2.2.2.2.1,()):Cells.T c72)) hb (λi v hv=>by
   match i,hv with
   |0,hv=>exact hv
   |1,hv=>exact hv
   |i+2,hv=>cases hv) hk
  refine lc (e2.ext_get n1) (Al5 (c:=(x.2.2.2.2.2.2.2.2.2.1,x.2.2.2.2.2.2.2.2.2.2.1,())) (x1.ext e2).ct hx.cn λs w3 o3 e3=>?_)
  have e13:=e2.trans e3
  have H3:=h1.ext e13
  refine Bc (cell_of (off:=0) H3.wl.box rfl) (Cu2 H3.wl.ds (by omega) (c:=(x.2.2.2.2.2.2.2.2.2.1,s,())) o3.in.x (.inr λk hk hh=>by have:=(h1.ext e2).wl.ds.lt k hh;have:=o3.Dh hk;omega) λF4 w4 A4 u4 hF4=>?_)
  obtain ⟨H4,n4,x4,u04,hF04⟩:=two (N2:=0) e13 A4 u4 hF4
  refine Az λw5 e5 _=>Ad (Rq (H4.ext e5) (lc (e5.ext_get n4) ?_))
  obtain ⟨sf,sl1,sa,sq,ds,es,qr,ql,A⟩:=(H4.ext e5).rs.at_
  have z4:=u04.size
  have z5:=e5.size
  refine Uw A h.wl.rs.ok (by omega) (c:=(x.2.2.2.2.2.2.2.2.2.1,x.2.2.2.2.2.2.2.2.2.2.1,())) (λW S u _ hS=>SlX.Yd (x4.ext e5).ct hx.cl u λk hk hh=>(hS k hh).elim (lowR0 k hk) λhl=>by omega) hx.cn λw6 R6 B6 u6 hR6=>?_
  obtain ⟨HB,uu⟩:=h.both (H4.ext e5) (u04.trans (Upd.Ae e5)) hF04 u6 ⟨B6,A4.ok⟩ hR6
  exact ⟨_,_,_,HB.mono (by omega),uu⟩
 ·
  refine Ad (Nv h1.wl (Au9 h1.wl.ds λF4 w4 A4 u4 hF4=>Ad ?_))
  obtain ⟨H4,n4,x4,u04,hF04⟩:=two (N2:=0) (Ext.refl _) A4 u4 hF4
  refine Rq H4 ?_
  obtain ⟨sf,sl1,sa,sq,ds,es,qr,ql,A⟩:=H4.rs.at_
  refine Xd A λw6 sq' qr' ql' B6 u6=>?_
  obtain ⟨HB,uu⟩:=h.both H4 u04 hF04 (u6.mono λk _ hk=>by rw [hk];exact A.fr) ⟨B6.in,A4.ok⟩ (λk hk=>.inl hk)
  exact ⟨_,_,_,HB.mono (by omega),uu⟩
 ·
  refine Az λw2 e2 _=>Ad (Nv (h1.ext e2).wl (Af (e2.ext_get n1) (off:=2) (x:=x.2.2.1) rfl (Af (e2.ext_get n1) (off:=7) (x:=x.2.2.2.2.2.2.2.1) rfl (Aj0 (x1.ext e2).dt (by have:=hx.dn;omega) λs w3 o3 e3=>?_))))
  have e13:=e2.trans e3
  have H3:=h1.ext e13
  refine Bc (cell_of (off:=2) (e13.ext_get n1) rfl) (Bc (cell_of (off:=0) H3.wl.box rfl) (Cx1 H3.wl.ds (by omega) o3.in.x (λk hk=>⟨o3.in.Ci hk,λhh=>by have:=(h1.ext e2).wl.ds.lt k hh;have:=o3.Dh hk;omega⟩) λF4 w4 v hv A4 u4 hF4=>?_))
  obtain ⟨H4,n4,x4,u04,hF04⟩:=two (N2:=0) e13 A4 u4 hF4
  refine Az λw5 e5 _=>Ad (Rq (H4.ext e5) (Af (e5.ext_get n4) (off:=2) (x:=x.2.2.1) rfl (Af (e5.ext_get n4) (off:=7) (x:=x.2.2.2.2.2.2.2.1) rfl ?_)))
  obtain ⟨sf,sl1,sa,sq,ds,es,qr,ql,A⟩:=(H4.ext e5).rs.at_
  have z4:=u04.size
  have z5:=e5.size
  refine Bn6 A h.wl.rs.ok (by omega) (by omega) (x4.ext e5).dt (hx.dl.imp id λhh k hk=>⟨by have:=hh k hk;omega,lowR0 k (hh k hk)⟩) (by have:=hx.dn;omega) λw6 R6 B6 u6 hR6=>?_
  obtain ⟨HB,uu⟩:=h.both (H4.ext e5) (u04.trans (Upd.Ae e5)) hF04 u6 ⟨B6,A4.ok⟩ hR6
  refine ((hv.ext e5).upd u6 ((H4.ext e5).noR λ_=>rfl)).Yy (Bm0 ?_)
  have:(decide ((Lc D x.2.2.1 data).2=0)==((Lc D x.2.2.1 data).2==0))=true:=by
   by_cases h0:(Lc D x.2.2.1 data).2=0<;>simp [h0]
  rw [this]
  exact hK _ _ _ _ (HB.mono (by omega)) uu
 ·
  exact L8 h1 (by omega) λw2 e2=>hK _ _ _ _ ((h1.ext e2).mono (by omega)) (Upd.Ae (e1.trans e2))
 ·
  exact Af n1 (off:=2) (x:=x.2.2.1) rfl (Bb4 h1 (by omega) (by omega) λw2 D2 F2 R2 H2 u2=>hK _ _ _ _ (H2.mono (by omega)) ((Upd.Ae e1).trans u2))
 ·
  refine Az λw2 e2 _=>Ad (Nv (h1.ext e2).wl (Ad (Rq (h1.ext e2).wl (Ad ?_))))
  have H2:=h1.ext e2
  obtain ⟨sf,sl1,sa,sq,ds,es,qr,ql,A⟩:=H2.wl.rs.at_
  simp only [show (at0 r).add 6=(⟨r,0+6,none⟩:Addr) from addr_add ..,show (at0 wb).add 1=(⟨wb,0+1,none⟩:Addr) from addr_add ..]
  refine Af A.box (off:=0+6) (x:=D.steps) rfl (Bc2 H2.wl.ds.disk (Bc (cell_of (off:=0+6) A.box rfl) (Bc (cell_of (off:=0+1) H2.wl.box rfl) ?_)))
  rw [show (D.steps==D.steps)=true by simp]
  exact hK _ _ _ _ (H2.mono (by omega)) (Upd.Ae (e1.trans e2))
 ·
  refine Az λw2 e2 _=>Ad (Nv (h1.ext e2).wl (Af (e2.ext_get n1) (off:=2) (x:=x.2.2.1) rfl (Aa2 (h1.ext e2).wl.ds (by omega) λF4 w4 v hv A4 u4 hF4=>?_)))
  obtain ⟨H4,n4,x4,u04,hF04⟩:=two (N2:=0) e2 A4 u4 hF4
  refine Ai (AnsAt w4 r R N (Au D x.2.2.1).1 (Au D x.2.2.1).2.1) ?_ ?_
  ·refine Az λw5 e5 _=>Ad ?_
   have H5:=H4.ext e5
   have n5:=e5.ext_get n4
   rw [addr_add]
   refine Af H5.box (off:=0+1) (x:=some (at0 r)) rfl (Af n5 (off:=2) (x:=x.2.2.1) rfl ⟨?_,?_⟩)
   ·refine Ag λb7 w6 e6 n6 hb6 hz6=>Bc (cell_of (off:=2) (e6.ext_get n5) rfl) (Bc (cell_of (off:=0+1) (e6.ext_get H5.box) rfl) (Ab3 (H5.ext e6).rs (by omega) (by omega) λw7 R7 m s s1 s2 s3 k A7 u7 hR7=>?_))
    have nb:¬R b7:=λhh=>by have:=H5.rs.lt _ hh;omega
    have nb7:¬R7 b7:=λhh=>(hR7 _ hh).elim nb λhl=>by omega
    refine Ba (u7.get n6 nb) rfl rfl (by show 0+7<=7;decide) λw8 u8 n8 z8=>?_
    rw [Cc _ _ (by rfl)] at n8
    have z5:=e5.size
    exact ⟨b7,R7,_,rfl,A7.frame u8 λk hk hh=>nb7 (hh▸hk),((Upd.Ae (e5.trans e6)).trans u7).new u8 λk hk hh=>by omega,λk hk=>(hR7 k hk).imp id λhh=>by omega,n8,rfl⟩
   ·refine Ab3 H5.rs (by omega) (by omega) λw7 R7 m s s1 s2 s3 k A7 u7 hR7=>⟨?_,trivial⟩
    refine Ag λb8 w8 e8 n8 hb8 hz8=>Bc (cell_of (off:=2) (e8.ext_get (u7.get n5 (by
     exact nR1))) rfl) (Bc (cell_of (off:=0+1) (e8.ext_get (u7.get H5.box H5.wR)) rfl) (Ba n8 rfl rfl (by decide) λw9 u9 n9 z9=>?_))
    rw [Cc _ _ (by rfl)] at n9
    have nb:¬R7 b8:=λhh=>by have:=A7.lt _ hh;omega
    have z5:=e5.size
    have z7:=u7.size
    exact ⟨b8,R7,_,rfl,(A7.ext e8).frame u9 λk hk hh=>nb (hh▸hk),((Upd.Ae e5).trans (u7.trans (Upd.Ae e8))).new u9 λk hk hh=>by omega,λk hk=>(hR7 k hk).imp id λhh=>by omega,n9,rfl⟩
  rintro _ w6 ⟨b7,R7,c,rfl,B6,u6,hR6,n6,hc⟩
  obtain ⟨HB,uu⟩:=h.both H4 u04 hF04 u6 B6 hR6
  refine Az λw7 e7 _=>((hv.upd u6 (H4.noR λ_=>rfl)).ext e7).Yy ?_
  dsimp only
  rw [addr_add]
  refine Af (e7.ext_get n6) (off:=0+5) (x:=(Au D x.2.2.1).2.1) hc (Bm0 ?_)
  have:(decide ((Au D x.2.2.1).2.1=0)==((Au D x.2.2.1).2.1==0))=true:=by
   by_cases h0:(Au D x.2.2.1).2.1=0<;>simp [h0]
  rw [this]
  exact hK _ _ _ _ ((HB.ext e7).mono (by omega)) (uu.trans (Upd.Ae e7))
 ·
  refine Az λw2 e2 _=>Ad (Nv (h1.ext e2).wl (Af (e2.ext_get n1) (off:=2) (x:=x.2.2.1) rfl (Af (e2.ext_get n1) (off:=3) (x:=x.2.2.2.1) rfl (Bk3 (h1.ext e2).wl.ds (by omega) λF4 w4 v hv A4 u4 hF4=>?_))))
  obtain ⟨H4,n4,x4,u04,hF04⟩:=two (N2:=0) e2 A4 u4 hF4
  refine Ai (AnsAt w4 r R N (Dc D x.2.2.1 x.2.2.2.1).1 (Dc D x.2.2.1 x.2.2.2.1).2.1) ?_ ?_
  ·refine Az λw5 e5 _=>Ad ?_
   have H5:=H4.ext e5
   have n5:=e5.ext_get n4
   rw [addr_add]
   refine Af H5.box (off:=0+1) (x:=some (at0 r)) rfl (Af n5 (off:=2) (x:=x.2.2.1) rfl (Af n5 (off:=3) (x:=x.2.2.2.1) rfl ⟨?_,?_⟩))
   ·refine Ag λb7 w6 e6 n6 hb6 hz6=>Bc (cell_of (off:=3) (e6.ext_get n5) rfl) (Bc (cell_of (off:=2) (e6.ext_get n5) rfl) (Bc (cell_of (off:=0+1) (e6.ext_get H5.box) rfl) (An5 (H5.ext e6).rs (by omega) (by omega) (by omega) λw7 R7 m s s1 s2 s3 k A7 u7 hR7=>?_)))
    have nb:¬R b7:=λhh=>by have:=H5.rs.lt _ hh;omega
    have nb7:¬R7 b7:=λhh=>(hR7 _ hh).elim nb λhl=>by omega
    refine Ba (u7.get n6 nb) rfl rfl (by show 0+7<=7;decide) λw8 u8 n8 z8=>?_
    rw [Cc _ _ (by rfl)] at n8
    have z5:=e5.size
    exact ⟨b7,R7,_,rfl,A7.frame u8 λk hk hh=>nb7 (hh▸hk),((Upd.Ae (e5.trans e6)).trans u7).new u8 λk hk hh=>by omega,λk hk=>(hR7 k hk).imp id λhh=>by omega,n8,rfl⟩
   ·refine An5 H5.rs (by omega) (by omega) (by omega) λw7 R7 m s s1 s2 s3 k A7 u7 hR7=>⟨?_,trivial⟩
    refine Ag λb8 w8 e8 n8 hb8 hz8=>Bc (cell_of (off:=3) (e8.ext_get (u7.get n5 nR1)) rfl) (Bc (cell_of (off:=2) (e8.ext_get (u7.get n5 nR1)) rfl) (Bc (cell_of (off:=0+1) (e8.ext_get (u7.get H5.box H5.wR)) rfl) (Ba n8 rfl rfl (by decide) λw9 u9 n9 z9=>?_)))
    rw [Cc _ _ (by rfl)] at n9
    have nb:¬R7 b8:=λhh=>by have:=A7.lt _ hh;omega
    have z5:=e5.size
    have z7:=u7.size
    exact ⟨b8,R7,_,rfl,(A7.ext e8).frame u9 λk hk hh=>nb (hh▸hk),((Upd.Ae e5).trans (u7.trans (Upd.Ae e8))).new u9 λk hk hh=>by omega,λk hk=>(hR7 k hk).imp id λhh=>by omega,n9,rfl⟩
  rintro _ w6 ⟨b7,R7,c,rfl,B6,u6,hR6,n6,hc⟩
  obtain ⟨HB,uu⟩:=h.both H4 u04 hF04 u6 B6 hR6
  refine Az λw7 e7 _=>((hv.upd u6 (H4.noR λ_=>rfl)).ext e7).Yy ?_
  dsimp only
  rw [addr_add]
  refine Af (e7.ext_get n6) (off:=0+5) (x:=(Dc D x.2.2.1 x.2.2.2.1).2.1) hc (Bm0 ?_)
  have:(decide ((Dc D x.2.2.1 x.2.2.2.1).2.1=0)==((Dc D x.2.2.1 x.2.2.2.1).2.1==0))=true:=by
   by_cases h0:(Dc D x.2.2.1 x.2.2.2.1).2.1=0<;>simp [h0]
  rw [this]
  exact hK _ _ _ _ ((HB.ext e7).mono (by omega)) (uu.trans (Upd.Ae e7))
 ·exact ⟨_,_,_,h1.mono (by omega),Upd.Ae e1⟩
end
end Dq
end
section
namespace Dq
open Go Go.Vx Dsk Cdc Trx
section
variable {w w':World}{S F F':Nat->Prop}{d:Nat}{D:Dk}{N:Nat}{p:Nat}{e:Enc}{lim na:Nat}{O:Nat->Prop}{M:Parts}{f:Nat}{X:Fil}{sm:Sl}{n:Nm}
def Co3 (A:DS w d F D N) (hN:N+10<=2^30) (hX:FS w f d X sm F) (hn:n.size<=2^40){K:Int->Wp}
  (hK:∀F' w',let r:=asP D X n
   DS w' d F' r.1 (N+2)->FS w' f d r.2.2 sm F'->Upd (λk=>F k\/k=f) w w'->(∀k,F' k->F k\/w.heap.size<=k)->K r.2.1 w') :
  Aa prog 36 #[dU f,.string n] rI K w:=by
 refine j36 ?_;unfold F36;refine Qh (by omega) λw1 e1=>?_;have A1:=A.ext e1;have X1:=hX.ext e1;have U1:Upd (λk=>F k\/k=f) w w1:=Upd.Ae e1;refine Ac (λhu=>?_) λhu=>?_;{have hu:userName n=false:=(by simpa using hu);have hk:=hK F w1;unfold asP at hk;rw [iK hu] at hk;exact hk (A1.mono (by omega)) X1 U1 λk hk=>.inl hk};have hu:userName n=true:=(by simpa using hu);obtain ⟨s,hs⟩:∃s,s=Aj D n:=⟨_,rfl⟩;have has:asP D X n=if s.2.1=0 then (s.1,163,X) else if s.2.1≠162 then (s.1,s.2.1,X) else (s.1,0,⟨n,X.mark,(0,0,0),(0,0,0)⟩):=by
  unfold asP;rw [iP (by rw [hu];simp),hs]
 refine Ad (Af X1.at_.box (off:=0) (x:=some (at0 d)) rfl (Uz A1 (by omega) λF2 w2 v2 hv2 A2 u2 hF2=>?_));rw [←hs] at hv2 A2 ⊢;have X2:=X1.step A1 u2 hF2;have z1:=e1.size;refine Ag λb w3 e3 n3 hb3 hz3=>Ba n3 rfl rfl (by decide) λw4 u4 n4 z4=>?_;have e24:Ext w2 w4:=e3.step u4 λk hk=>(by omega);have U4:Upd (λk=>F k\/k=f) w w4:=(((Upd.Ae e1).trans u2).trans (Upd.Ae e24)).mono λk _ hk=>.inl hk;have G4:∀k,F2 k->F k\/w.heap.size<=k:=λk hk=>(hF2 k hk).imp id λh=>(by omega);have hv4:=hv2.ext e24;refine hv4.Yy (Ac (λh0=>?_) λh0=>?_);{have h0:=jY h0;have hk:=hK F2 w4;rw [has,iK h0] at hk;exact hk (A2.ext e24) (X2.ext e24) U4 G4};have h0:=sK h0;rw [iP h0] at has;refine Ti hv4 (by decide) (Ac (λh2=>?_) λh2=>?_);{have h2:s.2.1≠162:=(by simpa using h2);refine Hq hv4 (X2.ext e24).laid λw5 e5=>?_;have hk:=hK F2 w5;rw [has,iK h2] at hk;exact hk ((A2.ext e24).ext e5) ((X2.ext e24).ext e5) (U4.trans (Upd.Ae e5)) G4};have h2:s.2.1=162:=(by simpa using h2);rw [iP (by rw [h2];simp)] at has;have X4:=X2.ext e24;refine Ad ?_;rw [addr_add];refine Dj X4.at_.box (by show 0+1<9;decide) λw5 u5 n5 z5=>Ad ?_;rw [addr_add];refine Ba n5 rfl rfl (by rw [wU];show 0+3+3<=9;decide) λw6 u6 n6 z6=>Ad ?_;rw [addr_add];refine Ba n6 rfl rfl (by show 0+6+3<=9;decide) λw7 u7 n7 z7=>?_;have n7:w7.heap[f]?=some (.cells (Gg d ⟨n,X.mark,(0,0,0),(0,0,0)⟩ sm) 110 (0,0)):=n7;have u47:Upd (λk=>k=f) w4 w7:=(u5.trans u6).trans u7;have hk:=hK F2 w7;rw [has] at hk;refine hk ((A2.ext e24).frame u47 λk hk hh=>X4.nf (hh▸hk)) ⟨X4.at_.set u47 n7 rfl,X4.nf,X4.nm,X4.laid.upd u47 λhh=>X4.nz hh.symm,X4.small,hn,X4.nz⟩ (U4.trans (u47.mono λk _ hk=>.inr hk)) G4
def Az7 (A:DS w d F D N) (hN:N+6000<=2^30) (h:Txt w p e lim na O M) (hO:∀k,O k->¬F k/\k≠f) (hX:FS w f d X sm F){bt bk:Nat}{t kn:Stm}(hbt:w.heap[bt]?=some (.cells (Cells.vals c57 (stT t)).toArray 57 (0,0))) (hbk:w.heap[bk]?=some (.cells (Cells.vals c57 (stT kn)).toArray 57 (0,0))) (hne:bt≠bk) (h0:bt≠0) (h0k:bk≠0) (hOt:¬O bt) (hn:n.size<=2^40){K:Value->Wp}
  (hK:∀F' w' v,let r:=Fb D n (X.mark++bOf M) t kn
   Hz w' v r.2.1->DS w' d F' r.1 (N+5002)->FS w' f d X sm F'->Upd (λk=>F k\/k=bt\/k=bk) w w'->(∀k,F' k->F k\/w.heap.size<=k)->K v w') :
  Aa prog 58 #[dU f,.string n,dU p,dU bt,dU bk] (.one (.one .any)) K w:=by
 refine j58 ?_;unfold F58;have nFt:¬F bt:=λhh=>A.no (t:=57) (λ_=>rfl) bt hh _ _ hbt;have nFk:¬F bk:=λhh=>A.no (t:=57) (λ_=>rfl) bk hh _ _ hbk;(have tf:bt≠f:=λhh=>by have:=hX.at_.box;rw [←hh,hbt] at this;cases this);(have kf:bk≠f:=λhh=>by have:=hX.at_.box;rw [←hh,hbk] at this;cases this);have smt:∀b,(∃c fr,w.heap[b]?=some (.cells c 57 fr))->¬sm.blk b:=λb ⟨c,fr,hb⟩ hh=>by
  obtain ⟨c',fr',hc⟩:=hX.at_.mkr.Bf hh
  rw [hb] at hc;cases hc
 refine Yj (t:=t) A hN h (λk hk=>(hO k hk).1) hX.at_.box rfl rfl hX.nf hX.at_.mkr hX.nm hX.small hX.laid hbt (by show 0+3<=3;decide) (λhh=>absurd hh tf) nFt hOt (smt bt ⟨_,_,hbt⟩) h0 (by decide) (λi v hv=>Oz i v hv) hn λF1 w1 v1 hv1 A1 u1 hF1 n1=>?_;obtain ⟨r,hr⟩:∃r,r=Hl D n (X.mark++bOf M) t:=⟨_,rfl⟩;rw [←hr] at hv1 A1 n1;have n1:w1.heap[bt]?=some (.cells (Cells.vals c57 (stT r.2.2)).toArray 57 (0,0)):=n1;(have hw:Fb D n (X.mark++bOf M) t kn=if r.2.1≠0 then (r.1,r.2.1,r.2.2,kn) else ((Bg r.1).1,(Bg r.1).2.1,r.2.2,r.2.2):=by rw [hr];rfl);have lf:=lt_of_heap hX.at_.box;have X1:FS w1 f d X sm F1:=by
  refine ⟨⟨u1.get hX.at_.box λhh=>hh.elim hX.nf λhh=>tf hh.symm,hX.at_.mkr.upd u1 λk hk hh=>hh.elim (hX.nm k hk) λh'=>smt bt ⟨_,_,hbt⟩ (h'▸hk)⟩,λhh=>(hF1 _ hh).elim hX.nf λhl=>by omega,λk hk hh=>(hF1 _ hh).elim (hX.nm k hk) λhl=>by have:=hX.at_.mkr.Ci hk;omega,hX.laid.upd u1 λhh=>hh.elim A.no0 λh'=>h0 h'.symm,hX.small,hX.name,hX.nz⟩
 have u1':Upd (λk=>F k\/k=bt\/k=bk) w w1:=u1.mono λk _ hk=>hk.imp id .inl;have k1:w1.heap[bk]?=some (.cells (Cells.vals c57 (stT kn)).toArray 57 (0,0)):=u1.get hbk λhh=>hh.elim nFk λhh=>hne hh.symm;refine hv1.Qo (Ac (λhe=>?_) λhe=>?_);{have he:=jY he;have hk:=hK F1 w1 v1;rw [hw,iK he] at hk;exact hk hv1 (A1.mono (by omega)) X1 u1' hF1}
 ·have he:=sK he;rw [iP he] at hw;have nF1k:¬F1 bk:=λhh=>A1.no (t:=57) (λ_=>rfl) bk hh _ _ k1;have smk:¬sm.blk bk:=λhh=>by
   obtain ⟨c',fr',hc⟩:=X1.at_.mkr.Bf hh
   rw [k1] at hc;cases hc
  refine Ad (Dp (x:=stT r.2.2) n1 (λi v hv=>Oz i v hv) (Ad (Ba k1 rfl rfl (by show 0+3<=3;decide) λw2 u2 n2 hz2=>?_)));have X2:FS w2 f d X sm F1:=⟨X1.at_.upd u2 (λhh=>kf hh.symm) λk hk hh=>smk (hh▸hk),X1.nf,X1.nm,X1.laid.upd u2 λhh=>h0k hh.symm,X1.small,X1.name,X1.nz⟩;have A2:=A1.frame u2 λk hk hh=>nF1k (hh▸hk);refine Ad (Af X2.at_.box (off:=0) (x:=some (at0 d)) rfl (Ac6 A2 (by omega) λF3 w3 v3 hv3 A3 u3 hF3=>?_));have hk:=hK F3 w3 v3;rw [hw] at hk;have z2:=u2.size;have z1:=u1.size;refine hk hv3 A3 (X2.step A2 u3 hF3) ?_ λk hk=>?_;{exact (u1'.trans (u2.mono λk _ hk=>.inr (.inr hk))).new u3 λk hk hh=>by rcases hF1 k hh with h'|h';exact .inl h';omega};{rcases hF3 k hk with hh|hh;{exact hF1 k hh};{exact .inr (by omega)}}
def Bt6 (A:DS w d F D N) (hN:N+6010<=2^30) (h:Txt w p e lim na O M) (hO:∀k,O k->¬F k/\k≠f) (hX:FS w f d X sm F) (hn:n.size<=2^40) (hne:n≠X.name){force:Bool}{K:Int->Wp}
  (hK:∀F' w',let r:=Pj D X n (bOf M) force
   DS w' d F' r.1 (N+5004)->FS w' f d X sm F'->Upd F w w'->(∀k,F' k->F k\/w.heap.size<=k)->K r.2.1 w') :
  Aa prog 37 #[dU f,.string n,dU p,.bool force] rI K w:=by
 refine j37 ?_;unfold F37;refine Qh (by omega) λw1 e1=>?_;have A1:=A.ext e1;have X1:=hX.ext e1;refine Ac (λhu=>?_) λhu=>?_;{have hu:userName n=false:=(by simpa using hu);have hk:=hK F w1;unfold Pj at hk;rw [iK hu] at hk;exact hk (A1.mono (by omega)) X1 (Upd.Ae e1) λk hk=>.inl hk};have hu:userName n=true:=(by simpa using hu);obtain ⟨s,hs⟩:∃s,s=Aj D n:=⟨_,rfl⟩;have hcp:Pj D X n (bOf M) force=if s.2.1=0/\force=false then (s.1,163,X) else if s.2.1≠0/\s.2.1≠162 then (s.1,s.2.1,X) else ((Fb s.1 n (X.mark++bOf M) (0,0,0) (0,0,0)).1,(Fb s.1 n (X.mark++bOf M) (0,0,0) (0,0,0)).2.1,X):=by
  unfold Pj;rw [iP (by rw [hu];simp),iP hne,hs]
 refine Ad ?_;rw [addr_add];refine Af X1.at_.box (off:=0+1) (x:=X.name) rfl ?_;rw [bytes_eq,qO hne];refine Bh (Ad (Af X1.at_.box (off:=0) (x:=some (at0 d)) rfl (Uz A1 (by omega) λF2 w2 v2 hv2 A2 u2 hF2=>?_)));rw [←hs] at hv2 A2 ⊢;have X2:=X1.step A1 u2 hF2;have z1:=e1.size;have z2:=u2.size;refine Ag λb w3 e3 n3 hb3 hz3=>Ba n3 rfl rfl (by decide) λw4 u4 n4 z4=>?_;have e24:Ext w2 w4:=e3.step u4 λk hk=>(by omega);have U4:Upd F w w4:=(((Upd.Ae e1).trans u2).trans (Upd.Ae e24));have G4:∀k,F2 k->F k\/w.heap.size<=k:=λk hk=>(hF2 k hk).imp id λh=>(by omega);have hv4:=hv2.ext e24;refine Ar (decide (s.2.1=0/\force=false),()) (hv4.Yy (Ac (λh0=>⟨Di ?_,rfl⟩) λh0=>⟨Di ?_,rfl⟩)) (Ac (λhc=>?_) λhc=>?_);{have h0:=jY h0;cases force<;>simp [h0]};{have h0:=sK h0;simp [h0]};{have hc:=jY hc;have hk:=hK F2 w4;rw [hcp,iK hc] at hk;exact hk ((A2.ext e24).mono (by omega)) (X2.ext e24) U4 G4};have hc:=sK hc;rw [iP hc] at hcp;refine Ar (decide (s.2.1≠0/\s.2.1≠162),()) (hv4.Qo (Ac (λh0=>Ti hv4 (by decide) ⟨Di ?_,rfl⟩) λh0=>⟨Di ?_,rfl⟩)) (Ac (λhc2=>?_) λhc2=>?_);{have h0:=jY h0;simp [h0]};{have h0:=sK h0;have h0:s.2.1=0:=(by omega);simp [h0]};{have hc2:=jY hc2;refine Hq hv4 (X2.ext e24).laid λw5 e5=>?_;have hk:=hK F2 w5;rw [hcp,iK hc2] at hk;exact hk (((A2.ext e24).ext e5).mono (by omega)) ((X2.ext e24).ext e5) (U4.trans (Upd.Ae e5)) G4};have hc2:=sK hc2;rw [iP hc2] at hcp;refine Ag λbt w5 e5 n5 hb5 hz5=>Ag λbk w6 e6 n6 hb6 hz6=>?_;have e46:=e5.trans e6;have e26:=e24.trans e46;have A6:=A2.ext e26;have X6:=X2.ext e26;have tx:Txt w6 p e lim na O M:=h.upd (((Upd.Ae e1).trans u2).trans (Upd.Ae e26)) (λk hk hh=>(hO k hk).1 hh) (A.no λ_=>rfl);have z26:=e26.size;have z5:=e5.size;have z24:=e24.size;have hO6:∀k,O k->¬F2 k/\k≠f:=λk hk=>⟨λhh=>(hF2 k hh).elim (hO k hk).1 λhl=>by have:=h.own k hk;omega,(hO k hk).2⟩;refine Az7 (t:=(0,0,0)) (kn:=(0,0,0)) A6 (by omega) tx hO6 X6 (e6.ext_get n5) n6 (by omega) (by omega) (by omega) (λhh=>by have:=h.own _ hh;omega) hn λF7 w7 v7 hv7 A7 X7 u7 hF7=>Hq hv7 X7.laid λw8 e8=>?_;have hk:=hK F7 w8;rw [hcp] at hk;refine hk ((A7.ext e8).mono (by omega)) (X7.ext e8) ?_ λk hk=>(hF7 k hk).elim (λhh=>G4 k hh) λhl=>.inr (by omega);refine ((U4.trans (Upd.Ae e46)).new u7 λk hk hh=>?_).trans (Upd.Ae e8);rcases hh with hh|hh|hh;{exact (G4 k hh).resolve_right (by omega)};{omega};{omega}
end
end Dq
end
section
open Go Go.Vx Cdc Trx
section
variable {w w':World}{S:Nat->Prop}{p:Nat}{e:Enc}{lim na:Nat}{O:Nat->Prop}{M:Parts}
def Aj5 {from_ to_:Int}(h:Txt w p e lim na O M){K:Sl->Wp}(hK:∀s w',Am w' w.heap.size s 3 1 (iv (sub (tOf e M) from_ to_))->Ext w w'->K s w') :
  Aa prog 185 #[dU p,vI from_,vI to_] rS K w:=by
 refine Df6 ?_;unfold F185;have few:=h.few;have lims:=h.lims;have hal:(tOf e M).length=(aOf e M).length:=Yf e M;rw [Bw9,hal] at hK;generalize hcnt:min to_.toNat (aOf e M).length-from_.toNat=cnt at *;have hcl:cnt<=1048576:=(by omega);refine Ag λb1 w1 e1 n1 hb1 hz1=>?_;have h1:=h.ext e1;refine Bb7 h1 rfl (λk=>k=b1) (λk hk=>⟨by omega,λho=>by have:=h.own k ho;omega⟩)
  (λN j W=>∃s,W.heap[b1]?=some (.cells #[.slice s.a s.len s.cap] 70 (0,0))/\Am W N s 3 1 (iv (((tOf e M).drop from_.toNat).take j))/\Upd (λk=>k=b1) w1 W) ?_ ?_ ?_ ?_
 {intro N W x hN hW;exact ⟨⟨none,0,0⟩,x.ext_get n1,by rw [qE];exact Am.nil W N _ _,x.mono λ_ _ h=>h.elim⟩};{rintro N j W W' S hN hW ⟨s,g1,g2,g3⟩ u hS;refine ⟨s,u.get g1 (λhb=>by have:=(hS _ hb).1;omega),g2.upd u (λk hk _ hs=>by have:=(hS _ hs).2;omega),g3.new u λk hk hs=>by have:=(hS _ hs).1;omega⟩}
 ·rintro N j a tag W K' hN hW hj _ ha ⟨s,g1,g2,g3⟩ hK';have g2l:=g2.len1;rw [nO,nG,nH,Yf] at g2l;refine func_x (caps:=#[dU b1]) (by kernel_rfl) ?_;refine Dd5 ?_;unfold F215;refine Af g1 (x:=s) rfl (Ag λb2 w2 e2 n2 hb2 hz2=>?_);refine Ed Bm1 Bm1.ts_ (x:=⟨some (at0 b2),1,1⟩) (g2.ext e2) (Cc6 n2) (λv hv=>by rw [uZ.1 hv];rfl) (by
   show (s.len+1+(s.len+1)/4+512)*8<=2^48
   omega) (by omega) λs' w3 o3 l3 u3 b3=>?_
  have k3:∀k,s.blk k->N<=k:=λk hk=>g2.Dh hk;have g13:w3.heap[b1]?=some (.cells #[.slice s.a s.len s.cap] 70 (0,0)):=u3.get (e2.ext_get g1) (λhb=>by have:=k3 _ hb;omega);refine Dj g13 Nat.one_pos λw4 u4 n4 _=>?_;have o4:Am w4 N s' 3 1 _:=o3.box g13 (by decide) u4;have e4:iv (((tOf e M).drop from_.toNat).take j)++[vI tag]=iv (((tOf e M).drop from_.toNat).take (j+1)):=by
   rw [sO,nK,ha]
   simp
  rw [e4] at o4;have s3:Dw w2 w3:=Dw.upd u3 λk hk o ho=>by
   obtain ⟨c,fr,hc⟩:=(g2.ext e2).in.Bf hk
   rw [ho] at hc;cases hc;rfl
  refine hK' w4 (((Dw.ext e2).trans s3).trans (Oo g13 rfl u4)) ?_ ⟨s',n4,o4,?_⟩;{refine ((e2.mono λ_ _ h=>h.elim).trans (u3.mono λk _ hk=>.inr (k3 k hk))).trans (u4.mono λk _ hk=>.inl hk)};{exact (g3.new (e2.mono λ_ _ h=>h.elim) (S':=λ_=>False) (λ_ _ h=>h.elim)).new (u3.mono λk _ hk=>k3 k hk) (S':=λk=>N<=k) (λk hk hn=>by omega) |>.trans u4}
 {rintro N W hN hW ⟨s,g1,g2,g3⟩;rw [hcnt] at g2;refine Af g1 (x:=s) rfl (hK s W (g2.mono (by omega)) ?_);exact e1.step g3 λk hk=>by omega}
end
end
section
namespace Dq
open Go Go.Vx Dsk Cdc Trx Flp
section
variable {D:Dk}{N:Nat}{n:Nm}{b:List UInt8}{t k:Stm}{X:Fil}{force:Bool}
def Bl1:∀(l:List (List UInt8)) (D:Dk) (N:Nat),Bj D N->Bj (Vp n l D).1 (N+2*l.length)
 |[],D,N,h=>h
 |c::r,D,N,h=>by
  unfold Vp
  split
  ·exact (Bl1 r _ _ (Kq h n c)).mono (by simp only [kE];omega)
  ·exact (Kq h n c).mono (by simp only [kE];omega)
def Bm4:∀(n:Nat) (l:List UInt8),(Qa n l).length<=l.length/1024+1
 |0,l=>by simp [Qa]
 | n + 1,l=>by
  unfold Qa
  split
  ·simp
  ·rename_i hl
   have ih:=Bm4 n (l.drop 1024)
   rw [nH] at ih
   rw [kE]
   by_cases h:l.length<1024
   ·have:Qa n (l.drop 1024)=[]:=by
     rw [vF (by omega)]
     cases n<;>rfl
    rw [this];simp
   ·omega
def Ca7 (h:Bj D N):Bj (Ec D n).1 (N+6):=by unfold Ec;dsimp only;split;{split;{exact Jj (Iu (Jj h n) n) n};{exact (Iu (Jj h n) n).mono (by omega)}};{exact (Jj h n).mono (by omega)}
def Vg {e:Int}(h:Bj D N):Bj (clean D n e t).1 (N+2):=by unfold clean;split;{exact h.mono (by omega)};{exact Iu h n}
def Ck6 (h:Bj D N) (hb:b.length<=67000):Bj (Hl D n b t).1 (N+160):=by have hc:=Bm4 b.length b;unfold Hl;dsimp only;have h1:=Ca7 (n:=side n) h;split;{exact (Vg h1).mono (by omega)};have h2:=Bl1 (n:=side n) (Qa b.length b) _ _ h1;split;{exact (Vg h2).mono (by omega)};have h3:=Rj h2 (side n);split;{exact (Vg h3).mono (by omega)};have h4:=Ho h3 (side n);split;{exact (Vg h4).mono (by omega)};have h5:=Oj h4 (side n) n;exact (Vg h5).mono (by omega)
def Aw1 (h:Bj D N) (hb:b.length<=67000):Bj (Fb D n b t k).1 (N+170):=by have h1:=Ck6 (n:=n) (t:=t) h hb;unfold Fb;dsimp only;split;{exact h1.mono (by omega)};{exact (Nc h1).mono (by omega)}
def Bl0 (h:Bj D N) (hb:b.length<=65536) (hm:X.mark.length<1024):Bj (Ns D X b force).1 (N+180):=by have h1:=Ho h X.name;(have hl:(X.mark++b).length<=67000:=by rw [oC];omega);unfold Ns;by_cases hc:(Aj D X.name).2.1≠0/\(Aj D X.name).2.1≠162;{rw [iK hc];exact h1.mono (by omega)};rw [iP hc];dsimp only;by_cases hc2:force=false/\(Aj D X.name).2.2≠(if (Aj D X.name).2.1=0/\(Aj D X.name).2.2=X.tried then (Aj D X.name).2.2 else X.known);{rw [iK hc2];exact h1.mono (by omega)};rw [iP hc2];exact (Aw1 (b:=X.mark++b) h1 hl).mono (by omega)
def Ck8 (h:Bj D N) (hb:b.length<=65536) (hm:X.mark.length<1024):Bj (Pj D X n b force).1 (N+180):=by have h1:=Ho h n;unfold Pj;dsimp only;split;{exact h.mono (by omega)};split;{exact Bl0 h hb hm};split;{exact h1.mono (by omega)};split;{exact h1.mono (by omega)};{exact (Aw1 (b:=X.mark++b) h1 (by rw [oC];omega)).mono (by omega)}
end
section
variable {B0:Nat}{w w':World}{S F R F' R':Nat->Prop}{wb d r:Nat}{D E D' E':Dk}{N M N' M':Nat}{sl sl':Nat->Option Slo}{so:Sl}{zs:List Sl}{n:Nm}{s:Slo}{X':Fil}{p:Nat}{e:Enc}{lim na:Nat}{O:Nat->Prop}{Q:Parts}{f:Nat}{X:Fil}{sm:Sl}
def Ce3 (A:DS w d F D N) (hN:N+6010<=2^30) (h:Txt w p e lim na O Q) (hO:∀k,O k->¬F k/\k≠f) (hX:FS w f d X sm F) (hn:n.size<=2^40){force:Bool}{K:Int->Wp}
  (hK:∀F' w',DS w' d F' (Pj D X n (bOf Q) force).1 (N+5004)->FS w' f d (Pj D X n (bOf Q) force).2.2 sm F'->Upd (λk=>F k\/k=f) w w'->(∀k,F' k->F k\/w.heap.size<=k)->K (Pj D X n (bOf Q) force).2.1 w') :
  Aa prog 37 #[dU f,.string n,dU p,.bool force] rI K w:=by
 by_cases hne:n=X.name;{refine j37 ?_;unfold F37;unfold Pj at hK;refine Qh (by omega) λw1 e1=>?_;have A1:=A.ext e1;have X1:=hX.ext e1;refine Ac (λhu=>?_) λhu=>?_;{have hu:userName n=false:=(by simpa using hu);rw [iK hu] at hK;exact hK F w1 (A1.mono (by omega)) X1 (Upd.Ae e1) λk hk=>.inl hk};have hu:userName n=true:=(by simpa using hu);rw [iP (by rw [hu];simp),iK hne] at hK;refine Ad ?_;rw [addr_add];refine Af X1.at_.box (off:=0+1) (x:=X.name) rfl ?_;rw [bytes_eq,uX hne];refine Ac (λ_=>?_) λhh=>(by cases hh);refine Zj A1 hN (h.ext e1) hO X1 λF' w' A' X' _ _ u hF=>?_;exact hK F' w' A' X' ((Upd.Ae e1).trans u) λk hk=>(hF k hk).imp id λhl=>by have:=e1.size;omega}
 ·refine Bt6 A hN h hO hX hn hne λF' w' A' X' u hF=>?_;have hcs:(Pj D X n (bOf Q) force).2.2=X:=by
   unfold Pj
   rw [iP hne]
   dsimp only
   repeat' split
   all_goals rfl
  have hk:=hK F' w' A';rw [hcs] at hk;exact hk X' (u.mono λk _ hk=>.inl hk) hF
def Bj7 (a:Int):∃i:Nat,i<2/\W64 ((BitVec.toNat (BitVec.ofInt (IntKind.bits .i64) a &&& BitVec.ofInt (IntKind.bits .i64) (1:Int)):Nat):Int)=(i:Int):=by
 refine ⟨BitVec.toNat (BitVec.ofInt (IntKind.bits .i64) a &&& BitVec.ofInt (IntKind.bits .i64) (1:Int)),?_,?_⟩;{rw [rU];have:BitVec.toNat (BitVec.ofInt (IntKind.bits .i64) (1:Int))=1:=(by decide);rw [this];exact Nat.lt_succ_of_le Nat.and_le_right}
 ·have:BitVec.toNat (BitVec.ofInt (IntKind.bits .i64) a &&& BitVec.ofInt (IntKind.bits .i64) (1:Int))<=1:=by
   rw [rU]
   have:BitVec.toNat (BitVec.ofInt (IntKind.bits .i64) (1:Int))=1:=by decide
   rw [this]
   exact Nat.and_le_right
  rw [iE (by omega)]
def Af9 (wb k i:Nat):((at0 wb).add k).add (scaled (Int.toNat (i:Int)) 1)=(⟨wb,0+k+i,none⟩:Addr):=by show ((at0 wb).add k).add (Int.toNat (i:Int))=_;rw [kH,addr_add,addr_add]
def Bg5 {i:Nat}(hi:i<2):(Rt d r sl so)[0+2+i]?=some (fpV (sl i))/\(Rt d r sl so)[0+4+i]?=some (gpV (sl i)):=by rcases (show i=0\/i=1 by omega) with rfl|rfl<;>exact ⟨rfl,rfl⟩
def Bv5 (h:Wl w wb d r F R D E N M sl so zs){i:Nat}(hi:i<2){K:xM->Wp}(hK:K ((sl i).map λs=>at0 s.f) w):ld .ptr (((at0 wb).add 2).add (scaled (Int.toNat (i:Int)) 1)) K w:=by rw [Af9];exact Af h.box (off:=0+2+i) (x:=(sl i).map λs=>at0 s.f) (Bg5 hi).1 hK
def Bv4 (h:Wl w wb d r F R D E N M sl so zs){i:Nat}(hi:i<2){K:xM->Wp}(hK:K ((sl i).map λs=>at0 s.g) w):ld .ptr (((at0 wb).add 4).add (scaled (Int.toNat (i:Int)) 1)) K w:=by rw [Af9];exact Af h.box (off:=0+4+i) (x:=(sl i).map λs=>at0 s.g) (Bg5 hi).2 hK
def slp (sl:Nat->Option Slo) (i:Nat) (s:Slo):Nat->Option Slo:=λj=>if j=i then some s else sl j
def Na {i:Nat}:slp sl i s i=some s:=iK rfl
def Xo {i j:Nat}(h:j≠i):slp sl i s j=sl j:=iP h
def Wl.Cp4 (h:Wl w wb d r F R D E N M sl so zs){i:Nat}(hi:i<2) (hs:sl i=some s) (A:DS w' d F' D' N') (hX:FS w' s.f d X' s.sm F') (u:Upd (λk=>F k\/k=s.f) w w') (hF:∀k,F' k->F k\/w.heap.size<=k) :
  Wl w' wb d r F' R D' E N' M (slp sl i { s with X:=X' }) so zs:=by
 have H:=h.slo i s hi hs;have uR:∀k,R k->¬(F k\/k=s.f):=λk hk hh=>hh.elim (λh'=>h.fr k h' hk) λh'=>H.fR (h'▸hk);refine h.step (i:=i) u ⟨λk hk=>hk.elim .inl λhh=>.inr (.inr ⟨s,hi,hs,.inl hh⟩)⟩ A (h.rs.frame u uR) hF (λk hk=>.inl hk)
  (λk hk hh=>(hF k hk).elim (λh1=>h.fr k h1 hh) λhl=>by have:=h.rs.lt k hh;omega) (λk hk o ho=>h.rty k hk o (by rw [u.at_ k (h.rs.lt k hk) (uR k hk)] at ho;exact ho)) (λj hj=>Xo hj) λ_=>.inr ⟨s,_,hs,Na,rfl,rfl,?_⟩
 have kF:∀k,k<w.heap.size->¬F k->¬F' k:=λk hk h1 hh=>(hF k hh).elim h1 λhl=>(by omega);refine ⟨hX,H.gs.frame u (λhh=>hh.elim H.gF (Xi H.gs.box H.fs.at_.box (by decide))) (λk hk hh=>hh.elim (H.nF k hk) (Le H.gs.mkr H.fs.at_.box (by decide) k hk)) (λk hk=>.inl hk),H.fR,H.mR,kF _ (lt_of_heap H.gs.box) H.gF,λk hk=>kF k (H.gs.mkr.Ci hk) (H.nF k hk)⟩
def Wl.Cp3 (h:Wl w wb d r F R D E N M sl so zs){i:Nat}(hi:i<2) (hs:sl i=some s) (B:RS w' r R' E' M') (hY:GS w' s.g r X' s.sg R') (u:Upd (λk=>R k\/k=s.g) w w') (hR:∀k,R' k->R k\/w.heap.size<=k) :
  Wl w' wb d r F (λk=>R' k/\∀o,w'.heap[k]?=some o->zty o=true) D E' N M' (slp sl i { s with Y:=X' }) so zs:=by
 have H:=h.slo i s hi hs;have uF:∀k,F k->¬(R k\/k=s.g):=λk hk hh=>hh.elim (λh'=>h.fr k hk h') λh'=>H.gF (h'▸hk);refine h.step (i:=i) u ⟨λk hk=>hk.elim (λhh=>.inr (.inl hh)) λhh=>.inr (.inr ⟨s,hi,hs,.inr hh⟩)⟩ (h.ds.frame u uF) B.thin (λk hk=>.inl hk) (λk hk=>hR k hk.1)
  (λk hk hh=>(hR k hh.1).elim (λh1=>h.fr k hk h1) λhl=>by have:=h.ds.lt k hk;omega) (λk hk=>hk.2) (λj hj=>Xo hj) λ_=>.inr ⟨s,_,hs,Na,rfl,rfl,?_⟩
 have kR:∀k,k<w.heap.size->¬R k->¬(R' k/\∀o,w'.heap[k]?=some o->zty o=true):=λk hk h1 hh=>(hR k hh.1).elim h1 λhl=>(by omega);have n0:¬(R 0\/0=s.g):=λhh=>hh.elim h.r0 λh0=>by
  obtain ⟨c,t,fr,h1,h3⟩:=h.laid
  have h2:=H.gs.box
  rw [←h0,h1] at h2
  have he:=sW h2
  injection he with hc
  rw [hc] at h3
  have h3:some (Value.pointer (some (at0 r)))=some (Dq.rty 26):=h3
  unfold Dq.rty at h3
  cases h3
 refine ⟨H.fs.frame u (λhh=>hh.elim H.fR (Xi H.fs.at_.box H.gs.box (by decide))) (λk hk hh=>hh.elim (H.mR k hk) (Le H.fs.at_.mkr H.gs.box (by decide) k hk)) n0 (λk hk=>.inl hk),
  ⟨hY.box,hY.mkr,λhh=>hY.nf hh.1,λk hk hh=>hY.nm k hk hh.1,hY.small,hY.name⟩,kR _ (lt_of_heap H.fs.at_.box) H.fR,λk hk=>kR k (H.fs.at_.mkr.Ci hk) (H.mR k hk),H.gF,H.nF⟩
end
end Dq
end
section
namespace Dq
open Go Go.Vx Dsk Cdc Trx Flp
section
variable {B0:Nat}{w w':World}{S F R F' R':Nat->Prop}{wb d r:Nat}{D E D' E':Dk}{N M N' M':Nat}{sl sl':Nat->Option Slo}{so:Sl}{zs:List Sl}{n:Nm}{s:Slo}{Z:Fil}{x:Cells.T c162}{data:List UInt8}{frows:List (Cells.T Dt)}{fl:List (Int×Ce)}{cb:xP}
def WB.Cp5 (h:WB B0 w wb d r D N F R sl so zs){i:Nat}(hi:i<2) (hs:sl i=some s){w2:World}(H2:Wl w2 wb d r F' R' D' D' N' N' (slp (slp sl i { s with X:=Z }) i { s with X:=Z,Y:=Z }) so zs) (hF:∀k,F' k->F k\/w.heap.size<=k) (hR:∀k,R' k->R k\/w.heap.size<=k) :
  WB B0 w2 wb d r D' N' F' R' (slp (slp sl i { s with X:=Z }) i { s with X:=Z,Y:=Z }) so zs:=by have hB:=h.szB;refine ⟨H2,λj t hj ht=>?_,λk hk=>(hF k hk).elim (h.bF k) λhl=>by omega,λk hk=>(hR k hk).elim (h.bR k) λhl=>by omega,h.bw,h.bo⟩;by_cases hji:j=i;{subst hji;rw [Na] at ht;cases ht;obtain ⟨_,a,b⟩:=h.eq j s hi hs;exact ⟨rfl,a,b⟩};{rw [Xo hji,Xo hji] at ht;exact h.eq j t hj ht}
def Bi0:∀l:Bs,(ats .l1 l).length=l.length
 |[]=>by rw [Nl];rfl
 |b::r=>by
  rw [Ox .l1 (by simp),kE]
  show (ats .l1 r).length+1=_
  rw [Bi0 r];rfl
def Bj3 (T:xP){n:Nat}(h:T.length=n):_root_.Go.Proofs.YtmooldhpiopcgaaGreatDoor.sub T 0 ((n:Nat):Int)=T:=by unfold _root_.Go.Proofs.YtmooldhpiopcgaaGreatDoor.sub;rw [kH,←h];simp
def Bq9 {e:Enc}{s:Sl}{l:Bs}(hB:By w s l) (hl:65536<l.length){K:xM×Int×Unit->Wp}(hK:K (none,50,()) w) :
  Aa prog 48 #[vI e.num,s.v,vI 65536] dA K w:=by refine j48 ?_;unfold F48;have hlen:=hB.len;have hen:1<=e.num/\e.num<=4:=(by cases e<;>decide);refine Ai (λx w'=>x=(false,())/\w=w') (Ac (λh=>?_) (λh=>⟨by rw [qO (by omega)],rfl⟩)) ?_;{simp only [pF] at h;omega};rintro _ _ ⟨rfl,rfl⟩;refine Bh (Ai (λx w'=>x=(false,())/\w=w') (Ac (λh=>?_) (λh=>⟨by rw [qO (by omega)],rfl⟩)) ?_);{simp only [pF] at h;omega};rintro _ _ ⟨rfl,rfl⟩;refine Bh (Ac (λ_=>hK) λh=>?_);have:=sK h;omega
def An8 (h:WB B0 w wb d r D N F R sl so zs) (hN:N+6020<=2^30) (hx:Kw w B0 x data frows fl cb){i:Nat}(hi:i<2) (ei:W64 ((BitVec.toNat (BitVec.ofInt (IntKind.bits .i64) x.2.1 &&& BitVec.ofInt (IntKind.bits .i64) (1:Int)):Nat):Int)=(i:Int)) (hs:sl i=some s)
  {K:Bool->Wp} (hK:∀w' D' F' R' sl',WB B0 w' wb d r D' (N+180) F' R' sl' so zs->Upd (λk=>B0<=k) w w'->K true w') :
  Aa prog 144 #[dU wb,.agg (Gy x)] rB K w:=by
 refine Dh6 (a1:=x) ?_
 unfold F144
 refine Ag λb1 w1 e1 n1 hb1 hz1=>?_
 have n1:w1.heap[b1]?=some (.cells (Gy x) 162 (0,0)):=n1
 have h1:=h.ext e1
 have x1:=hx.ext e1
 have hB:=h.szB
 have hnm:=hx.nm
 have hdl:=Eh hx.dt
 have hdn:=hx.dn
 have nF1:¬F b1:=λhh=>by have:=h.wl.ds.lt b1 hh;omega
 have nR1:¬R b1:=λhh=>by have:=h.wl.rs.lt b1 hh;omega
 refine Af n1 (off:=1) (x:=x.2.1) rfl ?_
 simp only [ei]
 refine Af n1 (off:=7) (x:=x.2.2.2.2.2.2.2.1) rfl (Aj0 x1.dt (by omega) λs2 w2 o2 e2=>?_)
 by_cases hfull:65536<data.length
 ·refine Bq9 (e:=.l1) o2.in hfull (Ar (true,()) (Ac (λ_=>⟨rfl,rfl⟩) λhh=>by simp at hh) (Ac (λ_=>?_) λhh=>by cases hh))
  refine Af (e2.ext_get n1) (off:=7) (x:=x.2.2.2.2.2.2.2.1) rfl ?_
  rw [uX (by omega)]
  exact hK _ _ _ _ _ ((h1.ext e2).mono (by omega)) (Upd.Ae (e1.trans e2))
 refine _root_.Go.Proofs.YtmooldhpiopcgaaGreatDoor.Wq (e:=.l1) (lim:=65536) o2.in (by omega) (mJ _) λp O Q w3 T3 hA3 hQ3 e3 hO3=>Ar (false,()) (Ac (λhh=>by simp at hh) λ_=>⟨rfl,rfl⟩) (Ac (λhh=>by cases hh) λ_=>?_)
 have hTl:(tOf .l1 Q).length=data.length:=by rw [Yf,hA3,Bi0]
 have hAl:(aOf .l1 Q).length=data.length:=by rw [hA3,Bi0]
 refine Af0 T3 λw4 e4=>?_
 rw [hAl]
 refine Aj5 (T3.ext e4) λs5 w5 o5 e5=>?_
 rw [Bj3 _ hTl] at o5
 have hl5:(tOf .l1 Q).length=s5.len:=(nO _).symm.trans o5.len1
 have e35:=e4.trans e5
 have e15:=(e2.trans e3).trans e35
 have T5:=T3.ext e35
 have H5:=h1.ext e15
 have n5:=e15.ext_get n1
 have x5:=x1.ext e15
 have u05:Upd (λk=>B0<=k) w w5:=Upd.Ae (e1.trans e15)
 have z12:=e2.size
 have z1:=e1.size
 have O5:∀k,O k->w.heap.size<=k:=λk hk=>by have:=hO3 k hk;omega
 have S5:=H5.wl.slo i s hi hs
 have hfw:s.f<w.heap.size:=lt_of_heap (h.wl.slo i s hi hs).fs.at_.box
 have hgw:s.g<w.heap.size:=lt_of_heap (h.wl.slo i s hi hs).gs.box
 obtain ⟨hXY,hf0,hg0⟩:=h.eq i s hi hs
 have OF:∀k,O k->¬F k/\k≠s.f:=λk hk=>⟨λhh=>by have:=h.wl.ds.lt k hh;have:=O5 k hk;omega,λhh=>by have:=O5 k hk;omega⟩
 have oge:∀k,s5.blk k->w.heap.size<=k:=λk hk=>by have:=o5.Dh hk;have:=e3.size;have:=e4.size;omega
 refine Ai (λy W=>∃v D' F' R' sl',y=(v,v,())/\WB B0 W wb d r D' (N+180) F' R' sl' so zs/\Upd (λk=>B0<=k) w W/\Txt W p .l1 65536 0 O Q/\W.heap[b1]?=some (.cells (Gy x) 162 (0,0))/\Kw W B0 x data frows fl cb/\Am W w.heap.size s5 3 1 (iv (tOf .l1 Q))) ?_ ?_
 ·
  have two:∀{w6:World} {F6:Nat->Prop} {z:Dk×Int×Fil},Bj z.1 (N+180)->DS w6 d F6 z.1 (N+5004)->FS w6 s.f d z.2.2 s.sm F6->Upd (λk=>F k\/k=s.f) w5 w6->(∀k,F6 k->F k\/w5.heap.size<=k) ->
    Wl w6 wb d r F6 R z.1 D (N+180) N (slp sl i { s with X:=z.2.2 }) so zs/\Txt w6 p .l1 65536 0 O Q/\w6.heap[b1]?=some (.cells (Gy x) 162 (0,0))/\Kw w6 B0 x data frows fl cb/\Am w6 w.heap.size s5 3 1 (iv (tOf .l1 Q))/\Upd (λk=>B0<=k) w w6/\(∀k,F6 k->F k\/w.heap.size<=k):=λ{w6 F6 z} hok A hX u hF=>by
   refine ⟨(H5.wl.Cp4 hi hs A hX u hF).okF hok,T5.upd u (λk hk hh=>hh.elim (OF k hk).1 (OF k hk).2) (λk hk c fr hc=>?_),u.get n5 (λhh=>hh.elim nF1 λh'=>by omega),x5.upd u (λk hk=>hk.elim (h.bF k) λhh=>by omega),(o5.mono (by have:=e3.size;have:=e4.size;omega)).upd u (λk _ hk hh=>hh.elim (λh'=>by have:=h.wl.ds.lt k h';have:=oge k hk;omega) λh'=>by have:=oge k hk;omega),u05.trans (u.mono λk _ hk=>hk.elim (h.bF k) λhh=>by omega),λk hk=>(hF k hk).imp id λhl=>by have:=(e1.trans e15).size;omega⟩
   rcases hk with hk|hk
   ·exact H5.wl.ds.no (t:=186) (λ_=>rfl) k hk c fr hc
   ·rw [hk,S5.fs.at_.box] at hc;cases hc
  have fin:∀{w6 w8:World} {F6 R8:Nat->Prop} {z:Dk×Int×Fil},Bj z.1 (N+180)->Wl w6 wb d r F6 R z.1 D (N+180) N (slp sl i { s with X:=z.2.2 }) so zs->Txt w6 p .l1 65536 0 O Q->w6.heap[b1]?=some (.cells (Gy x) 162 (0,0))->Kw w6 B0 x data frows fl cb->Am w6 w.heap.size s5 3 1 (iv (tOf .l1 Q))->Upd (λk=>B0<=k) w w6->(∀k,F6 k->F k\/w.heap.size<=k) ->
    RS w8 r R8 z.1 (N+5004)->GS w8 s.g r z.2.2 s.sg R8->Upd (λk=>R k\/k=s.g) w6 w8->(∀k,R8 k->R k\/w6.heap.size<=k) ->
    ∃v D' F' R' sl',((z.2.1,z.2.1,()):Int×Int×Unit)=(v,v,())/\WB B0 w8 wb d r D' (N+180) F' R' sl' so zs/\Upd (λk=>B0<=k) w w8/\Txt w8 p .l1 65536 0 O Q/\w8.heap[b1]?=some (.cells (Gy x) 162 (0,0))/\Kw w8 B0 x data frows fl cb/\Am w8 w.heap.size s5 3 1 (iv (tOf .l1 Q)):=λ{w6 w8 F6 R8 z} hok H6 T6 n6 x6 o6 u6 hF6 B hY u hR=>by
   have hsl:slp sl i { s with X:=z.2.2 } i=some { s with X:=z.2.2 }:=Na
   have H8:=(H6.Cp3 hi hsl B hY u hR).okR hok
   have zz:=u6.size
   refine ⟨z.2.1,_,_,_,_,rfl,h.Cp5 hi hs H8 hF6 (λk hk=>(hR k hk.1).imp id λhl=>by omega),u6.trans (u.mono λk _ hk=>hk.elim (h.bR k) λhh=>by omega),T6.upd u (λk hk hh=>hh.elim (λh'=>by have:=h.wl.rs.lt k h';have:=O5 k hk;omega) λh'=>by have:=O5 k hk;omega) (λk hk c fr hc=>?_),u.get n6 (λhh=>hh.elim nR1 λh'=>by omega),x6.upd u (λk hk=>hk.elim (h.bR k) λhh=>by omega),o6.upd u (λk _ hk hh=>hh.elim (λh'=>by have:=h.wl.rs.lt k h';have:=o6.Dh hk;omega) λh'=>by have:=o6.Dh hk;omega)⟩
   rcases hk with hk|hk
   ·exact H6.noR (t:=186) (λ_=>rfl) k hk c fr hc
   ·have S6:=H6.slo i _ hi hsl
    rw [hk,S6.gs.box] at hc;cases hc
  have frc:∀{W:World} {K:Bool->Wp},W.heap[b1]?=some (.cells (Gy x) 162 (0,0))->K x.2.2.2.2.2.2.1 W->ld .bool (⟨b1,6,none⟩:Addr) K W:=λhb hk=>Af hb (off:=6) (x:=x.2.2.2.2.2.2.1) rfl hk
  have mk:=S5.fs.small
  have hlie:∀{R1:Nat->Prop},(∀k,R1 k->R k\/w.heap.size<=k)->Lie (λk=>¬R1 k/\k≠s.g) x.2.2.2.2.2.2.2.1:=λhR=>hx.dl.imp id λhh k hk=>⟨λh'=>(hR k h').elim (λh2=>by have:=h.bR k h2;have:=hh k hk;omega) λhl=>by have:=hh k hk;omega,λh'=>by have:=hh k hk;omega⟩
  refine Af n5 (off:=0) (x:=x.1) rfl (Ac (λ_=>?_) λ_=>?_)
  ·refine Az λw6 e6 _=>Ad (Ea ⟨by omega,by omega⟩ (Bv5 (H5.wl.ext e6) hi ?_))
   rw [hs]
   have S6:=(H5.wl.ext e6).slo i s hi hs
   refine frc (e6.ext_get n5) (Zj (H5.wl.ext e6).ds (by omega) (T5.ext e6) OF S6.fs λF7 w7 A7 X7 _ _ u7 hF7=>?_)
   rw [hQ3] at A7 X7 ⊢
   have hok:=Bl0 (force:=x.2.2.2.2.2.2.1) h.wl.ds.ok (by omega:data.length<=65536) mk
   obtain ⟨H7,T7,n7,x7,o7,u07,hF07⟩:=two hok A7 X7 ((Upd.Ae e6).trans u7) (λk hk=>(hF7 k hk).imp id λhl=>by have:=e6.size;omega)
   refine Az λw8 e8 _=>Ad (Ea ⟨by omega,by omega⟩ (Bv4 (H7.ext e8) hi ?_))
   rw [Na]
   refine Af (e8.ext_get n7) (off:=7) (x:=x.2.2.2.2.2.2.2.1) rfl (frc (e8.ext_get n7) ?_)
   have S8:=(H7.ext e8).slo i _ hi Na
   rw [hXY] at H7 S8 A7 X7 hok
   refine Ab4 (H7.ext e8).rs (by omega) S8.gs (x7.ext e8).dt (hlie λk hk=>.inl hk) (by omega) λR9 w9 A9 Y9 u9 hR9=>?_
   rw [hXY]
   exact fin hok (H7.ext e8) (T7.ext e8) (e8.ext_get n7) (x7.ext e8) (o7.ext e8) (u07.trans (Upd.Ae e8)) hF07 A9 Y9 u9 hR9
  ·refine Az λw6 e6 _=>Ad (Ea ⟨by omega,by omega⟩ (Bv5 (H5.wl.ext e6) hi ?_))
   rw [hs]
   have S6:=(H5.wl.ext e6).slo i s hi hs
   refine Af (e6.ext_get n5) (off:=2) (x:=x.2.2.1) rfl (frc (e6.ext_get n5) (Ce3 (H5.wl.ext e6).ds (by omega) (T5.ext e6) OF S6.fs hnm λF7 w7 A7 X7 u7 hF7=>?_))
   rw [hQ3] at A7 X7 ⊢
   have hok:=Ck8 (n:=x.2.2.1) (force:=x.2.2.2.2.2.2.1) h.wl.ds.ok (by omega:data.length<=65536) mk
   obtain ⟨H7,T7,n7,x7,o7,u07,hF07⟩:=two hok A7 X7 ((Upd.Ae e6).trans u7) (λk hk=>(hF7 k hk).imp id λhl=>by have:=e6.size;omega)
   refine Az λw8 e8 _=>Ad (Ea ⟨by omega,by omega⟩ (Bv4 (H7.ext e8) hi ?_))
   rw [Na]
   refine Af (e8.ext_get n7) (off:=2) (x:=x.2.2.1) rfl (Af (e8.ext_get n7) (off:=7) (x:=x.2.2.2.2.2.2.2.1) rfl (frc (e8.ext_get n7) ?_))
   have S8:=(H7.ext e8).slo i _ hi Na
   rw [hXY] at H7 S8 A7 X7 hok
   refine Bb2 (H7.ext e8).rs (by omega) S8.gs hnm (x7.ext e8).dt (hlie λk hk=>.inl hk) (by omega) λR9 w9 A9 Y9 u9 hR9=>?_
   rw [hXY]
   exact fin hok (H7.ext e8) (T7.ext e8) (e8.ext_get n7) (x7.ext e8) (o7.ext e8) (u07.trans (Upd.Ae e8)) hF07 A9 Y9 u9 hR9
 rintro _ w6 ⟨v,D6,F6,R6,sl6,rfl,H6,u6,T6,n6,x6,o6⟩
 refine Af0 T6 λw7 e7=>?_
 rw [hAl]
 refine Aj5 (T6.ext e7) λs8 w8 o8 e8=>?_
 rw [Bj3 _ hTl] at o8
 have hl8:(tOf .l1 Q).length=s8.len:=(nO _).symm.trans o8.len1
 have e68:=e7.trans e8
 refine Ai (λ_ W=>Ext w8 W) ?_ ?_
 ·refine Bo (λst W=>∃j:Nat,st=((j:Int),())/\j<=data.length/\Ext w8 W) (λst _=>data.length-st.1.toNat) ⟨0,rfl,qI _,Ext.refl _⟩ ?_
  rintro _ W ⟨j,rfl,hj,eW⟩
  dsimp only
  refine Ar (decide (j<data.length),()) (Ac (λh0=>⟨Di ?_,rfl⟩) λh0=>⟨Di ?_,rfl⟩) (Ac (λhlt=>?_) λ_=>eW)
  ·rw [pF,pF];omega
  ·have h0:=sK h0
   rw [pF]
   exact ⟨λhh=>(by cases hh),λhh=>(by omega)⟩
  have hlt:=jY hlt
  obtain ⟨y,hy⟩:∃y,(tOf .l1 Q)[j]?=some y:=⟨_,oP (by omega)⟩
  refine Az λw9 e9 _=>Nk (c:=.int .i64) (xs:=tOf .l1 Q) (((o6.ext e68).ext eW).ext e9).in.x (by omega) (by rw [kH];exact hy) λ_=>Nk (c:=.int .i64) (xs:=tOf .l1 Q) ((o8.ext eW).ext e9).in.x (by omega) (by rw [kH];exact hy) λ_=>Ac (λhh=>by simp at hh) λ_=>?_
  rw [iE (by omega)]
  exact ⟨⟨j+1,by rw [show ((j:Int)+1)=((j+1:Nat):Int) by omega],hlt,eW.trans e9⟩,by show data.length-((j:Int)+1).toNat<data.length-(j:Int).toNat;omega⟩
 rintro _ w9 e9
 refine Az λw10 e10 _=>Ac (λ_=>?_) λhh=>by simp at hh
 have e610:=(e68.trans e9).trans e10
 refine Af (e610.ext_get n6) (off:=7) (x:=x.2.2.2.2.2.2.2.1) rfl (Bh6 (T6.ext e610) λs11 w11 hb11 e11=>?_)
 have e611:=e610.trans e11
 refine Bc (cell_of (off:=7) (e611.ext_get n6) rfl) (Zl hb11.x (x6.ext e611).dt (by rw [hQ3];omega) λw12 e12=>?_)
 rw [hQ3,uX rfl]
 have e612:=e611.trans e12
 refine Ac (λ_=>Af (e612.ext_get n6) (off:=7) (x:=x.2.2.2.2.2.2.2.1) rfl (Ac (λ_=>?_) λhh=>?_)) λhh=>by cases hh
 ·rw [show (((s8.len:Nat):Int)==((s5.len:Nat):Int))=true by rw [←hl8,←hl5];simp]
  exact hK _ _ _ _ _ (H6.ext e612) (u6.trans (Upd.Ae e612))
 ·exfalso
  rw [←hl5,←hdl,hTl] at hh
  simp at hh
end
end Dq
end
section
namespace Dq
open Go Go.Vx Dsk Cdc Trx Flp
section
variable {B0:Nat}{w w':World}{S F R F' R':Nat->Prop}{wb d r:Nat}{D E D' E':Dk}{N M N' M':Nat}{sl sl':Nat->Option Slo}{so:Sl}{zs:List Sl}{n:Nm}{s:Slo}{Z:Fil}{x:Cells.T c162}{data:List UInt8}{frows:List (Cells.T Dt)}{fl:List (Int×Ce)}{cb:xP}
def Co9 {X:Fil}(h:Bj D N):Bj (asP D X n).1 (N+2):=by have h1:=Ho h n;unfold asP;dsimp only;split;{exact h.mono (by omega)};(repeat' split);all_goals exact h1
def At9 (b k:Nat):(at0 b).add (scaled (Int.toNat (k:Int)) 1)=(⟨b,0+k,none⟩:Addr):=by show (at0 b).add (Int.toNat (k:Int))=_;rw [kH,addr_add]
def Bb6 (h:WB B0 w wb d r D N F R sl so zs) (hN:N+6020<=2^30) (hx:Kw w B0 x data frows fl cb)
  {K:Bool->Wp} (hK:∀w' D' F' R' sl',WB B0 w' wb d r D' (N+180) F' R' sl' so zs->Upd (λk=>B0<=k) w w'->K true w') :
  Aa prog 109 #[dU wb,.agg (Gy x)] rB K w:=by
 refine j109 (a1:=x) ?_;unfold F109;obtain ⟨i,hi,ei⟩:=Bj7 x.2.1;refine Ag λb1 w1 e1 n1 hb1 hz1=>?_;have n1:w1.heap[b1]?=some (.cells (Gy x) 162 (0,0)):=n1;have h1:=h.ext e1;have x1:=hx.ext e1;have hB:=h.szB;have hnm:=hx.nm;refine Af n1 (off:=1) (x:=x.2.1) rfl ?_;simp only [ei];refine Ar ((sl i).isNone,()) (Ad (Ea ⟨by omega,by omega⟩ (Bv5 h1.wl hi ?_))) ?_
 ·cases hs:sl i with
  |none=>exact Ac (λ_=>⟨rfl,rfl⟩) λhh=>by cases hh
  |some s=>refine Ac (λhh=>by cases hh) λ_=>Ad (Ea ⟨by omega,by omega⟩ (Bv4 h1.wl hi ?_));rw [hs];exact ⟨rfl,rfl⟩
 cases hs:sl i with
 |none=>exact Ac (λ_=>hK _ _ _ _ _ (h1.mono (by omega)) (Upd.Ae e1)) λhh=>by cases hh
 | some s =>
  have hnf:∀{W:World} {A B:World->Prop},B W->sif (some s).isNone A B W:=λhk=>Ac (λhh=>by cases hh) λ_=>hk
  refine hnf (Af n1 (off:=0) (x:=x.1) rfl ?_)
  refine Ar (decide (x.1=2\/x.1=3),()) (Ac (λh0=>⟨Di ?_,rfl⟩) λh0=>⟨Di ?_,rfl⟩) (Ac (λ_=>?_) λ_=>?_)
  ·have h0:x.1=2:=by simpa using h0
   simp [h0]
  ·have h0:x.1≠2:=by simpa using h0
   simp [h0]
  ·exact Dp (x:=x) n1 (λj v hv=>by rw [kY,←kQ];exact hv) (An8 h1 hN x1 hi ei hs λw2 D2 F2 R2 sl2 H2 u2=>hK _ _ _ _ _ H2 ((Upd.Ae e1).trans u2))
  obtain ⟨hXY,hf0,hg0⟩:=h.eq i s hi hs
  have nF1:¬F b1:=λhh=>by have:=h.wl.ds.lt b1 hh;omega
  have hfw:s.f<w.heap.size:=lt_of_heap (h.wl.slo i s hi hs).fs.at_.box
  have hgw:s.g<w.heap.size:=lt_of_heap (h.wl.slo i s hi hs).gs.box
  refine Ac (λ_=>?_) λ_=>?_
  ·
   refine Az λw2 e2 _=>Ad (Ea ⟨by omega,by omega⟩ (Bv5 (h1.ext e2).wl hi ?_))
   rw [hs]
   have H2:=h1.ext e2
   have n2:=e2.ext_get n1
   have S2:=H2.wl.slo i s hi hs
   refine Af n2 (off:=2) (x:=x.2.2.1) rfl (Ad (Ea ⟨by omega,by omega⟩ (Bv4 H2.wl hi ?_)))
   rw [hs]
   refine Af n2 (off:=2) (x:=x.2.2.1) rfl (Co3 H2.wl.ds (by omega) S2.fs hnm λF3 w3 A3 X3 u3 hF3=>?_)
   have H3:=(H2.wl.Cp4 hi hs A3 X3 u3 hF3).okF (Co9 h.wl.ds.ok)
   have n3:=u3.get n2 (λhh=>hh.elim nF1 λh'=>by omega)
   have z12:=(e1.trans e2).size
   refine Bc (cell_of (off:=2) n3 rfl) (Bc ?_ ?_)
   ·rw [Af9]
    refine cell_of (off:=0+4+i) H3.box ?_
    rw [(Bg5 hi).2,Na]
    rfl
   have S3:=H3.slo i _ hi Na
   rw [hXY] at A3 X3 H3 S3 ⊢
   refine Bu4 H3.rs (by omega) S3.gs hnm λR4 w4 A4 Y4 u4 hR4=>?_
   rw [show ((asP D s.Y x.2.2.1).2.1==(asP D s.Y x.2.2.1).2.1)=true by simp]
   have H4:=(H3.Cp3 hi Na A4 Y4 u4 hR4).okR (Co9 (X:=s.Y) (n:=x.2.2.1) h.wl.ds.ok)
   have hF0:∀k,F3 k->F k\/w.heap.size<=k:=λk hk=>(hF3 k hk).imp id λhl=>by omega
   have z3:=u3.size
   refine hK _ _ _ _ _ ((h.Cp5 hi hs H4 hF0 (λk hk=>(hR4 k hk.1).imp id λhl=>by omega)).mono (by omega)) ?_
   exact ((Upd.Ae (e1.trans e2)).trans (u3.mono λk _ hk=>hk.elim (h.bF k) λhh=>by omega)).trans (u4.mono λk _ hk=>hk.elim (h.bR k) λhh=>by have hh:k=s.g:=hh;omega)
  ·
   refine Ad (Ea ⟨by omega,by omega⟩ (Bv5 h1.wl hi ?_))
   rw [hs]
   have S1:=h1.wl.slo i s hi hs
   refine Ay1 S1.fs.at_ λw2 e2=>Ag λb25 w3 e3 n3 hb3 hz3=>Ba n3 rfl rfl (by decide) λw4 u4 n4 z4=>Ad (Ea ⟨by omega,by omega⟩ ?_)
   have e14:=(e2.trans e3).step u4 λk hk=>by have:=e2.size;omega
   have H4:=h1.ext e14
   have S4:=S1.fs
   refine Bv4 H4.wl hi ?_
   rw [hs]
   refine Ad ?_
   have G4:=(H4.wl.slo i s hi hs).gs
   have ea:(at0 s.g).add 3=(⟨s.g,0+3,none⟩:Addr):=addr_add ..
   show lds _ ((at0 s.g).add 3) _ _
   rw [ea]
   refine Dp (off:=0+3) (x:=trT s.Y.known) G4.box (λj v hv=>Am1 (X:=s.Y) j v hv) (Ag λb30 w5 e5 n5 hb5 hz5=>Ba n5 rfl rfl (by decide) λw6 u6 n6 z6=>?_)
   have e16:=(e14.trans e5).step u6 λk hk=>by have:=e14.size;omega
   have n4':w4.heap[b25]?=some (.cells (Cells.vals c57 (stT s.X.known)).toArray 57 (0,0)):=n4
   have n46:w6.heap[b25]?=some (.cells (Cells.vals c57 (stT s.X.known)).toArray 57 (0,0)):=u6.get (e5.ext_get n4') (by have:=lt_of_heap n4';omega)
   have n66:w6.heap[b30]?=some (.cells (Cells.vals c56 (trT s.Y.known)).toArray 56 (0,0)):=n6
   rw [hXY] at n46
   have fin:K true w6:=hK _ _ _ _ _ ((h1.ext e16).mono (by omega)) (Upd.Ae (e1.trans e16))
   have lx:∀{k:Nat} {v:Int} {J:Int->Wp},(Cells.vals c57 (stT s.Y.known)).toArray[0+k]?=some (vI v)->J v w6->ld (.int .i64) ((at0 b25).add (scaled (Int.toNat (k:Int)) 1)) J w6:=λhv hj=>by
    rw [At9];exact Af n46 hv hj
   have ly:∀{k:Nat} {v:Int} {J:Int->Wp},(Cells.vals c56 (trT s.Y.known)).toArray[0+k]?=some (vI v)->J v w6->ld (.int .i64) ((at0 b30).add (scaled (Int.toNat (k:Int)) 1)) J w6:=λhv hj=>by
    rw [At9];exact Af n66 hv hj
   refine Ea ⟨by omega,by omega⟩ (lx (k:=0) (v:=s.Y.known.1) rfl (Ea ⟨by omega,by omega⟩ (ly (k:=0) (v:=s.Y.known.1) rfl (Ac (λ_=>?_) λhh=>by simp at hh))))
   refine Ea ⟨by omega,by omega⟩ (lx (k:=1) (v:=s.Y.known.2.1) rfl (Ea ⟨by omega,by omega⟩ (ly (k:=1) (v:=s.Y.known.2.1) rfl (Ac (λ_=>?_) λhh=>by simp at hh))))
   refine Ea ⟨by omega,by omega⟩ (lx (k:=2) (v:=s.Y.known.2.2) rfl (Ea ⟨by omega,by omega⟩ (ly (k:=2) (v:=s.Y.known.2.2) rfl ?_)))
   rw [show (s.Y.known.2.2==s.Y.known.2.2)=true by simp]
   exact fin
end
end Dq
end
section
namespace Dq
open Go Go.Vx Dsk Cdc Trx
section
variable {w w':World}{S F F':Nat->Prop}{d:Nat}{D:Dk}{N:Nat}
def Ae4 {g:List UInt8->Int}{enc:Int}{n:Nm}(hG:userName n=true->Ze g\/enc≠0\/(Aj D n).2.1=162) (A:DS w d F D N) (hN:N+10<=2^30) (hl:Jc w) (hn:n.size<2^62){limit:Int}{K:bD->Wp}
  (hK:∀F' w' fo sd,let r:=Ib g D n enc limit
   Bn4 w w' d F N r F' fo sd->(∀f c,fo=some (at0 f)->w'.heap[f]?=some (.cells c 110 (0,0))->∀s:Sl,c[2]?=some (.slice s.a s.len s.cap)->∀k,sd.blk k->¬s.blk k)->K (fo,(r.2.2.2.enc,r.2.2.2.mark,sd,r.2.2.2.new,()),r.2.1,()) w') :
  Aa prog 18 #[dU d,.string n,vI enc,vI limit] dD K w:=by
 refine j18 ?_
 unfold F18
 have hAlt:=A.lt
 have hpos:=A.pos
 refine Ag λb1 w1 e1 n1 hb1 hz1=>Ag λb2 w2 e2 n2 hb2 hz2=>Qh hn λw3 e3=>?_
 have e03:=(e1.trans e2).trans e3
 have m1:=(e2.trans e3).ext_get n1
 have m2:=e3.ext_get n2
 have nF1:¬F b1:=λhh=>by have:=hAlt _ hh;omega
 have nF2:¬F b2:=λhh=>by have:=hAlt _ hh;omega
 have hz3:=e3.size
 clear n1 n2 e1 e2 e3
 have bad0:∀(W:World) (F1:Nat->Prop) (D1:Dk) (er:Int),DS W d F1 D1 (N+4)->W.heap[b1]?=some (.cells #[vI 0,vI 0,.slice none 0 0,.bool false] 32 (0,0))->¬F1 b1->Upd F w W->(∀k,F1 k->F k\/w.heap.size<=k) ->
   Ib g D n enc limit=(D1,er,none,Nh)->(Ah (at0 b1) (.agg (Cells.vals c32 (Xu 0 0 ⟨none,0,0⟩ false)).toArray) 4<|lds c32 (at0 b1) λy=>K (none,y,er,())) W:=by
  intro W F1 D1 er A1 h1 hb U hF he
  refine Ba h1 rfl rfl (by decide) λW3 u3 n3 _=>Dp (x:=Xu 0 0 ⟨none,0,0⟩ false) n3 (λi v hv=>Pg i v hv) ?_
  have hk:=hK F1 W3 none ⟨none,0,0⟩
  rw [he] at hk
  exact hk ⟨A1.frame u3 λk hk hh=>hb (hh▸hk),U.new u3 λk hk hh=>by omega,hF,rfl,Am.nil _ _ _ _,λk hk=>Du hk,λf hf=>by cases hf⟩ λf c hf=>by cases hf
 have bad:∀(W:World) (F1:Nat->Prop) (D1:Dk) (er:Int),DS W d F1 D1 (N+4)->W.heap[b1]?=some (.cells #[vI 0,vI 0,.slice none 0 0,.bool false] 32 (0,0))->W.heap[b2]?=some (.cells #[vI 0,vI 0,.slice none 0 0,.bool false] 32 (0,0))->¬F1 b1->Upd F w W->(∀k,F1 k->F k\/w.heap.size<=k) ->
   Ib g D n enc limit=(D1,er,none,Nh)->(drew<|lds c32 (at0 b2) λx=>Ah (at0 b1) (.agg (Cells.vals c32 x).toArray) 4<|lds c32 (at0 b1) λy=>K (none,y,er,())) W:=by
  intro W F1 D1 er A1 h1 h2 hb U hF he
  exact Az λW2 e2 _=>Dp (x:=Xu 0 0 ⟨none,0,0⟩ false) (e2.ext_get h2) (λi v hv=>Pg i v hv) (bad0 W2 F1 D1 er (A1.ext e2) (e2.ext_get h1) hb (U.trans (Upd.Ae e2)) hF he)
 have bad2:∀(W:World) (F1:Nat->Prop) (D1:Dk) (v:Value) (er:Int),Hz W v er->Jc W->DS W d F1 D1 (N+4)->W.heap[b1]?=some (.cells #[vI 0,vI 0,.slice none 0 0,.bool false] 32 (0,0))->W.heap[b2]?=some (.cells #[vI 0,vI 0,.slice none 0 0,.bool false] 32 (0,0))->¬F1 b1->Upd F w W->(∀k,F1 k->F k\/w.heap.size<=k) ->
   Ib g D n enc limit=(D1,er,none,Nh)->(drew<|lds c32 (at0 b2) λx=>Aa prog 54 #[v] rI λq=>keep (λw=>Ez w (at0 b2) 0 (Cells.vals c32 x))<|Ah (at0 b1) (.agg (Cells.vals c32 x).toArray) 4<|lds c32 (at0 b1) λy=>K (none,y,q,())) W:=by
  intro W F1 D1 v er hv hL A1 h1 h2 hb U hF he
  refine Az λW2 e2 _=>Dp (x:=Xu 0 0 ⟨none,0,0⟩ false) (e2.ext_get h2) (λi v hv=>Pg i v hv) (Hq (hv.ext e2) (hL.ext e2) λW3 e3=>Bc ?_ ?_)
  ·exact Gh (off:=0) _ 0 λj v hv=>by rw [kY];exact cell_of (e3.ext_get (e2.ext_get h2)) (Pg j v hv)
  ·exact bad0 W3 F1 D1 er ((A1.ext e2).ext e3) (e3.ext_get (e2.ext_get h1)) hb ((U.trans (Upd.Ae e2)).trans (Upd.Ae e3)) hF he
 have A3:=A.ext e03
 have U3:Upd F w w3:=Upd.Ae e03
 refine Ac (λhc=>?_) λhc=>?_
 ·have hc:userName n=false:=by simpa using hc
  exact bad w3 F D 164 (A3.mono (by omega)) m1 m2 nF1 U3 (λk hk=>.inl hk) (by unfold Ib;rw [iK hc])
 have hc:userName n=true:=by simpa using hc
 have hnc:¬userName n=false:=by rw [hc];simp
 refine Ar (decide (enc<0\/enc>4),()) (Ac (λh=>⟨Di ?_,rfl⟩) λh=>⟨Di ?_,rfl⟩) (Ac (λh=>?_) λh=>?_)
 ·have h:=jY h;simp [h]
 ·have h:=sK h;simp only [pF];omega
 ·have h:=jY h
  exact bad w3 F D 10 (A3.mono (by omega)) m1 m2 nF1 U3 (λk hk=>.inl hk) (by unfold Ib;rw [iP hnc,iK h])
 have henc:=sK h
 refine Ar (decide (limit<0\/limit>65536),()) (Ac (λh=>⟨Di ?_,rfl⟩) λh=>⟨Di ?_,rfl⟩) (Ac (λh=>?_) λh=>?_)
 ·have h:=jY h;simp [h]
 ·have h:=sK h;simp only [pF];omega
 ·have h:=jY h
  exact bad w3 F D 1 (A3.mono (by omega)) m1 m2 nF1 U3 (λk hk=>.inl hk) (by unfold Ib;rw [iP hnc,iP henc,iK h])
 have hlim:=sK h
 refine Uz A3 (by omega) λF4 w4 v4 hv4 A4 u4 hF4=>?_
 obtain ⟨s,hs⟩:∃s,s=Aj D n:=⟨_,rfl⟩
 rw [←hs] at hv4 A4 ⊢
 have z4:=u4.size
 have U4:=U3.trans u4
 have G4:∀k,F4 k->F k\/w.heap.size<=k:=λk hk=>(hF4 k hk).imp id λhh=>by omega
 have nn4:∀b,¬F b->b<w3.heap.size->¬F4 b:=λb h1 h2 hh=>(hF4 _ hh).elim h1 λh'=>by omega
 refine Ag λb15 w5 e5 n5 hb5 hz5=>Ba n5 rfl rfl (by decide) λw6 u6 n6 hz6=>?_
 have n6:w6.heap[b15]?=some (.cells (Cells.vals c57 (stT s.2.2)).toArray 57 (0,0)):=n6
 have e46:Ext w4 w6:=e5.step u6 λk hk=>by omega
 have A6:=A4.ext e46
 have U6:=U4.trans (S:=F) (Upd.Ae e46)
 have m16:=e46.ext_get (u4.get m1 nF1)
 have m26:=e46.ext_get (u4.get m2 nF2)
 have hl6:=((hl.ext e03).upd u4 A3.no0).ext e46
 have nF41:=nn4 b1 nF1 (by have:=lt_of_heap m1;omega)
 have nF42:=nn4 b2 nF2 (by have:=lt_of_heap m2;omega)
 have hop:Ib g D n enc limit=if s.2.1=162 then (s.1,0,some ⟨n,[],(0,0,0),(0,0,0)⟩,⟨if 1>enc then 1 else enc,0,[],true⟩) else
   if s.2.1≠0 then (s.1,s.2.1,none,Nh) else
   if (Aw s.1 n).2.1≠0 then ((Aw s.1 n).1,(Aw s.1 n).2.1,none,Nh) else
   if ((Aw s.1 n).2.2.length:Int)-(He g enc (Aw s.1 n).2.2).2>limit then ((Aw s.1 n).1,50,none,Nh) else
   ((Aw s.1 n).1,0,some ⟨n,(Aw s.1 n).2.2.take (He g enc (Aw s.1 n).2.2).2.toNat,s.2.2,(0,0,0)⟩,⟨(He g enc (Aw s.1 n).2.2).1,(He g enc (Aw s.1 n).2.2).2,(Aw s.1 n).2.2.drop (He g enc (Aw s.1 n).2.2).2.toNat,false⟩):=by
  unfold Ib
  rw [iP hnc,iP henc,iP hlim,hs]
 have hnl:n.size<32:=by
  unfold userName at hc
  simp only [jA,pF] at hc
  exact hc.1.2
 refine Ti (hv4.ext e46) (by decide) (Ac (λh=>?_) λh=>?_)
 ·
  have h:=jY h
  rw [iK h] at hop
  refine Ag λb17 w7 e7 n7 hb7 hz7=>Ba (e7.ext_get m16) rfl rfl (by decide) λw8 u8 n8 hz8=>Dp (x:=Xu (if 1>enc then 1 else enc) 0 ⟨none,0,0⟩ true) n8 (λi v hv=>Pg i v hv) ?_
  have l1:=lt_of_heap m16
  have z46:=e46.size
  have hk:=hK F4 w8 (some (at0 b17)) ⟨none,0,0⟩
  rw [hop] at hk
  have n7:w7.heap[b17]?=some (.cells (Gg d ⟨n,[],(0,0,0),(0,0,0)⟩ ⟨none,0,0⟩) 110 (0,0)):=n7
  have nF17:¬F4 b17:=λhh=>by have:=A6.lt _ hh;omega
  refine hk ⟨((A6.ext e7).frame u8 λk hk hh=>nF41 (hh▸hk)).mono (by omega),(U6.trans (Upd.Ae e7)).new u8 λk hk hh=>by omega,G4,⟨b17,⟨none,0,0⟩,rfl,⟨⟨u8.En n7 (by omega),Dx.nil _ _ _⟩,nF17,λk hk=>Du hk,(hl6.ext e7).upd u8 (by omega),(by show 0<1024;decide),by show n.size<=_;omega,by omega⟩,by omega,λk hk=>Du hk⟩,Am.nil _ _ _ _,λk hk=>Du hk,λf hf hh=>Du hh⟩ λf c _ _ s _ k hk _=>Du hk
 have h162:=sK h
 rw [iP h162] at hop
 refine (hv4.ext e46).Qo (Ac (λh=>?_) λh=>?_)
 ·have h:=jY h
  rw [iK h] at hop
  exact bad2 w6 F4 s.1 v4 s.2.1 (hv4.ext e46) hl6 (A6.mono (by omega)) m16 m26 nF41 U6 G4 hop
 have h0:=sK h
 rw [iP h0] at hop
 refine Bk4 A6 (by omega) λF7 w7 sx v7 hv7 A7 u7 hF7 row7 ap7=>?_
 obtain ⟨r,hr⟩:∃r,r=Aw s.1 n:=⟨_,rfl⟩
 rw [←hr] at hv7 A7 row7 hop
 have z7:=u7.size
 have z46:=e46.size
 have U7:=U6.new u7 λk hk hh=>(G4 k hh).resolve_right (by omega)
 have G7:∀k,F7 k->F k\/w.heap.size<=k:=λk hk=>(hF7 k hk).elim (G4 k) λhh=>.inr (by omega)
 have m17:=u7.get m16 nF41
 have m27:=u7.get m26 nF42
 have l16:=lt_of_heap m16
 have l26:=lt_of_heap m26
 have nF71:¬F7 b1:=λhh=>(hF7 _ hh).elim nF41 λh'=>by omega
 have hl7:=hl6.upd u7 A6.no0
 refine hv7.Qo (Ac (λh=>?_) λh=>?_)
 ·have h:=jY h
  rw [iK h] at hop
  exact bad2 w7 F7 r.1 v7 r.2.1 hv7 hl7 (A7.mono (by omega)) m17 m27 nF71 U7 G7 hop
 have h7:=sK h
 rw [iP h7] at hop
 have hlen:=Eh row7.in.x
 have hmax:r.2.2.length<=1048576:=by rw [hr];exact Ve A6.ok n
 obtain ⟨b,hb⟩:∃b,b=r.2.2:=⟨_,rfl⟩
 rw [←hb] at row7 hlen hmax hop
 obtain ⟨q0,q1,q2⟩:=D8 (g:=g) (enc:=enc) (b:=b)
 refine Ai (λx W=>x=((He g enc b).1,(He g enc b).2,())/\Ext w7 W) ?_ ?_
 ·refine Vr row7.in.x (Ar (decide (enc=0/\(Ew b).1≠0),()) (Ac (λh=>⟨Di ?_,rfl⟩) λh=>⟨Di ?_,rfl⟩) (Ac (λh=>?_) λh=>?_))
  ·have h:enc=0:=by simpa using h
   simp [h]
  ·have h:enc≠0:=by simpa using h
   simp [h]
  ·have h:=jY h
   refine ⟨?_,Ext.refl w7⟩
   unfold He;rw [iK h]
  ·have h:=sK h
   refine Ac (λh2=>?_) λh2=>?_
   ·have h2:enc=0:=by simpa using h2
    have hd:(Ew b).1=0:=qU λhh=>h ⟨h2,hh⟩
    have hG:Ze g:=(hG hc).resolve_right λhh=>hh.elim (λhh=>hh h2) λhh=>by rw [←hs] at hh;exact h162 hh
    refine hG b sx w7 _ hmax row7.in hd λv w' e'=>⟨?_,e'⟩
    unfold He;rw [iP h,iK h2]
   ·have h2:enc≠0:=by simpa using h2
    refine Uh λsm w8 rm e8=>Vo (row7.in.ext e8) rm.in.x (Ac (λhp=>Uh λsm2 w9 rm2 e9=>⟨?_,e8.trans e9⟩) λhp=>⟨?_,e8⟩)
    ·have:=Eh rm2.in.x
     unfold He;rw [iP h,iP h2,iK hp,this]
    ·have hp:¬(Ic enc).isPrefixOf b=true:=by rw [hp];simp
     unfold He;rw [iP h,iP h2,iP hp]
 rintro _ w8 ⟨rfl,e8⟩
 have U8:=U7.trans (S:=F) (Upd.Ae e8)
 dsimp only
 rw [iE (by omega)]
 refine Ac (λh=>?_) λh=>?_
 ·have h:=jY h
  rw [iK (by omega)] at hop
  exact bad w8 F7 r.1 50 ((A7.ext e8).mono (by omega)) (e8.ext_get m17) (e8.ext_get m27) nF71 U8 G7 hop
 have h:=sK h
 rw [iP (by omega)] at hop
 have hcap:=row7.in.le
 obtain ⟨k,hk⟩:∃k:Nat,(He g enc b).2=(k:Int):=⟨(He g enc b).2.toNat,by omega⟩
 rw [hk] at q1 q2 hop h ⊢
 rw [kH] at hop
 have n67:=u7.get n6 λhh=>by have:=A4.lt _ hh;omega
 refine Az λw9 e9 _=>Nr ((row7.in.ext e8).ext e9) (by omega) (by omega) (by omega) (by omega) (by omega) λx39 hx39 _ _ _=>?_
 have hbv39:((bv b).drop (Int.toNat 0*1)).take ((Int.toNat (k:Int)-Int.toNat 0)*1)=bv (b.take k):=by
  rw [kH];simp [tK]
 rw [hbv39] at hx39
 have e79:=e8.trans e9
 refine Dp (x:=stT s.2.2) (e79.ext_get n67) (λi v hv=>Oz i v hv) (Mc hx39.x (by rw [nG];omega) λsm w10 rm e10=>Bc ?_ (Ag λf w11 e11 n11 hf11 hz11=>?_))
 ·exact Gh (off:=0) _ 0 λj v hv=>by rw [kY];exact cell_of (e10.ext_get (e79.ext_get n67)) (Oz j v hv)
 have n11:w11.heap[f]?=some (.cells (Gg d ⟨n,b.take k,s.2.2,(0,0,0)⟩ sm) 110 (0,0)):=n11
 have e711:=(e79.trans e10).trans e11
 refine Nr (row7.in.ext e711) (by omega) (by omega) (by omega) (by omega) (by omega) λx43 hx43 _ _ _=>?_
 have hbv43:((bv b).drop (Int.toNat (k:Int)*1)).take ((Int.toNat ((sx.len:Nat):Int)-Int.toNat (k:Int))*1)=bv (b.drop k):=by
  rw [kH,kH,kX,kX,←vM,sQ]
  rw [nO,nH];omega
 rw [hbv43] at hx43
 have z710:=(e79.trans e10).size
 have z79:=e79.size
 refine Mc hx43.x (by rw [nH];omega) λsd w12 rd e12=>?_
 have e712:=e711.trans e12
 refine Ba (e712.ext_get m17) rfl rfl (by decide) λw13 u13 n13 hz13=>Dp (x:=Xu (He g enc b).1 (k:Int) sd false) n13 (λi v hv=>Pg i v hv) ?_
 have hk:=hK F7 w13 (some (at0 f)) sd
 rw [hop] at hk
 have U12:=U7.trans (S:=F) (Upd.Ae e712)
 have A12:=A7.ext e712
 have zw7:=U7.size
 have sdge:∀k,sd.blk k->w11.heap.size<=k:=λk hk=>rd.Dh hk
 have smge:∀k,sm.blk k->w9.heap.size<=k/\k<w10.heap.size:=λk hk=>⟨rm.Dh hk,rm.in.Ci hk⟩
 have F7lt:∀k,F7 k->k<w7.heap.size:=A7.lt
 have rmb:=(rm.in.ext (e11.trans e12))
 refine hk ⟨(A12.frame u13 λk hk hh=>nF71 (hh▸hk)).mono (by omega),U12.new u13 λk hk hh=>by omega,G7,⟨f,sm,rfl,⟨⟨u13.En (e12.ext_get n11) (by omega),rmb.upd u13 λk hk hh=>by have:=(smge k hk).1;omega⟩,λhh=>by have:=F7lt _ hh;omega,λk hk hh=>by have:=F7lt _ hh;have:=(smge k hk).1;omega,(hl7.ext e712).upd u13 (by omega),?_,by show n.size<=_;omega,by omega⟩,by omega,λk hk=>by have:=(smge k hk).1;omega⟩,?_,λk hk hh=>by have:=F7lt _ hh;have:=sdge k hk;omega,λf' hf' hh=>?_⟩ ?_
 ·show (b.take k).length<1024
  rw [nG];omega
 ·refine Am.mono (rd.upd u13 λk _ hk hh=>?_) (by omega)
  have:=sdge k hk;omega
 ·have hff:f=f':=by simpa using hf'
  have:=sdge _ hh;omega
 ·intro f' c hf' hc s' hs' k' hk' hh'
  obtain rfl:f=f':=by simpa using hf'
  have hc2:=u13.En (e12.ext_get n11) (by omega:f≠b1)
  rw [hc] at hc2
  obtain rfl:c=Gg d ⟨n,b.take k,s.2.2,(0,0,0)⟩ sm:=by
   have:=sW hc2
   injection this
  have hs2:(some (Value.slice sm.a sm.len sm.cap))=some (Value.slice s'.a s'.len s'.cap):=hs'
  have hs3:=sW hs2
  injection hs3 with h1 h2 h3
  have:sm=s':=by
   cases sm;cases s';simp only at h1 h2 h3;rw [h1,h2,h3]
  rw [←this] at hh'
  have:=smge _ hh'
  have:=sdge _ hk'
  have:=e11.size
  omega
end
end Dq
end
section
open Go Go.Vx Cdc Trx
section
variable {w w':World}{S:Nat->Prop}{p:Nat}{e:Enc}{lim na:Nat}{O:Nat->Prop}{M:Parts}
def Ba5 (P:Program){ts xt rt:TypeId}{e xe:TypeId}{i:TypeInfo}{z:Value}(hts:P.underlying ts=some (.slice e)) (hxt:P.underlying xt=some (.slice xe)) (hi:P.info? e=some i) (hz:i.zero=some z)
  {B:Nat} {s x:Sl} {vs us:List Value} (hs:Am w B s e i.size vs) (hx:SlX w x i.size us) (h1:∀v∈us,Eb v=true) (hzl:z.cells.size=i.size)
  (hroom:(s.len+x.len+(s.len+x.len)/4+512)*i.bytes<=2^48) (hb0:0<i.bytes) (hB:B<=w.heap.size) :
  ∃s' w',(Builtin.append_ #[ts,xt] rt #[.slice s.a s.len s.cap,.slice x.a x.len x.cap]).run P w=.ok (.slice s'.a s'.len s'.cap) w'/\Am w' B s' e i.size (vs++us)/\s'.len=s.len+x.len /\
   Upd (λk=>s.blk k) w w'/\((Ext w w'/\∀k,s'.blk k->w.heap.size<=k)\/(s'.a=s.a/\∃b off c,s.a=some ⟨b,off,none⟩/\w.heap[b]?=some (.cells c e (0,0))/\w'.heap[b]?=some (.cells (setRow c (off+s.len*i.size) us) e (0,0)))):=by
 obtain ⟨s',w',hr,ho,hl,hu,hk,hex⟩:=Ba6 (rt:=rt) P hts hxt hi hz hs hx h1 hzl hroom hb0 hB;refine ⟨s',w',hr,ho,hl,hu,?_⟩;have hfx:=Gm P hx;have hfs:=Gx P hs.in;have hu1:=λW=>jZ hts W;have hu2:=λW=>jZ hxt W;have hsz:∀W,(sizeOf e).run P W=.ok i.size W:=λW=>(by simp [sizeOf,kC W hi]);have hlen:=hs.len;have hxlen:=hx.len;by_cases hneed:s.len+x.len<=s.cap
 ·rcases hs.at_ with ⟨ha,hc⟩|⟨b,off,c,ha,hB',hb,hcap,hv⟩;{have hl0:x.len=0:=(by omega);have hsl:s.len=0:=(by omega);(have hus:us=[]:=by rw [hl0,mW] at hxlen;exact jH.1 hxlen);(have hfx':(Builtin.firstCells i.size 0 (.slice x.a 0 x.cap)).run P w=.ok #[] w:=by rw [hl0,hus] at hfx;exact hfx);simp [Builtin.append_,hu1,hu2,hsz,Builtin.lenOf,hl0,hsl,ha,hfx',hc] at hr;obtain ⟨⟨h1,_⟩,rfl⟩:=hr;refine .inl ⟨Ext.refl w,λk hk=>?_⟩;obtain ⟨q,hq,_⟩:=hk;rw [←h1] at hq;cases hq}
  ·have hfit:s.len*i.size+us.length<=s.cap*i.size:=by
    rw [hxlen,←mX];exact mY _ hneed
   obtain ⟨w1,hr1,hu1',hb1,_⟩:=Jr P us b (off+s.len*i.size) 0 c e w h1 hb (by omega);simp [Builtin.append_,hu1,hu2,hsz,Builtin.lenOf,hneed,hfx,ha,addr_add,hr1] at hr;obtain ⟨⟨h1,_⟩,rfl⟩:=hr;exact .inr ⟨h1.symm.trans ha.symm,b,off,c,ha,hb,hb1⟩
 ·have hti:∀W,(typeInfo e).run P W=.ok i W:=λW=>kC W hi;have hzv:∀W,(zeroValue e).run P W=.ok z W:=λW=>(by simp [zeroValue,kC W hi,hz]);have hle:=Go.Vx.nextslicecap_le (need:=s.len+x.len) (old:=s.cap) (by omega);have hroom':¬(Builtin.nextslicecap (s.len+x.len) s.cap*i.bytes>2^48):=by
   have:=mY i.bytes hle
   omega
  have hfx':(Builtin.firstCells i.size x.len (.slice x.a x.len x.cap)).run P w.drew=.ok us.toArray w.drew:=Gm P (hx.ext (Ext.drew w));have hfs':(Builtin.firstCells i.size s.len (.slice s.a s.len s.cap)).run P w.drew=.ok vs.toArray w.drew:=Gx P (hs.in.ext (Ext.drew w));have hb0':¬i.bytes=0:=(by omega);simp [Builtin.append_,hu1,hu2,hsz,Builtin.lenOf,hneed,hti,hb0',hroom',nD,hfs',hfx',hzv,newRow,newObj,Sem.run,Question.forced] at hr;obtain ⟨⟨h1,_⟩,rfl⟩:=hr;refine .inl ⟨(Ext.drew w).trans (Ext.alloc w.drew _),λk hk=>?_⟩;obtain ⟨q,hq,rfl⟩:=hk;rw [←h1] at hq;cases hq;exact mJ _
def Cf7 {B:Nat}{s x:Sl}{l m:Bs}{K:Sl->Wp}(hs:Am w B s 5 1 (bv l)) (hx:SlX w x 1 (bv m)) (hroom:s.len+x.len+(s.len+x.len)/4+512<=2^48) (hB:B<=w.heap.size)
  (h:∀s' w',Am w' B s' 5 1 (bv (l++m))->s'.len=s.len+x.len->Upd s.blk w w'->(∀k,s'.blk k->s.blk k\/w.heap.size<=k) ->
   (∀y b,By w y b->(∀k,y.blk k->s.blk k->top y<=top s)->By w' y b/\∀k,y.blk k->s'.blk k->top y<=top s')->K s' w') :
  Dy prog (.one (.one .sl)) (Builtin.append_ #[30,30] 30 #[.slice s.a s.len s.cap,.slice x.a x.len x.cap]) K w:=by
 obtain ⟨i,z,hi,hsz,hby,hz,hzs⟩:=EBy.e_;have hs':=hs;rw [←hsz] at hs hx;obtain ⟨s',w',hr,ho,hl,hu,hex⟩:=Ba5 (rt:=30) prog EBy.ts_ EBy.ts_ hi hz hs hx (λv hv=>by
  obtain ⟨b,_,rfl⟩:=nT.1 hv;rfl) (by rw [hsz];exact hzs) (by rw [hby];omega) (by rw [hby];decide) hB
 rw [hsz] at ho hex;have eb:bv l++bv m=bv (l++m):=(by simp [bv]);rw [eb] at ho;refine ⟨s',w',hr,h s' w' ho hl hu (λk hk=>?_) λy b hy hyt=>?_⟩;{rcases hex with ⟨_,h2⟩|⟨h1,_⟩;{exact .inr (h2 k hk)};{left;obtain ⟨q,hq,rfl⟩:=hk;exact ⟨q,h1▸hq,rfl⟩}};{rcases hex with ⟨h1,h2⟩|⟨h1,b0,off,c,ha,hb0,hb1⟩;{exact ⟨hy.ext h1,λk hk hk'=>by have:=hy.Ci hk;have:=h2 k hk';omega⟩};{(have hts:top s<=top s':=by unfold top;rw [h1,ha];show off+s.len<=off+s'.len;omega);(have hsk:∀k,s'.blk k->s.blk k:=λk hk=>by obtain ⟨q,hq,rfl⟩:=hk;exact ⟨q,h1▸hq,rfl⟩);refine ⟨⟨Dx.len hy,hy.le,hy.at_.imp id λ⟨b',off',c',fr',ha',hb',hcap,hv⟩=>?_⟩,λk hk hk'=>mM (hyt k hk (hsk k hk')) hts⟩;by_cases hbb:b'=b0;{subst hbb;rw [hb0] at hb';cases hb';have ht:=hyt b' ⟨_,ha',rfl⟩ ⟨_,ha,rfl⟩;unfold top at ht;rw [ha',ha] at ht;dsimp only at ht;have hyl:=hy.len;refine ⟨b',off',_,_,ha',hb1,by rw [Go.Vx.size_setRow];exact hcap,λi u hu=>?_⟩;have hil:=(lY.1 hu).1;rw [nO] at hil;rw [Go.Vx.Gi _ _ _ _ (by omega)];exact hv i u hu};{exact ⟨b',off',c',fr',ha',hu.get hb' (λ⟨q,hq,hqb⟩=>by rw [ha] at hq;cases hq;exact hbb hqb.symm),hcap,hv⟩}}}
def Old (w W:World) (a0 a:Sl):Prop:=∀y b,By w y b->(∀k,y.blk k->a0.blk k->top y<=top a0)->By W y b/\∀k,y.blk k->a.blk k->top y<=top a
end
end
section
namespace Dq
open Go Go.Vx Dsk Cdc Trx Flp
structure OpF (w W:World) (d:Nat) (F:Nat->Prop) (N:Nat) (z:Dk×Int×Option Fil×Lod) (F':Nat->Prop) (fo:xM) (sd:Sl) (b9:Nat):Prop where
 disk:DS W d F' z.1 (N+4)
 upd:Upd F w W
 new:∀k,F' k->F k\/w.heap.size<=k
 file:match z.2.2.1 with
  |some X=>∃f sm,fo=some (at0 f)/\FS W f d X sm F'/\w.heap.size<=f/\(∀k,sm.blk k->w.heap.size<=k)/\∀k,sd.blk k->¬sm.blk k
  |none=>fo=none
 data:Dl W w.heap.size sd z.2.2.2.data
 apart:∀k,sd.blk k->¬F' k
 box:W.heap[b9]?=some (.cells (Cells.vals c32 (Xu z.2.2.2.enc z.2.2.2.mark sd z.2.2.2.new)).toArray 32 (0,0))
 bge:w.heap.size<=b9
 nb:¬F' b9
structure OpR (w W:World) (r:Nat) (R:Nat->Prop) (N:Nat) (z:Dk×Int×Option Fil×Lod) (R':Nat->Prop) (go:xM) (sd:Sl) (b20:Nat):Prop where
 disk:RS W r R' z.1 (N+4)
 upd:Upd R w W
 new:∀k,R' k->R k\/w.heap.size<=k
 file:match z.2.2.1 with
  |some X=>∃f sm,go=some (at0 f)/\GS W f r X sm R'/\w.heap.size<=f/\∀k,sm.blk k->w.heap.size<=k
  |none=>go=none
 data:By W sd z.2.2.2.data
 dnew:∀k,sd.blk k->w.heap.size<=k
 box:W.heap[b20]?=some (.cells (Cells.vals Qz (Bi7 z.2.2.2.enc z.2.2.2.mark sd z.2.2.2.new)).toArray 240 (0,0))
 bge:w.heap.size<=b20
 nb:¬R' b20
section
variable {B0:Nat}{w w':World}{S F R F' R':Nat->Prop}{wb d r:Nat}{D E D' E':Dk}{N M N' M':Nat}{sl sl':Nat->Option Slo}{so:Sl}{zs:List Sl}{n:Nm}{s:Slo}{Z:Fil}{z:Dk×Int×Option Fil×Lod}{fo:xM}{sd:Sl}
def Bn4.move {wa wb' W:World}(h0:0<w.heap.size) (h:Bn4 wa wb' d F N z F' fo sd) (apm:∀f c,fo=some (at0 f)->wb'.heap[f]?=some (.cells c 110 (0,0))->∀s:Sl,c[2]?=some (.slice s.a s.len s.cap)->∀k,sd.blk k->¬s.blk k) (hlt:∀k,F k->k<w.heap.size) (e:Ext w wa){b:Nat}(u:Upd (λk=>k=b) wb' W) (hb:w.heap.size<=b) (hbn:¬(wa.heap.size<=b/\b<wb'.heap.size))
  (hbox:W.heap[b]?=some (.cells (Cells.vals c32 (Xu z.2.2.2.enc z.2.2.2.mark sd z.2.2.2.new)).toArray 32 (0,0))):OpF w W d F N z F' fo sd b:=by
 have ez:=e.size;have uz:=h.upd.size;(have nF:¬F b:=λhh=>by have:=hlt b hh;omega);have nb:¬F' b:=λhh=>by
  have h1:=h.disk.lt b hh
  rcases h.new b hh with h2|h2
  ·exact nF h2
  ·exact hbn ⟨h2,h1⟩
 refine ⟨h.disk.frame u λk hk hh=>nb (hh▸hk),((Upd.Ae e).trans h.upd).new u λk hk hh=>by omega,λk hk=>(h.new k hk).imp id λhl=>by omega,?_,(h.data.mono ez).upd u (λk _ hk hh=>?_),h.apart,hbox,hb,nb⟩
 ·have hf:=h.file;cases hz:z.2.2.1 with
  |none=>rw [hz] at hf;exact hf
  |some X=>rw [hz] at hf;obtain ⟨f,sm,hfo,hX,hfl,hsm⟩:=hf;refine ⟨f,sm,hfo,hX.frame u (λhh=>?_) (λk hk hh=>?_) (λhh=>by omega) (λk hk=>.inl hk),by omega,λk hk=>by have:=hsm k hk;omega,apm f _ hfo hX.at_.box sm rfl⟩;{have:=lt_of_heap hX.at_.box;exact hbn ⟨by omega,by omega⟩};{have:=hX.at_.mkr.Ci hk;have:=hsm k hk;exact hbn ⟨by omega,by omega⟩}
 {have:=h.data.Dh hk;have:=h.data.in.Ci hk;exact hbn ⟨by omega,by omega⟩}
def As3.move {wa wb' W:World}(h:As3 wa wb' r R N z R' fo sd) (hlt:∀k,R k->k<w.heap.size) (e:Ext w wa){b:Nat}(u:Upd (λk=>k=b) wb' W) (hb:w.heap.size<=b) (hbn:¬(wa.heap.size<=b/\b<wb'.heap.size))
  (hbox:W.heap[b]?=some (.cells (Cells.vals Qz (Bi7 z.2.2.2.enc z.2.2.2.mark sd z.2.2.2.new)).toArray 240 (0,0))):OpR w W r R N z R' fo sd b:=by
 have ez:=e.size;have uz:=h.upd.size;(have nF:¬R b:=λhh=>by have:=hlt b hh;omega);have nb:¬R' b:=λhh=>by
  have h1:=h.disk.lt b hh
  rcases h.new b hh with h2|h2
  ·exact nF h2
  ·exact hbn ⟨h2,h1⟩
 refine ⟨h.disk.frame u λk hk hh=>nb (hh▸hk),((Upd.Ae e).trans h.upd).new u λk hk hh=>by omega,λk hk=>(h.new k hk).imp id λhl=>by omega,?_,h.data.upd u (λk hk hh=>?_),λk hk=>by have:=h.dnew k hk;omega,hbox,hb,nb⟩
 ·have hf:=h.file;cases hz:z.2.2.1 with
  |none=>rw [hz] at hf;exact hf
  |some X=>rw [hz] at hf;obtain ⟨f,sm,hfo,hX,hfl,hsm⟩:=hf;refine ⟨f,sm,hfo,hX.frame u (λhh=>?_) (λk hk hh=>?_) (λk hk=>.inl hk),by omega,λk hk=>by have:=hsm k hk;omega⟩;{have:=lt_of_heap hX.box;exact hbn ⟨by omega,by omega⟩};{have:=hX.mkr.Ci hk;have:=hsm k hk;exact hbn ⟨by omega,by omega⟩}
 {have:=h.dnew k hk;have:=h.data.Ci hk;exact hbn ⟨by omega,by omega⟩}
def Wl.off {w1:World}{F1 R1:Nat->Prop}{D1 E1:Dk}{N1 M1:Nat}(h:Wl w wb d r F R D E N M sl so zs) (h1:Wl w1 wb d r F1 R1 D1 E1 N1 M1 sl so zs) (u:Upd S w w') (hS:∀k,S k->¬F k/\¬R k/\w1.heap.size<=k):Wl w' wb d r F R D E N M sl so zs:=by (have lo:∀k,k<w1.heap.size->¬S k:=λk hk hh=>by have:=(hS k hh).2.2;omega);have pos:=h1.ds.pos;refine ⟨h.ds.frame u λk hk hh=>(hS k hh).1 hk,h.rs.frame u λk hk hh=>(hS k hh).2.1 hk,h.fr,λk hk o ho=>h.rty k hk o (by rw [u.at_ k (h.rs.lt k hk) (λhh=>(hS k hh).2.1 hk)] at ho;exact ho),h.r0,u.get h.box (lo wb (lt_of_heap h1.box)),h.wF,h.wR,λi s hi hs=>?_,h.nf,h.ol.upd u (λk _ hk=>lo k (h1.ol.in.Ci hk)),h.oF,h.ze,λi s hs=>?_,h.laid.upd u (lo 0 pos)⟩;{have H1:=h1.slo i s hi hs;exact (h.slo i s hi hs).frame u (lo _ (lt_of_heap H1.fs.at_.box)) (lo _ (lt_of_heap H1.gs.box)) (λk hk=>lo k (H1.fs.at_.mkr.Ci hk)) (λk hk=>lo k (H1.gs.mkr.Ci hk)) (lo 0 pos) (λk hk=>.inl hk) (λk hk=>.inl hk)};{obtain ⟨⟨n,hn,hb⟩,h2⟩:=h.z i s hs;obtain ⟨⟨n',_,hb'⟩,_⟩:=h1.z i s hs;exact ⟨⟨n,hn,hb.upd u λk hk=>lo k (hb'.Ci hk)⟩,h2⟩}
def Wl.own (h:Wl w wb d r F R D E N M sl so zs) (u:Upd S w w') (hS:∀k,S k->k=wb\/so.blk k) (n0:¬S 0){so':Sl}{zs':List Sl}(n:w'.heap[wb]?=some (.cells (Rt d r sl' so') 158 (0,0)))
  (hsl:∀i s,i<2->sl' i=some s->Y6 w d r F R s) (hnf:∀s t,sl' 0=some s->sl' 1=some t->s.f≠t.f/\s.g≠t.g)
  (ol:Am w' 0 so' 30 1 (zs'.map slv)) (oF:∀k,so'.blk k->¬F k/\¬R k) (ze:∃m,zs'.length=2*m) (hz:∀(i:Nat) s,zs'[i]?=some s->(∃n,n<=2^30/\By w s (List.replicate n (mkB (i/2*2))))/\∀k,s.blk k->¬F k/\¬R k):Wl w' wb d r F R D E N M sl' so' zs':=by
 have bt:∀{t:TypeId} {s:Sl} {sz:Nat} {vs:List Value},Dx w s t sz vs->t≠158->t≠30->∀k,s.blk k->¬S k:=λhs h1 h2 k hk hh=>by
  rcases hS k hh with h'|h'
  ·exact Le hs h.box h1 k hk h'
  ·obtain ⟨c,fr,hc⟩:=h.ol.in.Bf h'
   exact Le hs hc h2 k hk rfl
 have bx:∀{k:Nat} {c:Array Value} {t:TypeId} {fr:Nat×Nat},w.heap[k]?=some (.cells c t fr)->t≠158->t≠30->¬S k:=λhb h1 h2 hh=>by
  rcases hS _ hh with h'|h'
  ·exact Xi hb h.box h1 h'
  ·obtain ⟨c,fr,hc⟩:=h.ol.in.Bf h'
   exact Xi hb hc h2 rfl
 have nF:∀k,F k->¬S k:=λk hk hh=>(hS k hh).elim (λh'=>h.wF (h'▸hk)) λh'=>(h.oF k h').1 hk;have nR:∀k,R k->¬S k:=λk hk hh=>(hS k hh).elim (λh'=>h.wR (h'▸hk)) λh'=>(h.oF k h').2 hk;refine ⟨h.ds.frame u nF,h.rs.frame u nR,h.fr,λk hk o ho=>h.rty k hk o (by rw [u.at_ k (h.rs.lt k hk) (nR k hk)] at ho;exact ho),h.r0,n,h.wF,h.wR,λi s hi hs=>?_,hnf,ol,oF,ze,λi s hs=>?_,h.laid.upd u n0⟩;{have H:=hsl i s hi hs;exact H.frame u (bx H.fs.at_.box (by decide) (by decide)) (bx H.gs.box (by decide) (by decide)) (bt H.fs.at_.mkr (by decide) (by decide)) (bt H.gs.mkr (by decide) (by decide)) n0 (λk hk=>.inl hk) (λk hk=>.inl hk)};{obtain ⟨⟨n,hn,hb⟩,h2⟩:=hz i s hs;exact ⟨⟨n,hn,hb.upd u (bt hb (by decide) (by decide))⟩,h2⟩}
def Ch9 {a:UInt8}:∀(j:Nat) (l:List UInt8),j<l.length->(List.replicate j a++l.drop j).set j a=List.replicate (j+1) a++l.drop (j+1):=λj l hj=>by rw [tV hj,wZ _ _ (by simp),xG,nM,List.set_cons_zero,xH,lM];rfl
def mk_val (m:Nat):IntKind.wrap .u8 (W64 (Int.tmod ((m:Nat):Int) 200+40))=((mkB m).toNat:Int):=by (have hm:Int.tmod ((m:Nat):Int) 200=((m%200:Nat):Int):=by rw [xA (by omega)];rfl);have h2:m%200<200:=oI _ (by decide);rw [hm,iE (by omega),Bu7 (by omega) (by omega)];unfold mkB;rw [uN];omega
end
end Dq
end
section
namespace Dq
open Go Go.Vx Dsk Cdc Trx Flp
section
variable {B0:Nat}{w w':World}{S F R F' R':Nat->Prop}{wb d r:Nat}{D E D' E':Dk}{N M N' M':Nat}{sl sl':Nat->Option Slo}{so:Sl}{zs:List Sl}{n:Nm}{s:Slo}{x:Cells.T c162}{data:List UInt8}{frows:List (Cells.T Dt)}{fl:List (Int×Ce)}{cb:xP}
def ETx:Fh prog 120 30 1 24:=Fh.of (z:=.slice none 0 0) Cv8 C30 rfl rfl rfl (by decide)
def uTx:prog.underlying 120=some (.slice 30):=Cv8.und
def Av7 {g:List UInt8->Int}{enc limit:Int}(ok:Bj D N):(Ib g D n enc limit).2.2.2.data.length<=1048576:=by have h:=Ve (Ho ok n) n;unfold Ib;dsimp only;(repeat' split);all_goals first|exact qI _|(rw [nH];omega)
abbrev Over (w0 W:World) (B:Nat) (sd:Sl) (len:Nat) (mk:UInt8):Prop:=Am W B sd 5 1 (bv (List.replicate len mk))/\Upd sd.blk w0 W
def Bb5 (h:WB B0 w wb d r D N F R sl so zs) (hN:N+20<=2^30) (hx:Kw w B0 x data frows fl cb) (hzn:zs.length<=2^28) (hB0:0<B0)
  {K:Bool->Wp} (hK:∀w' D' F' R' sl' so' zs',WB B0 w' wb d r D' (N+4) F' R' sl' so' zs'->zs'.length=zs.length+2->Upd (λk=>B0<=k) w w'->K true w') :
  Aa prog 108 #[dU wb,.agg (Gy x)] rB K w:=by
 refine j108 (a1:=x) ?_
 unfold F108
 refine Ag λb1 w1 e1 n1 hb1 hz1=>?_
 have n1:w1.heap[b1]?=some (.cells (Gy x) 162 (0,0)):=n1
 have h1:=h.ext e1
 have hB:=h.szB
 have hnm:=hx.nm
 have pos1:0<w1.heap.size:=h1.wl.ds.pos
 have lb1:=lt_of_heap n1
 have nF1:¬F b1:=λhh=>by have:=h.wl.ds.lt b1 hh;omega
 have nR1:¬R b1:=λhh=>by have:=h.wl.rs.lt b1 hh;omega
 have hF1:∀k,F k->k<w1.heap.size:=h1.wl.ds.lt
 have hR1:∀k,R k->k<w1.heap.size:=h1.wl.rs.lt
 obtain ⟨z,hz⟩:∃z,z=Ib gG D x.2.2.1 x.2.2.2.2.1 x.2.2.2.2.2.1:=⟨_,rfl⟩
 refine Ai (λy W=>∃F' fo sd b9,y=(fo,at0 b9,z.2.1,())/\OpF w1 W d F N z F' fo sd b9) ?_ ?_
 ·refine Az λw2 e2 _=>Ad ?_
  have h2:=h1.ext e2
  have n2:=e2.ext_get n1
  refine Af h2.wl.box (off:=0) (x:=some (at0 d)) rfl (Af n2 (off:=2) (x:=x.2.2.1) rfl (Af n2 (off:=4) (x:=x.2.2.2.2.1) rfl (Af n2 (off:=5) (x:=x.2.2.2.2.2.1) rfl ⟨?_,?_⟩)))
  ·refine Ag λb9 w3 e3 n3 hb3 hz3=>Bc (cell_of (off:=5) (e3.ext_get n2) rfl) (Bc (cell_of (off:=4) (e3.ext_get n2) rfl) (Bc (cell_of (off:=2) (e3.ext_get n2) rfl) (Bc (cell_of (off:=0) (e3.ext_get h2.wl.box) rfl) (Ae4 (g:=gG) (λ_=>.inl Ax9) (h2.ext e3).wl.ds (by omega) (h2.ext e3).wl.laid (by omega) λF4 w4 fo sd hO apm=>?_))))
   rw [←hz] at hO ⊢
   have z2:=e2.size
   have nb:¬F b9:=λhh=>by have:=hF1 _ hh;omega
   refine Ba (hO.upd.get n3 nb) rfl rfl (by show 0+4<=4;decide) λw5 u5 n5 z5=>?_
   rw [Cc _ _ (by rfl)] at n5
   exact ⟨F4,fo,sd,b9,rfl,hO.move pos1 apm hF1 (e2.trans e3) u5 (by omega) (λhh=>by omega) n5⟩
  ·refine Ae4 (g:=gG) (λ_=>.inl Ax9) h2.wl.ds (by omega) h2.wl.laid (by omega) λF4 w4 fo sd hO apm=>⟨?_,trivial⟩
   rw [←hz] at hO ⊢
   have z2:=e2.size
   have z4:=hO.upd.size
   have n4:=hO.upd.get n2 nF1
   have nwb:=hO.upd.get h2.wl.box h2.wl.wF
   refine Ag λb9 w5 e5 n5 hb5 hz5=>Bc (cell_of (off:=5) (e5.ext_get n4) rfl) (Bc (cell_of (off:=4) (e5.ext_get n4) rfl) (Bc (cell_of (off:=2) (e5.ext_get n4) rfl) (Bc (cell_of (off:=0) (e5.ext_get nwb) rfl) (Ba n5 rfl rfl (by decide) λw6 u6 n6 z6=>?_))))
   rw [Cc _ _ (by rfl)] at n6
   exact ⟨F4,fo,sd,b9,rfl,hO.move pos1 apm hF1 e2 ((Upd.Ae e5).trans u6) (by omega) (λhh=>by omega) n6⟩
 rintro _ w2 ⟨F2,fo,sd,b9,rfl,hO⟩
 have H2:=h1.wl.Ac8 hO.upd hO.disk hO.new
 have n2:=hO.upd.get n1 nF1
 have z2:=hO.upd.size
 refine Ai (λy W=>∃R' go sd' b20,y=(go,at0 b20,z.2.1,())/\OpR w2 W r R N z R' go sd' b20) ?_ ?_
 ·refine Az λw3 e3 _=>Ad ?_
  have H3:=H2.ext e3
  have n3:=e3.ext_get n2
  have hR3:∀k,R k->k<w2.heap.size:=H2.rs.lt
  rw [addr_add]
  refine Af H3.box (off:=0+1) (x:=some (at0 r)) rfl (Af n3 (off:=2) (x:=x.2.2.1) rfl (Af n3 (off:=4) (x:=x.2.2.2.2.1) rfl (Af n3 (off:=5) (x:=x.2.2.2.2.2.1) rfl ⟨?_,?_⟩)))
  ·refine Ag λb20 w4 e4 n4 hb4 hz4=>Bc (cell_of (off:=5) (e4.ext_get n3) rfl) (Bc (cell_of (off:=4) (e4.ext_get n3) rfl) (Bc (cell_of (off:=2) (e4.ext_get n3) rfl) (Bc (cell_of (off:=0+1) (e4.ext_get H3.box) rfl) (Ab5 (H3.ext e4).rs (by omega) (by omega) λR5 w5 go sd' hY=>?_))))
   rw [←hz] at hY ⊢
   have z3:=e3.size
   have nb:¬R b20:=λhh=>by have:=hR3 _ hh;omega
   refine Ba (hY.upd.get n4 nb) rfl rfl (by show 0+4<=4;decide) λw6 u6 n6 z6=>?_
   rw [Cc _ _ (by rfl)] at n6
   exact ⟨R5,go,sd',b20,rfl,hY.move hR3 (e3.trans e4) u6 (by omega) (λhh=>by omega) n6⟩
  ·refine Ab5 H3.rs (by omega) (by omega) λR5 w5 go sd' hY=>⟨?_,trivial⟩
   rw [←hz] at hY ⊢
   have z3:=e3.size
   have z5:=hY.upd.size
   have n5:=hY.upd.get n3 nR1
   have nwb:=hY.upd.get H3.box H3.wR
   refine Ag λb20 w6 e6 n6 hb6 hz6=>Bc (cell_of (off:=5) (e6.ext_get n5) rfl) (Bc (cell_of (off:=4) (e6.ext_get n5) rfl) (Bc (cell_of (off:=2) (e6.ext_get n5) rfl) (Bc (cell_of (off:=0+1) (e6.ext_get nwb) rfl) (Ba n6 rfl rfl (by decide) λw7 u7 n7 z7=>?_))))
   rw [Cc _ _ (by rfl)] at n7
   exact ⟨R5,go,sd',b20,rfl,hY.move hR3 e3 ((Upd.Ae e6).trans u7) (by omega) (λhh=>by omega) n7⟩
 rintro _ w3 ⟨R3,go,sd',b20,rfl,hY⟩
 dsimp only
 have H3:=H2.Co6 hY.upd hY.disk hY.new
 have z3:=hY.upd.size
 have nb9R:¬R b9:=λhh=>by have:=hR1 _ hh;have:=hO.bge;omega
 have n9:=hY.upd.get hO.box nb9R
 have n13:=hY.upd.get n2 nR1
 have lb9:=lt_of_heap hO.box
 have o3:Dl w3 w1.heap.size sd z.2.2.2.data:=hO.data.upd hY.upd λk _ hk hh=>by have:=hR1 _ hh;have:=hO.data.Dh hk;omega
 have u13:Upd (λk=>B0<=k) w w3:=((Upd.Ae e1).trans (hO.upd.mono λk _ hk=>h.bF k hk)).trans (hY.upd.mono λk _ hk=>h.bR k hk)
 simp only [show (at0 b9).add 1=(⟨b9,0+1,none⟩:Addr) from addr_add ..,show (at0 b9).add 2=(⟨b9,0+2,none⟩:Addr) from addr_add ..,show (at0 b9).add 3=(⟨b9,0+3,none⟩:Addr) from addr_add ..,
  show (at0 b20).add 1=(⟨b20,0+1,none⟩:Addr) from addr_add ..,show (at0 b20).add 2=(⟨b20,0+2,none⟩:Addr) from addr_add ..,show (at0 b20).add 3=(⟨b20,0+3,none⟩:Addr) from addr_add ..]
 have hnone:fo.isNone=go.isNone:=by
  have a:=hO.file
  have b:=hY.file
  cases hzf:z.2.2.1 with
  |none=>rw [hzf] at a b;rw [a,b]
  |some X =>
   rw [hzf] at a b
   obtain ⟨f,_,a1,_⟩:=a
   obtain ⟨g,_,b1',_⟩:=b
   rw [a1,b1'];rfl
 have hdl:z.2.2.2.data.length<=2^40:=by
  have:=Av7 (g:=gG) (enc:=x.2.2.2.2.1) (limit:=x.2.2.2.2.2.1) (n:=x.2.2.1) h.wl.ds.ok
  rw [hz];omega
 have tt:∀{a:Int},(a==a)=true:=λ{a}=>by simp
 have tb:∀{a:Bool},(a==a)=true:=λ{a}=>by simp
 refine Ai (λy W=>y=(true,())/\Ext w3 W) ?_ ?_
 ·rw [tt]
  refine Ac (λ_=>Pq u4b ?_) λhh=>by cases hh
  rw [hnone,tb]
  refine Ac (λ_=>Af n9 (off:=0) (x:=z.2.2.2.enc) rfl (Af hY.box (off:=0) (x:=z.2.2.2.enc) rfl ?_)) λhh=>by cases hh
  rw [tt]
  refine Ac (λ_=>Af n9 (off:=0+1) (x:=z.2.2.2.mark) rfl (Af hY.box (off:=0+1) (x:=z.2.2.2.mark) rfl ?_)) λhh=>by cases hh
  rw [tt]
  refine Ac (λ_=>Af n9 (off:=0+3) (x:=z.2.2.2.new) rfl (Af hY.box (off:=0+3) (x:=z.2.2.2.new) rfl (Pq u4b ?_))) λhh=>by cases hh
  rw [tb]
  refine Ac (λ_=>Af n9 (off:=0+2) (x:=sd) rfl (Af hY.box (off:=0+2) (x:=sd') rfl (Zl o3.in.x hY.data.x (by omega) λw4 e4=>?_))) λhh=>by cases hh
  rw [uX rfl]
  exact ⟨rfl,e4⟩
 rintro _ w4 ⟨rfl,e4⟩
 have H4:=H3.ext e4
 have n94:=e4.ext_get n9
 have o4:=o3.ext e4
 have hlen:=Eh o4.in.x
 have hol:=H4.ol.len1
 rw [nO] at hol
 have hoF:=H4.oF
 refine Ad ?_
 simp only [show (at0 wb).add 6=(⟨wb,0+6,none⟩:Addr) from addr_add ..]
 refine Af H4.box (off:=0+6) (x:=so) rfl (Ea (by decide) ?_)
 simp only [←hol,mk_val]
 obtain ⟨mk,hmk⟩:∃mk,mk=mkB zs.length:=⟨_,rfl⟩
 rw [←hmk]
 obtain ⟨len,hln⟩:∃len,len=z.2.2.2.data.length:=⟨_,rfl⟩
 have sge:∀k,sd.blk k->w1.heap.size<=k:=λk hk=>o4.Dh hk
 have sb9:∀{W:World} {l:List UInt8},By W sd l->∀{c:Array Value},W.heap[b9]?=some (.cells c 32 (0,0))->∀k,sd.blk k->k≠b9:=λhs c hb=>Le hs hb (by decide)
 have nb9:¬sd.blk b9:=λhh=>Le o4.in n94 (by decide) b9 hh rfl
 have lsd:∀{W:World} {J:Sl->Wp},Upd sd.blk w4 W->J sd W->ld .sl (⟨b9,0+2,none⟩:Addr) J W:=λu hj=>Af (u.get n94 nb9) (off:=0+2) (x:=sd) rfl hj
 refine Ai (λ_ W=>Over w4 W w1.heap.size sd len mk) ?_ ?_
 ·refine Bo (λst W=>∃j:Nat,st=((j:Int),())/\j<=len/\Am W w1.heap.size sd 5 1 (bv (List.replicate j mk++z.2.2.2.data.drop j))/\Upd sd.blk w4 W) (λst _=>len-st.1.toNat) ⟨0,rfl,qI _,by simpa using o4,Upd.refl _ _⟩ ?_
  rintro _ W ⟨j,rfl,hj,oW,uW⟩
  dsimp only
  refine lsd uW (Ac (λhlt=>?_) λhge=>?_)
  ·have hlt:j<len:=by have:=jY hlt;omega
   refine lsd uW ?_
   have oW':Am W w1.heap.size sd 5 1 (((List.replicate j mk++z.2.2.2.data.drop j).map λb:UInt8=>(b.toNat:Int)).map (Cell.int .u8).val):=by rw [qZ];exact oW
   refine Cx8 (c:=.int .u8) (x:=(mk.toNat:Int)) oW' (by omega) (by omega) λW2 o2 u2 z2'=>?_
   rw [kH] at o2
   have hst:(((List.replicate j mk++z.2.2.2.data.drop j).map λb:UInt8=>(b.toNat:Int)).set j (mk.toNat:Int))=(List.replicate (j+1) mk++z.2.2.2.data.drop (j+1)).map λb:UInt8=>(b.toNat:Int):=by
    rw [←Ch9 j z.2.2.2.data (by omega),List.map_set]
   rw [hst,qZ] at o2
   rw [iE (by omega)]
   exact ⟨⟨j+1,by rw [show ((j:Int)+1)=((j+1:Nat):Int) by omega],hlt,o2,uW.trans u2⟩,by show len-((j:Int)+1).toNat<len-(j:Int).toNat;omega⟩
  ·have hge:¬j<len:=by have:=sK hge;omega
   obtain rfl:j=len:=by omega
   rw [vF (by omega),vP] at oW
   exact ⟨oW,uW⟩
 rintro _ w5 ⟨o5,u5⟩
 have hl5:=Eh o5.in.x
 rw [xG] at hl5
 refine lsd u5 (Ag λb47 w6 e6 n6 hb6 hz6=>?_)
 have u46:=u5.trans (Upd.Ae (S:=sd.blk) e6)
 have hb47:By w6 ⟨some (at0 b47),2,2⟩ [mk,mk]:=Um (l:=[mk,mk]) n6
 refine Cf7 (s:=sd) (l:=List.replicate len mk) (x:=⟨some (at0 b47),2,2⟩) (m:=[mk,mk]) (o5.ext e6) hb47.x (by show sd.len+2+(sd.len+2)/4+512<=2^48;omega) (by have:=u46.size;have:=e4.size;omega) λs7 w7 o7 hl7 u7 hb7 old7=>?_
 obtain ⟨bs7,top7⟩:=old7 sd _ (o5.ext e6).in (λ_ _ _=>mJ _)
 have z46:=u46.size
 refine Ai (λy W=>∃sf m,y=(sf,())/\m<=len+102/\Am W w1.heap.size sf 5 1 (bv (List.replicate m mk))/\By W sd (List.replicate len mk)/\(∀k,sf.blk k->sd.blk k\/w4.heap.size<=k)/\Upd sd.blk w4 W) ?_ ?_
 ·refine Bo (λst W=>∃sf m,st=(sf,())/\m<=len+102/\Am W w1.heap.size sf 5 1 (bv (List.replicate m mk))/\By W sd (List.replicate len mk)/\(∀k,sd.blk k->sf.blk k->top sd<=top sf)/\(∀k,sf.blk k->sd.blk k\/w4.heap.size<=k)/\Upd sd.blk w4 W) (λst _=>len+102-st.1.len)
   ⟨s7,len+2,rfl,by omega,by rw [show List.replicate (len+2) mk=List.replicate len mk++[mk,mk] by rw [←List.replicate_append_replicate];rfl];exact o7,bs7,top7,λk hk=>(hb7 k hk).imp id λhl=>by omega,u46.trans u7⟩ ?_
  rintro _ W ⟨sf,m,rfl,hm,oW,bW,tW,hbW,uW⟩
  dsimp only
  have hlm:=Eh oW.in.x
  rw [xG] at hlm
  refine lsd uW ?_
  rw [iE (by omega)]
  refine Ac (λhlt=>?_) λ_=>⟨sf,m,rfl,hm,oW,bW,hbW,uW⟩
  have hlt:m<len+100:=by have:=jY hlt;omega
  refine Ag λb54 w8 e8 n8 hb8 hz8=>?_
  have hb54:By w8 ⟨some (at0 b54),1,1⟩ [mk]:=Um (l:=[mk]) n8
  have zW:=uW.size
  refine Cf7 (s:=sf) (l:=List.replicate m mk) (x:=⟨some (at0 b54),1,1⟩) (m:=[mk]) (oW.ext e8) hb54.x (by show sf.len+1+(sf.len+1)/4+512<=2^48;omega) (by have:=e4.size;omega) λs9 w9 o9 hl9 u9 hb9 old9=>?_
  obtain ⟨bs9,top9⟩:=old9 sd _ (bW.ext e8) tW
  have hl9:s9.len=sf.len+1:=hl9
  refine ⟨⟨s9,m+1,rfl,by omega,by rw [xH];exact o9,bs9,top9,λk hk=>(hb9 k hk).elim (hbW k) λhl=>.inr (by omega),(uW.trans (Upd.Ae e8)).new u9 λk hk hh=>(hbW k hh).resolve_right (by omega)⟩,?_⟩
  show len+102-s9.len<len+102-sf.len
  omega
 rintro _ w8 ⟨sf,m,rfl,hm,o8,b8,hb8,u8⟩
 have z4:=e4.size
 have sdF:∀k,sd.blk k->¬F2 k:=hO.apart
 have sdR:∀k,sd.blk k->¬(R3 k/\∀o,w3.heap[k]?=some o->zty o=true):=λk hk hh=>(hY.new k hh.1).elim (λh'=>by have:=hR1 k h';have:=sge k hk;omega) λhl=>by have:=hO.data.in.Ci hk;omega
 have H8:=H4.off h1.wl u8 λk hk=>⟨sdF k hk,sdR k hk,sge k hk⟩
 refine Az λw9 e9 _=>Ad (Af (H8.ext e9).box (off:=0+6) (x:=so) rfl (lsd (u8.trans (Upd.Ae e9)) (Ag λb59 w10 e10 n10 hb10 hz10=>Bc (cell_of (off:=0+6) ((H8.ext e9).ext e10).box rfl) ?_)))
 have e810:=e9.trans e10
 have H10:=H8.ext e810
 have hbox:SlX w10 ⟨some (at0 b59),2,2⟩ 1 ([sd,sf].map slv):=(Dx.Jk (n:=2) (sz:=1) n10 rfl).x
 refine Ed ETx uTx (s:=so) (x:=⟨some (at0 b59),2,2⟩) (vs:=zs.map slv) (us:=[sd,sf].map slv) H10.ol hbox (λv hv=>by
  simp at hv;rcases hv with rfl|rfl<;>rfl) (by show (so.len+2+(so.len+2)/4+512)*24<=2^48;omega) (qI _) λs11 w11 o11 hl11 u11 hb11=>Ad ?_
 have soge:∀k,so.blk k->B0<=k:=h.bo
 have sow:∀k,so.blk k->k≠wb:=λk hk=>Le H10.ol.in H10.box (by decide) k hk
 have nwb11:=u11.get H10.box (λhh=>sow wb hh rfl)
 refine Dj nwb11 (by show 0+6<7;decide) λw12 u12 n12 z12=>?_
 have n12:w12.heap[wb]?=some (.cells (Rt d r sl s11) 158 (0,0)):=n12
 have lw1:=lt_of_heap h1.wl.box
 have b1w:b1≠wb:=Xi n1 h1.wl.box (by decide)
 have b1so:¬so.blk b1:=λhh=>Le h1.wl.ol.in n1 (by decide) b1 hh rfl
 have n1':w10.heap[b1]?=some (.cells (Gy x) 162 (0,0)):=e810.ext_get (u8.get (e4.ext_get n13) λhh=>Le o4.in (e4.ext_get n13) (by decide) b1 hh rfl)
 have n112:=u12.get (u11.get n1' b1so) b1w
 have z410:w4.heap.size<=w10.heap.size:=by have:=u8.size;have:=e810.size;omega
 refine Ai (λ_ W=>∃sl',W.heap[wb]?=some (.cells (Rt d r sl' s11) 158 (0,0))/\Upd (λk=>k=wb) w12 W/\(∀i s,i<2->sl' i=some s->Y6 w10 d r F2 (λk=>R3 k/\∀o,w3.heap[k]?=some o->zty o=true) s/\s.X=s.Y/\B0<=s.f/\B0<=s.g)/\(∀s t,sl' 0=some s->sl' 1=some t->s.f≠t.f/\s.g≠t.g)) ?_ ?_
 ·have hfile:=hO.file
  have hgile:=hY.file
  cases hzf:z.2.2.1 with
  |none =>
   rw [hzf] at hfile hgile
   rw [hfile,hgile]
   exact Ar (false,()) (Ac (λhh=>by cases hh) λ_=>⟨rfl,rfl⟩) (Ac (λhh=>by cases hh) λ_=>⟨sl,n12,Upd.refl _ _,λi s hi hs=>⟨H10.slo i s hi hs,h.eq i s hi hs⟩,H10.nf⟩)
  | some X =>
   rw [hzf] at hfile hgile
   obtain ⟨f,sm,hfo,hX,hfl,hsm,hsmd⟩:=hfile
   obtain ⟨g,sg,hgo,hG,hgl,hsg⟩:=hgile
   rw [hfo,hgo]
   refine Ar (true,()) (Ac (λ_=>⟨rfl,rfl⟩) λhh=>by cases hh) (Ac (λ_=>?_) λhh=>by cases hh)
   obtain ⟨i,hi,ei⟩:=Bj7 x.2.1
   simp only [ei]
   have lf:=lt_of_heap hX.at_.box
   have hsm2:∀k,sm.blk k->k<w2.heap.size:=λk hk=>hX.at_.mkr.Ci hk
   have f3:=hX.frame hY.upd (λhh=>by have:=hR1 _ hh;omega) (λk hk hh=>by have:=hR1 _ hh;have:=hsm k hk;omega) H2.r0 (λk hk=>.inl hk)
   have f4:=f3.ext e4
   have g4:=hG.ext e4
   have hsdlt:∀k,sd.blk k->k<w2.heap.size:=λk hk=>hO.data.in.Ci hk
   have f8:=f4.frame u8 (λhh=>Le o4.in f4.at_.box (by decide) f hh rfl) (λk hk hh=>hsmd k hh hk) (λhh=>by have:=sge 0 hh;omega) (λk hk=>.inl hk)
   have g8:=g4.frame (R':=λk=>R3 k/\∀o,w3.heap[k]?=some o->zty o=true) u8 (λhh=>by have:=hsdlt g hh;omega) (λk hk hh=>by have:=hsdlt k hh;have:=hsg k hk;omega) (λk hk=>.inl hk.1)
   have a1:¬(R3 f/\∀o,w3.heap[f]?=some o->zty o=true):=λhh=>(hY.new _ hh.1).elim (λh'=>by have:=hR1 _ h';omega) λhl=>by omega
   have a2:∀k,sm.blk k->¬(R3 k/\∀o,w3.heap[k]?=some o->zty o=true):=λk hk hh=>(hY.new _ hh.1).elim (λh'=>by have:=hR1 _ h';have:=hsm k hk;omega) λhl=>by have:=hsm2 k hk;omega
   have a3:¬F2 g:=λhh=>by have:=hO.disk.lt _ hh;omega
   have a4:∀k,sg.blk k->¬F2 k:=λk hk hh=>by have:=hO.disk.lt _ hh;have:=hsg k hk;omega
   have hS:Y6 w10 d r F2 (λk=>R3 k/\∀o,w3.heap[k]?=some o->zty o=true) ⟨f,g,X,X,sm,sg⟩:=⟨f8.ext e810,g8.ext e810,a1,a2,a3,a4⟩
   refine Az λw13 e13 _=>Af (e13.ext_get n112) (off:=1) (x:=x.2.1) rfl ?_
   simp only [ei]
   refine Ad (Ea ⟨by omega,by omega⟩ ?_)
   rw [Af9]
   refine Dj (e13.ext_get n12) (by show 0+2+i<7;omega) λw14 u14 n14 z14=>Az λw15 e15 _=>Af (e15.ext_get (u14.get (e13.ext_get n112) b1w)) (off:=1) (x:=x.2.1) rfl ?_
   simp only [ei]
   refine Ad (Ea ⟨by omega,by omega⟩ ?_)
   rw [Af9]
   refine Dj (e15.ext_get n14) (by rw [wU];show 0+4+i<7;omega) λw16 u16 n16 z16=>⟨slp sl i ⟨f,g,X,X,sm,sg⟩,?_,(((Upd.Ae e13).trans u14).trans (Upd.Ae e15)).trans u16,λj t hj ht=>?_,λt t' ht ht'=>?_⟩
   ·rw [n16]
    rcases (show i=0\/i=1 by omega) with rfl|rfl<;>rfl
   ·by_cases hji:j=i
    ·subst hji
     rw [Na] at ht;cases ht
     exact ⟨hS,rfl,by show B0<=f;omega,by show B0<=g;omega⟩
    ·rw [Xo hji] at ht
     exact ⟨H10.slo j t hj ht,h.eq j t hj ht⟩
   ·have old:∀j t,j<2->sl j=some t->t.f<w1.heap.size/\t.g<w1.heap.size:=λj t hj ht=>⟨lt_of_heap (h1.wl.slo j t hj ht).fs.at_.box,lt_of_heap (h1.wl.slo j t hj ht).gs.box⟩
    rcases (show i=0\/i=1 by omega) with rfl|rfl
    ·rw [Na] at ht;cases ht
     rw [Xo (by omega)] at ht'
     obtain ⟨a,b⟩:=old 1 t' (by omega) ht'
     exact ⟨by show f≠t'.f;omega,by show g≠t'.g;omega⟩
    ·rw [Na] at ht';cases ht'
     rw [Xo (by omega)] at ht
     obtain ⟨a,b⟩:=old 0 t (by omega) ht
     exact ⟨by show t.f≠f;omega,by show t.g≠g;omega⟩
 rintro _ w17 ⟨sl',n17,u17,hsl',hnf'⟩
 have hlen2:len<=1048576:=by
  have:=Av7 (g:=gG) (enc:=x.2.2.2.2.1) (limit:=x.2.2.2.2.2.1) (n:=x.2.2.1) h.wl.ds.ok
  rw [hln,hz];exact this
 have hend:Upd (λk=>k=wb\/so.blk k) w10 w17:=((u11.mono λk _ hk=>.inr hk).trans (u12.mono λk _ hk=>.inl hk)).trans (u17.mono λk _ hk=>.inl hk)
 have z1011:=u11.size
 obtain ⟨q,hq⟩:=H10.ze
 have HF:=H10.own (zs':=zs++[sd,sf]) hend (λk hk=>hk) (λhh=>hh.elim (λh'=>by have:=h.bw;omega) λh'=>by have:=h.bo 0 h';omega) n17 (λi s hi hs=>(hsl' i s hi hs).1) hnf' (by
  rw [oQ]
  exact (o11.upd u12 λk _ hk=>Le o11.in nwb11 (by decide) k hk).upd u17 λk _ hk hh=>Le (o11.in.upd u12 λk hk=>Le o11.in nwb11 (by decide) k hk) n12 (by decide) k hk hh)
  (λk hk=>(hb11 k hk).elim (H10.oF k) λhl=>⟨λhh=>by have:=H10.ds.lt k hh;omega,λhh=>by have:=H10.rs.lt k hh;omega⟩) ⟨q+1,by rw [oC,hq];show 2*q+2=_;omega⟩ (λi s hs=>?_)
 ·refine hK w17 _ _ _ sl' s11 (zs++[sd,sf]) ⟨HF.okR (by exact hO.disk.ok),λi s hi hs=>(hsl' i s hi hs).2,λk hk=>(hO.new k hk).elim (h.bF k) λhl=>by omega,λk hk=>(hY.new k hk.1).elim (h.bR k) λhl=>by omega,h.bw,λk hk=>(hb11 k hk).elim (h.bo k) λhl=>by omega⟩ (by rw [oC];rfl) ?_
  exact ((((u13.trans (Upd.Ae e4)).trans (u8.mono λk _ hk=>by have:=sge k hk;omega)).trans (Upd.Ae e810)).trans (hend.mono λk _ hk=>hk.elim (λh'=>by rw [h'];exact h.bw) λh'=>h.bo k h'))
 ·by_cases hi:i<zs.length
  ·rw [mZ hi] at hs
   exact H10.z i s hs
  ·rw [nC (by omega)] at hs
   have ev:(2*q)/2*2=2*q:=by omega
   match hi2:i-zs.length,hs with
   |0,hs =>
    have hs:some sd=some s:=hs
    cases hs
    refine ⟨⟨len,by omega,?_⟩,λk hk=>⟨sdF k hk,sdR k hk⟩⟩
    rw [show i/2*2=zs.length by omega,←hmk]
    exact b8.ext e810
   |1,hs =>
    have hs:some sf=some s:=hs
    cases hs
    refine ⟨⟨m,by omega,?_⟩,λk hk=>(hb8 k hk).elim (λh'=>⟨sdF k h',sdR k h'⟩) λhl=>⟨λhh=>by have:=hO.disk.lt k hh;omega,λhh=>by have:=hY.disk.lt k hh.1;omega⟩⟩
    rw [show i/2*2=zs.length by omega,←hmk]
    exact o8.in.ext e810
   |j+2,hs=>cases hs
end
end Dq
end
section
namespace Dq
open Go Go.Vx Dsk Cdc Trx Flp
section
variable {B0:Nat}{w w':World}{S F R F' R':Nat->Prop}{wb d r:Nat}{D E D' E':Dk}{N M N' M':Nat}{sl sl':Nat->Option Slo}{so:Sl}{zs:List Sl}{n:Nm}{s:Slo}{x:Cells.T c162}{data:List UInt8}{frows:List (Cells.T Dt)}{fl:List (Int×Ce)}{cb:xP}
def I9 (h:Wl w wb d r F R D E N M sl so zs) (hzn:zs.length<=2^40){K:Bool->Wp}(hK:K true w) :
  Aa prog 79 #[dU wb] rB K w:=by
 refine j79 ?_;unfold F79;have hol:=h.ol.len1;rw [nO] at hol;have l6:∀{J:Sl->Wp},J so w->nn (some (at0 wb)) (λp=>ld .sl (p.add 6) J) w:=λhj=>Ad (by
  rw [addr_add]
  exact Af h.box (off:=0+6) (x:=so) rfl hj)
 refine Ai (λ_ W=>w=W) ?_ (λ_ W e=>e▸hK);refine Bo (λst W=>∃i:Nat,st=((i:Int),())/\i<=zs.length/\w=W) (λst _=>zs.length-st.1.toNat) ⟨0,rfl,qI _,rfl⟩ ?_;rintro _ _ ⟨i,rfl,hi,rfl⟩;dsimp only;refine l6 (Ac (λhlt=>?_) λ_=>rfl);(have hlt:i<zs.length:=by have:=jY hlt;omega);obtain ⟨t,ht⟩:∃t,zs[i]?=some t:=⟨_,oP hlt⟩;obtain ⟨⟨m,hm,hb⟩,_⟩:=h.z i t ht;have htl:=Eh hb.x;rw [xG] at htl;have at_:∀{J:Sl->Wp},J t w->ix so.a so.len (i:Int) (λp=>ld .sl (p.add (scaled (Int.toNat (i:Int)) 1)) J) w:=λhj=>Nk (c:=.sl) (xs:=zs) h.ol.in.x (by omega) (by rw [kH];exact ht) λ_=>hj;have hmv:W64 ((W64 (Int.tdiv (i:Int) 2))*2)=((i/2*2:Nat):Int):=by
  have:Int.tdiv (i:Int) 2=((i/2:Nat):Int):=by rw [vN (by omega)];rfl
  rw [this,wrap64 (a:=((i/2:Nat):Int)) (by omega) (by omega),iE (by omega)];omega
 simp only [hmv,mk_val];refine Ai (λ_ W=>w=W) ?_ ?_;{refine Bo (λst W=>∃j:Nat,st=((j:Int),())/\j<=m/\w=W) (λst _=>m-st.1.toNat) ⟨0,rfl,qI _,rfl⟩ ?_;rintro _ _ ⟨j,rfl,hj,rfl⟩;dsimp only;refine l6 (at_ (Ac (λhlt2=>?_) λ_=>rfl));(have hlt2:j<m:=by have:=jY hlt2;omega);refine l6 (at_ (Lr hb (by omega) (b:=mkB (i/2*2)) (by rw [kH,List.getElem?_replicate,iK hlt2]) λp=>Ea (by decide) (Ea (by decide) (Ac (λhh=>by simp at hh) λ_=>?_))));rw [iE (by omega)];exact ⟨⟨j+1,by rw [show ((j:Int)+1)=((j+1:Nat):Int) by omega],hlt2,rfl⟩,by show m-((j:Int)+1).toNat<m-(j:Int).toNat;omega⟩};{rintro _ _ rfl;rw [iE (by omega)];exact ⟨⟨i+1,by rw [show ((i:Int)+1)=((i+1:Nat):Int) by omega],hlt,rfl⟩,by show zs.length-((i:Int)+1).toNat<zs.length-(i:Int).toNat;omega⟩}
def Bb3 (h:WB B0 w wb d r D N F R sl so zs) (hN:N+6020<=2^30) (hx:Kw w B0 x data frows fl cb) (hzn:zs.length<=2^28) (hB0:0<B0)
  {K:Bool->Wp} (hK:∀w' D' F' R' sl' so' zs',WB B0 w' wb d r D' (N+180) F' R' sl' so' zs'->zs'.length<=zs.length+2->Upd (λk=>B0<=k) w w'->K true w') :
  Aa prog 78 #[dU wb,.agg (Gy x)] rB K w:=by
 refine j78 (a1:=x) ?_
 unfold F78
 refine Ag λb1 w1 e1 n1 hb1 hz1=>?_
 have n1:w1.heap[b1]?=some (.cells (Gy x) 162 (0,0)):=n1
 have h1:=h.ext e1
 have x1:=hx.ext e1
 have hnm:=hx.nm
 have all:∀{J:Cells.T c162->Wp},J x w1->lds c162 (at0 b1) J w1:=λhj=>Dp (x:=x) n1 (λj v hv=>by rw [kY,←kQ];exact hv) hj
 have kd:∀{J:Int->Wp},J x.1 w1->ld (.int .i64) (at0 b1) J w1:=λhj=>Af n1 (off:=0) (x:=x.1) rfl hj
 refine kd (Ac (λ_=>all (Bb5 h1 (by omega) x1 hzn hB0 λw2 D2 F2 R2 sl2 so2 zs2 H2 hz2 u2=>hK _ _ _ _ _ _ _ (H2.mono (by omega)) (by omega) ((Upd.Ae e1).trans u2))) λ_=>?_)
 refine Ar (decide (2<=x.1/\x.1<=5),()) (kd (Ac (λh0=>kd ⟨Di ?_,rfl⟩) λh0=>⟨Di ?_,rfl⟩)) (Ac (λ_=>?_) λ_=>?_)
 ·have h0:=jY h0
  simp [h0]
 ·have h0:¬2<=x.1:=sK h0
  simp [h0]
 ·exact all (Bb6 h1 hN x1 λw2 D2 F2 R2 sl2 H2 u2=>hK _ _ _ _ _ _ _ H2 (by omega) ((Upd.Ae e1).trans u2))
 refine kd (Ac (λ_=>?_) λ_=>kd (Ac (λ_=>?_) λ_=>?_))
 ·
  refine Az λw2 e2 _=>Ad (Nv (h1.ext e2).wl (Ad ?_))
  have h2:=h1.ext e2
  simp only [show (at0 wb).add 1=(⟨wb,0+1,none⟩:Addr) from addr_add ..]
  refine Af h2.wl.box (off:=0+1) (x:=some (at0 r)) rfl (Bo6 h2.wl.ds (by omega) h2.wl.laid λF3 w3 A3 u3 hF3=>?_)
  have H3:=h2.wl.Ac8 u3 A3 hF3
  refine Bc (cell_of (off:=0+1) H3.box rfl) (Bb1 H3.rs (by omega) λR4 w4 A4 u4 hR4=>?_)
  rw [show ((O1 D).2==(O1 D).2)=true by simp]
  obtain ⟨HB,uu⟩:=h2.both H3 u3 hF3 u4 A4 hR4
  exact hK _ _ _ _ _ _ _ (HB.mono (by omega)) (by omega) ((Upd.Ae (e1.trans e2)).trans uu)
 ·
  refine Az λw2 e2 _=>Af (e2.ext_get n1) (off:=2) (x:=x.2.2.1) rfl (Af (e2.ext_get n1) (off:=2) (x:=x.2.2.1) rfl (Qh (by omega) λw3 e3=>Bc (cell_of (off:=2) ((e2.trans e3).ext_get n1) rfl) (Ua (by omega) (Pq u4b ?_))))
  rw [show (userName x.2.2.1==userName x.2.2.1)=true by simp]
  exact hK _ _ _ _ _ _ _ (((h1.ext e2).ext e3).mono (by omega)) (by omega) (Upd.Ae ((e1.trans e2).trans e3))
 ·exact all (At4 h1 (by omega) x1 λw2 D2 F2 R2 H2 u2=>hK _ _ _ _ _ _ _ (H2.mono (by omega)) (by omega) ((Upd.Ae e1).trans u2))
end
end Dq
end
section
namespace Dq
open Go Go.Vx Dsk Cdc Trx Flp
section
variable {B0:Nat}{w w':World}{S F R F' R':Nat->Prop}{wb d r:Nat}{D E D' E':Dk}{N M N' M':Nat}{sl sl':Nat->Option Slo}{so:Sl}{zs:List Sl}{n:Nm}{s:Slo}{x:Cells.T c162}{data:List UInt8}{frows:List (Cells.T Dt)}{fl:List (Int×Ce)}{cb:xP}
abbrev Cw2:Array Value:=#[.pointer none,.pointer none,.pointer none,.pointer none,.pointer none,.pointer none,.slice none 0 0]
def At5 (hb:w.heap[wb]?=some (.cells Cw2 158 (0,0))) (hl:Jc w) (hwb:0<wb){space:Int}{K:Bool->Wp}(hK1:∀w',(∃c,w'.heap[wb]?=some (.cells c 158 (0,0))/\c[0]?=some (.pointer none))->Upd (λk=>wb<=k) w w'->K true w')
  (hK2:∀w' d r F R,WB wb w' wb d r (Rx space) 0 F R (λ_=>none) ⟨none,0,0⟩ []->Upd (λk=>wb<=k) w w'->K true w') :
  Aa prog 77 #[dU wb,vI space] rB K w:=by refine j77 ?_;unfold F77;have lw:=lt_of_heap hb;have hp:0<w.heap.size:=(by omega);by_cases hs:0<=space/\space<=1048576;{refine newS hs.1 hs.2 hp λd F w1 A1 e1 hF=>Ai3 (λhh=>by omega) λ_ _ r w2 A2 e2 hr=>Ad ?_;have b1:=e2.ext_get (e1.ext_get hb);refine Dj b1 (by show 0<7;decide) λw3 u3 n3 z3=>Ad ?_;rw [addr_add];refine Dj n3 (by show 0+1<7;decide) λw4 u4 n4 z4=>Pq u4b ?_;have n4:w4.heap[wb]?=some (.cells (Rt d r (λ_=>none) ⟨none,0,0⟩) 158 (0,0)):=n4;refine Ac (λ_=>?_) λhh=>(by cases hh);refine Yk ?_ uE;refine Pq u4b ?_;have z1:=e1.size;have u24:Upd (λk=>k=wb) w2 w4:=u3.trans u4;have hFl:∀k,F k->k<w1.heap.size:=A1.lt;(have A4:DS w4 d F (Rx space) 0:=(A1.ext e2).frame u24 λk hk hh=>by have:=hF k hk;omega);have R4:RIn w4 r (λk=>k=r) (Rx space):=A2.frame u24 λk hk hh=>(by omega);have hrw:=A2.lt r rfl;refine hK2 w4 d r F (λk=>k=r/\∀o,w4.heap[k]?=some o->zty o=true) ⟨⟨A4,⟨R4.thin,A1.ok⟩,λk hk hh=>by have:=hFl k hk;have h2:=hh.1;omega,λk hk=>hk.2,λhh=>by have:=hh.1;omega,n4,λhh=>by have:=hF wb hh;omega,λhh=>by have:=hh.1;omega,(λi s hi hs=>by cases hs),(λs t hs=>by cases hs),Am.nil _ _ _ _,(λk hk=>absurd hk Du),⟨0,rfl⟩,(λi s hs=>by simp at hs),((hl.ext e1).ext e2).upd u24 (by omega)⟩,(λi s hi hs=>by cases hs),(λk hk=>by have:=hF k hk;omega),(λk hk=>by have:=hk.1;omega),mJ _,(λk hk=>absurd hk Du)⟩ ((Upd.Ae (e1.trans e2)).trans (u24.mono λk _ hk=>by omega))};{have hbad:space<0\/1048576<space:=(by omega);refine j17 ?_;unfold F17;refine Ar (true,()) (Ac (λ_=>⟨rfl,rfl⟩) λh=>⟨by rw [uX (by have:=sK h;omega)],rfl⟩) (Ac (λ_=>?_) λhh=>by cases hh);refine Ag λb3 w1 e1 n1 hb3 hz3=>Ai3 (λ_=>Ad ?_) λh0 h1=>(by omega);have b1:=e1.ext_get hb;refine Dj b1 (by show 0<7;decide) λw3 u3 n3 z3=>Ad ?_;rw [addr_add];refine Dj n3 (by show 0+1<7;decide) λw4 u4 n4 z4=>Pq u4b ?_;refine Ac (λ_=>?_) λhh=>(by cases hh);refine Oi (Pq u4b ?_) uE;exact hK1 w4 ⟨_,n4,rfl⟩ ((Upd.Ae e1).trans ((u3.trans u4).mono λk _ hk=>by omega))}
def Bo4 (h:WB B0 w wb d r D N F R sl so zs) (hN:N+6020<=2^30){K:Bool->Wp}(hK:∀w',Upd (λk=>B0<=k) w w'->K true w') :
  Aa prog 80 #[dU wb] rB K w:=by
 refine j80 ?_;unfold F80;refine Ad (Nv h.wl (Au9 h.wl.ds λF1 w1 A1 u1 hF1=>Ad ?_));have H1:=h.wl.Ac8 u1 A1 hF1;refine Rq H1 ?_;obtain ⟨sf,sl1,sa,sq,ds,es,qr,ql,B⟩:=H1.rs.at_;refine Xd B λw2 sq' qr' ql' B2 u2=>?_;obtain ⟨HB,uA⟩:=h.both H1 u1 hF1 (u2.mono λk _ hk=>by rw [hk];exact B.fr) ⟨B2.in,A1.ok⟩ (λk hk=>.inl hk);clear H1 B B2;have nilF:∀{W:World} {P:Nat->Prop},Hu W P ⟨none,0,0⟩ [] []:=⟨⟨.inl ⟨rfl,rfl⟩⟩,.inl rfl,rfl,λi r f hr=>by simp at hr⟩;refine Ad (Nv HB.wl (Co8 HB.wl.ds (x:=⟨none,0,0⟩) (rows:=[]) (fl:=[]) nilF (by decide) λF3 w3 A3 u3 hF3=>Ad ?_));have H3:=HB.wl.Ac8 u3 A3 hF3;refine Rq H3 ?_;obtain ⟨sf,sl1,sa,sq,ds,es,qr,ql,B⟩:=H3.rs.at_;refine Ab0 B (x:=⟨none,0,0⟩) (rows:=[]) (fl:=[]) nilF (by decide) λw4 R4 B4 u4 hR4=>?_;obtain ⟨HC,uB⟩:=HB.both H3 u3 hF3 u4 ⟨B4,A3.ok⟩ hR4;refine L8 HC (by omega) λw5 e5=>Ac (λhh=>by cases hh) λ_=>Ad (Rq (HC.ext e5).wl ?_);have HD:=HC.ext e5;obtain ⟨sf,sl1,sa,sq,ds,es,qr,ql,B⟩:=HD.wl.rs.at_;refine Uu B HD.wl.rs.ok (by omega) λt w6 o6 e6=>?_;obtain ⟨L,hL⟩:∃L,L=if (plan (restart D) []).down=true then [] else Dsk.names (plan (restart D) []).seen:=⟨_,rfl⟩;have hok:=HD.wl.ds.ok;rw [←hL] at o6;have l1:=o6.len1;rw [nO] at l1;have hLl:L.length<=16/\∀m∈L,m.size<2^62:=by
  rw [hL];split
  ·exact ⟨by simp,λm hm=>by cases hm⟩
  ·refine ⟨hok.seen.names.2,λm hm=>?_⟩
   have h1:=(hok.seen.names.1.2 m).1 hm
   cases hi:(plan (restart D) []).seen m with
   |none=>rw [hi] at h1;cases h1
   |some i =>
    have:=hok.seen.okn m i hi
    unfold Bl at this
    simp only [jA,pF] at this
    omega
 have HE:=HD.ext e6;have u06:Upd (λk=>B0<=k) w w6:=((uA.trans uB).trans (Upd.Ae e5)).trans (Upd.Ae e6);refine Ai (λ_ W=>Upd (λk=>B0<=k) w W) ?_ λ_ W u=>hK W u;refine Bo (λst W=>∃(j:Nat) (D':Dk) (F' R':Nat->Prop),st=((j:Int),())/\j<=L.length/\WB B0 W wb d r D' (N+4+2*j) F' R' sl so zs/\Qw W w5.heap.size t L/\(∀k,t.blk k->¬F' k/\¬R' k)/\Upd (λk=>B0<=k) w W) (λst _=>L.length-st.1.toNat)
  ⟨0,_,_,_,rfl,qI _,HE.mono (by omega),o6,λk hk=>⟨λhh=>by have:=HD.wl.ds.lt k hh;have:=o6.Dh hk;omega,λhh=>by have:=HD.wl.rs.lt k hh;have:=o6.Dh hk;omega⟩,u06⟩ ?_
 rintro _ W ⟨j,D6,F6,R6,rfl,hj,HW,oW,hoW,uW⟩;dsimp only;refine Ac (λhlt=>?_) λ_=>uW;(have hlt:j<L.length:=by have:=jY hlt;omega);obtain ⟨y,hy⟩:∃y,L[j]?=some y:=⟨_,oP hlt⟩;refine Nk (c:=.str) (xs:=L) oW.in.x (by omega) (by rw [kH];exact hy) λ_=>L6 HW (by omega) (hLl.2 y (lU hy)) λW2 D7 F7 R7 H7 u7 hF7 hR7=>Ac (λhh=>by cases hh) λ_=>?_;rw [iE (by omega)];have hst:∀k,t.blk k->k<W.heap.size:=λk hk=>oW.in.Ci hk;exact ⟨⟨j+1,D7,F7,R7,by rw [show ((j:Int)+1)=((j+1:Nat):Int) by omega],hlt,H7.mono (by omega),oW.upd u7 (λk _ hk hh=>hh.elim (hoW k hk).1 (hoW k hk).2),λk hk=>⟨λhh=>(hF7 k hh).elim (hoW k hk).1 λhl=>by have:=hst k hk;omega,λhh=>(hR7 k hh).elim (hoW k hk).2 λhl=>by have:=hst k hk;omega⟩,uW.trans (u7.mono λk _ hk=>hk.elim (HW.bF k) (HW.bR k))⟩,by show L.length-((j:Int)+1).toNat<L.length-(j:Int).toNat;omega⟩
end
end Dq
end
section
namespace Dq
open Go Go.Vx Dsk Cdc Trx Flp
structure Og (w:World) (B0:Nat) (ss:Sl) (rows:List (Cells.T c162)):Prop where
 row:SlX w ss 11 (flat c162 rows)
 lie:Lie (λk=>k<B0) ss
 len:rows.length<=1048576
 at_:∀(i:Nat) r,rows[i]?=some r->∃data frows fl cb,Kw w B0 r data frows fl cb
section
variable {B0:Nat}{w w':World}{S F R F' R':Nat->Prop}{wb d r:Nat}{D E D' E':Dk}{N M N' M':Nat}{sl sl':Nat->Option Slo}{so:Sl}{zs:List Sl}{ss:Sl}{rows:List (Cells.T c162)}
def Og.upd (h:Og w B0 ss rows) (u:Upd S w w') (hS:∀k,S k->B0<=k):Og w' B0 ss rows :=
 ⟨SlX.Yd h.row h.lie u λk hk hh=>by have:=hS k hh;omega,h.lie,h.len,λi r hr=>let ⟨a,b,c,e,g⟩:=h.at_ i r hr;⟨a,b,c,e,g.upd u hS⟩⟩
def Kw.mono {B1:Nat}{x:Cells.T c162}{data:List UInt8}{frows:List (Cells.T Dt)}{fl:List (Int×Ce)}{cb:xP}(h:Kw w B0 x data frows fl cb) (hb:B0<=B1):Kw w B1 x data frows fl cb :=
 ⟨h.nm,h.ot,h.dt,h.dl.imp id λhh k hk=>mP (hh k hk) hb,h.dn,h.ft.mono λk hk=>mP hk hb,h.fn,h.ct,h.cl.imp id λhh k hk=>mP (hh k hk) hb,h.cn⟩
def Og.mono {B1:Nat}(h:Og w B0 ss rows) (hb:B0<=B1):Og w B1 ss rows :=
 ⟨h.row,h.lie.imp id λhh k hk=>mP (hh k hk) hb,h.len,λi r hr=>let ⟨a,b,c,e,g⟩:=h.at_ i r hr;⟨a,b,c,e,g.mono hb⟩⟩
def Be1 (hl:Jc w) (h:Og w w.heap.size ss rows){space lo hi:Int}{K:Bool->Wp}(hK:∀w',Upd (λk=>w.heap.size<=k) w w'->K true w') :
  Aa prog 44 #[.agg #[vI space,ss.v],vI lo,vI hi] rB K w:=by
 refine j44 (a0:=(space,ss,())) ?_;unfold F44;(have hp:0<w.heap.size:=by obtain ⟨c,t,fr,h,_⟩:=hl;exact lt_of_heap h);refine Ag λb1 w1 e1 n1 hb1 hz1=>Ag λb2 w2 e2 n2 hb2 hz2=>?_;have m1:=e2.ext_get n1;have n2:w2.heap[b2]?=some (.cells Cw2 158 (0,0)):=n2;have e12:=e1.trans e2;have h2:Og w2 b2 ss rows:=(h.upd e12 λk hk=>hk.elim).mono (by omega);have hrl:rows.length=ss.len:=by
  have:=SlX.Py (cs:=c162) h2.row (by decide)
  exact this
 have upw:∀{W:World},Upd (λk=>b2<=k) w2 W->Upd (λk=>w.heap.size<=k) w W:=λu=>(Upd.Ae e12).trans (u.mono λk _ hk=>by omega);have g1:∀{W:World},Upd (λk=>b2<=k) w2 W->W.heap[b1]?=some (.cells #[vI space,.slice ss.a ss.len ss.cap] 81 (0,0)):=λu=>u.get m1 (by omega);refine Ai (λy W=>y=(false,())/\Upd (λk=>b2<=k) w2 W/\((∃c,W.heap[b2]?=some (.cells c 158 (0,0))/\c[0]?=some (.pointer none))\/∃d r F R,WB b2 W b2 d r (Rx space) 0 F R (λ_=>none) ⟨none,0,0⟩ [])) ?_ ?_;{refine Bu2 (hl.ext e12) λw3 e3=>Ac (λhh=>by cases hh) λ_=>?_;refine Af (e3.ext_get m1) (off:=0) (x:=space) rfl (At5 (e3.ext_get n2) ((hl.ext e12).ext e3) (by omega) (λw4 hc u4=>⟨rfl,(Upd.Ae e3).trans u4,.inl hc⟩) λw4 d r F R H4 u4=>⟨rfl,(Upd.Ae e3).trans u4,.inr ⟨d,r,F,R,H4⟩⟩)};rintro _ w4 ⟨rfl,u4,hcase⟩;refine Ac (λhh=>by cases hh) λ_=>Ad ?_;rcases hcase with ⟨c,hc,hc0⟩|⟨d,r,F,R,H4⟩;{exact Af hc (off:=0) (x:=none) hc0 (Ac (λ_=>hK _ (upw u4)) λhh=>by cases hh)};refine Nv H4.wl (Ac (λhh=>by cases hh) λ_=>?_);have h4:=h2.upd u4 λk hk=>hk;refine Ai (λ_ W=>∃D' F' R' sl' so' zs',WB b2 W b2 d r D' (180*rows.length) F' R' sl' so' zs'/\zs'.length<=2*rows.length/\Upd (λk=>b2<=k) w2 W) ?_ ?_
 ·refine Bo (λst W=>∃(i:Nat) (D':Dk) (F' R':Nat->Prop) (sl':Nat->Option Slo) (so':Sl) (zs':List Sl),st=((i:Int),())/\i<=rows.length/\WB b2 W b2 d r D' (180*i) F' R' sl' so' zs'/\zs'.length<=2*i/\Upd (λk=>b2<=k) w2 W) (λst _=>rows.length-st.1.toNat)
   ⟨0,_,_,_,_,_,_,rfl,qI _,H4,qI _,u4⟩ ?_
  rintro _ W ⟨i,D1,F1,R1,sl1,so1,zs1,rfl,hi,HW,hzs,uW⟩;dsimp only;have hln:=h.len;refine Af (g1 uW) (off:=1) (x:=ss) rfl (Ac (λhlt=>?_) λhge=>?_);{(have hlt:i<rows.length:=by have:=jY hlt;omega);obtain ⟨x,hx⟩:∃x,rows[i]?=some x:=⟨_,oP hlt⟩;(have hx':rows[Int.toNat (i:Int)]?=some x:=by rw [kH];exact hx);have hW:=h2.upd uW λk hk=>hk;obtain ⟨t,tW⟩:=SlX.Bl7 hW.row (by omega);obtain ⟨data,frows,fl,cb,hst⟩:=hW.at_ i x hx;refine Af (g1 uW) (off:=1) (x:=ss) rfl (Xv (cs:=c162) tW (by decide) (by omega) hx' λ_=>Bb3 HW (by omega) hst (by omega) (by omega) λw5 D5 F5 R5 sl5 so5 zs5 H5 hz5 u5=>?_);have u25:=uW.trans u5;have h5:=h2.upd u25 λk hk=>hk;obtain ⟨t5,tW5⟩:=SlX.Bl7 h5.row (by omega);refine Af (g1 u25) (off:=1) (x:=ss) rfl (Ky (c:=.int .i64) (cs:=c162) (y:=x.1) tW5 (by omega) hx' rfl λ_=>?_);have ww:∀{J:Bool->Wp},J true w5->Aa prog 79 #[dU b2] rB J w5:=λhj=>I9 H5.wl (by omega) hj;refine Ar (false,()) (Ac (λhh=>by cases hh) λ_=>Ac (λ_=>ww ⟨rfl,rfl⟩) λ_=>Ac (λ_=>ww ⟨rfl,rfl⟩) λ_=>⟨rfl,rfl⟩) (Ac (λhh=>by cases hh) λ_=>?_);rw [iE (by omega)];exact ⟨⟨i+1,D5,F5,R5,sl5,so5,zs5,by rw [show ((i:Int)+1)=((i+1:Nat):Int) by omega],hlt,H5.mono (by omega),by omega,u25⟩,by show rows.length-((i:Int)+1).toNat<rows.length-(i:Int).toNat;omega⟩};{(have hge:¬i<rows.length:=by have:=sK hge;omega);obtain rfl:i=rows.length:=(by omega);exact ⟨D1,F1,R1,sl1,so1,zs1,HW,hzs,uW⟩}
 rintro _ W ⟨D1,F1,R1,sl1,so1,zs1,HW,hzs,uW⟩;have hln:=h.len;refine I9 HW.wl (by omega) (Ac (λ_=>Bo4 HW (by omega) λw' u'=>hK w' (upw (uW.trans u'))) λhh=>by cases hh)
end
end Dq
end
section
namespace Dq
open Go Go.Vx Dsk Cdc Trx Flp
section
variable {w w':World}{ss:Sl}{rows:List (Cells.T c162)}
def Bk9 (hl:Jc w) (h:Og w w.heap.size ss rows){space lo hi:Int}{W:World}(e:Ext w W){K:Bool->Wp}(hK:iF w (K true)) :
  Aa prog 44 #[.agg #[vI space,ss.v],vI lo,vI hi] rB K W :=
 Be1 (hl.ext e) ((h.upd e λk hk=>hk.elim).mono e.size) λw' u=>hK w' (e.step u λk hk=>mM e.size hk)
abbrev plC (space:Int) (ss:Sl):Cells.T c81:=(space,ss,())
def Be0 (hl:Jc w) (h:Og w w.heap.size ss rows){space:Int}{K:Bool->Wp}(hK:iF w (K true)) :
  Aa prog 9 #[.agg #[vI space,ss.v]] rB K w:=by refine j9 (a0:=(space,ss,())) ?_;unfold F9;refine Ag λb1 w1 e1 n1 hb1 hz1=>?_;have ls:∀{W:World} {J:aJ->Wp},Ext w1 W->J (space,ss,()) W->lds c81 (at0 b1) J W:=λe hj=>Dp (x:=plC space ss) (e.ext_get n1) (λj v hv=>by rw [kY,←kQ];exact hv) hj;refine ls (Ext.refl _) (Bk9 (hl.ext e1) ((h.upd e1 λk hk=>hk.elim).mono e1.size) (Ext.refl _) λw2 e2=>Ac (λ_=>?_) λhh=>by cases hh);exact ls e2 (Bk9 (hl.ext e1) ((h.upd e1 λk hk=>hk.elim).mono e1.size) e2 λw3 e3=>hK w3 (e1.trans e3))
end
end Dq
end
end Go.Proofs.YtmooldhpiopcgaaGreatDoor
namespace Go.Vx
open Go Go.ChangeShapes
def cell_spot {w:World}{a:Addr}{v:Value}(h:w.cell? a=some v):a.spot=none/\∃c t fr,w.heap[a.block]?=some (.cells c t fr)/\c[a.off]?=some v:=by unfold World.cell? at h;split at h;{rename_i c t fr hh;split at h;{cases h};{rename_i hs;exact ⟨by cases hsp:a.spot with|none=>rfl|some _=>rw [hsp] at hs;exact absurd rfl hs,c,t,fr,hh,h⟩}};{cases h}
def Ba9 (a:Addr) (n:Nat) (h:a.spot=none):a.add n=⟨a.block,a.off+n,none⟩:=by obtain ⟨b,o,s⟩:=a;simp only at h;subst h;exact addr_add b o n
def Tj {w:World}{base:Nat}{a:Addr}{n:Nat}{r:List Value}(h:w.cells? base a n=some r):r.length=n/\∀j,j<n->w.cell? (a.add j)=r[j]?:=by unfold World.cells? at h;split at h;{have hl:=mapM_some_length h;rw [List.length_range] at hl;refine ⟨hl,λj hj=>?_⟩;exact mapM_some_get h j j (by simp [hj])};{cases h}
section
variable {H:Type}{enc:TypeId×Value->H}{P:Program}{W:World}{base fuel:Nat}{held:Bool}
def L9 {e:TypeId}{d:DataW H}{n:Nat}(hn:n∈d.weights P e):∀l:List (DataW H),d∈l->n∈DataW.weightsAll P e l
 |[],h=>by cases h
 |x::r,h=>by
  simp only [DataW.weightsAll,jV]
  rcases iL.1 h with rfl|h
  ·exact .inl hn
  ·exact .inr (L9 hn r h)
def Ae3 {t e:TypeId} {sz:Nat} {cs:List Value} {x:DataW H×List MemPlace} (ht:P.underlying t=some (.slice e)) (hsz:P.cellsOf e=sz) (hpos:0<sz)
  (h:DataW.trod enc P W base (λ_=>true) held fuel t cs=some x) (hw:∀n∈x.1.weights P t,n<=reachBytes) :
  ∃(s:Sl) (rows:List (List Value)),cs=[.slice s.a s.len s.cap]/\SlX W s sz rows.flatten/\rows.length=s.len/\s.len*P.bytesOf e<=reachBytes/\(s.len=0\/∃els rst,x.1=.slice els rst/\els.length=s.len) /\
   ∀r∈rows,r.length=sz/\∃n y,DataW.trod enc P W base (λ_=>true) held n e r=some y/\(∀k∈y.1.weights P e,k<=reachBytes)/\∃els rst,x.1=.slice els rst/\y.1∈els:=by
 rcases DataW.trod_slice ht h with ⟨rfl,rfl⟩|⟨a,len,cap,elems,rest,n,_,rfl,rfl,hb,hl,hm,hlen,hel,hsp,_⟩;{exact ⟨⟨none,0,0⟩,[],rfl,⟨.inl ⟨rfl,rfl⟩⟩,rfl,by simp,.inl rfl,λr hr=>by cases hr⟩};obtain ⟨hrl,hre⟩:=hsp rfl;subst hsz;have each:∀i,i<len->∃r y,W.cells? base (a.add (i*P.cellsOf e)) (P.cellsOf e)=some r/\elems[i]?=some y/\DataW.trod enc P W base (λ_=>true) held n e r=some y:=by
  intro i hi
  have h1:=hel i hi
  rw [oP (by omega)] at h1
  obtain ⟨r,h2,h3⟩:=xI.1 h1
  exact ⟨r,_,h2,oP (by omega),h3⟩
 have wn:(elems.length+rest.length)*P.bytesOf e<=reachBytes:=by
  have:=hw ((elems.length+rest.length)*P.bytesOf e) (by simp [DataW.weights,ht])
  exact this
 refine ⟨⟨some a,len,cap⟩,(List.range len).map λi=>(W.cells? base (a.add (i*P.cellsOf e)) (P.cellsOf e)).getD [],rfl,?_,by simp,?_,.inr ⟨_,_,rfl,by simp [hlen]⟩,?_⟩
 ·by_cases h0:len=0;{subst h0;exact ⟨.inl ⟨rfl,rfl⟩⟩};have last:∃v,W.cell? ((a.add ((cap-1)*P.cellsOf e)).add (P.cellsOf e-1))=some v:=by
   have fin:∀r,W.cells? base (a.add ((cap-1)*P.cellsOf e)) (P.cellsOf e)=some r->∃v,W.cell? ((a.add ((cap-1)*P.cellsOf e)).add (P.cellsOf e-1))=some v:=by
    intro r hr
    obtain ⟨g1,g2⟩:=Tj hr
    rw [g2 _ (by omega)]
    exact ⟨_,oP (by omega)⟩
   by_cases hcl:cap-1<len
   ·obtain ⟨r,_,h1,_⟩:=each (cap-1) hcl
    exact fin r h1
   ·have h1:=hre (cap-1-len) (by omega)
    rw [show len+(cap-1-len)=cap-1 by omega] at h1
    rw [oP (by omega)] at h1
    obtain ⟨r,h2,_⟩:=xI.1 h1
    exact fin r h2
  obtain ⟨v,hv⟩:=last;have hspot:a.spot=none:=by
   obtain ⟨r,_,h1,_⟩:=each 0 (by omega)
   obtain ⟨g1,g2⟩:=Tj h1
   have h2:=g2 0 (by omega)
   rw [mW,oP (by omega)] at h2
   exact (cell_spot h2).1
  rw [Ba9 a _ hspot,addr_add] at hv;obtain ⟨_,c,tt,fr,hh,hc⟩:=cell_spot hv;simp only at hh hc;have hlast:=(iY.1 hc).1;(have hcap:(cap-1)*P.cellsOf e+P.cellsOf e=cap*P.cellsOf e:=by rw [←oD];congr 1;omega);have rowlen:∀i,i<len->((W.cells? base (a.add (i*P.cellsOf e)) (P.cellsOf e)).getD []).length=P.cellsOf e:=by
   intro i hi
   obtain ⟨r,_,h1,_⟩:=each i hi
   rw [h1];exact (Tj h1).1
  refine ⟨.inr ⟨tt,?_,hl,.inr ⟨a.block,a.off,c,fr,?_,hh,by simp only;omega,?_⟩⟩⟩
  ·have key:∀(k:Nat),k<=len->(((List.range k).map λi=>(W.cells? base (a.add (i*P.cellsOf e)) (P.cellsOf e)).getD []).flatten).length=k*P.cellsOf e:=by
    intro k
    induction k with
    |zero=>intro _;simp
    |succ k ih=>intro hk;rw [lZ,oQ,xJ,oC,ih (by omega),oD];simp [rowlen k (by omega)]
   exact key len (mJ _)
  {obtain ⟨b,o,s⟩:=a;simp only at hspot;subst hspot;rfl}
  ·have key:∀(k:Nat),k<=len->∀i v,(((List.range k).map λi=>(W.cells? base (a.add (i*P.cellsOf e)) (P.cellsOf e)).getD []).flatten)[i]?=some v->c[a.off+i]?=some v:=by
    intro k
    induction k with
    |zero=>intro _ i v hi;simp at hi
    | succ k ih =>
     intro hk i v hi;have hkl:(((List.range k).map λi=>(W.cells? base (a.add (i*P.cellsOf e)) (P.cellsOf e)).getD []).flatten).length=k*P.cellsOf e:=by
      have key2:∀(k:Nat),k<=len->(((List.range k).map λi=>(W.cells? base (a.add (i*P.cellsOf e)) (P.cellsOf e)).getD []).flatten).length=k*P.cellsOf e:=by
       intro k
       induction k with
       |zero=>intro _;simp
       |succ k ih =>
        intro hk
        rw [lZ,oQ,xJ,oC,ih (by omega),oD]
        simp [rowlen k (by omega)]
      exact key2 k (by omega)
     rw [lZ,oQ,xJ] at hi;by_cases hik:i<k*P.cellsOf e;{rw [mZ (by omega)] at hi;exact ih (by omega) i v hi};{rw [nC (by omega),hkl] at hi;simp only [kV,oU,xK,List.flatten_nil,vP] at hi;obtain ⟨r,_,h1,_⟩:=each k (by omega);rw [h1] at hi;simp only [jM] at hi;obtain ⟨g1,g2⟩:=Tj h1;have hj:=(lY.1 hi).1;have:=g2 (i-k*P.cellsOf e) (by omega);rw [hi,Ba9 a _ hspot,addr_add] at this;obtain ⟨_,c',t',fr',hh',hc'⟩:=cell_spot this;simp only at hh' hc';rw [hh] at hh';cases hh';rw [show a.off+i=a.off+k*P.cellsOf e+(i-k*P.cellsOf e) by omega];exact hc'}
   exact key len (mJ _)
 {have:len*P.bytesOf e<=(elems.length+rest.length)*P.bytesOf e:=mY _ (by omega);exact mM this wn};{intro r hr;obtain ⟨i,hi,rfl⟩:=nT.1 hr;have hi:=jK.1 hi;obtain ⟨r,y,h1,h2,h3⟩:=each i hi;rw [h1];refine ⟨(Tj h1).1,n,y,h3,λk hk=>hw k ?_,_,_,rfl,nT.2 ⟨y,lU h2,rfl⟩⟩;simp only [DataW.weights,ht,iL,jV];exact .inr (.inl (L9 hk _ (nT.2 ⟨y,lU h2,rfl⟩)))}
def Ak7 {t e:TypeId}{sz:Nat}{cs:List Value}{x:DataW H×List MemPlace}(ht:P.underlying t=some (.slice e)) (hsz:P.cellsOf e=sz) (hpos:0<sz)
  (h:DataW.trod enc P W base (λ_=>true) held fuel t cs=some x) (hw:∀n∈x.1.weights P t,n<=reachBytes) :
  ∃(s:Sl) (rows:List (List Value)),cs=[.slice s.a s.len s.cap]/\SlX W s sz rows.flatten/\rows.length=s.len/\s.len*P.bytesOf e<=reachBytes /\
   ∀r∈rows,r.length=sz/\∃n y,DataW.trod enc P W base (λ_=>true) held n e r=some y/\∀k∈y.1.weights P e,k<=reachBytes:=by obtain ⟨s,rows,h1,h2,h3,h4,_,h5⟩:=Ae3 ht hsz hpos h hw;exact ⟨s,rows,h1,h2,h3,h4,λr hr=>by obtain ⟨a,n,y,b,c,_⟩:=h5 r hr;exact ⟨a,n,y,b,c⟩⟩
def Ko {t:TypeId}{cs:List Value}{x:DataW H×List MemPlace}(ht:P.underlying t=some (.int .i64)) (h:DataW.trod enc P W base (λ_=>true) held fuel t cs=some x):∃n,cs=[.int .i64 n]/\(Lit.int .i64 n).wf=true:=by
 cases fuel with
 |zero=>simp [DataW.trod] at h
 |succ m=>unfold DataW.trod at h;rw [ht] at h;split at h<;>simp_all
def Bj9 {cs:List Cell}{Q:Cells.T cs->Prop}:∀(rows:List (List Value)),(∀r∈rows,∃x,r=Cells.vals cs x/\Q x)->∃xs:List (Cells.T cs),rows.flatten=flat cs xs/\xs.length=rows.length/\∀x∈xs,Q x
 |[],_=>⟨[],rfl,rfl,λx hx=>by cases hx⟩
 | r::rs,h=>by
  obtain ⟨x,hx,hq⟩:=h r iM
  obtain ⟨xs,h1,h2,h3⟩:=Bj9 rs λr' hr'=>h r' (iO _ hr')
  refine ⟨x::xs,?_,by simp [h2],λy hy=>?_⟩
  ·rw [xK,h1,hx];rfl
  ·rcases iL.1 hy with rfl|hy
   ·exact hq
   ·exact h3 y hy
def Bq7 {t e:TypeId}{cs:List Value}{x:DataW H×List MemPlace}(ht:P.underlying t=some (.slice e)) (he:P.underlying e=some (.int .i64)) (hc:P.cellsOf e=1) (hb:P.bytesOf e=8)
  (h:DataW.trod enc P W base (λ_=>true) held fuel t cs=some x) (hw:∀n∈x.1.weights P t,n<=reachBytes) :
  ∃(s:Sl) (l:List Int),cs=[.slice s.a s.len s.cap]/\SlX W s 1 (l.map (Value.int .i64))/\l.length<=2^44-512/\∀n∈l,(Lit.int .i64 n).wf=true:=by
 obtain ⟨s,rows,rfl,hs,hl,hby,hr⟩:=Ak7 ht hc (by decide) h hw;obtain ⟨xs,h1,h2,h3⟩:=Bj9 (cs:=[.int .i64]) (Q:=λx=>(Lit.int .i64 x.1).wf=true) rows (λr hr'=>by
  obtain ⟨_,n,y,hy,_⟩:=hr r hr'
  obtain ⟨k,rfl,hk⟩:=Ko he hy
  exact ⟨(k,()),rfl,hk⟩)
 refine ⟨s,xs.map (·.1),rfl,?_,?_,?_⟩
 ·rw [h1] at hs;have e:flat [.int .i64] xs=(xs.map (·.1)).map (Value.int .i64):=by
   simp only [flat,qZ,List.flatMap_def]
   clear h1 h2 h3 hs
   induction xs with
   |nil=>rfl
   |cons x r ih=>simp only [kV,xK,ih];rfl
  rw [e] at hs;exact hs
 {rw [nO,h2,hl];rw [hb] at hby;unfold reachBytes at hby;omega};{intro n hn;obtain ⟨x,hx,rfl⟩:=nT.1 hn;exact h3 x hx}
end
end Go.Vx
namespace Go.Vx
open Go Go.ChangeShapes Go.RowKit
section
variable {H:Type}{enc:TypeId×Value->H}{P:Program}{W W':World}
def Ext.below (e:Ext W W'):Below W.heap.size W W':=⟨e.os,e.tape,e.output,e.size,λk hk=>e.at_ k hk id⟩
def Ak0 (hl:laidOutB P=true){sp:Nat->Bool}:∀{ts:List TypeId}{vs:List Value}{ds:List (DataW H)}{ps:List MemPlace},(∀t∈ts,P.readableRec t=true/\t<P.types.size) ->
  DataW.TrodAll enc P W 0 (λ_=>true) true ts vs ds ps->(∀p∈ps,W.sameAt W' p)->(∀p∈ps,sp p.block=true)->DataW.TrodAll enc P W' 0 sp true ts vs ds ps
 |[],[],[],_,_,h,_,_=>h
 | t::ts,v::vs,d::ds,ps,hr,⟨p,q,h1,h2,e⟩,hs,hsp=>by
  subst e
  exact ⟨p,q,WideElems.Trod_stays hl (hr t iM).1 (hr t iM).2 h1 (λx hx=>hs x (jQ _ hx)) (λx hx=>hsp x (jQ _ hx)),
   Ak0 hl (λt' ht'=>hr t' (iO _ ht')) h2 (λx hx=>hs x (jW _ hx)) (λx hx=>hsp x (jW _ hx)),rfl⟩
 |[],_::_,_,_,_,h,_,_=>h.elim
 |[],[],_::_,_,_,h,_,_=>h.elim
 |_::_,[],_,_,_,h,_,_=>h.elim
 |_::_,_::_,[],_,_,h,_,_=>h.elim
def Bq4 {f:Func}{s:ChangeSpec}{apart fresh handsOn again:Bool}{args:Array Value}{ds gs:List (DataW H)}{before:List MemPlace}{tb:TypeId}
  (hW:DataW.Whole enc P f.params.toList s.vars apart W args.toList ds gs before) (hv:s.vars=[]) (hr:f.resultTypes=#[tb]) (hb:P.underlying tb=some .bool)
  (hs:s.fn H (ds++gs)={ results:=[.lit (.bool true)],args:=ds }) (hl:laidOutB P=true) (hrd:∀t∈f.params.toList,P.readableRec t=true/\t<P.types.size)
  (e:Ext W W'):s.post enc P f apart fresh handsOn again W args (.bool true) W':=by
 have hlt:=hW.lt;have hW0:=hW;obtain ⟨pa,pv,hA,hV,rfl,hz,hn⟩:=hW;have hBl:=e.below;have hsame:∀p∈pa++pv,W.sameAt W' p:=λp hp=>hBl.same (hlt p hp);have hold:∀p∈pa++pv,(λb=>decide (b<W.heap.size)) p.block=true:=λp hp=>(by simpa using hlt p hp);have hres:∀(b:Nat) (sp:Nat->Bool) (hd:Bool),DataW.TrodAll enc P W' b sp hd f.resultTypes.toList ((Value.bool true).resultList f.resultTypes.size) (s.fn H (ds++gs)).results []:=by
  intro b sp hd
  rw [hs,hr]
  exact trodAll_mk1 ⟨1,by simp [DataW.trod,hb,Value.cells]⟩
 have hargs:∀sp:Nat->Bool,(∀p∈pa,sp p.block=true)->DataW.TrodAll enc P W' 0 sp true f.params.toList args.toList (s.fn H (ds++gs)).args pa:=by
  intro sp hsp
  rw [hs]
  exact Ak0 hl hrd hA (λp hp=>hsame p (jQ _ hp)) hsp
 have hgs:gs=[]/\pv=[]:=by
  rw [hv] at hV
  exact trodVars_none hV
 obtain ⟨rfl,rfl⟩:=hgs;have hvars:∀sp:Nat->Bool,DataW.TrodVars enc P W' sp s.vars (s.fn H (ds++[])).vars []:=by
  intro sp
  rw [hs,hv]
  exact rfl
 have hall:∀p∈([]++pa)++[],p∈pa++[]:=λp hp=>(by simpa using hp);refine ⟨ds,[],pa++[],[],pa,[],hW0,hres _ _ _,hargs _ (λp hp=>hold p (jQ _ hp)),hvars _,hBl.frame _,λ_=>⟨ok_one hr rfl (okWide_bool_mk hb true),[.lit (.bool true)]++ds,[],([]++pa)++[],?_,λp hp _=>hall p hp⟩⟩;have h1:=trodAll_append (hargs (λ_=>true) (λ_ _=>rfl)) (hres 0 (λ_=>true) true);rw [hs] at h1;have h2:=hvars (λ_=>true);rw [hs] at h2;refine ⟨[]++pa,[],h1,h2,rfl,?_,λha=>?_⟩;{intro b off hp;have hp':=hall _ hp;have hb':=hlt _ hp';rw [hBl.frozen (p:=⟨b,off,none⟩) hb'];exact hz b off hp'};{have:=hn ha;simpa using this}
end
end Go.Vx
namespace Go.Proofs.YtmooldhpiopcgaaGreatDoor
open Go.Proofs.Tryz
section
namespace Dq
open Go Go.Vx Go.ChangeShapes Go.WideShapes Go.RowKit Dsk
def own:ownKnob prog.godebug=none:=by kernel_rfl
def laidOut:laidOutB prog=true:=by kernel_rfl
def u4:prog.underlying 4=some .bool:=C4.und
def Db0:prog.underlying 9=some .string:=C9.und
def Dr0:prog.globalNamed "errors.errorType" = some 0:=by kernel_rfl
def tRt:(prog.cutTypes.find? (·.1 == "internal/reflectlite.rtype")).map (·.2)=some 211:=by kernel_rfl
def Bw4:prog.types.size=363:=by kernel_rfl
def oneRow:((List.range 363).filter λt=>prog.rowNamed t [101,114,114,111,114])=[26]:=by kernel_rfl
def Di0:typeHandle prog 26=hdl 26:=by kernel_rfl
abbrev Al6:List (String×DataW Unit):=[("errors.errorType",Rows.laid_errors_errorType)]
def Bu0 {W:World}(h:laidMetH prog Al6 W):W.cell? ⟨0,0,none⟩=some (rty 26):=by have h':laidMet prog [] W/\handlesMet prog Al6 W:=h;obtain ⟨name,u,ty,e1,e2,e3,e4,e5⟩:=h'.2 _ (uZ.2 rfl);have en:name=[101,114,114,111,114]:=(sW e1).symm;subst en;obtain rfl:=sW (tRt.symm.trans e2);have hm:ty∈(List.range 363).filter λt=>prog.rowNamed t [101,114,114,111,114]:=oJ.2 ⟨jK.2 (by rw [←Bw4];exact e3),e4⟩;rw [oneRow] at hm;obtain rfl:=uZ.1 hm;rw [Di0] at e5;simpa using World.var?_cell Dr0 e5 0
def Cl9 {W:World}(h:laidMetH prog Al6 W):Jc W:=by have h:=Bu0 h;unfold World.cell? at h;split at h;{rename_i cs t fr hb;exact ⟨cs,t,fr,hb,h⟩};all_goals simp_all
def laidWorld (os:Os):World :=
 let w0:=World.holding prog os ⟨#[],#[],[]⟩
 { w0 with heap:=w0.heap.modify 0 λ
  |.cells _ t frozen=>.cells #[.iface 211 (.agg #[.pointer (some ⟨2,26,none⟩)])] t frozen
  |o=>o }
def laid_met (os:Os) (args:Array Value):laidMetH prog Al6 ((laidWorld os).forCall (λ_ _=>0) ⟨#[],args,[]⟩).memory :=
 laidMetH_of_parts (laidMet_nil _ _) (by kernel_rfl)
def N9 {H:Type}{enc:TypeId×Value->H}{P:Program}{w:World}{base:Nat}{spare:Nat->Bool}{held:Bool}:∀{ts:List TypeId}{vs:List Value}{ds:List (DataW H)}{ps:List MemPlace},DataW.TrodAll enc P w base spare held ts vs ds ps ->
  vs.length=ts.length/\ds.length=ts.length/\∀(j:Nat) t v d,ts[j]?=some t->vs[j]?=some v->ds[j]?=some d->∃p,DataW.Trod enc P w base spare held t v d p
 |[],[],[],_,_=>⟨rfl,rfl,λj t v d h=>by simp at h⟩
 |t::ts,v::vs,d::ds,ps,⟨p,q,h1,h2,e⟩=>by
  obtain ⟨a,b,c⟩:=N9 h2
  refine ⟨by simp [a],by simp [b],λj t' v' d' ht hv hd=>?_⟩
  match j with
  |0=>cases ht;cases hv;cases hd;exact ⟨p,h1⟩
  |j+1=>exact c j t' v' d' (by simpa using ht) (by simpa using hv) (by simpa using hd)
 |[],_::_,_,_,h=>h.elim
 |[],[],_::_,_,h=>h.elim
 |_::_,[],_,_,h=>h.elim
 |_::_,_::_,[],_,h=>h.elim
def Cc4 {α:Type}(l:List α) (h:l.length=1):∃v0,l=[v0]:=by
 match l,h with
 |[v0],_=>exact ⟨v0,rfl⟩
def weigh {H:Type}{ts:List TypeId}{ds:List (DataW H)}(h:(DataW.weightsEach prog ts ds).all (·<=reachBytes)=true) (j:Nat){t:TypeId}{d:DataW H}(ht:ts[j]?=some t) (hd:ds[j]?=some d):∀n∈d.weights prog t,n<=reachBytes:=by intro n hn;have:=iW.1 h _ (DataW.weights_mem_each ht hd n hn);simpa using this
end Dq
end
section
open Go Go.Vx Cdc Trx
section
variable {w w' W W':World}{S:Nat->Prop}{p:Nat}{e:Enc}{lim na:Nat}{O:Nat->Prop}{M:Parts}
abbrev txO (e:Enc) (lim:Nat) (tp:xM) (a:Sl):Obj:=.cells #[.int .i64 e.num,.int .i64 (lim:Int),.pointer tp,.slice a.a a.len a.cap] 141 (0,0)
abbrev frLs (p b1 b2 b6 b7:Nat) (ps:Sl) (f n:Nat):List (Nat×Obj):=[(b7,.cells #[.int .i64 (n:Int)] 3 (0,0)),(b6,.cells #[.int .i64 (f:Int)] 3 (0,0)),(b2,.cells #[.slice ps.a ps.len ps.cap] 165 (0,0)),(b1,.cells #[dU p] 51 (0,0))]
variable {tp:xM}{a0 a ps:Sl}{b1 b2 b6 b7 n:Nat}{ab cb:Bs}{pl:List Pc}{M':Parts}
end
end
section
open Go Go.Vx Go.ChangeShapes Go.WideShapes Go.RowKit Cdc
def ui:prog.underlying 3=some (.int .i64):=C3.und
def ub:prog.underlying 5=some (.int .u8):=C5.und
def Cw3:prog.underlying 70=some (.slice 3):=C70.und
def Bw3:prog.underlying 30=some (.slice 5):=C30.und
def ci:prog.cellsOf 3=1:=by kernel_rfl
def bi:prog.bytesOf 3=8:=by kernel_rfl
def cby:prog.cellsOf 5=1:=by kernel_rfl
def bby:prog.bytesOf 5=1:=by kernel_rfl
def cbs:prog.cellsOf 30=1:=by kernel_rfl
def cis:prog.cellsOf 70=1:=by kernel_rfl
def Yi {cs:List Cell}{β:Type}{Q:Cells.T cs->β->Prop}:∀(rows:List (List Value)),(∀r∈rows,∃x y,r=Cells.vals cs x/\Q x y)->∃(xs:List (Cells.T cs)) (ys:List β),rows.flatten=flat cs xs/\xs.length=rows.length/\xs.length=ys.length/\∀(i:Nat) x y,xs[i]?=some x->ys[i]?=some y->Q x y
 |[],_=>⟨[],[],rfl,rfl,rfl,λi x y hx=>by simp at hx⟩
 | r::rs,h=>by
  obtain ⟨x,y,hx,hq⟩:=h r iM
  obtain ⟨xs,ys,h1,h2,h3,h4⟩:=Yi rs λr' hr'=>h r' (iO _ hr')
  refine ⟨x::xs,y::ys,?_,by simp [h2],by simp [h3],λi x' y' hx' hy'=>?_⟩
  ·rw [xK,h1,hx];rfl
  ·match i with
   |0=>cases hx';cases hy';exact hq
   |i+1=>exact h4 i x' y' (by simpa using hx') (by simpa using hy')
section
variable {H:Type}{enc:TypeId×Value->H}{W:World}{base fuel:Nat}{held:Bool}
abbrev bulk (d:DataW H):Nat:=Rows.uptoBulk d
def Ce7 (d:DataW H):1<=bulk d:=by
 unfold bulk;cases d with
 |lit l=>cases l<;>simp [Rows.uptoBulk]
 |nil=>simp [Rows.uptoBulk]
 |ptr d=>simp [Rows.uptoBulk]
 |slice elems spare=>simp [Rows.uptoBulk]
 |agg parts=>simp [Rows.uptoBulk]
 |iface t d=>simp [Rows.uptoBulk]
 |map entries=>simp [Rows.uptoBulk]
 |held h=>simp [Rows.uptoBulk]
def An0 {d:DataW H}{l:List (DataW H)}(h:d∈l):bulk d<=Rows.uptoBulkAll l:=by
 induction l with
 |nil=>cases h
 |cons x r ih =>
  simp only [Rows.uptoBulkAll];cases iL.1 h with
  |inl e=>subst e;show Rows.uptoBulk d<=_;omega
  |inr e=>have:=ih e;show Rows.uptoBulk d<=_;have:Rows.uptoBulk d<=Rows.uptoBulkAll r:=this;omega
def Ce8 (l:List (DataW H)):l.length<=Rows.uptoBulkAll l:=by
 induction l with
 |nil=>simp [Rows.uptoBulkAll]
 |cons x r ih=>have:=Ce7 x;unfold bulk at this;simp only [Rows.uptoBulkAll,kE];omega
def Xq {t e:TypeId}{sz:Nat}{cs:List Value}{x:DataW H×List MemPlace}(ht:prog.underlying t=some (.slice e)) (hsz:prog.cellsOf e=sz) (hpos:0<sz)
  (h:DataW.trod enc prog W base (λ_=>true) held fuel t cs=some x) (hw:∀n∈x.1.weights prog t,n<=reachBytes) :
  ∃(s:Sl) (rows:List (List Value)),cs=[.slice s.a s.len s.cap]/\SlX W s sz rows.flatten/\rows.length=s.len/\s.len<=bulk x.1 /\
   ∀r∈rows,r.length=sz/\∃n y,DataW.trod enc prog W base (λ_=>true) held n e r=some y/\(∀k∈y.1.weights prog e,k<=reachBytes)/\bulk y.1<=bulk x.1:=by obtain ⟨s,rows,h1,h2,h3,h4,h6,h5⟩:=Ae3 ht hsz hpos h hw;refine ⟨s,rows,h1,h2,h3,?_,λr hr=>?_⟩;{rcases h6 with h6|⟨els,rst,hx,hl⟩;{omega};{have:=Ce8 els;rw [hx];show _<=Rows.uptoBulk (.slice els rst);simp only [Rows.uptoBulk];omega}};{obtain ⟨a,n,y,b,c,els,rst,hx,hm⟩:=h5 r hr;refine ⟨a,n,y,b,c,?_⟩;have:=An0 hm;rw [hx];show _<=Rows.uptoBulk (.slice els rst);simp only [Rows.uptoBulk];omega}
def Ri {t:TypeId}{fs:Array Field}{L:List (TypeId×Nat)}{cs:List Value}{x:DataW H×List MemPlace}(hu:prog.underlying t=some (.struct fs)) (hfs:fs.toList.map (λf=>(f.type,f.offset))=L)
  (h:DataW.trod enc prog W base (λ_=>true) held fuel t cs=some x) (hw:∀n∈x.1.weights prog t,n<=reachBytes) :
  ∃n,∀(i:Nat) (t' o:Nat),L[i]?=some (t',o)->∃y,DataW.trod enc prog W base (λ_=>true) held n t' ((cs.drop o).take (prog.cellsOf t'))=some y/\(∀k∈y.1.weights prog t',k<=reachBytes)/\bulk y.1<=bulk x.1:=by obtain ⟨xs,n,_,rfl,_,hxl,hall⟩:=DataW.trod_struct hu h;refine ⟨n,λi t' o hi=>?_⟩;rw [←hfs,nP] at hi;obtain ⟨f,hf,he⟩:=rG.1 hi;cases he;have hf':fs[i]?=some f:=(by simpa using hf);have h1:=hall i f hf';(have hil:i<xs.length:=by rw [hxl];exact (iY.1 hf').1);rw [oP hil] at h1;refine ⟨xs[i],h1,λk hk=>hw k ?_,?_⟩;{simp only [DataW.weights,hu];exact DataW.weights_mem_each (j:=i) (t:=f.type) (d:=xs[i].1) (by rw [nP,hf];rfl) (by rw [nP,oP hil];rfl) k hk};{have hm:xs[i].1∈xs.map (·.1):=nT.2 ⟨xs[i],oO hil,rfl⟩;have:=An0 hm;show _<=Rows.uptoBulk (.agg (xs.map (·.1)));simp only [Rows.uptoBulk];omega}
def Ck5 {cs:List Value}{x:DataW H×List MemPlace}(h:DataW.trod enc prog W base (λ_=>true) held fuel 5 cs=some x):∃b:UInt8,cs=[.int .u8 (b.toNat:Int)]:=by
 have:∃n,cs=[.int .u8 n]/\(Lit.int .u8 n).wf=true:=by
  cases fuel with
  |zero=>simp [DataW.trod] at h
  |succ m=>unfold DataW.trod at h;rw [ub] at h;split at h<;>simp_all
 obtain ⟨n,rfl,hn⟩:=this;have hr:0<=n/\n<256:=by
  have h1:IntKind.min .u8=0:=rfl
  have h2:IntKind.max .u8=255:=rfl
  simp [Lit.wf,h1,h2] at hn
  omega
 refine ⟨UInt8.ofNat n.toNat,?_⟩;have:(UInt8.ofNat n.toNat).toNat=n.toNat:=by
  rw [uN]
  exact qJ (by omega)
 rw [this];congr 2;omega
def open_bytes {cs:List Value}{x:DataW H×List MemPlace}(h:DataW.trod enc prog W base (λ_=>true) held fuel 30 cs=some x) (hw:∀n∈x.1.weights prog 30,n<=reachBytes) :
  ∃(s:Sl) (l:List UInt8),cs=[.slice s.a s.len s.cap]/\SlX W s 1 (bv l)/\l.length<=2^47:=by
 obtain ⟨s,rows,rfl,hs,hl,hby,hr⟩:=Ak7 Bw3 cby (by decide) h hw;obtain ⟨xs,ls,h1,h2,h3,h4⟩:=Yi (cs:=[.int .u8]) (β:=UInt8) (Q:=λx y=>x.1=(y.toNat:Int)) rows (λr hr'=>by
  obtain ⟨_,n,y,hy,_⟩:=hr r hr'
  obtain ⟨b,rfl⟩:=Ck5 hy
  exact ⟨((b.toNat:Int),()),b,rfl,rfl⟩)
 refine ⟨s,ls,rfl,?_,?_⟩
 ·rw [h1] at hs;have e:flat [.int .u8] xs=bv ls:=by
   clear h1 h2 hs
   induction xs generalizing ls with
   |nil =>
    cases ls with
    |nil=>rfl
    |cons y r=>simp at h3
   |cons x r ih =>
    cases ls with
    |nil=>simp at h3
    |cons y q=>have h0:=h4 0 x y rfl rfl;have:=ih q (by simpa using h3) λi x' y' hx hy=>h4 (i+1) x' y' (by simpa using hx) (by simpa using hy);simp only [flat,nZ] at this ⊢;rw [this];obtain ⟨n,⟨⟩⟩:=x;dsimp only at h0;subst h0;rfl
  rw [e] at hs;exact hs
 {rw [←h3,h2,hl];rw [bby] at hby;unfold reachBytes at hby;omega}
end
section
variable {H:Type}{enc:TypeId×Value->H}{W:World}{base:Nat}
end
end
section
namespace Dq
open Go Go.Vx Go.ChangeShapes Go.WideShapes Go.RowKit Dsk Cdc
def Dr1:prog.cellsOf 9=1:=by kernel_rfl
section
variable {H:Type}{enc:TypeId×Value->H}{W:World}{base fuel:Nat}{held:Bool}
def Ak6 {cs:List Value}{x:DataW H×List MemPlace}(h:DataW.trod enc prog W base (λ_=>true) held fuel 9 cs=some x) (hb:bulk x.1<=1048576):∃s:ByteArray,cs=[.string s]/\s.size<1048576:=by obtain ⟨s,e1,e2,_⟩:=DataW.trod_string Db0 h;refine ⟨s,e1,?_⟩;have hb:Rows.uptoBulk x.1<=1048576:=hb;rw [e2] at hb;simp only [Rows.uptoBulk] at hb;have:s.data.toList.length=s.size:=(by simp);omega
def Aw0 {cs:List Value}{x:DataW H×List MemPlace}(h:DataW.trod enc prog W base (λ_=>true) held fuel 30 cs=some x) (hw:∀n∈x.1.weights prog 30,n<=reachBytes) (hb:bulk x.1<=1048576) :
  ∃(s:Sl) (l:List UInt8),cs=[.slice s.a s.len s.cap]/\SlX W s 1 (bv l)/\l.length<=1048576:=by obtain ⟨s,l,e,h1,_⟩:=open_bytes h hw;obtain ⟨s',_,e',_,_,hl,_⟩:=Xq Bw3 cby (by decide) h hw;refine ⟨s,l,e,h1,?_⟩;rw [e] at e';(have:s.len=s'.len:=by simp at e';exact e'.2.1);have:=Eh h1;omega
end
section
variable {H:Type}{enc:TypeId×Value->H}{W:World}{base:Nat}
end
end Dq
end
section
namespace Dq
open Go Go.Vx Go.ChangeShapes Go.WideShapes Go.RowKit Dsk Cdc
def Cg8:prog.underlying 69=some (.slice 132):=C69.und
def cfs:prog.cellsOf 69=1:=by kernel_rfl
def Cy6:prog.cellsOf 72=2:=by kernel_rfl
def Cu4:prog.cellsOf 132=5:=by kernel_rfl
def Db2:∃fs:Array Field,prog.underlying 72=some (.struct fs)/\fs.toList.map (λf=>(f.type,f.offset))=[(3,0),(70,1)]:=⟨_,C72.und,rfl⟩
def Cr7:∃fs:Array Field,prog.underlying 132=some (.struct fs)/\fs.toList.map (λf=>(f.type,f.offset))=[(3,0),(3,1),(3,2),(72,3)]:=⟨_,Co5.und,rfl⟩
section
variable {H:Type}{enc:TypeId×Value->H}{W:World}{base fuel:Nat}{held:Bool}
def Av9 {cs:List Value}{x:DataW H×List MemPlace}(hl:cs.length=2) (h:DataW.trod enc prog W base (λ_=>true) held fuel 72 cs=some x) (hw:∀n∈x.1.weights prog 72,n<=reachBytes) :
  ∃(c:Cells.T c72) (l:xP),cs=Cells.vals c72 c/\SlX W c.2.1 1 (iv l)/\l.length<=2^44:=by
 obtain ⟨fs,hu,hfs⟩:=Db2;obtain ⟨n,hall⟩:=Ri hu hfs h hw;obtain ⟨v0,v1,rfl⟩:∃v0 v1,cs=[v0,v1]:=by
  match cs,hl with
  |[v0,v1],_=>exact ⟨v0,v1,rfl⟩
 obtain ⟨y0,h0,_,_⟩:=hall 0 _ _ rfl;obtain ⟨y1,h1,hw1,_⟩:=hall 1 _ _ rfl;rw [ci] at h0;rw [cis] at h1;obtain ⟨n0,e0,_⟩:=Ko ui h0;obtain ⟨s,l,e1,g1,g2,_⟩:=Bq7 Cw3 ui ci bi h1 hw1;simp at e0 e1;subst e0 e1;exact ⟨(n0,s,()),l,rfl,g1,by omega⟩
def Be3 {cs:List Value}{x:DataW H×List MemPlace}(hl:cs.length=5) (h:DataW.trod enc prog W base (λ_=>true) held fuel 132 cs=some x) (hw:∀n∈x.1.weights prog 132,n<=reachBytes) :
  ∃(r:Cells.T Dt) (f:Int×Ce),cs=Cells.vals Dt r/\r.1=f.1/\r.2.1=f.2.kind/\r.2.2.1=f.2.part/\r.2.2.2.1=f.2.names/\SlX W r.2.2.2.2.1 1 (iv f.2.bytes)/\f.2.bytes.length<=2^44/\Lie (λk=>k<W.heap.size) r.2.2.2.2.1:=by
 obtain ⟨fs,hu,hfs⟩:=Cr7;obtain ⟨n,hall⟩:=Ri hu hfs h hw;obtain ⟨v0,v1,v2,v3,v4,rfl⟩:∃v0 v1 v2 v3 v4,cs=[v0,v1,v2,v3,v4]:=by
  match cs,hl with
  |[v0,v1,v2,v3,v4],_=>exact ⟨v0,v1,v2,v3,v4,rfl⟩
 obtain ⟨y0,h0,_⟩:=hall 0 _ _ rfl;obtain ⟨y1,h1,_⟩:=hall 1 _ _ rfl;obtain ⟨y2,h2,_⟩:=hall 2 _ _ rfl;obtain ⟨y3,h3,hw3,_⟩:=hall 3 _ _ rfl;rw [ci] at h0 h1 h2;rw [Cy6] at h3;obtain ⟨n0,e0,_⟩:=Ko ui h0;obtain ⟨n1,e1,_⟩:=Ko ui h1;obtain ⟨n2,e2,_⟩:=Ko ui h2;obtain ⟨⟨nm,s,⟨⟩⟩,l,e3,g1,g2⟩:=Av9 rfl h3 hw3;simp [Cells.vals,Cell.val] at e0 e1 e2 e3;obtain ⟨rfl,rfl⟩:=e3;subst e0 e1 e2;exact ⟨(n0,n1,n2,nm,s,()),(n0,⟨n1,n2,nm,l⟩),rfl,rfl,rfl,rfl,rfl,g1,g2,SlX.lie g1⟩
def Av8 {cs:List Value}{x:DataW H×List MemPlace}(h:DataW.trod enc prog W base (λ_=>true) held fuel 69 cs=some x) (hw:∀n∈x.1.weights prog 69,n<=reachBytes) (hb:bulk x.1<=1048576) :
  ∃(s:Sl) (rows:List (Cells.T Dt)) (fl:List (Int×Ce)),cs=[.slice s.a s.len s.cap]/\Hu W (λk=>k<W.heap.size) s rows fl/\fl.length<=1048576:=by
 obtain ⟨s,rows,rfl,hs,hl,hby,hr⟩:=Xq Cg8 Cu4 (by decide) h hw;obtain ⟨xs,ls,h1,h2,h3,h4⟩:=Yi (cs:=Dt) (β:=Int×Ce) (Q:=λr f=>r.1=f.1/\r.2.1=f.2.kind/\r.2.2.1=f.2.part/\r.2.2.2.1=f.2.names/\SlX W r.2.2.2.2.1 1 (iv f.2.bytes)/\f.2.bytes.length<=2^44/\Lie (λk=>k<W.heap.size) r.2.2.2.2.1) rows (λr hr'=>by
  obtain ⟨hrl,n,y,hy,hwy,_⟩:=hr r hr'
  exact Be3 hrl hy hwy)
 rw [h1] at hs;refine ⟨s,xs,ls,rfl,⟨hs,SlX.lie hs,h3,h4⟩,?_⟩;omega
end
section
variable {H:Type}{enc:TypeId×Value->H}{W:World}{base:Nat}
end
end Dq
end
section
namespace Dq
open Go Go.Vx Go.ChangeShapes Go.WideShapes Go.RowKit Dsk Cdc
def Cg7:prog.underlying 79=some (.slice 162):=by kernel_rfl
def Ct9:prog.cellsOf 162=11:=by kernel_rfl
def Cn2:prog.cellsOf 79=1:=by kernel_rfl
def Cu0:prog.cellsOf 81=2:=by kernel_rfl
def Cy7:prog.cellsOf 4=1:=by kernel_rfl
def Cr6:∃fs:Array Field,prog.underlying 162=some (.struct fs)/\fs.toList.map (λf=>(f.type,f.offset))=[(3,0),(3,1),(9,2),(9,3),(3,4),(3,5),(4,6),(30,7),(69,8),(72,9)]:=⟨_,Da4.und,rfl⟩
def Bx7:∃fs:Array Field,prog.underlying 81=some (.struct fs)/\fs.toList.map (λf=>(f.type,f.offset))=[(3,0),(79,1)]:=⟨_,C81.und,rfl⟩
section
variable {H:Type}{enc:TypeId×Value->H}{W:World}{base fuel:Nat}{held:Bool}
abbrev Cp8 (W:World) (y:Cells.T c162):Prop:=∃data frows fl cb,Kw W W.heap.size y data frows fl cb
def Be2 {cs:List Value}{x:DataW H×List MemPlace}(hl:cs.length=11) (h:DataW.trod enc prog W base (λ_=>true) held fuel 162 cs=some x) (hw:∀n∈x.1.weights prog 162,n<=reachBytes) (hb:bulk x.1<=1048576) :
  ∃(y:Cells.T c162) (o:Unit),cs=Cells.vals c162 y/\Cp8 W y:=by
 obtain ⟨fs,hu,hfs⟩:=Cr6;obtain ⟨n,hall⟩:=Ri hu hfs h hw;obtain ⟨v0,v1,v2,v3,v4,v5,v6,v7,v8,v9,v10,rfl⟩:∃v0 v1 v2 v3 v4 v5 v6 v7 v8 v9 v10,cs=[v0,v1,v2,v3,v4,v5,v6,v7,v8,v9,v10]:=by
  match cs,hl with
  |[v0,v1,v2,v3,v4,v5,v6,v7,v8,v9,v10],_=>exact ⟨v0,v1,v2,v3,v4,v5,v6,v7,v8,v9,v10,rfl⟩
 obtain ⟨y0,h0,hw0,hb0⟩:=hall 0 _ _ rfl;obtain ⟨y1,h1,hw1,hb1⟩:=hall 1 _ _ rfl;obtain ⟨y2,h2,hw2,hb2⟩:=hall 2 _ _ rfl;obtain ⟨y3,h3,hw3,hb3⟩:=hall 3 _ _ rfl;obtain ⟨y4,h4,hw4,hb4⟩:=hall 4 _ _ rfl;obtain ⟨y5,h5,hw5,hb5⟩:=hall 5 _ _ rfl;obtain ⟨y6,h6,hw6,hb6⟩:=hall 6 _ _ rfl;obtain ⟨y7,h7,hw7,hb7⟩:=hall 7 _ _ rfl;obtain ⟨y8,h8,hw8,hb8⟩:=hall 8 _ _ rfl;obtain ⟨y9,h9,hw9,hb9⟩:=hall 9 _ _ rfl;rw [ci] at h0 h1 h4 h5;rw [Dr1] at h2 h3;rw [Cy7] at h6;rw [cbs] at h7;rw [cfs] at h8;rw [Cy6] at h9;obtain ⟨n0,e0,_⟩:=Ko ui h0;obtain ⟨n1,e1,_⟩:=Ko ui h1;obtain ⟨s2,e2,i2⟩:=Ak6 h2 (by omega);obtain ⟨s3,e3,i3⟩:=Ak6 h3 (by omega);obtain ⟨n4,e4,_⟩:=Ko ui h4;obtain ⟨n5,e5,_⟩:=Ko ui h5;obtain ⟨b6,e6,_⟩:=DataW.trod_bool u4 h6;obtain ⟨s7,l7,e7,g7,k7⟩:=Aw0 h7 hw7 (by omega);obtain ⟨s8,rows,fl,e8,g8,k8⟩:=Av8 h8 hw8 (by omega);obtain ⟨⟨nm,s,⟨⟩⟩,cb,e9,g9,k9⟩:=Av9 rfl h9 hw9;simp [Cells.vals,Cell.val] at e0 e1 e2 e3 e4 e5 e6 e7 e8 e9;obtain ⟨rfl,rfl⟩:=e9;subst e0 e1 e2 e3 e4 e5 e6 e7 e8;exact ⟨(n0,n1,s2,s3,n4,n5,b6,s7,s8,nm,s,()),(),rfl,l7,rows,fl,cb,⟨by dsimp only;omega,by dsimp only;omega,g7,SlX.lie g7,k7,g8,by omega,g9,SlX.lie g9,k9⟩⟩
def Av6 {cs:List Value}{x:DataW H×List MemPlace}(h:DataW.trod enc prog W base (λ_=>true) held fuel 79 cs=some x) (hw:∀n∈x.1.weights prog 79,n<=reachBytes) (hb:bulk x.1<=1048576) :
  ∃(s:Sl) (rows:List (Cells.T c162)),cs=[.slice s.a s.len s.cap]/\Og W W.heap.size s rows:=by
 obtain ⟨s,rows,rfl,hs,hl,hby,hr⟩:=Xq Cg7 Ct9 (by decide) h hw;obtain ⟨xs,ls,h1,h2,h3,h4⟩:=Yi (cs:=c162) (β:=Unit) (Q:=λy _=>Cp8 W y) rows (λr hr'=>by
  obtain ⟨hrl,n,y,hy,hwy,hby⟩:=hr r hr'
  exact Be2 hrl hy hwy (by omega))
 rw [h1] at hs;refine ⟨s,xs,rfl,hs,SlX.lie hs,by omega,λi r hr=>?_⟩;obtain ⟨u,hu⟩:∃u,ls[i]?=some u:=⟨_,oP (by have:=(lY.1 hr).1;omega)⟩;exact h4 i r u hr hu
def Bq8 {cs:List Value}{x:DataW H×List MemPlace}(hl:cs.length=2) (h:DataW.trod enc prog W base (λ_=>true) held fuel 81 cs=some x) (hw:∀n∈x.1.weights prog 81,n<=reachBytes) (hb:bulk x.1<=1048576) :
  ∃(space:Int) (s:Sl) (rows:List (Cells.T c162)),cs=[vI space,.slice s.a s.len s.cap]/\Og W W.heap.size s rows:=by
 obtain ⟨fs,hu,hfs⟩:=Bx7;obtain ⟨n,hall⟩:=Ri hu hfs h hw;obtain ⟨v0,v1,rfl⟩:∃v0 v1,cs=[v0,v1]:=by
  match cs,hl with
  |[v0,v1],_=>exact ⟨v0,v1,rfl⟩
 obtain ⟨y0,h0,_,_⟩:=hall 0 _ _ rfl;obtain ⟨y1,h1,hw1,hb1⟩:=hall 1 _ _ rfl;rw [ci] at h0;rw [Cn2] at h1;obtain ⟨n0,e0,_⟩:=Ko ui h0;obtain ⟨s,rows,e1,g1⟩:=Av6 h1 hw1 (by omega);simp at e0 e1;subst e0 e1;exact ⟨n0,s,rows,rfl,g1⟩
end
section
variable {H:Type}{enc:TypeId×Value->H}{W:World}{base:Nat}
def Cf6 {v:Value}{d:DataW H}{p:List MemPlace}(hv:Value.okWide prog W .any base 81 v) (h:DataW.Trod enc prog W 0 (λ_=>true) true 81 v d p) (hw:∀n∈d.weights prog 81,n<=reachBytes) (hb:bulk d<=1048576) :
  ∃(space:Int) (s:Sl) (rows:List (Cells.T c162)),v=.agg #[vI space,.slice s.a s.len s.cap]/\Og W W.heap.size s rows:=by obtain ⟨fs,hu,_⟩:=Bx7;obtain ⟨cs,rfl,hsz⟩:=okWide_struct hu hv;obtain ⟨n,hn⟩:=h;rw [Cu0] at hsz;obtain ⟨sp,s,rows,e,h1⟩:=Bq8 (cs:=cs.toList) (by simpa using hsz) (by simpa [Value.cells] using hn) hw hb;refine ⟨sp,s,rows,?_,h1⟩;have:cs=[Value.int .i64 sp,.slice s.a s.len s.cap].toArray:=(by rw [←e]);rw [this]
end
def Ci9:prog.readableRec 81=true:=by kernel_rfl
def Cw8 {t:TypeId}(h:t=81):prog.readableRec t=true/\t<prog.types.size:=by subst h;exact ⟨Ci9,by rw [Bw4];decide⟩
end Dq
end
end Go.Proofs.YtmooldhpiopcgaaGreatDoor
