/- The law holds for every input: it returns true, and each argument reads behind the call as it did. Conditions: those of the form alone. -/
import Derived.Test.YtolhlldgnfbemaaGreatDoorXRe8
set_option linter.unusedVariables false
set_option linter.defProp false
set_option linter.unusedSimpArgs false
set_option linter.unusedSectionVars false
noncomputable section
set_option maxRecDepth 100000
namespace Go.Proofs.YtolhlldgnfbemaaGreatDoor
section
open Go Go.Vx Cdc Trx Gly Clu Lns Obx Mot
abbrev spO (c:Cel):Obj:=.cells #[.int .i64 (c.from_:Int),.int .i64 (c.to_:Int),.int .i64 c.atom,.bool c.alone,.int .i64 (c.kind:Int)] 76 (0,0)
abbrev Aq6 (w:World):Prop:=∀j,j<6->w.cell? ⟨0,j,none⟩=some (.int .i64 (X5.getD j 0))
abbrev clB (A:List Int) (l:List ((Nat×Nat)×Nat)):List Cel:=l.map λq=>Cg8 A q.1
section
variable {w w':World}{q:Nat}{A:List Int}{i:Nat}
theorem Aq6.ext (h:Aq6 w) (x:Ext w w'):Aq6 w':=λj hj=>Vl (h j hj) x
theorem Vz (hg:Aq6 w){c:Cel}{K:Int->Wp}(hK:∀w',Ext w w'->K (Qh (sortB c)) w'):Aa Tryz.prog 160 #[.agg (Cells.vals c76 (spT c)).toArray] rI K w:=by
 refine Ej3 (a0:=spT c) ?_;unfold F160;refine (St.start w).Af λb1 w1 S1 e1=>?_;have S1:St (λ_=>False) w w1 [(b1,spO c)]:=S1;refine Ae (λ_ W=>(∀j,j<6->c.alone=true->c.atom≠X5.getD j 0)/\Ext w W) ?_ ?_;{refine Ba (λx W=>∃j:Nat,x=((j:Int),())/\j<=6/\(∀i,i<j->c.alone=true->c.atom≠X5.getD i 0)/\St (λ_=>False) w W [(b1,spO c)]) (λx _=>(6-x.1).toNat) ⟨0,rfl,iW _,λi hi=>by omega,S1⟩ ?_;rintro _ W ⟨j,rfl,hj,hno,SW⟩;dsimp only;refine Ac (λhc=>?_) (λhc=>?_);{simp only [iI] at hc;refine Ae (λx V=>x=(decide (c.alone=true/\c.atom=X5.getD j 0),())/\St (λ_=>False) w V [(b1,spO c)]) ?_ ?_;{refine SW.drew λw2 S2 e2 _=>S2.ld (off:=3) 0 rfl (x:=c.alone) rfl (Ac (λha=>S2.ld (off:=2) 0 rfl (x:=c.atom) rfl (Dc ⟨by omega,by omega⟩ (D7 (x:=X5.getD j 0) ?_ ⟨Az ?_,S2⟩))) (λha=>⟨Az ?_,S2⟩));{(have ea:(at0 0).add (scaled (Int.toNat (j:Int)) 1)=⟨0,j,none⟩:=by rw [addr_add,Ep,dF];simp);rw [ea];exact (hg.ext S2.upd) j (by omega)};{simp only [jM,iI];exact ⟨λhh=>⟨ha,hh⟩,λhh=>hh.2⟩};{simp only [dO,iI,lS];intro hh;rw [hh.1] at ha;cases ha}};rintro _ V ⟨rfl,SV⟩;rw [Ub (by omega)];refine Ac (λhb=>?_) (λhb=>?_);{obtain ⟨h1,h2⟩:=cO hb;have:=hK V SV.upd;rw [Bt8 h1 (by omega) h2] at this;exact this};{have hb:=pV hb;refine ⟨⟨j+1,rfl,by omega,λi hi ha he=>?_,SV⟩,by omega⟩;by_cases hij:i=j;{subst hij;exact hb ⟨ha,he⟩};{exact hno i (by omega) ha he}}};{simp only [iH] at hc;exact ⟨λi hi=>hno i (by omega),SW.upd⟩}};rintro _ W ⟨hno,eW⟩;have:=hK W eW;have hn:sortB c=none:=by
  cases ha:c.alone with
  |false=>simp [sortB,ha]
  |true=>exact Ar3 λj hj=>hno j hj ha
 rw [hn] at this;exact this
theorem Af8 (o:Option Nat):decide (Qh o<0)=o.isNone:=by
 cases o with
 |none=>rfl
 |some x=>show decide ((x:Int)<0)=false;exact jQ (by omega)
theorem Ba4 {l:List ((Nat×Nat)×Nat)}{x:Int}{r:(Nat×Nat)×Nat}(h:l[x.toNat]?=some r):((clB A l).map spT)[x.toNat]?=some (spT (Cg8 A r.1)):=by rw [gX,gX,h];rfl
theorem Da5 (b:Nat):Int.tmod (b:Int) 3=((b%3:Nat):Int):=by rw [mV (by omega)];omega
set_option maxHeartbeats 2000000 in
theorem Be4 (h:Gu w q A) (hg:Aq6 w) {s:Nat} (hs:s<=A.length) {K:Int->Wp} (hK:∀w',Ext w w'->K (Qh (Nv A s (nb A s))) w'):Aa Tryz.prog 103 #[.pointer (some (at0 q)),.int .i64 (s:Int)] rI K w:=by
 refine Eo8 ?_;unfold F103;have hA:=h.len;have hbl:=Gi A;have hb:=Bc A;have hib:=Hg A s;refine Ae (λx V=>∃b,x=(at0 b,())/\St (λ_=>False) w V [(b,r6O (Aq A (nb A s)))]) ?_ ?_;{refine Ci λw1 e1 _=>(h.ext e1).Ug λsl hsl hk=>⟨?_,?_⟩;{refine ((St.start w).ext e1).Af λb5 w2 S2 e2=>Bg (hk w2 e2) (Hz (h.ext S2.upd) hs (Bg (hk w2 e2) ?_));exact Ws (cs:=c71) (xs:=(lnF A).map lnR) (hsl.ext e2) (by decide) (kQ _) (Zh hib) λp=>S2.Ad 0 rfl rfl rfl rfl λw3 S3 _=>⟨b5,rfl,S3⟩};{refine Hz (h.ext e1) hs (Bg (hk w1 (Ext.refl _)) ?_);refine Bw6 (cs:=c71) (xs:=(lnF A).map lnR) hsl (by decide) (kQ _) (Zh hib) λp hp=>⟨?_,trivial⟩;refine ((St.start w).ext e1).Af λb5 w2 S2 e2=>Bg (hp w2 e2) (Bg (hk w2 e2) ?_);exact S2.Ad 0 rfl rfl rfl rfl λw3 S3 _=>⟨b5,rfl,S3⟩}};rintro _ W0 ⟨b,rfl,S0⟩;have S0:St (λ_=>False) w W0 [(b,r6O (Aq A (nb A s)))]:=S0;have hbox:=S0.at_ 0 rfl;have h0:=h.ext S0.upd;have hg0:=hg.ext S0.upd;obtain ⟨P,hP⟩:∃P,De3 A s=P:=⟨_,rfl⟩;refine Ae (λx V=>Ext W0 V/\Au V W0.heap.size x.1 76 5 (flat c76 ((clB A (Gt A)).map spT))/\x.2.1=Qh ((Gt A).findIdx? P)) ?_ ?_
 ·refine Ba (λx V=>∃i:Nat,x.2.2=((i:Int),())/\i<=lnN A/\Ext W0 V/\Au V W0.heap.size x.1 76 5 (flat c76 ((clB A (bkL A i)).map spT))/\x.2.1=Qh ((bkL A i).findIdx? P)) (λx _=>((lnN A:Int)-x.2.2.1).toNat) ⟨0,rfl,iW _,Ext.refl _,Au.nil _ _ _ _,rfl⟩ ?_;rintro ⟨r,f,_⟩ V ⟨i,rfl,hi,eV,hr,hf⟩;dsimp only at hr hf ⊢;refine (h0.ext eV).Oa (Ac (λhc=>?_) (λhc=>?_))
  ·simp only [iI] at hc;have hi2:i<=brs A:=(by omega);have hlen:=By2 hi2;have hcl:=Hq hi2;have ok:=Cb hi2;have ft:=ok.ft;have tn:=ok.tn;have nl:=ok.nl;obtain ⟨n,hn⟩:∃n,(Ag A i).length=n:=⟨_,rfl⟩;rw [Ub (by omega)];refine Ae (λx U=>Ext W0 U/\Au U W0.heap.size x.1 76 5 (flat c76 ((clB A (bkL A (i+1))).map spT))/\x.2.1=Qh ((bkL A (i+1)).findIdx? P)) ?_ (λx U hx=>⟨⟨i+1,rfl,by omega,hx.1,hx.2.1,hx.2.2⟩,by omega⟩);refine Ba (λx U=>∃j:Nat,x.2.2=((j:Int),())/\j<=n/\Ext W0 U/\Au U W0.heap.size x.1 76 5 (flat c76 ((clB A (bkL A i++bkR A i j)).map spT))/\x.2.1=Qh ((bkL A i++bkR A i j).findIdx? P)) (λx _=>((n:Int)-x.2.2.1).toNat) ⟨0,rfl,iW _,eV,by rw [Bj4,kM];exact hr,by rw [Bj4,kM];exact hf⟩ ?_;rintro ⟨r,f,_⟩ U ⟨j,rfl,hj,eU,hr,hf⟩;dsimp only at hr hf ⊢;refine (h0.ext eU).Xi hi2 λs1 p1 y1 hy1 hyl1=>Ac (λhc2=>?_) (λhc2=>?_)
   ·simp only [iI] at hc2;have hjn:j<n:=(by omega);obtain ⟨c,hcc⟩:=Dk (C:=Ag A i) (j:=j) (by omega);have hrl:=Bb2 A i j;rw [Ub (by omega)];refine Ae (λx T=>Ext W0 T/\Au T W0.heap.size x.1 76 5 (flat c76 ((clB A (bkL A i++bkR A i (j+1))).map spT))/\x.2.1=Qh ((bkL A i++bkR A i (j+1)).findIdx? P)) ?_ (λx T hx=>⟨⟨j+1,rfl,by omega,hx.1,hx.2.1,hx.2.2⟩,by omega⟩);refine (h0.ext eU).Xi hi2 λs2 p2 y hy hyl=>?_;refine Ws (cs:=c76) (xs:=(Ag A i).map spT) hy (by decide) (kQ j) (N8 hcc) λp3=>?_;refine (St.start U).Ir rfl rfl rfl λb35 w3 S3 e3=>?_;have S3:St (λ_=>False) U w3 [(b35,spO c)]:=S3;refine S3.lds 0 (spT c) rfl (Vz (hg0.ext (eU.trans S3.upd)) λw4 e4=>?_);have S4:=S3.ext e4;have x4:=eU.trans S4.upd;have hbf:=Df8 hcc;rw [Af8];cases hsb:sortB c with
    |none=>rw [hsb] at hbf;refine Bh ⟨x4,?_,?_⟩;{rw [Bj5 hbf];exact hr.ext S4.upd};{rw [Bj5 hbf];exact hf}
    | some bb =>
     rw [hsb] at hbf;have hbf:bkF A (i,j)=some ((i,j),bb):=hbf;rw [Cs5 hbf,←eG];have hmet:=Cw5 hs hi2 hcc bb;rw [hP] at hmet;obtain ⟨L,hL⟩:∃L,bkL A i++bkR A i j=L:=⟨_,rfl⟩;rw [hL] at hr hf ⊢;(have hLl:L.length<=2^22:=by rw [←hL,iE];omega);have hrl2:L.length=r.len:=by
      have:=Au.Md (cs:=c76) hr (by decide)
      rwa [gW,gW] at this
     refine Aj (Ae (λx T=>x=(Qh ((L++[((i,j),bb)]).findIdx? P),())/\w4=T) ?_ ?_)
     ·refine Ae (λx T=>x=(decide (L.findIdx? P=none/\P ((i,j),bb)=true),())/\w4=T) ?_ ?_
      ·rw [hf,Af8,hmet];cases hfi:L.findIdx? P with
       |some m=>exact Aj ⟨Az (by simp),rfl⟩
       |none=>refine Bh (S4.ld (off:=0) 0 rfl (x:=(c.from_:Int)) rfl (Ac (λh1=>?_) (λh1=>⟨Az ?_,rfl⟩)));{simp only [iI,jT] at h1;refine S4.ld (off:=0) 0 rfl (x:=(c.from_:Int)) rfl (Cm (off:=1) (x:=((Aq A (nb A s)).to_:Int)) (x4.ext_get hbox) rfl ⟨Az ?_,rfl⟩);simp only [iI,qG];omega};{simp only [iH,jT] at h1;simp only [dO,iI,lS,qG];omega}
      rintro _ _ ⟨rfl,rfl⟩;rw [Cp7];refine Ac (λh1=>⟨?_,rfl⟩) (λh1=>⟨?_,rfl⟩);{obtain ⟨h1,h2⟩:=cO h1;rw [h1,aF h2,←hrl2];rfl}
      ·have h1:=pV h1;rw [hf];cases hfi:L.findIdx? P with
       |some m=>rfl
       |none=>have h2:¬P ((i,j),bb)=true:=λhh=>h1 ⟨hfi,hh⟩;rw [aJ h2]
     rintro _ _ ⟨rfl,rfl⟩;refine S4.lds 0 (spT c) rfl (Df λb46 w5 e5 n5 _ _=>?_);have x5:=x4.trans e5;refine Da8 (L:=clB A L) (c:=c) (hr.ext (S4.upd.trans e5)) n5 (by rw [gW];omega) x5.size λr' w6 o6 _ u6=>?_;refine ⟨x5.step u6 λk hk=>hr.Fp hk,?_,rfl⟩;have:clB A (L++[((i,j),bb)])=clB A L++[c]:=by
      simp only [clB,lG,dQ,mJ,Bx7 hcc]
     rw [this];exact o6
   {simp only [iH] at hc2;obtain rfl:j=n:=(by omega);rw [Ao0,hn];exact ⟨eU,hr,hf⟩}
  {simp only [iH] at hc;obtain rfl:i=lnN A:=(by omega);rw [By3] at hr hf;exact ⟨eV,hr,hf⟩}
 rintro ⟨r,f,_⟩ V ⟨eV,hr,hf⟩;dsimp only at hr hf ⊢;have hV:∀{W1},Ext V W1->Ext w W1:=λe=>(S0.upd.trans eV).trans e;obtain ⟨B,hB⟩:∃B,Gt A=B:=⟨_,rfl⟩;(have hBl:B.length<=1048576:=by rw [←hB];exact fK (Cs0 A) hA);have hrl:B.length=r.len:=by
  have:=Au.Md (cs:=c76) hr (by decide)
  rwa [gW,gW,hB] at this
 have hmem:∀x∈B,∃c,Cg8 A x.1=c/\sortB c=some x.2/\Bo A x.1=c.from_:=λx hx=>by
  rw [←hB] at hx
  obtain ⟨c,_,h2,h3,h4⟩:=Cz5 hx
  exact ⟨c,h3,h2,h4⟩
 obtain ⟨tg,htg⟩:∃tg,Nv A s (nb A s)=tg:=⟨_,rfl⟩;rw [htg] at hK;unfold Nv at htg;have hPe:(λq:(Nat×Nat)×Nat=>q.1.1==nb A s&&decide (s<=Bo A q.1))=P:=hP;rw [hPe,hB] at htg;rw [hB] at hf hr;rw [hf,Af8];cases hfi:B.findIdx? P with
 |none=>rw [hfi] at htg;have htg:none=tg:=htg;refine Bh ?_;have:=hK V (hV (Ext.refl _));rw [←htg] at this;exact this
 | some m =>
  rw [hfi] at htg;have hm:m<B.length:=by
   have:=List.findIdx?_eq_some_iff_getElem.1 hfi
   exact this.1
  obtain ⟨⟨p0,own⟩,hq⟩:∃q,B[m]?=some q:=⟨_,jC hm⟩;dsimp only at htg;rw [hq] at htg;dsimp only at htg;obtain ⟨c0,k1,k2,k3⟩:=hmem _ (eY hq);dsimp only at k1 k2 k3;have hown:=Bc9 k2;refine Aj ?_;show ix r.a r.len (m:Int) _ V;refine Ws (cs:=c76) (xs:=(clB A B).map spT) hr.in (by decide) (kQ m) (Ba4 (by rw [dF];exact hq)) λp48=>?_;rw [k1];refine Vz (hg0.ext eV) λw1 e1=>?_;rw [k2];show join _ _ w1;obtain ⟨up,hup⟩:∃up,decide (own<3)=up:=⟨_,rfl⟩;refine Ae (λx T=>x=(((if up=true then 1 else -1:Int)),())/\w1=T) (Ac (λhc=>⟨?_,rfl⟩) (λhc=>⟨?_,rfl⟩)) ?_;{have hc:((own:Nat):Int)>=3:=cO hc;rw [←hup,jQ (by omega)];rfl};{have hc:¬((own:Nat):Int)>=3:=pV hc;rw [←hup,jP (by omega)];rfl};rintro _ _ ⟨rfl,rfl⟩;obtain ⟨R0,hR0,hsh⟩:∃R0,Mot.Rest B up (m:Int) ((p0,own)::R0)/\(Dt own R0 1).map (Bo A)=tg:=by
   by_cases hlt:own<3
   ·rw [aF hlt] at htg
    rw [jP hlt] at hup
    subst hup
    exact ⟨_,Cv7 hq,htg⟩
   ·rw [aJ hlt] at htg
    rw [jQ hlt] at hup
    subst hup
    exact ⟨_,Cw0 hq,htg⟩
  have hR0l:=hR0.len;rw [←show Dt own ((p0,own)::R0) 0=Dt own R0 1 from Bd1] at hsh;refine Ae (λ_ T=>Ext w T/\tg=none) ?_ (λ_ T hT=>by have:=hK T hT.1;rw [hT.2] at this;exact this);refine Ba (λx T=>∃(d:Nat) (xj:Int) (R:List ((Nat×Nat)×Nat)),x=((d:Int),xj,())/\Ext V T/\Mot.Rest B up xj R/\d+R.length<=1048577/\(Dt own R d).map (Bo A)=tg/\(d=0->∃p R',R=(p,own)::R')) (λx _=>(if up=true then (B.length:Int)-x.2.1 else x.2.1+1).toNat) ⟨0,(m:Int),_,rfl,e1,hR0,by omega,hsh,λ_=>⟨p0,R0,rfl⟩⟩ ?_;rintro _ T ⟨d,xj,R,rfl,eT,hR,hd,hs1,hd0⟩;dsimp only;refine Ae (λx U=>x=(decide (0<=xj/\xj<(B.length:Int)),())/\T=U) (Ac (λh1=>⟨Az ?_,rfl⟩) (λh1=>⟨Az ?_,rfl⟩)) ?_;{simp only [iI,jT] at h1 ⊢;omega};{simp only [iH,jT] at h1;simp only [dO,iI,lS];omega};rintro _ _ ⟨rfl,rfl⟩;refine Ac (λhc=>?_) (λhc=>?_)
  ·have hc:=cO hc;cases R with
   |nil=>exact absurd hc hR.nil
   | cons x R =>
    obtain ⟨g1,g2,g3,g4⟩:=hR.cons;obtain ⟨pb,bb⟩:=x;obtain ⟨c,k1',k2',k3'⟩:=hmem _ (eY g3);dsimp only at k1' k2' k3';have hbb:=Bc9 k2';have hrT:=hr.ext eT;rw [dB] at hd;refine Ae (λz U=>∃d':Nat,z=((d':Int),())/\Ext V U/\((bb=own/\d'=d+1)\/(bb≠own/\bb%3=own%3/\1<=d/\d'=d-1)\/(bb%3≠own%3/\1<=d/\d'=d))) ?_ ?_
    ·refine Ws (cs:=c76) (xs:=(clB A B).map spT) hrT.in (by decide) g1 (Ba4 g3) λp61=>?_;rw [k1'];refine Vz (hg0.ext (eV.trans eT)) λw2 e2=>?_;rw [k2'];refine Ac (λh1=>?_) (λh1=>?_);{have h1:((bb:Nat):Int)=(own:Int):=jM.1 h1;exact ⟨d+1,by rw [Ub (by omega)],eT.trans e2,.inl ⟨by omega,rfl⟩⟩}
     ·have h1:((bb:Nat):Int)≠(own:Int):=jO.1 h1;have hd1:1<=d:=by
       rcases lC d with hz|hz
       ·obtain ⟨p,R',he⟩:=hd0 hz
        cases he
        exact absurd rfl h1
       ·exact hz
      refine Ws (cs:=c76) (xs:=(clB A B).map spT) (hrT.ext e2).in (by decide) g1 (Ba4 g3) λp64=>?_;rw [k1'];refine Vz (hg0.ext (eV.trans (eT.trans e2))) λw3 e3=>?_;rw [k2'];refine Dc (by decide) (Dc (by decide) ?_);rw [show Qh (some bb)=(bb:Int) from rfl,show Qh (some own)=(own:Int) from rfl,Da5,Da5];refine Ac (λh2=>?_) (λh2=>?_);{rw [jM] at h2;exact ⟨d-1,by rw [wrap64 (by omega) (by omega)];congr 1;omega,(eT.trans e2).trans e3,.inr (.inl ⟨by omega,by omega,hd1,rfl⟩)⟩};{rw [jO] at h2;exact ⟨d,rfl,(eT.trans e2).trans e3,.inr (.inr ⟨by omega,hd1,rfl⟩)⟩}
    rintro _ U ⟨d',rfl,eU,hcase⟩;refine Ac (λh1=>?_) (λh1=>?_);{have h1:((d':Nat):Int)=0:=jM.1 h1;rcases hcase with ⟨_,_⟩|⟨q1,q2,q3,q4⟩|⟨_,_,_⟩;{omega};{obtain rfl:d=1:=(by omega);rw [Ca0 q2 q1] at hs1;refine Bw8 (c:=.int .i64) (cs:=c76) (hr.ext eU).in g1 (Ba4 g3) (by rw [k1'];rfl) (y:=(c.from_:Int)) λp67=>?_;have:=hK U (hV eU);rw [←hs1] at this;(have e9:Qh ((some pb).map (Bo A))=(c.from_:Int):=by show ((Bo A pb:Nat):Int)=_;rw [k3']);rw [e9] at this;exact this};{omega}}
    ·have h1:((d':Nat):Int)≠0:=jO.1 h1;have ej:W64 (xj+(if up=true then 1 else -1:Int))=(if up=true then xj+1 else xj-1):=by
      rw [wrap64 (by split<;>omega) (by split<;>omega)];split<;>omega
     rw [ej];refine ⟨⟨d',_,R,rfl,eU,g4,by omega,?_,λhz=>by omega⟩,?_⟩;{rcases hcase with ⟨rfl,rfl⟩|⟨q1,q2,q3,rfl⟩|⟨q1,q2,rfl⟩;{rw [Bd1] at hs1;exact hs1};{rw [Bz9 q2 q1 (by omega)] at hs1;exact hs1};{rw [Bm3 q1] at hs1;exact hs1}};{split<;>omega}
  ·have hc:=pV hc;cases R with
   |nil=>exact ⟨hV eT,hs1.symm⟩
   |cons x R=>obtain ⟨g1,g2,_,_⟩:=hR.cons;exact absurd ⟨g1,g2⟩ hc
set_option maxHeartbeats 2000000 in
theorem Be2 (h:Gu w q A) (hg:Aq6 w){x kind count arg:Int}{K:LdT->Wp}(hK:∀w',Ext w w'->K (ldT (Gy A x kind count)) w') :
  Aa Tryz.prog 48 #[.pointer (some (at0 q)),.int .i64 x,.agg (Cells.vals c48 (mvM kind count arg)).toArray] (.tup [(.agg c83),(.one (.int .i64))]) K w:=by
 refine A48 (a2:=mvM kind count arg) ?_;unfold F48;have hA:=h.len;have hbl:=Gi A;have hb:=Bc A;refine (St.start w).Af λb1 w1 S1 e1=>S1.Af λb2 w2 S2 e2=>?_;have S2:St (λ_=>False) w w2 [(b2,ldZ),(b1,Jw kind count arg)]:=S2;have h2:=h.ext S2.upd;obtain ⟨v,hv⟩:∃v,Gy A x kind count=v:=⟨_,rfl⟩;rw [hv] at hK;unfold Gy at hv;dsimp only at hv;have hle:=V9 A x false;have hil:=Af6 A x;rw [Dx A x false,←U0 A x false] at hv;rw [←U0 A x false] at hil;refine Jj h2 (Hz h2 hle ?_);obtain ⟨s,hs⟩:∃s,Ak A x false=s:=⟨_,rfl⟩;rw [hs] at hv hle hil;rw [hs];have hne:∀j,j<=brs A->j≠nb A s->(Aq A j).from_≠s:=λj h1 h2=>Dd5 h1 h2;have hmatch:∀{W:World} {K':Int->Wp},Gu W q A->Aq6 W->(∀w',Ext W w'->K' (Qh (Nv A s (nb A s))) w')->Aa Tryz.prog 103 #[.pointer (some (at0 q)),.int .i64 (s:Int)] rI K' W:=λh' g' hk=>Be4 h' g' hle hk;obtain ⟨i,hi'⟩:∃i,nb A s=i:=⟨_,rfl⟩;rw [hi'] at hv hil hne hmatch;rw [hi'];have hkr:=Zi count;refine S2.lds 1 (mvM kind count arg) rfl (Pm λw4 e4=>?_);have S4:=S2.ext e4;have h4:=h.ext S4.upd;have hg4:=hg.ext S4.upd;obtain ⟨k,hk⟩:∃k,kOf count=k:=⟨_,rfl⟩;rw [hk] at hv hkr;rw [hk];(have ewl:W64 ((lnN A:Int)-1)=((lnN A-1:Nat):Int):=by rw [wrap64 (by omega) (by omega)];omega);have fno:∀{e:Int} {W:World},St (λ_=>False) w W [(b2,ldZ),(b1,Jw kind count arg)]->v=noP e->Aa Tryz.prog 92 #[.int .i64 e] (.tup [(.agg c83),(.one (.int .i64))]) (λz=>Ad (at0 b2) (.agg (Cells.vals c83 z.1).toArray) 3 (lds c83 (at0 b2) λy=>K (y,z.2.1,()))) W:=λS hk=>Xw λw5 e5=>Ie (S.ext e5) (by rw [←hk];exact hK);have fland:∀{m:Nat} {kd:Int} {W:World},St (λ_=>False) w W [(b2,ldZ),(b1,Jw kind count arg)]->v=Bz A m kd->Aa Tryz.prog 93 #[.pointer (some (at0 q)),.int .i64 (m:Int),.int .i64 kd] (.tup [(.agg c83),(.one (.int .i64))]) (λz=>Ad (at0 b2) (.agg (Cells.vals c83 z.1).toArray) 3 (lds c83 (at0 b2) λy=>K (y,z.2.1,()))) W:=λS hk=>Wh (h.ext S.upd) λw5 e5=>Ie (S.ext e5) (by rw [←hk];exact hK);refine Ae (λz W=>∃(T:Nat) (kd:Int),z=((T:Int),kd,())/\v=(if T=s then noP 80 else Bz A T kd)/\St (λ_=>False) w W [(b2,ldZ),(b1,Jw kind count arg)]) ?_ ?_
 ·refine S4.ld (off:=0) 1 rfl (x:=kind) rfl (Ac (λhk1=>?_) (λhk1=>?_))
  ·rw [jM] at hk1;rw [aF hk1] at hv;obtain ⟨f,hf⟩:∃f:Nat->Bool,(λj=>Ew A j&&!Ew A (j-1))=f:=⟨_,rfl⟩;have hfj:∀j,f j=(Ew A j&&!Ew A (j-1)):=λj=>(by rw [←hf]);rw [hf] at hv;obtain ⟨tg,htg⟩:∃tg,upF f (i+1) (lnN A) k=tg:=⟨_,rfl⟩;rw [show ((upL (lnN A) i).filter f)[k-1]?=tg from htg] at hv;refine Ae (λz W=>∃(k':Nat) (t:Int),z=((k':Int),t,())/\w4=W/\((0<k'/\tg=none)\/(k'=0/\∃m,tg=some m/\t=((Aq A m).from_:Int)/\i<m/\m<lnN A))) ?_ ?_
   ·rw [Ub (by omega)];refine Ba (λz W=>∃(k' j:Nat) (t:Int),z=((k':Int),t,(j:Int),())/\w4=W/\i<j/\j<=lnN A/\k'<=9999/\((0<k'/\upF f j (lnN A) k'=tg)\/(k'=0/\∃m,tg=some m/\t=((Aq A m).from_:Int)/\i<m/\m<lnN A))) (λz _=>((lnN A:Int)-z.2.2.1).toNat) ⟨k,i+1,-1,rfl,rfl,by omega,by omega,hkr.2,.inl ⟨by omega,htg⟩⟩ ?_;rintro _ _ ⟨k',j,t,rfl,rfl,hj1,hj2,hk',hor⟩;dsimp only;refine Ae (λz W=>z=(decide (j<lnN A/\0<k'),())/\w4=W) (h4.Oa (Ac (λh1=>⟨Az ?_,rfl⟩) (λh1=>⟨Az ?_,rfl⟩))) ?_;{simp only [iI,kG] at h1 ⊢;omega};{simp only [iH] at h1;simp only [dO,iI,lS];omega};rintro _ _ ⟨rfl,rfl⟩;refine Ac (λhc=>?_) (λhc=>?_)
    ·obtain ⟨hc1,hc2⟩:=cO hc;have hjb:j<=brs A:=(by omega);obtain ⟨_,hu⟩:=hor.resolve_right (λhh=>by have:=hh.1;omega);rw [Ub (n:=j) (by omega)];(have ek:W64 ((k':Int)-1)=((k'-1:Nat):Int):=by rw [wrap64 (by omega) (by omega)];omega);(have ej:W64 ((j:Int)-1)=((j-1:Nat):Int):=by rw [wrap64 (by omega) (by omega)];omega);rw [ek,ej];refine Ae (λz W=>z=(((if f j=true then k'-1 else k':Nat):Int),(if f j=true then ((Aq A j).from_:Int) else t),())/\w4=W) ?_ ?_;{refine Ae (λz W=>z=(f j,())/\w4=W) ?_ ?_;{rw [hfj];refine Sj h4 hjb (Ac (λhbl=>?_) (λhbl=>?_));{rw [hbl];exact Sj h4 (i:=j-1) (by omega) ⟨rfl,rfl⟩};{rw [hbl];exact ⟨rfl,rfl⟩}};rintro _ _ ⟨rfl,rfl⟩;refine Ac (λhf1=>?_) (λhf1=>?_);{have hf1:f j=true:=hf1;rw [aF hf1,aF hf1];exact h4.U6 hjb λs p=>⟨rfl,rfl⟩};{have hf1:f j=false:=hf1;rw [aJ (by rw [hf1];decide),aJ (by rw [hf1];decide)];exact ⟨rfl,rfl⟩}};rintro _ _ ⟨rfl,rfl⟩;by_cases hf1:f j=true;{rw [aF hf1,aF hf1];refine ⟨⟨k'-1,j+1,_,rfl,rfl,by omega,by omega,by omega,?_⟩,by omega⟩;by_cases h1:k'=1;{subst h1;rw [Ae9 hc1 hf1] at hu;exact .inr ⟨rfl,j,hu.symm,rfl,hj1,hc1⟩};{refine .inl ⟨by omega,?_⟩;have hm:=L8 (k:=k'-1) hc1 hf1 (by omega);rw [show k'-1+1=k' by omega] at hm;rw [←hm];exact hu}}
     ·have hf2:f j=false:=by cases hx:f j with
       |true=>exact absurd hx hf1
       |false=>rfl
      rw [aJ hf1,aJ hf1];refine ⟨⟨k',j+1,t,rfl,rfl,by omega,by omega,hk',.inl ⟨hc2,?_⟩⟩,by omega⟩;rw [←Aw1 hc1 hf2];exact hu
    {have hc:=pV hc;refine ⟨k',t,rfl,rfl,?_⟩;rcases hor with ⟨h1,hu⟩|h1;{exact .inl ⟨h1,by rw [←hu];exact L6 (by omega)⟩};{exact .inr h1}}
   rintro _ _ ⟨k',t,rfl,rfl,hor⟩;dsimp only;refine Ac (λhc=>?_) (λhc=>?_);{simp only [iI,kG] at hc;obtain ⟨_,rfl⟩:=hor.resolve_right (λhh=>by have:=hh.1;omega);have hv:(if Du A=s then noP 80 else Bz A (Du A) 1)=v:=hv;refine h4.Oa ?_;rw [ewl];exact Ol h4 (by omega) ⟨Du A,1,rfl,hv.symm,S4⟩};{simp only [iH,kG] at hc;rcases hor with ⟨h0,_⟩|⟨_,m,rfl,rfl,hm1,hm2⟩;{omega};have hv:Bz A (Aq A m).from_ 0=v:=hv;refine ⟨(Aq A m).from_,0,rfl,?_,S4⟩;rw [aJ (hne m (by omega) (by omega))];exact hv.symm}
  rw [jO] at hk1;rw [aJ hk1] at hv;refine Ac (λhk2=>?_) (λhk2=>?_)
  ·rw [jM] at hk2;rw [aF hk2] at hv;obtain ⟨f,hf⟩:∃f:Nat->Bool,(λj=>Ew A j&&!Ew A (j+1))=f:=⟨_,rfl⟩;have hfj:∀j,f j=(Ew A j&&!Ew A (j+1)):=λj=>(by rw [←hf]);rw [hf] at hv;obtain ⟨tg,htg⟩:∃tg,dnF f i k=tg:=⟨_,rfl⟩;rw [show ((Ny i).filter f)[k-1]?=tg from htg] at hv;refine Ae (λz W=>∃(k':Nat) (t:Int),z=((k':Int),t,())/\w4=W/\((0<k'/\tg=none)\/(k'=0/\∃m,tg=some m/\t=((Aq A m).from_:Int)/\m<i))) ?_ ?_
   ·rw [show W64 ((i:Int)-1)=(i:Int)-1 from wrap64 (by omega) (by omega)];refine Ba (λz W=>∃(k' n:Nat) (t:Int),z=((k':Int),t,(n:Int)-1,())/\w4=W/\n<=i/\k'<=9999/\((0<k'/\dnF f n k'=tg)\/(k'=0/\∃m,tg=some m/\t=((Aq A m).from_:Int)/\m<i))) (λz _=>(z.2.2.1+1).toNat) ⟨k,i,-1,rfl,rfl,fJ _,hkr.2,.inl ⟨by omega,htg⟩⟩ ?_;rintro _ _ ⟨k',n,t,rfl,rfl,hn,hk',hor⟩;dsimp only;refine Ae (λz W=>z=(decide (0<n/\0<k'),())/\w4=W) (Ac (λh1=>⟨Az ?_,rfl⟩) (λh1=>⟨Az ?_,rfl⟩)) ?_;{simp only [iI,jT,kG] at h1 ⊢;omega};{simp only [iH,jT] at h1;simp only [dO,iI,lS];omega};rintro _ _ ⟨rfl,rfl⟩;refine Ac (λhc=>?_) (λhc=>?_)
    ·obtain ⟨hc1,hc2⟩:=cO hc;obtain ⟨j,rfl⟩:∃j,n=j+1:=⟨n-1,by omega⟩;have hjb:j+1<=brs A:=(by omega);obtain ⟨_,hu⟩:=hor.resolve_right (λhh=>by have:=hh.1;omega);rw [show ((j+1:Nat):Int)-1=(j:Int) by omega];(have ek:W64 ((k':Int)-1)=((k'-1:Nat):Int):=by rw [wrap64 (by omega) (by omega)];omega);have ej:W64 ((j:Int)-1)=(j:Int)-1:=wrap64 (by omega) (by omega);rw [ek,ej,Ub (n:=j) (by omega)];refine Ae (λz W=>z=(((if f j=true then k'-1 else k':Nat):Int),(if f j=true then ((Aq A j).from_:Int) else t),())/\w4=W) ?_ ?_;{refine Ae (λz W=>z=(f j,())/\w4=W) ?_ ?_;{rw [hfj];refine Sj h4 (i:=j) (by omega) (Ac (λhbl=>?_) (λhbl=>?_));{rw [hbl];exact Sj h4 (i:=j+1) hjb ⟨rfl,rfl⟩};{rw [hbl];exact ⟨rfl,rfl⟩}};rintro _ _ ⟨rfl,rfl⟩;refine Ac (λhf1=>?_) (λhf1=>?_);{have hf1:f j=true:=hf1;rw [aF hf1,aF hf1];exact h4.U6 (i:=j) (by omega) λs p=>⟨rfl,rfl⟩};{have hf1:f j=false:=hf1;rw [aJ (by rw [hf1];decide),aJ (by rw [hf1];decide)];exact ⟨rfl,rfl⟩}};rintro _ _ ⟨rfl,rfl⟩;by_cases hf1:f j=true;{rw [aF hf1,aF hf1];refine ⟨⟨k'-1,j,_,rfl,rfl,by omega,by omega,?_⟩,by omega⟩;by_cases h1:k'=1;{subst h1;rw [Ag2 hf1] at hu;exact .inr ⟨rfl,j,hu.symm,rfl,by omega⟩};{refine .inl ⟨by omega,?_⟩;have hm:=V5 (k:=k'-1) hf1 (by omega);rw [show k'-1+1=k' by omega] at hm;rw [←hm];exact hu}}
     ·have hf2:f j=false:=by cases hx:f j with
       |true=>exact absurd hx hf1
       |false=>rfl
      rw [aJ hf1,aJ hf1];refine ⟨⟨k',j,t,rfl,rfl,by omega,hk',.inl ⟨hc2,?_⟩⟩,by omega⟩;rw [←Ba0 hf2];exact hu
    {have hc:=pV hc;refine ⟨k',t,rfl,rfl,?_⟩;rcases hor with ⟨h1,hu⟩|h1;{obtain rfl:n=0:=(by omega);exact .inl ⟨h1,by rw [←hu];exact Bh8⟩};{exact .inr h1}}
   rintro _ _ ⟨k',t,rfl,rfl,hor⟩;dsimp only;refine Ac (λhc=>?_) (λhc=>?_);{simp only [iI,kG] at hc;obtain ⟨_,rfl⟩:=hor.resolve_right (λhh=>by have:=hh.1;omega);have hv:(if s=0 then noP 80 else Bz A 0 0)=v:=hv;refine ⟨0,0,rfl,?_,S4⟩;rw [←hv];by_cases hs0:s=0;{rw [aF hs0,aF hs0.symm]};{rw [aJ hs0,aJ (λhh=>hs0 hh.symm)]}};{simp only [iH,kG] at hc;rcases hor with ⟨h0,_⟩|⟨_,m,rfl,rfl,hm1⟩;{omega};have hv:Bz A (Aq A m).from_ 0=v:=hv;refine ⟨(Aq A m).from_,0,rfl,?_,S4⟩;rw [aJ (hne m (by omega) (by omega))];exact hv.symm}
  rw [jO] at hk2;rw [aJ hk2] at hv;refine Ac (λhk3=>?_) (λhk3=>?_)
  ·rw [jM] at hk3;rw [aF hk3] at hv;refine hmatch h4 hg4 λw5 e5=>?_;rw [Af8];cases hm:Nv A s i with
   |none=>rw [hm] at hv;have hv:noP 80=v:=hv;exact Bh (fno (S4.ext e5) hv.symm)
   |some to=>rw [hm] at hv;have hv:Bz A to 1=v:=hv;exact Aj (fland (S4.ext e5) hv.symm)
  {rw [jO] at hk3;rw [aJ hk3] at hv;exact fno S4 hv.symm}
 rintro _ W ⟨T,kd,rfl,hvv,SW⟩;refine Ac (λhc=>?_) (λhc=>?_);{have hc:((T:Nat):Int)=(s:Int):=jM.1 hc;rw [aF (by omega)] at hvv;exact fno SW hvv};{have hc:((T:Nat):Int)≠(s:Int):=jO.1 hc;rw [aJ (by omega)] at hvv;exact fland SW hvv}
end
section
variable {w w':World}{q:Nat}{A:List Int}{i:Nat}
theorem Ca9 (A:List Int) (x g count:Int):Et A x g 15 count=Et A x 0 15 count:=by have a1:¬((15:Int)=11):=(by decide);have a2:¬((15:Int)=12):=(by decide);unfold Et;dsimp only;rw [aJ a1,aJ a2,aJ a1,aJ a2]
set_option maxHeartbeats 2000000 in
theorem Zz (h:Gu w q A){a b kind:Int}{K:SpT->Wp}(hK:∀w',Ext w w'->K (N9 (Px A a b kind)) w') :
  Aa Tryz.prog 53 #[.pointer (some (at0 q)),.int .i64 a,.int .i64 b,.int .i64 kind] (.tup [(.agg c94),(.one (.int .i64))]) K w:=by
 refine A53 ?_;unfold F53;have hA:=h.len;have hbl:=Gi A;have hb:=Bc A;obtain ⟨v,hv⟩:∃v,Px A a b kind=v:=⟨_,rfl⟩;rw [hv] at hK;unfold Px at hv;dsimp only at hv;refine (St.start w).Af λb1 w1 S1 e1=>Jj (h.ext e1) (Jj (h.ext e1) ?_);have S1:St (λ_=>False) w w1 [(b1,Jd ((0,0,0),0))]:=S1;have h1:=h.ext e1;have sa:=Nj A a true;have sb:=Nj A b true;obtain ⟨ca,hca⟩:∃ca,Ak A a true=ca:=⟨_,rfl⟩;obtain ⟨cb,hcb⟩:∃cb,Ak A b true=cb:=⟨_,rfl⟩;rw [hca,hcb] at hv;rw [hca] at sa;rw [hcb] at sb;rw [hca,hcb];have emin:(if (cb:Int)<(ca:Int) then (cb:Int) else (ca:Int))=((min ca cb:Nat):Int):=(by split<;>omega);have emax:(if (cb:Int)>(ca:Int) then (cb:Int) else (ca:Int))=((max ca cb:Nat):Int):=(by split<;>omega);rw [emin,emax];have slo:Stand A (min ca cb) true:=by
  rcases oK ca cb with hh|hh
  ·rw [gK hh];exact sa
  ·rw [oG hh];exact sb
 have shi:Stand A (max ca cb) true:=by
  rcases oK ca cb with hh|hh
  ·rw [Nat.max_eq_right hh];exact sb
  ·rw [oM hh];exact sa
 have hlh:min ca cb<=max ca cb:=(by omega);obtain ⟨lo,hlo⟩:∃lo,min ca cb=lo:=⟨_,rfl⟩;obtain ⟨hi,hhi⟩:∃hi,max ca cb=hi:=⟨_,rfl⟩;rw [hlo] at hv slo hlh;rw [hhi] at hv shi hlh;rw [hlo,hhi];have hlol:=slo.len;have hhil:=shi.len;(have eof:∀n:Nat,n<=A.length->ofI A (n:Int)=nb A n:=λn hn=>by unfold ofI;rw [Ui hn]);(have eor:∀n:Nat,n<=A.length->Cc A (n:Int) false=min (nb A n) (lnN A-1):=λn hn=>by unfold Cc;rw [aJ (by decide),eof n hn]);rw [eof hi hhil,eor lo hlol,eor hi hhil] at hv;have hpor:∀{W:World} {n:Nat} {K':Int->Wp},Gu W q A->n<=A.length->K' ((min (nb A n) (lnN A-1):Nat):Int) W->Aa Tryz.prog 84 #[.pointer (some (at0 q)),.int .i64 (n:Int)] rI K' W:=λh' hn hk=>Be3 h' hn (by rw [eor _ hn];exact hk);have hib:=Hg A hi;have hbt:=Cz3 hlol hhil hlh;have hto:=λhh=>Df5 (hi:=hi) slo hh;have hone:=Cz2 shi;refine Hz h1 hhil ?_;refine Ac (λhk=>?_) (λhk=>?_);{rw [jM] at hk;rw [aF hk] at hv;refine Ae (λx V=>x=(((if hi=(Aq A (nb A hi)).from_/\lo<hi/\0<nb A hi then max (Aq A (nb A hi-1)).to_ lo else hi:Nat):Int),())/\w1=V) ?_ ?_;{refine Ae (λx V=>x=(decide (hi=(Aq A (nb A hi)).from_/\nb A lo<nb A hi),())/\w1=V) ?_ ?_;{refine h1.U6 hib λs p=>Ac (λhc=>Hz h1 hlol ⟨Az ?_,rfl⟩) (λhc=>⟨Az ?_,rfl⟩);{have hc:((hi:Nat):Int)=((Aq A (nb A hi)).from_:Int):=jM.1 hc;simp only [iI];omega};{have hc:((hi:Nat):Int)≠((Aq A (nb A hi)).from_:Int):=jO.1 hc;simp only [dO,iI,lS];omega}};rintro _ _ ⟨rfl,rfl⟩;refine Ac (λhc=>?_) (λhc=>?_);{have hc:=cO hc;rw [aF (hbt.1 hc)];have:=hto hc.2;(have ew:W64 ((nb A hi:Int)-1)=((nb A hi-1:Nat):Int):=by rw [wrap64 (by omega) (by omega)];omega);rw [ew];refine h1.toK (i:=nb A hi-1) (by omega) λs p=>⟨?_,rfl⟩;rw [oM this]};{have hc:=pV hc;rw [aJ (λhh=>hc (hbt.2 hh))];exact ⟨rfl,rfl⟩}};rintro _ _ ⟨rfl,rfl⟩;refine Mc (l:=(((lo:Int),(((if hi=(Aq A (nb A hi)).from_/\lo<hi/\0<nb A hi then max (Aq A (nb A hi-1)).to_ lo else hi:Nat):Int)),0),0)) (o:=Jd ((0,0,0),0)) (i:=0) S1 rfl λw' x=>?_;have:=hK w' x;rw [←hv] at this;split at this;{rename_i hc;rw [aF hc];exact this};{rename_i hc;rw [aJ hc];exact this}};rw [jO] at hk;rw [aJ hk] at hv;refine Ac (λhk=>?_) (λhk=>?_);{rw [jM] at hk;rw [aF hk] at hv;obtain ⟨n,hn⟩:∃n,(Ag A (nb A hi)).length=n:=⟨_,rfl⟩;have hcl:=Hq hib;have ok:=Cb hib;have tn:=ok.tn;have nl:=ok.nl;refine Ae (λ_ V=>w1=V/\∀(j:Nat) (x:Cel),(Ag A (nb A hi))[j]?=some x->x.from_≠hi) ?_ ?_;{refine Ba (λx V=>∃j:Nat,x=((j:Int),())/\w1=V/\j<=n/\∀(m:Nat) (x:Cel),m<j->(Ag A (nb A hi))[m]?=some x->x.from_≠hi) (λx _=>((n:Int)-x.1).toNat) ⟨0,rfl,rfl,iW _,λm x hm=>by omega⟩ ?_;rintro _ _ ⟨j,rfl,rfl,hj,hno⟩;dsimp only;refine h1.Xi hib λs1 p1 y1 hy1 hyl1=>Ac (λhc=>?_) (λhc=>?_);{simp only [iI] at hc;obtain ⟨c,hcc⟩:=Dk (C:=Ag A (nb A hi)) (j:=j) (by omega);rw [Ub (by omega)];refine h1.Xi hib λs2 p2 y hy hyl=>Jr hy hcc λp3=>Ac (λhe=>?_) (λhe=>?_);{have he:((c.from_:Nat):Int)=(hi:Int):=jM.1 he;refine h1.Xi hib λs4 p4 y4 hy4 hyl4=>Bt6 hy4 hcc λp5=>?_;rcases hone with ⟨m,cc,g1,g2,g3,g4,g5⟩|⟨_,g2⟩;{have:=g5 j c hcc (by omega);subst this;rw [aF g3,g4] at hv;exact Mc (l:=(((lo:Int),(c.to_:Int),0),0)) (o:=Jd ((0,0,0),0)) (i:=0) S1 rfl (by rw [hv];exact hK)};{exact absurd (show c.from_=hi by omega) (g2 j c hcc)}};{have he:((c.from_:Nat):Int)≠(hi:Int):=jO.1 he;refine ⟨⟨j+1,rfl,rfl,by omega,λm x hm hx=>?_⟩,by omega⟩;by_cases hmj:m=j;{subst hmj;rw [hcc] at hx;cases hx;omega};{exact hno m x (by omega) hx}}};{simp only [iH] at hc;exact ⟨rfl,λm x hx=>hno m x (by have:=(fG.1 hx).1;omega) hx⟩}};rintro _ _ ⟨rfl,hno⟩;rcases hone with ⟨m,cc,g1,g2,_⟩|⟨g1,_⟩;{exact absurd g2 (hno m cc g1)};{rw [aJ (by omega)] at hv;exact Mc (l:=(((lo:Int),(hi:Int),0),0)) (o:=Jd ((0,0,0),0)) (i:=0) S1 rfl (by rw [hv];exact hK)}};rw [jO] at hk;rw [aJ hk] at hv;refine Ac (λhk=>?_) (λhk=>?_);{rw [jM] at hk;rw [aF hk] at hv;have hr1:min (nb A lo) (lnN A-1)<=brs A:=(by omega);have hr2:min (nb A hi) (lnN A-1)<=brs A:=(by omega);refine S1.drew λw2 S2 e2 _=>?_;have h2:=h1.ext e2;refine h2.Ug λsl hsl hkl=>h2.Ug λsm hsm hkm=>hpor h2 hlol (Bg (hkm w2 (Ext.refl _)) (Bg (hkl w2 (Ext.refl _)) ?_));refine Al1 hsl hr1 λp46 hp46=>hpor h2 hhil (Bg (hp46 w2 (Ext.refl _)) (Bg (hkm w2 (Ext.refl _)) (Bg (hkl w2 (Ext.refl _)) ?_)));refine Al0 hsm hr2 λp49=>?_;exact Mc (l:=((((Aq A (min (nb A lo) (lnN A-1))).from_:Int),((Aq A (min (nb A hi) (lnN A-1))).next:Int),1),0)) (o:=Jd ((0,0,0),0)) (i:=0) S2 rfl (by rw [hv];exact hK)};{rw [jO] at hk;rw [aJ hk] at hv;exact Mc (l:=noP 1) (o:=Jd ((0,0,0),0)) (i:=0) S1 rfl (by rw [hv];exact hK)}
set_option maxHeartbeats 2000000 in
theorem Cl7 (h:Gu w q A) (hg:Aq6 w){s kind count arg:Int}{K:LdT->Wp}(hK:∀w',Ext w w'->K (ldT (goP A s kind count arg)) w') :
  Aa Tryz.prog 105 #[.pointer (some (at0 q)),.int .i64 s,.agg (Cells.vals c48 (mvM kind count arg)).toArray] (.tup [(.agg c83),(.one (.int .i64))]) K w:=by
 refine Eo6 (a2:=mvM kind count arg) ?_;unfold F105;refine (St.start w).Af λb1 w1 S1 e1=>S1.Af λb2 w2 S2 e2=>?_;have S2:St (λ_=>False) w w2 [(b2,ldZ),(b1,Jw kind count arg)]:=S2;have h2:=h.ext S2.upd;have hg2:=hg.ext S2.upd;obtain ⟨l,hl⟩:∃l,goP A s kind count arg=l:=⟨_,rfl⟩;rw [hl] at hK;unfold goP at hl;have rng:∀{lo hi:Int} {B C:World->Prop},(lo<=kind/\kind<=hi->B w2)->(¬(lo<=kind/\kind<=hi)->C w2)->join (S:=Bool×Unit) (λJ=>ld (.int .i64) (at0 b1) λ(x5:Int)=>sif (decide (x5>=lo)) (ld (.int .i64) (at0 b1) λ(x6:Int)=>J ((decide (x6<=hi)),())) (J (false,()))) (λs=>sif s.1 B C) w2:=λ{lo hi B C} hB hC=>by
  refine Ae (λy V=>y=(decide (lo<=kind/\kind<=hi),())/\w2=V) ?_ ?_
  ·refine S2.ld (off:=0) 1 rfl (x:=kind) rfl (Ac (λh1=>S2.ld (off:=0) 1 rfl (x:=kind) rfl ⟨Az ?_,rfl⟩) (λh1=>⟨Az ?_,rfl⟩))
   ·simp only [iI,jT] at h1 ⊢
    exact ⟨λhh=>⟨h1,hh⟩,λhh=>hh.2⟩
   ·simp only [iH,jT] at h1
    simp only [dO,iI,lS]
    exact λhh=>h1 hh.1
  ·rintro _ _ ⟨rfl,rfl⟩
   exact Ac (λhc=>hB (cO hc)) (λhc=>hC (pV hc))
 refine rng (λhc=>?_) (λhc=>?_);{rw [aF hc] at hl;exact S2.lds 1 (mvM kind count arg) rfl (Be7 h2 λw3 e3=>Ie (S2.ext e3) (by rw [hl];exact hK))};rw [aJ hc] at hl;refine S2.ld (off:=0) 1 rfl (x:=kind) rfl (Ac (λhk=>?_) (λhk=>?_));{rw [jM] at hk;rw [aJ (by omega),aF hk] at hl;refine S2.drew λw3 S3 e3 _=>S3.ld (off:=1) 1 rfl (x:=count) rfl (Zd (h.ext S3.upd) λw4 e4=>?_);have S4:=S3.ext e4;refine S4.keep (off:=1) 1 rfl (v:=.int .i64 count) rfl ?_;refine Aj7 (kind:=15) (count:=count) (arg:=0) (h.ext S4.upd) λw5 e5=>?_;rw [Ca9];exact Ie (S4.ext e5) (by rw [hl];exact hK)};rw [jO] at hk;refine rng (λhc=>?_) (λhc=>?_);{rw [aF hc] at hl;refine S2.drew λw3 S3 e3 _=>S3.lds 1 (mvM kind count arg) rfl (Zd (h.ext S3.upd) λw4 e4=>?_);have S4:=S3.ext e4;refine S4.keeps 1 (x:=mvM kind count arg) rfl (Aj7 (h.ext S4.upd) λw5 e5=>?_);exact Ie (S4.ext e5) (by rw [hl];exact hK)};rw [aJ hc,aJ hk] at hl;refine rng (λhc=>?_) (λhc=>?_);{rw [aF hc] at hl;exact S2.lds 1 (mvM kind count arg) rfl (Bd8 h2 λw3 e3=>Ie (S2.ext e3) (by rw [hl];exact hK))};rw [aJ hc] at hl;refine rng (λhc=>?_) (λhc=>?_);{rw [aF hc] at hl;exact S2.lds 1 (mvM kind count arg) rfl (Be2 h2 hg2 λw3 e3=>Ie (S2.ext e3) (by rw [hl];exact hK))};rw [aJ hc] at hl;exact Xw λw3 e3=>Ie (S2.ext e3) (by rw [hl];exact hK)
set_option maxHeartbeats 2000000 in
theorem Be0 (h:Gu w q A) (hg:Aq6 w){x kind count arg:Int}{K:SpT->Wp}(hK:∀w',Ext w w'->K (N9 (Y7 A x kind count arg)) w') :
  Aa Tryz.prog 50 #[.pointer (some (at0 q)),.int .i64 x,.agg (Cells.vals c48 (mvM kind count arg)).toArray] (.tup [(.agg c94),(.one (.int .i64))]) K w:=by
 refine A50 (a2:=mvM kind count arg) ?_;unfold F50;have hA:=h.len;refine (St.start w).Af λb1 w1 S1 e1=>S1.Af λb2 w2 S2 e2=>?_;have S2:St (λ_=>False) w w2 [(b2,Jd ((0,0,0),0)),(b1,Jw kind count arg)]:=S2;have h2:=h.ext S2.upd;obtain ⟨v,hv⟩:∃v,Y7 A x kind count arg=v:=⟨_,rfl⟩;rw [hv] at hK;unfold Y7 at hv;dsimp only at hv;have ss:=Vu (Nj A x false);refine Jj h2 ?_;obtain ⟨s,hs⟩:∃s,Ak A x false=s:=⟨_,rfl⟩;rw [hs] at hv ss;rw [hs];have hgo:=Co3 A (s:Int) kind count arg;obtain ⟨l,hl⟩:∃l,goP A (s:Int) kind count arg=l:=⟨_,rfl⟩;rw [hl] at hv hgo;refine S2.lds 1 (mvM kind count arg) rfl (Cl7 h2 (hg.ext S2.upd) λw3 e3=>?_);rw [hl];refine (S2.ext e3).Ir rfl rfl rfl λb6 w4 S4 e4=>?_;have S4:St (λ_=>False) w w4 [(b6,Cd9 l),(b2,Jd ((0,0,0),0)),(b1,Jw kind count arg)]:=S4;have h4:=h.ext S4.upd;refine Ac (λhz=>?_) (λhz=>?_);{have hz:l.2≠0:=(by simpa using hz);rw [aF hz] at hv;exact Mc (l:=noP l.2) (o:=Jd ((0,0,0),0)) (i:=1) S4 rfl (by rw [hv];exact hK)};have hz:l.2=0:=(by simpa using hz);rw [aJ (by omega)] at hv;obtain ⟨past,hln,_⟩:=hgo;obtain ⟨n,hn,hst,_⟩:=hln hz;have hnl:=hst.len;(have eof:∀n:Nat,n<=A.length->ofI A (n:Int)=nb A n:=λn hn=>by unfold ofI;rw [Ui hn]);have hps:=Cc2 A ss (decide (kind=25)) (kOf count);have hpl:=Cm0 A s (decide (kind=25)) (kOf count);obtain ⟨f,hf⟩:∃f,Lr A s (decide (kind=25)) (kOf count)=f:=⟨_,rfl⟩;rw [hf] at hv hps hpl;have hfl:=hps.2.len;rw [eof f hfl,hn,eof n hnl] at hv;refine Ae (λ_ V=>¬((kind=21\/kind=25)/\nb A f<nb A n)/\St (λ_=>False) w V [(b6,Cd9 l),(b2,Jd ((0,0,0),0)),(b1,Jw kind count arg)]) ?_ ?_
 ·refine Ae (λy V=>y=(decide (kind=21\/kind=25),())/\w4=V) ?_ ?_;{refine S4.ld (off:=0) 2 rfl (x:=kind) rfl (Ac (λh1=>⟨Az ?_,rfl⟩) (λh1=>S4.ld (off:=0) 2 rfl (x:=kind) rfl ⟨Az ?_,rfl⟩));{simp only [jM] at h1;simp only [lQ,iI];omega};{simp only [jO,ne_eq] at h1;simp only [jM,iI];omega}};rintro _ _ ⟨rfl,rfl⟩;refine Ac (λhc=>?_) (λhc=>?_)
  ·have hc:=cO hc;have eb:(kind==25)=decide (kind=25):=(by rw [gV,jM,iI]);refine S4.ld (off:=0) 2 rfl (x:=kind) rfl ?_;rw [eb];refine Nk h4 λr z w5 o1 _ e5=>?_;rw [Ao1] at o1;have S5:=S4.ext e5;obtain ⟨m1,m2⟩:=Zg hA (Lj A (decide (kind=25)));obtain ⟨L,hL⟩:∃L,Bq A (Lj A (decide (kind=25)))=L:=⟨_,rfl⟩;rw [hL] at o1 m1 m2 hpl;have hkr:=Zi count;refine S5.lds 2 (mvM kind count arg) rfl (Pm λw6 e6=>?_);have S6:=S5.ext e6;have h6:=h.ext S6.upd;have o6:=o1.ext e6;(have hLl:L.length=r.len:=by have:=o1.len1;rwa [gW,gW] at this);refine Ae (λz V=>z=((f:Int),())/\w6=V) ?_ ?_
   ·refine Ba (λx V=>∃k' fr j:Nat,x=((k':Int),(fr:Int),(j:Int),())/\w6=V/\j<=L.length/\1<=k'/\k'<=9999/\Xz (L.drop j) s (k'-1) fr=f) (λx _=>((L.length:Int)-x.2.2.1).toNat) ⟨kOf count,s,0,rfl,rfl,iW _,hkr.1,hkr.2,hpl.symm⟩ ?_;rintro _ _ ⟨k',fr,j,rfl,rfl,hj,hk1,hk2,hp⟩;dsimp only;refine Ae (λz V=>z=(decide (j<L.length/\1<k'),())/\w6=V) (Ac (λh1=>⟨Az ?_,rfl⟩) (λh1=>⟨Az ?_,rfl⟩)) ?_;{simp only [iI,kG] at h1 ⊢;omega};{simp only [iH] at h1;simp only [dO,iI,lS];omega};rintro _ _ ⟨rfl,rfl⟩;refine Ac (λhc2=>?_) (λhc2=>?_)
    ·obtain ⟨c1,c2⟩:=cO hc2;obtain ⟨y,hy⟩:∃y,L[j]?=some y:=⟨_,jC c1⟩;have hd:L.drop j=y::L.drop (j+1):=by
      rw [iZ c1,(fG.1 hy).2]
     rw [hd] at hp;rw [Ub (n:=j) (by omega),show W64 ((k':Int)-1)=((k'-1:Nat):Int) by rw [wrap64 (by omega) (by omega)];omega];refine Ae (λz V=>z=(((if s<y then k'-1 else k':Nat):Int),((if s<y then y else fr:Nat):Int),())/\w6=V) ?_ ?_;{refine Fh (c:=.int .i64) (xs:=nI L) o6 (kQ j) (As8 hy) λp=>Ac (λhe=>?_) (λhe=>?_);{simp only [iI,kG] at he;have he:s<y:=(by omega);rw [aF he,aF he];exact Fh (c:=.int .i64) (xs:=nI L) o6 (kQ j) (As8 hy) λp=>⟨rfl,rfl⟩};{simp only [iH,kG] at he;rw [aJ (by omega),aJ (by omega)];exact ⟨rfl,rfl⟩}};rintro _ _ ⟨rfl,rfl⟩;refine ⟨⟨_,_,j+1,rfl,rfl,by omega,by split<;>omega,by split<;>omega,?_⟩,by omega⟩;by_cases he:s<y;{rw [aF he,aF he];rw [Cc3 he (by omega)] at hp;exact hp};{rw [aJ he,aJ he];rw [Cl9 he] at hp;exact hp}
    ·have hc2:=pV hc2;refine ⟨?_,rfl⟩;have:fr=f:=by
      rw [←hp]
      by_cases hjl:j<L.length
      ·rw [show k'-1=0 by omega,Bo2]
      ·rw [iY (by omega),Cc4]
     rw [this]
   rintro _ _ ⟨rfl,rfl⟩;refine S6.ld (off:=0) 0 rfl (x:=l.1.1) rfl ?_;rw [hn];refine Hz h6 hnl (Hz h6 hfl (Ac (λhd=>?_) (λhd=>?_)));{simp only [iI,kG] at hd;rw [aF ⟨hc,by omega⟩] at hv;refine S6.drew λw7 S7 e7 _=>(h6.ext e7).Ug λsl hsl hk=>Hz (h6.ext e7) hfl (Bg (hk w7 (Ext.refl _)) ?_);refine Ak9 hsl (Hg A f) λp=>?_;exact Mc (l:=(((s:Int),((Aq A (nb A f)).to_:Int),0),0)) (o:=Jd ((0,0,0),0)) (i:=1) S7 rfl (by rw [hv];exact hK)};{simp only [iH,kG] at hd;exact ⟨λhh=>by have:=hh.2;omega,S6⟩}
  {have hc:=pV hc;exact ⟨λhh=>hc hh.1,S4⟩}
 rintro _ w6 ⟨hno,S6⟩;rw [aJ hno] at hv;refine S6.ld (off:=0) 0 rfl (x:=l.1.1) rfl (S6.ld (off:=1) 0 rfl (x:=l.1.2.1) rfl (Zz (h.ext S6.upd) λw7 e7=>?_));rw [hn];exact Mc (l:=Px A (s:Int) (n:Int) l.1.2.1) (o:=Jd ((0,0,0),0)) (i:=1) (S6.ext e7) rfl (by rw [hv];exact hK)
end
section
variable {w w':World}{p q:Nat}{A:List Int}{a:Yt}
theorem Ai5 {l:Ld}{K:Bool->Wp}(hK:∀w',Ext w w'->K true w'):Aa Tryz.prog 51 #[.agg (Cells.vals c94 (N9 l).1).toArray,.int .i64 l.2,.agg (Cells.vals c94 (N9 l).1).toArray,.int .i64 l.2] rB K w:=by refine A51 (a0:=(N9 l).1) (a2:=(N9 l).1) ?_;unfold F51;refine (St.start w).Af λb1 w1 S1 e1=>S1.Af λb2 w2 S2 e2=>S2.ld (off:=0) 1 rfl (x:=l.1.1) rfl (S2.ld (off:=0) 0 rfl (x:=l.1.1) rfl ?_);rw [qH];refine Bh (S2.ld (off:=1) 1 rfl (x:=l.1.2.1) rfl (S2.ld (off:=1) 0 rfl (x:=l.1.2.1) rfl ?_));rw [qH];refine Bh (S2.ld (off:=2) 1 rfl (x:=l.1.2.2) rfl (S2.ld (off:=2) 0 rfl (x:=l.1.2.2) rfl ?_));rw [qH,qH];exact Bh (hK w2 S2.upd)
theorem Bk8 (hk:a.kind=8):Cu1 a:=by intro w p q A K hg tx pg hK;refine A18 (a2:=Aq4 a) ?_;unfold F18;refine (St.start w).Af λb1 w1 S1 e1=>?_;have S1:St (λ_=>False) w w1 [(b1,Bj9 a)]:=S1;refine S1.ld (off:=0) 0 rfl (x:=a.kind) rfl ?_;rw [hk];refine Aj (Aj (Aj (Aj (Aj (Aj (Aj (Bh (S1.ld (off:=1) 0 rfl (x:=a.at_) rfl (Bj8 (S1.at_ 0 rfl) (Bn4 (tx.ext S1.upd) λw2 e2=>?_))))))))));obtain ⟨l,hl⟩:∃l,Y7 A a.at_ a.mkd a.count a.arg=l:=⟨_,rfl⟩;rw [hl];refine (S1.ext e2).Ir rfl rfl rfl λb3 w3 S3 e3=>?_;have S3:St (λ_=>False) w w3 [(b3,Jd l),(b1,Bj9 a)]:=S3;refine S3.ld (off:=1) 1 rfl (x:=a.at_) rfl (Bj8 (S3.at_ 1 rfl) (Be0 (pg.ext S3.upd) (Aq6.ext hg S3.upd) λw4 e4=>?_));rw [hl];refine (S3.ext e4).Ir rfl rfl rfl λb5 w5 S5 e5=>?_;have S5:St (λ_=>False) w w5 [(b5,Jd l),(b3,Jd l),(b1,Bj9 a)]:=S5;exact S5.lds 1 (N9 l).1 rfl (S5.lds 0 (N9 l).1 rfl (Ai5 λw6 e6=>hK w6 (S5.ext e6).upd))
theorem By7 (hk:a.kind=9):Cu1 a:=by intro w p q A K hg tx pg hK;refine A18 (a2:=Aq4 a) ?_;unfold F18;refine (St.start w).Af λb1 w1 S1 e1=>?_;have S1:St (λ_=>False) w w1 [(b1,Bj9 a)]:=S1;refine S1.ld (off:=0) 0 rfl (x:=a.kind) rfl ?_;rw [hk];refine Aj (Aj (Aj (Aj (Aj (Aj (Aj (Aj (Bh (S1.ld (off:=1) 0 rfl (x:=a.at_) rfl (S1.ld (off:=2) 0 rfl (x:=a.b) rfl (S1.ld (off:=3) 0 rfl (x:=a.mkd) rfl (X9 (tx.ext S1.upd) λw2 e2=>?_))))))))))));obtain ⟨l,hl⟩:∃l,Px A a.at_ a.b a.mkd=l:=⟨_,rfl⟩;rw [hl];refine (S1.ext e2).Ir rfl rfl rfl λb3 w3 S3 e3=>?_;have S3:St (λ_=>False) w w3 [(b3,Jd l),(b1,Bj9 a)]:=S3;refine S3.ld (off:=1) 1 rfl (x:=a.at_) rfl (S3.ld (off:=2) 1 rfl (x:=a.b) rfl (S3.ld (off:=3) 1 rfl (x:=a.mkd) rfl (Zz (pg.ext S3.upd) λw4 e4=>?_)));rw [hl];refine (S3.ext e4).Ir rfl rfl rfl λb5 w5 S5 e5=>?_;have S5:St (λ_=>False) w w5 [(b5,Jd l),(b3,Jd l),(b1,Bj9 a)]:=S5;exact S5.lds 1 (N9 l).1 rfl (S5.lds 0 (N9 l).1 rfl (Ai5 λw6 e6=>hK w6 (S5.ext e6).upd))
theorem Bb7 {y:Cells.T c26}{c:Int}{l:List UInt8}{L:List (List LEd)}{al:List Yt}(h:Xm w y c l L al) (hg:Brk w){K:Bool->Wp}(hK:∀w',Ext w w'->K true w'):Aa Tryz.prog 8 #[.agg (Cells.vals c26 y).toArray] rB K w:=by
 refine A8 (a0:=y) ?_;unfold F8;refine (St.start w).Af λb1 w1 S1 e1=>?_;have S1:St (λ_=>False) w w1 [(b1,lkO y)]:=S1;refine S1.lds 0 y rfl (Bk7 (h.Dg3 e1) (hg.ext e1) (λa h1 h2=>by
  rcases (by omega:a.kind=8\/a.kind=9) with hk|hk
  ·exact Bk8 hk
  ·exact By7 hk) λw2 e2=>hK w2 (S1.ext e2).upd)
end
end
section
open Go Go.Vx Go.ChangeShapes Go.WideShapes Go.RowKit
theorem Zu (os:Os){H:Type}(enc:TypeId×Value->H) :
  (Rows.OpenSpec.upto Rows.motionReachSpec).preRow enc Tryz.prog Tryz.f8 Rows.motionReachUptoRow.domain false laidB ((laidWorld os).forCall (λ_ _=>0) ⟨#[],#[look0],[]⟩).memory #[look0]:=by
 have hw:(DataW.whole enc Tryz.prog ((laidWorld os).forCall (λ_ _=>0) ⟨#[],#[look0],[]⟩).memory Tryz.f8.params.toList (Rows.OpenSpec.upto Rows.motionReachSpec).vars false #[look0].toList 8).map (λx=>(x.1,x.2.1)) =
   some ([.agg [.lit (.int .i64 0),.nil,.nil,.nil]],[]):=by kernel_rfl
 obtain ⟨⟨x1,x2,x3⟩,hx,hx1⟩:=mO.1 hw;simp only [Prod.mk.injEq] at hx1;obtain ⟨rfl,rfl⟩:=hx1;exact OpenSpec.preRow_of_cond 8 hx (by kernel_rfl) (λk hk=>by cases hk;kernel_rfl) (by kernel_rfl) (laid_met os _)
set_option maxRecDepth 100000 in
set_option maxHeartbeats 2000000 in
theorem H6 (os:Os) (started:os.Started) (H:Type) (enc:TypeId×Value->H) (F:Stop.Interp) :
  ReturnsInHanded {} Tryz.checked os 8 .any ((Rows.OpenSpec.upto Rows.motionReachSpec).preRow enc Tryz.prog Tryz.f8 Rows.motionReachUptoRow.domain false laidB) (((Rows.OpenSpec.upto Rows.motionReachSpec).at F).post enc Tryz.prog Tryz.f8 false true false false):=by
 refine returnsInHanded_of_row (C:=Tryz.checked) (s:=Rows.OpenSpec.upto Rows.motionReachSpec) Tryz.own started (by kernel_rfl) Tryz.func8
  (witness_row_atRef (enc:=enc) (C:=Tryz.checked) false (laidWorld os) #[look0] rfl (by kernel_rfl) (by kernel_rfl) (by kernel_rfl) (Zu os enc)) ?_
 intro W base args ds gs before hval0 hW _ hk hwt0 hL _ _;have hval:∀(j:Nat) t v,Tryz.f8.params[j]?=some t->args[j]?=some v->Value.okWide Tryz.prog W .any base t v:=hval0;have hwt:(DataW.weightsEach Tryz.prog (Tryz.f8.params.toList++[]) (ds++gs)).all (·<=reachBytes)=true:=hwt0;have hW':=hW;obtain ⟨p,q,hA0,hV,rfl,hfz,hnd⟩:=hW;have hA:DataW.TrodAll enc Tryz.prog W 0 (λ_=>true) true Tryz.f8.params.toList args.toList ds p:=hA0;clear hA0 hval0 hwt0;rw [Tryz.params8] at hA hval hwt;obtain ⟨rfl,rfl⟩:=trodVars_none hV;obtain ⟨hn1,hn2,hT⟩:=Ac5 hA;obtain ⟨v0,hv⟩:=Co0 args.toList hn1;(obtain rfl:args=#[v0]:=by cases args;simp_all);obtain ⟨d0,rfl⟩:=Co0 ds hn2;have hbulk:bulk d0<=1048576:=by
  have h:Rows.uptoBulkAll ([d0]++[])<=1048576:=cO (hk _ rfl)
  simp only [kM,Rows.uptoBulkAll] at h
  show Rows.uptoBulk d0<=_
  omega
 obtain ⟨p0,q0⟩:=hT 0 26 v0 d0 rfl rfl rfl;obtain ⟨y,c,l,L,al,rfl,hLk⟩:=Ct6 (hval 0 26 v0 rfl rfl) q0 (weigh hwt 0 rfl rfl) hbulk;have walk:=Bb7 hLk (Bj2 hL) (K:=λr w'=>r=true/\Ext W w') λw' e=>⟨rfl,e⟩;refine walk.mono λe W' ⟨x,he,hx,hext⟩=>⟨.bool true,?_,?_⟩;{subst hx;exact he}
 ·exact Cb8 (s:=Rows.motionReachSpec) hW' rfl rfl u4 rfl Tryz.laidOut (λt ht=>by
   rw [Tryz.params8] at ht
   have ht:t∈[26]:=ht
   simp only [aG,kW,kX] at ht
   exact recs ht) hext
theorem Ae4:Rows.MotionReachUptoSaid :=
 OpenClaim.holds_of_cond 8 Tryz.f8 rfl rfl rfl rfl rfl rfl rfl ⟨rfl,rfl,rfl,rfl,rfl⟩ rfl rfl rfl rfl rfl (by kernel_rfl) Tryz.func8 (by kernel_rfl)
  (cO (by kernel_rfl)) (by unfold Func.isWrapper;rw [aJ (by decide +kernel)];exact ⟨rfl,rfl⟩)
  (λos started H enc _ F=>by rw [OpenClaim.pre_eq_preRow];exact H6 os started H enc F)
theorem motionReach_holds:Rows.MotionReachUptoCardSaid :=
 Claim7.holds_tied_plain_at .later [] [.data] true (true, "8f74c5824d2844387da4d3f60a6cadad0d89fd3d2452e68467ab9657e16e6046") false
  Ae4 (λ_ h=>by cases h) (by kernel_rfl) (λ_ h=>by cases h) motionReachUpto_row_tie rfl ⟨rfl,rfl⟩ (by kernel_rfl) rfl
  (λf fn hf hfn=>by
   obtain rfl:f=8:=kS ((show Tryz.prog.funcNamed "copyist/copyistlaw8.MotionReach" = some 8 by kernel_rfl).symm.trans hf) |>.symm
   obtain rfl:fn=Tryz.f8:=(kS (Tryz.func8.symm.trans hfn)).symm
   exact ⟨by kernel_rfl,λj t ht=>by
    rw [Tryz.params8] at ht
    have hm:t∈[26]:=by simpa using Array.mem_of_getElem? ht
    have hall:([26].all λu=>!Tryz.prog.wantsStandIn u)=true:=by kernel_rfl
    exact (show Tryz.prog.wantsStandIn t=false by simpa using aS.1 hall t hm)⟩)
  (by kernel_rfl)
end
end Go.Proofs.YtolhlldgnfbemaaGreatDoor
