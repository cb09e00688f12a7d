/- The law holds for every input: it returns true, and each argument reads behind the call as it did. Conditions: those of the form alone. -/
import Derived.Test.YtolhlldgnfbemaaGreatDoorXAl8
set_option linter.unusedVariables false
set_option linter.defProp false
set_option linter.unusedSimpArgs false
set_option linter.unusedSectionVars false
noncomputable section
set_option maxRecDepth 100000
namespace Go.Proofs.YtolhlldgnfbemaaGreatDoor
section
open Go Go.Vx Cdc Trx Gly Clu Lns Obx Mot
abbrev spO (c:Cel):Obj:=.cells #[.int .i64 (c.from_:Int),.int .i64 (c.to_:Int),.int .i64 c.atom,.bool c.alone,.int .i64 (c.kind:Int)] 76 (0,0)
abbrev Aq9 (w:World):Prop:=∀j,j<6->w.cell? ⟨0,j,none⟩=some (.int .i64 (Y4.getD j 0))
abbrev clB (A:List Int) (l:List ((Nat×Nat)×Nat)):List Cel:=l.map λq=>Ci9 A q.1
section
variable {w w':World}{q:Nat}{A:List Int}{i:Nat}
theorem Aq9.ext (h:Aq9 w) (x:Ext w w'):Aq9 w':=λj hj=>Vy (h j hj) x
theorem Wy (hg:Aq9 w){c:Cel}{K:Int->Wp}(hK:∀w',Ext w w'->K (Qm (sortB c)) w'):Aa Tryz.prog 160 #[.agg (Cells.vals c76 (spT c)).toArray] rI K w:=by
 refine Ek4 (a0:=spT c) ?_;unfold F160;refine (St.start w).Af λb1 w1 S1 e1=>?_;have S1:St (λ_=>False) w w1 [(b1,spO c)]:=S1;refine Ae (λ_ W=>(∀j,j<6->c.alone=true->c.atom≠Y4.getD j 0)/\Ext w W) ?_ ?_;{refine Ba (λx W=>∃j:Nat,x=((j:Int),())/\j<=6/\(∀i,i<j->c.alone=true->c.atom≠Y4.getD i 0)/\St (λ_=>False) w W [(b1,spO c)]) (λx _=>(6-x.1).toNat) ⟨0,rfl,iW _,λi hi=>by omega,S1⟩ ?_;rintro _ W ⟨j,rfl,hj,hno,SW⟩;dsimp only;refine Ac (λhc=>?_) (λhc=>?_);{simp only [iI] at hc;refine Ae (λx V=>x=(decide (c.alone=true/\c.atom=Y4.getD j 0),())/\St (λ_=>False) w V [(b1,spO c)]) ?_ ?_;{refine SW.drew λw2 S2 e2 _=>S2.ld (off:=3) 0 rfl (x:=c.alone) rfl (Ac (λha=>S2.ld (off:=2) 0 rfl (x:=c.atom) rfl (Dc ⟨by omega,by omega⟩ (F5 (x:=Y4.getD j 0) ?_ ⟨Az ?_,S2⟩))) (λha=>⟨Az ?_,S2⟩));{(have ea:(at0 0).add (scaled (Int.toNat (j:Int)) 1)=⟨0,j,none⟩:=by rw [addr_add,Ei,dF];simp);rw [ea];exact (hg.ext S2.upd) j (by omega)};{simp only [jM,iI];exact ⟨λhh=>⟨ha,hh⟩,λhh=>hh.2⟩};{simp only [dO,iI,lS];intro hh;rw [hh.1] at ha;cases ha}};rintro _ V ⟨rfl,SV⟩;rw [Qy (by omega)];refine Ac (λhb=>?_) (λhb=>?_);{obtain ⟨h1,h2⟩:=cO hb;have:=hK V SV.upd;rw [Bu6 h1 (by omega) h2] at this;exact this};{have hb:=pW hb;refine ⟨⟨j+1,rfl,by omega,λi hi ha he=>?_,SV⟩,by omega⟩;by_cases hij:i=j;{subst hij;exact hb ⟨ha,he⟩};{exact hno i (by omega) ha he}}};{simp only [iH] at hc;exact ⟨λi hi=>hno i (by omega),SW.upd⟩}};rintro _ W ⟨hno,eW⟩;have:=hK W eW;have hn:sortB c=none:=by
  cases ha:c.alone with
  |false=>simp [sortB,ha]
  |true=>exact At4 λj hj=>hno j hj ha
 rw [hn] at this;exact this
theorem Ah5 (o:Option Nat):decide (Qm o<0)=o.isNone:=by
 cases o with
 |none=>rfl
 |some x=>show decide ((x:Int)<0)=false;exact jQ (by omega)
theorem Bc2 {l:List ((Nat×Nat)×Nat)}{x:Int}{r:(Nat×Nat)×Nat}(h:l[x.toNat]?=some r):((clB A l).map spT)[x.toNat]?=some (spT (Ci9 A r.1)):=by rw [gX,gX,h];rfl
theorem Dc1 (b:Nat):Int.tmod (b:Int) 3=((b%3:Nat):Int):=by rw [mW (by omega)];omega
set_option maxHeartbeats 2000000 in
theorem Bf9 (h:Gq w q A) (hg:Aq9 w) {s:Nat} (hs:s<=A.length) {K:Int->Wp} (hK:∀w',Ext w w'->K (Qm (Nz A s (nb A s))) w'):Aa Tryz.prog 103 #[.pointer (some (at0 q)),.int .i64 (s:Int)] rI K w:=by
 refine Ep9 ?_;unfold F103;have hA:=h.len;have hbl:=Gl A;have hb:=Bc A;have hib:=Ho A s;refine Ae (λx V=>∃b,x=(at0 b,())/\St (λ_=>False) w V [(b,r6O (Aq A (nb A s)))]) ?_ ?_;{refine Ci λw1 e1 _=>(h.ext e1).Ur λsl hsl hk=>⟨?_,?_⟩;{refine ((St.start w).ext e1).Af λb5 w2 S2 e2=>Bg (hk w2 e2) (Ib (h.ext S2.upd) hs (Bg (hk w2 e2) ?_));exact Xe (cs:=c71) (xs:=(lnF A).map lnR) (hsl.ext e2) (by decide) (kQ _) (Zn hib) λp=>S2.Ad 0 rfl rfl rfl rfl λw3 S3 _=>⟨b5,rfl,S3⟩};{refine Ib (h.ext e1) hs (Bg (hk w1 (Ext.refl _)) ?_);refine Bx4 (cs:=c71) (xs:=(lnF A).map lnR) hsl (by decide) (kQ _) (Zn hib) λp hp=>⟨?_,trivial⟩;refine ((St.start w).ext e1).Af λb5 w2 S2 e2=>Bg (hp w2 e2) (Bg (hk w2 e2) ?_);exact S2.Ad 0 rfl rfl rfl rfl λw3 S3 _=>⟨b5,rfl,S3⟩}};rintro _ W0 ⟨b,rfl,S0⟩;have S0:St (λ_=>False) w W0 [(b,r6O (Aq A (nb A s)))]:=S0;have hbox:=S0.at_ 0 rfl;have h0:=h.ext S0.upd;have hg0:=hg.ext S0.upd;obtain ⟨P,hP⟩:∃P,Df9 A s=P:=⟨_,rfl⟩;refine Ae (λx V=>Ext W0 V/\Ar V W0.heap.size x.1 76 5 (flat c76 ((clB A (Gy A)).map spT))/\x.2.1=Qm ((Gy A).findIdx? P)) ?_ ?_
 ·refine Ba (λx V=>∃i:Nat,x.2.2=((i:Int),())/\i<=lnN A/\Ext W0 V/\Ar V W0.heap.size x.1 76 5 (flat c76 ((clB A (bkL A i)).map spT))/\x.2.1=Qm ((bkL A i).findIdx? P)) (λx _=>((lnN A:Int)-x.2.2.1).toNat) ⟨0,rfl,iW _,Ext.refl _,Ar.nil _ _ _ _,rfl⟩ ?_;rintro ⟨r,f,_⟩ V ⟨i,rfl,hi,eV,hr,hf⟩;dsimp only at hr hf ⊢;refine (h0.ext eV).Oe (Ac (λhc=>?_) (λhc=>?_))
  ·simp only [iI] at hc;have hi2:i<=brs A:=(by omega);have hlen:=Bz0 hi2;have hcl:=Ht hi2;have ok:=Cb hi2;have ft:=ok.ft;have tn:=ok.tn;have nl:=ok.nl;obtain ⟨n,hn⟩:∃n,(Ag A i).length=n:=⟨_,rfl⟩;rw [Qy (by omega)];refine Ae (λx U=>Ext W0 U/\Ar U W0.heap.size x.1 76 5 (flat c76 ((clB A (bkL A (i+1))).map spT))/\x.2.1=Qm ((bkL A (i+1)).findIdx? P)) ?_ (λx U hx=>⟨⟨i+1,rfl,by omega,hx.1,hx.2.1,hx.2.2⟩,by omega⟩);refine Ba (λx U=>∃j:Nat,x.2.2=((j:Int),())/\j<=n/\Ext W0 U/\Ar U W0.heap.size x.1 76 5 (flat c76 ((clB A (bkL A i++bkR A i j)).map spT))/\x.2.1=Qm ((bkL A i++bkR A i j).findIdx? P)) (λx _=>((n:Int)-x.2.2.1).toNat) ⟨0,rfl,iW _,eV,by rw [Bk6,kM];exact hr,by rw [Bk6,kM];exact hf⟩ ?_;rintro ⟨r,f,_⟩ U ⟨j,rfl,hj,eU,hr,hf⟩;dsimp only at hr hf ⊢;refine (h0.ext eU).Xp hi2 λs1 p1 y1 hy1 hyl1=>Ac (λhc2=>?_) (λhc2=>?_)
   ·simp only [iI] at hc2;have hjn:j<n:=(by omega);obtain ⟨c,hcc⟩:=Dk (C:=Ag A i) (j:=j) (by omega);have hrl:=Bd0 A i j;rw [Qy (by omega)];refine Ae (λx T=>Ext W0 T/\Ar T W0.heap.size x.1 76 5 (flat c76 ((clB A (bkL A i++bkR A i (j+1))).map spT))/\x.2.1=Qm ((bkL A i++bkR A i (j+1)).findIdx? P)) ?_ (λx T hx=>⟨⟨j+1,rfl,by omega,hx.1,hx.2.1,hx.2.2⟩,by omega⟩);refine (h0.ext eU).Xp hi2 λs2 p2 y hy hyl=>?_;refine Xe (cs:=c76) (xs:=(Ag A i).map spT) hy (by decide) (kQ j) (O8 hcc) λp3=>?_;refine (St.start U).Fp rfl rfl rfl λb35 w3 S3 e3=>?_;have S3:St (λ_=>False) U w3 [(b35,spO c)]:=S3;refine S3.lds 0 (spT c) rfl (Wy (hg0.ext (eU.trans S3.upd)) λw4 e4=>?_);have S4:=S3.ext e4;have x4:=eU.trans S4.upd;have hbf:=Dh2 hcc;rw [Ah5];cases hsb:sortB c with
    |none=>rw [hsb] at hbf;refine Bh ⟨x4,?_,?_⟩;{rw [Bk7 hbf];exact hr.ext S4.upd};{rw [Bk7 hbf];exact hf}
    | some bb =>
     rw [hsb] at hbf;have hbf:bkF A (i,j)=some ((i,j),bb):=hbf;rw [Cu3 hbf,←eG];have hmet:=Cy4 hs hi2 hcc bb;rw [hP] at hmet;obtain ⟨L,hL⟩:∃L,bkL A i++bkR A i j=L:=⟨_,rfl⟩;rw [hL] at hr hf ⊢;(have hLl:L.length<=2^22:=by rw [←hL,iE];omega);have hrl2:L.length=r.len:=by
      have:=Ar.Na (cs:=c76) hr (by decide)
      rwa [gW,gW] at this
     refine Ah (Ae (λx T=>x=(Qm ((L++[((i,j),bb)]).findIdx? P),())/\w4=T) ?_ ?_)
     ·refine Ae (λx T=>x=(decide (L.findIdx? P=none/\P ((i,j),bb)=true),())/\w4=T) ?_ ?_
      ·rw [hf,Ah5,hmet];cases hfi:L.findIdx? P with
       |some m=>exact Ah ⟨Az (by simp),rfl⟩
       |none=>refine Bh (S4.ld (off:=0) 0 rfl (x:=(c.from_:Int)) rfl (Ac (λh1=>?_) (λh1=>⟨Az ?_,rfl⟩)));{simp only [iI,jT] at h1;refine S4.ld (off:=0) 0 rfl (x:=(c.from_:Int)) rfl (Ce (off:=1) (x:=((Aq A (nb A s)).to_:Int)) (x4.ext_get hbox) rfl ⟨Az ?_,rfl⟩);simp only [iI,qH];omega};{simp only [iH,jT] at h1;simp only [dO,iI,lS,qH];omega}
      rintro _ _ ⟨rfl,rfl⟩;rw [Cr4];refine Ac (λh1=>⟨?_,rfl⟩) (λh1=>⟨?_,rfl⟩);{obtain ⟨h1,h2⟩:=cO h1;rw [h1,aF h2,←hrl2];rfl}
      ·have h1:=pW h1;rw [hf];cases hfi:L.findIdx? P with
       |some m=>rfl
       |none=>have h2:¬P ((i,j),bb)=true:=λhh=>h1 ⟨hfi,hh⟩;rw [aJ h2]
     rintro _ _ ⟨rfl,rfl⟩;refine S4.lds 0 (spT c) rfl (Cm λb46 w5 e5 n5 _ _=>?_);have x5:=x4.trans e5;refine Dc4 (L:=clB A L) (c:=c) (hr.ext (S4.upd.trans e5)) n5 (by rw [gW];omega) x5.size λr' w6 o6 _ u6=>?_;refine ⟨x5.step u6 λk hk=>hr.Fq hk,?_,rfl⟩;have:clB A (L++[((i,j),bb)])=clB A L++[c]:=by
      simp only [clB,lG,dQ,mJ,By5 hcc]
     rw [this];exact o6
   {simp only [iH] at hc2;obtain rfl:j=n:=(by omega);rw [Ap7,hn];exact ⟨eU,hr,hf⟩}
  {simp only [iH] at hc;obtain rfl:i=lnN A:=(by omega);rw [Bz1] at hr hf;exact ⟨eV,hr,hf⟩}
 rintro ⟨r,f,_⟩ V ⟨eV,hr,hf⟩;dsimp only at hr hf ⊢;have hV:∀{W1},Ext V W1->Ext w W1:=λe=>(S0.upd.trans eV).trans e;obtain ⟨B,hB⟩:∃B,Gy A=B:=⟨_,rfl⟩;(have hBl:B.length<=1048576:=by rw [←hB];exact fK (Ct8 A) hA);have hrl:B.length=r.len:=by
  have:=Ar.Na (cs:=c76) hr (by decide)
  rwa [gW,gW,hB] at this
 have hmem:∀x∈B,∃c,Ci9 A x.1=c/\sortB c=some x.2/\Bo A x.1=c.from_:=λx hx=>by
  rw [←hB] at hx
  obtain ⟨c,_,h2,h3,h4⟩:=Db3 hx
  exact ⟨c,h3,h2,h4⟩
 obtain ⟨tg,htg⟩:∃tg,Nz A s (nb A s)=tg:=⟨_,rfl⟩;rw [htg] at hK;unfold Nz at htg;have hPe:(λq:(Nat×Nat)×Nat=>q.1.1==nb A s&&decide (s<=Bo A q.1))=P:=hP;rw [hPe,hB] at htg;rw [hB] at hf hr;rw [hf,Ah5];cases hfi:B.findIdx? P with
 |none=>rw [hfi] at htg;have htg:none=tg:=htg;refine Bh ?_;have:=hK V (hV (Ext.refl _));rw [←htg] at this;exact this
 | some m =>
  rw [hfi] at htg;have hm:m<B.length:=by
   have:=List.findIdx?_eq_some_iff_getElem.1 hfi
   exact this.1
  obtain ⟨⟨p0,own⟩,hq⟩:∃q,B[m]?=some q:=⟨_,jC hm⟩;dsimp only at htg;rw [hq] at htg;dsimp only at htg;obtain ⟨c0,k1,k2,k3⟩:=hmem _ (eY hq);dsimp only at k1 k2 k3;have hown:=Be7 k2;refine Ah ?_;show ix r.a r.len (m:Int) _ V;refine Xe (cs:=c76) (xs:=(clB A B).map spT) hr.in (by decide) (kQ m) (Bc2 (by rw [dF];exact hq)) λp48=>?_;rw [k1];refine Wy (hg0.ext eV) λw1 e1=>?_;rw [k2];show join _ _ w1;obtain ⟨up,hup⟩:∃up,decide (own<3)=up:=⟨_,rfl⟩;refine Ae (λx T=>x=(((if up=true then 1 else -1:Int)),())/\w1=T) (Ac (λhc=>⟨?_,rfl⟩) (λhc=>⟨?_,rfl⟩)) ?_;{have hc:((own:Nat):Int)>=3:=cO hc;rw [←hup,jQ (by omega)];rfl};{have hc:¬((own:Nat):Int)>=3:=pW hc;rw [←hup,jP (by omega)];rfl};rintro _ _ ⟨rfl,rfl⟩;obtain ⟨R0,hR0,hsh⟩:∃R0,Mot.Rest B up (m:Int) ((p0,own)::R0)/\(Dt own R0 1).map (Bo A)=tg:=by
   by_cases hlt:own<3
   ·rw [aF hlt] at htg
    rw [jP hlt] at hup
    subst hup
    exact ⟨_,Cx6 hq,htg⟩
   ·rw [aJ hlt] at htg
    rw [jQ hlt] at hup
    subst hup
    exact ⟨_,Cx9 hq,htg⟩
  have hR0l:=hR0.len;rw [←show Dt own ((p0,own)::R0) 0=Dt own R0 1 from Be9] at hsh;refine Ae (λ_ T=>Ext w T/\tg=none) ?_ (λ_ T hT=>by have:=hK T hT.1;rw [hT.2] at this;exact this);refine Ba (λx T=>∃(d:Nat) (xj:Int) (R:List ((Nat×Nat)×Nat)),x=((d:Int),xj,())/\Ext V T/\Mot.Rest B up xj R/\d+R.length<=1048577/\(Dt own R d).map (Bo A)=tg/\(d=0->∃p R',R=(p,own)::R')) (λx _=>(if up=true then (B.length:Int)-x.2.1 else x.2.1+1).toNat) ⟨0,(m:Int),_,rfl,e1,hR0,by omega,hsh,λ_=>⟨p0,R0,rfl⟩⟩ ?_;rintro _ T ⟨d,xj,R,rfl,eT,hR,hd,hs1,hd0⟩;dsimp only;refine Ae (λx U=>x=(decide (0<=xj/\xj<(B.length:Int)),())/\T=U) (Ac (λh1=>⟨Az ?_,rfl⟩) (λh1=>⟨Az ?_,rfl⟩)) ?_;{simp only [iI,jT] at h1 ⊢;omega};{simp only [iH,jT] at h1;simp only [dO,iI,lS];omega};rintro _ _ ⟨rfl,rfl⟩;refine Ac (λhc=>?_) (λhc=>?_)
  ·have hc:=cO hc;cases R with
   |nil=>exact absurd hc hR.nil
   | cons x R =>
    obtain ⟨g1,g2,g3,g4⟩:=hR.cons;obtain ⟨pb,bb⟩:=x;obtain ⟨c,k1',k2',k3'⟩:=hmem _ (eY g3);dsimp only at k1' k2' k3';have hbb:=Be7 k2';have hrT:=hr.ext eT;rw [dB] at hd;refine Ae (λz U=>∃d':Nat,z=((d':Int),())/\Ext V U/\((bb=own/\d'=d+1)\/(bb≠own/\bb%3=own%3/\1<=d/\d'=d-1)\/(bb%3≠own%3/\1<=d/\d'=d))) ?_ ?_
    ·refine Xe (cs:=c76) (xs:=(clB A B).map spT) hrT.in (by decide) g1 (Bc2 g3) λp61=>?_;rw [k1'];refine Wy (hg0.ext (eV.trans eT)) λw2 e2=>?_;rw [k2'];refine Ac (λh1=>?_) (λh1=>?_);{have h1:((bb:Nat):Int)=(own:Int):=jM.1 h1;exact ⟨d+1,by rw [Qy (by omega)],eT.trans e2,.inl ⟨by omega,rfl⟩⟩}
     ·have h1:((bb:Nat):Int)≠(own:Int):=jO.1 h1;have hd1:1<=d:=by
       rcases lC d with hz|hz
       ·obtain ⟨p,R',he⟩:=hd0 hz
        cases he
        exact absurd rfl h1
       ·exact hz
      refine Xe (cs:=c76) (xs:=(clB A B).map spT) (hrT.ext e2).in (by decide) g1 (Bc2 g3) λp64=>?_;rw [k1'];refine Wy (hg0.ext (eV.trans (eT.trans e2))) λw3 e3=>?_;rw [k2'];refine Dc (by decide) (Dc (by decide) ?_);rw [show Qm (some bb)=(bb:Int) from rfl,show Qm (some own)=(own:Int) from rfl,Dc1,Dc1];refine Ac (λh2=>?_) (λh2=>?_);{rw [jM] at h2;exact ⟨d-1,by rw [wrap64 (by omega) (by omega)];congr 1;omega,(eT.trans e2).trans e3,.inr (.inl ⟨by omega,by omega,hd1,rfl⟩)⟩};{rw [jO] at h2;exact ⟨d,rfl,(eT.trans e2).trans e3,.inr (.inr ⟨by omega,hd1,rfl⟩)⟩}
    rintro _ U ⟨d',rfl,eU,hcase⟩;refine Ac (λh1=>?_) (λh1=>?_);{have h1:((d':Nat):Int)=0:=jM.1 h1;rcases hcase with ⟨_,_⟩|⟨q1,q2,q3,q4⟩|⟨_,_,_⟩;{omega};{obtain rfl:d=1:=(by omega);rw [Cb4 q2 q1] at hs1;refine Bx6 (c:=.int .i64) (cs:=c76) (hr.ext eU).in g1 (Bc2 g3) (by rw [k1'];rfl) (y:=(c.from_:Int)) λp67=>?_;have:=hK U (hV eU);rw [←hs1] at this;(have e9:Qm ((some pb).map (Bo A))=(c.from_:Int):=by show ((Bo A pb:Nat):Int)=_;rw [k3']);rw [e9] at this;exact this};{omega}}
    ·have h1:((d':Nat):Int)≠0:=jO.1 h1;have ej:W64 (xj+(if up=true then 1 else -1:Int))=(if up=true then xj+1 else xj-1):=by
      rw [wrap64 (by split<;>omega) (by split<;>omega)];split<;>omega
     rw [ej];refine ⟨⟨d',_,R,rfl,eU,g4,by omega,?_,λhz=>by omega⟩,?_⟩;{rcases hcase with ⟨rfl,rfl⟩|⟨q1,q2,q3,rfl⟩|⟨q1,q2,rfl⟩;{rw [Be9] at hs1;exact hs1};{rw [Cb3 q2 q1 (by omega)] at hs1;exact hs1};{rw [Bn2 q1] at hs1;exact hs1}};{split<;>omega}
  ·have hc:=pW hc;cases R with
   |nil=>exact ⟨hV eT,hs1.symm⟩
   |cons x R=>obtain ⟨g1,g2,_,_⟩:=hR.cons;exact absurd ⟨g1,g2⟩ hc
set_option maxHeartbeats 2000000 in
theorem Ae3 (h:Gq w q A) (hg:Aq9 w){x kind count arg:Int}{K:LdT->Wp}(hK:∀w',Ext w w'->K (ldT (Gx A x kind count)) w') :
  Aa Tryz.prog 48 #[.pointer (some (at0 q)),.int .i64 x,.agg (Cells.vals c48 (mvM kind count arg)).toArray] (.tup [(.agg c83),(.one (.int .i64))]) K w:=by
 refine A48 (a2:=mvM kind count arg) ?_;unfold F48;have hA:=h.len;have hbl:=Gl A;have hb:=Bc A;refine (St.start w).Af λb1 w1 S1 e1=>S1.Af λb2 w2 S2 e2=>?_;have S2:St (λ_=>False) w w2 [(b2,ldZ),(b1,Kr kind count arg)]:=S2;have h2:=h.ext S2.upd;obtain ⟨v,hv⟩:∃v,Gx A x kind count=v:=⟨_,rfl⟩;rw [hv] at hK;unfold Gx at hv;dsimp only at hv;have hle:=Y0 A x false;have hil:=Ah3 A x;rw [Dy A x false,←U7 A x false] at hv;rw [←U7 A x false] at hil;refine Ik h2 (Ib h2 hle ?_);obtain ⟨s,hs⟩:∃s,Ak A x false=s:=⟨_,rfl⟩;rw [hs] at hv hle hil;rw [hs];have hne:∀j,j<=brs A->j≠nb A s->(Aq A j).from_≠s:=λj h1 h2=>Df1 h1 h2;have hmatch:∀{W:World} {K':Int->Wp},Gq W q A->Aq9 W->(∀w',Ext W w'->K' (Qm (Nz A s (nb A s))) w')->Aa Tryz.prog 103 #[.pointer (some (at0 q)),.int .i64 (s:Int)] rI K' W:=λh' g' hk=>Bf9 h' g' hle hk;obtain ⟨i,hi'⟩:∃i,nb A s=i:=⟨_,rfl⟩;rw [hi'] at hv hil hne hmatch;rw [hi'];have hkr:=Zo count;refine S2.lds 1 (mvM kind count arg) rfl (Px λw4 e4=>?_);have S4:=S2.ext e4;have h4:=h.ext S4.upd;have hg4:=hg.ext S4.upd;obtain ⟨k,hk⟩:∃k,kOf count=k:=⟨_,rfl⟩;rw [hk] at hv hkr;rw [hk];(have ewl:W64 ((lnN A:Int)-1)=((lnN A-1:Nat):Int):=by rw [wrap64 (by omega) (by omega)];omega);have fno:∀{e:Int} {W:World},St (λ_=>False) w W [(b2,ldZ),(b1,Kr kind count arg)]->v=noP e->Aa Tryz.prog 92 #[.int .i64 e] (.tup [(.agg c83),(.one (.int .i64))]) (λz=>Ad (at0 b2) (.agg (Cells.vals c83 z.1).toArray) 3 (lds c83 (at0 b2) λy=>K (y,z.2.1,()))) W:=λS hk=>Yc λw5 e5=>Ih (S.ext e5) (by rw [←hk];exact hK);have fland:∀{m:Nat} {kd:Int} {W:World},St (λ_=>False) w W [(b2,ldZ),(b1,Kr kind count arg)]->v=Bz A m kd->Aa Tryz.prog 93 #[.pointer (some (at0 q)),.int .i64 (m:Int),.int .i64 kd] (.tup [(.agg c83),(.one (.int .i64))]) (λz=>Ad (at0 b2) (.agg (Cells.vals c83 z.1).toArray) 3 (lds c83 (at0 b2) λy=>K (y,z.2.1,()))) W:=λS hk=>Xa (h.ext S.upd) λw5 e5=>Ih (S.ext e5) (by rw [←hk];exact hK);refine Ae (λz W=>∃(T:Nat) (kd:Int),z=((T:Int),kd,())/\v=(if T=s then noP 80 else Bz A T kd)/\St (λ_=>False) w W [(b2,ldZ),(b1,Kr kind count arg)]) ?_ ?_
 ·refine S4.ld (off:=0) 1 rfl (x:=kind) rfl (Ac (λhk1=>?_) (λhk1=>?_))
  ·rw [jM] at hk1;rw [aF hk1] at hv;obtain ⟨f,hf⟩:∃f:Nat->Bool,(λj=>Ez A j&&!Ez A (j-1))=f:=⟨_,rfl⟩;have hfj:∀j,f j=(Ez A j&&!Ez A (j-1)):=λj=>(by rw [←hf]);rw [hf] at hv;obtain ⟨tg,htg⟩:∃tg,upF f (i+1) (lnN A) k=tg:=⟨_,rfl⟩;rw [show ((upL (lnN A) i).filter f)[k-1]?=tg from htg] at hv;refine Ae (λz W=>∃(k':Nat) (t:Int),z=((k':Int),t,())/\w4=W/\((0<k'/\tg=none)\/(k'=0/\∃m,tg=some m/\t=((Aq A m).from_:Int)/\i<m/\m<lnN A))) ?_ ?_
   ·rw [Qy (by omega)];refine Ba (λz W=>∃(k' j:Nat) (t:Int),z=((k':Int),t,(j:Int),())/\w4=W/\i<j/\j<=lnN A/\k'<=9999/\((0<k'/\upF f j (lnN A) k'=tg)\/(k'=0/\∃m,tg=some m/\t=((Aq A m).from_:Int)/\i<m/\m<lnN A))) (λz _=>((lnN A:Int)-z.2.2.1).toNat) ⟨k,i+1,-1,rfl,rfl,by omega,by omega,hkr.2,.inl ⟨by omega,htg⟩⟩ ?_;rintro _ _ ⟨k',j,t,rfl,rfl,hj1,hj2,hk',hor⟩;dsimp only;refine Ae (λz W=>z=(decide (j<lnN A/\0<k'),())/\w4=W) (h4.Oe (Ac (λh1=>⟨Az ?_,rfl⟩) (λh1=>⟨Az ?_,rfl⟩))) ?_;{simp only [iI,kG] at h1 ⊢;omega};{simp only [iH] at h1;simp only [dO,iI,lS];omega};rintro _ _ ⟨rfl,rfl⟩;refine Ac (λhc=>?_) (λhc=>?_)
    ·obtain ⟨hc1,hc2⟩:=cO hc;have hjb:j<=brs A:=(by omega);obtain ⟨_,hu⟩:=hor.resolve_right (λhh=>by have:=hh.1;omega);rw [Qy (n:=j) (by omega)];(have ek:W64 ((k':Int)-1)=((k'-1:Nat):Int):=by rw [wrap64 (by omega) (by omega)];omega);(have ej:W64 ((j:Int)-1)=((j-1:Nat):Int):=by rw [wrap64 (by omega) (by omega)];omega);rw [ek,ej];refine Ae (λz W=>z=(((if f j=true then k'-1 else k':Nat):Int),(if f j=true then ((Aq A j).from_:Int) else t),())/\w4=W) ?_ ?_;{refine Ae (λz W=>z=(f j,())/\w4=W) ?_ ?_;{rw [hfj];refine Tm h4 hjb (Ac (λhbl=>?_) (λhbl=>?_));{rw [hbl];exact Tm h4 (i:=j-1) (by omega) ⟨rfl,rfl⟩};{rw [hbl];exact ⟨rfl,rfl⟩}};rintro _ _ ⟨rfl,rfl⟩;refine Ac (λhf1=>?_) (λhf1=>?_);{have hf1:f j=true:=hf1;rw [aF hf1,aF hf1];exact h4.V8 hjb λs p=>⟨rfl,rfl⟩};{have hf1:f j=false:=hf1;rw [aJ (by rw [hf1];decide),aJ (by rw [hf1];decide)];exact ⟨rfl,rfl⟩}};rintro _ _ ⟨rfl,rfl⟩;by_cases hf1:f j=true;{rw [aF hf1,aF hf1];refine ⟨⟨k'-1,j+1,_,rfl,rfl,by omega,by omega,by omega,?_⟩,by omega⟩;by_cases h1:k'=1;{subst h1;rw [Ag6 hc1 hf1] at hu;exact .inr ⟨rfl,j,hu.symm,rfl,hj1,hc1⟩};{refine .inl ⟨by omega,?_⟩;have hm:=O4 (k:=k'-1) hc1 hf1 (by omega);rw [show k'-1+1=k' by omega] at hm;rw [←hm];exact hu}}
     ·have hf2:f j=false:=by cases hx:f j with
       |true=>exact absurd hx hf1
       |false=>rfl
      rw [aJ hf1,aJ hf1];refine ⟨⟨k',j+1,t,rfl,rfl,by omega,by omega,hk',.inl ⟨hc2,?_⟩⟩,by omega⟩;rw [←Ay0 hc1 hf2];exact hu
    {have hc:=pW hc;refine ⟨k',t,rfl,rfl,?_⟩;rcases hor with ⟨h1,hu⟩|h1;{exact .inl ⟨h1,by rw [←hu];exact O1 (by omega)⟩};{exact .inr h1}}
   rintro _ _ ⟨k',t,rfl,rfl,hor⟩;dsimp only;refine Ac (λhc=>?_) (λhc=>?_);{simp only [iI,kG] at hc;obtain ⟨_,rfl⟩:=hor.resolve_right (λhh=>by have:=hh.1;omega);have hv:(if Dv A=s then noP 80 else Bz A (Dv A) 1)=v:=hv;refine h4.Oe ?_;rw [ewl];exact Oq h4 (by omega) ⟨Dv A,1,rfl,hv.symm,S4⟩};{simp only [iH,kG] at hc;rcases hor with ⟨h0,_⟩|⟨_,m,rfl,rfl,hm1,hm2⟩;{omega};have hv:Bz A (Aq A m).from_ 0=v:=hv;refine ⟨(Aq A m).from_,0,rfl,?_,S4⟩;rw [aJ (hne m (by omega) (by omega))];exact hv.symm}
  rw [jO] at hk1;rw [aJ hk1] at hv;refine Ac (λhk2=>?_) (λhk2=>?_)
  ·rw [jM] at hk2;rw [aF hk2] at hv;obtain ⟨f,hf⟩:∃f:Nat->Bool,(λj=>Ez A j&&!Ez A (j+1))=f:=⟨_,rfl⟩;have hfj:∀j,f j=(Ez A j&&!Ez A (j+1)):=λj=>(by rw [←hf]);rw [hf] at hv;obtain ⟨tg,htg⟩:∃tg,dnF f i k=tg:=⟨_,rfl⟩;rw [show ((Ob i).filter f)[k-1]?=tg from htg] at hv;refine Ae (λz W=>∃(k':Nat) (t:Int),z=((k':Int),t,())/\w4=W/\((0<k'/\tg=none)\/(k'=0/\∃m,tg=some m/\t=((Aq A m).from_:Int)/\m<i))) ?_ ?_
   ·rw [show W64 ((i:Int)-1)=(i:Int)-1 from wrap64 (by omega) (by omega)];refine Ba (λz W=>∃(k' n:Nat) (t:Int),z=((k':Int),t,(n:Int)-1,())/\w4=W/\n<=i/\k'<=9999/\((0<k'/\dnF f n k'=tg)\/(k'=0/\∃m,tg=some m/\t=((Aq A m).from_:Int)/\m<i))) (λz _=>(z.2.2.1+1).toNat) ⟨k,i,-1,rfl,rfl,fJ _,hkr.2,.inl ⟨by omega,htg⟩⟩ ?_;rintro _ _ ⟨k',n,t,rfl,rfl,hn,hk',hor⟩;dsimp only;refine Ae (λz W=>z=(decide (0<n/\0<k'),())/\w4=W) (Ac (λh1=>⟨Az ?_,rfl⟩) (λh1=>⟨Az ?_,rfl⟩)) ?_;{simp only [iI,jT,kG] at h1 ⊢;omega};{simp only [iH,jT] at h1;simp only [dO,iI,lS];omega};rintro _ _ ⟨rfl,rfl⟩;refine Ac (λhc=>?_) (λhc=>?_)
    ·obtain ⟨hc1,hc2⟩:=cO hc;obtain ⟨j,rfl⟩:∃j,n=j+1:=⟨n-1,by omega⟩;have hjb:j+1<=brs A:=(by omega);obtain ⟨_,hu⟩:=hor.resolve_right (λhh=>by have:=hh.1;omega);rw [show ((j+1:Nat):Int)-1=(j:Int) by omega];(have ek:W64 ((k':Int)-1)=((k'-1:Nat):Int):=by rw [wrap64 (by omega) (by omega)];omega);have ej:W64 ((j:Int)-1)=(j:Int)-1:=wrap64 (by omega) (by omega);rw [ek,ej,Qy (n:=j) (by omega)];refine Ae (λz W=>z=(((if f j=true then k'-1 else k':Nat):Int),(if f j=true then ((Aq A j).from_:Int) else t),())/\w4=W) ?_ ?_;{refine Ae (λz W=>z=(f j,())/\w4=W) ?_ ?_;{rw [hfj];refine Tm h4 (i:=j) (by omega) (Ac (λhbl=>?_) (λhbl=>?_));{rw [hbl];exact Tm h4 (i:=j+1) hjb ⟨rfl,rfl⟩};{rw [hbl];exact ⟨rfl,rfl⟩}};rintro _ _ ⟨rfl,rfl⟩;refine Ac (λhf1=>?_) (λhf1=>?_);{have hf1:f j=true:=hf1;rw [aF hf1,aF hf1];exact h4.V8 (i:=j) (by omega) λs p=>⟨rfl,rfl⟩};{have hf1:f j=false:=hf1;rw [aJ (by rw [hf1];decide),aJ (by rw [hf1];decide)];exact ⟨rfl,rfl⟩}};rintro _ _ ⟨rfl,rfl⟩;by_cases hf1:f j=true;{rw [aF hf1,aF hf1];refine ⟨⟨k'-1,j,_,rfl,rfl,by omega,by omega,?_⟩,by omega⟩;by_cases h1:k'=1;{subst h1;rw [Ah9 hf1] at hu;exact .inr ⟨rfl,j,hu.symm,rfl,by omega⟩};{refine .inl ⟨by omega,?_⟩;have hm:=X6 (k:=k'-1) hf1 (by omega);rw [show k'-1+1=k' by omega] at hm;rw [←hm];exact hu}}
     ·have hf2:f j=false:=by cases hx:f j with
       |true=>exact absurd hx hf1
       |false=>rfl
      rw [aJ hf1,aJ hf1];refine ⟨⟨k',j,t,rfl,rfl,by omega,hk',.inl ⟨hc2,?_⟩⟩,by omega⟩;rw [←Bb8 hf2];exact hu
    {have hc:=pW hc;refine ⟨k',t,rfl,rfl,?_⟩;rcases hor with ⟨h1,hu⟩|h1;{obtain rfl:n=0:=(by omega);exact .inl ⟨h1,by rw [←hu];exact Bi9⟩};{exact .inr h1}}
   rintro _ _ ⟨k',t,rfl,rfl,hor⟩;dsimp only;refine Ac (λhc=>?_) (λhc=>?_);{simp only [iI,kG] at hc;obtain ⟨_,rfl⟩:=hor.resolve_right (λhh=>by have:=hh.1;omega);have hv:(if s=0 then noP 80 else Bz A 0 0)=v:=hv;refine ⟨0,0,rfl,?_,S4⟩;rw [←hv];by_cases hs0:s=0;{rw [aF hs0,aF hs0.symm]};{rw [aJ hs0,aJ (λhh=>hs0 hh.symm)]}};{simp only [iH,kG] at hc;rcases hor with ⟨h0,_⟩|⟨_,m,rfl,rfl,hm1⟩;{omega};have hv:Bz A (Aq A m).from_ 0=v:=hv;refine ⟨(Aq A m).from_,0,rfl,?_,S4⟩;rw [aJ (hne m (by omega) (by omega))];exact hv.symm}
  rw [jO] at hk2;rw [aJ hk2] at hv;refine Ac (λhk3=>?_) (λhk3=>?_)
  ·rw [jM] at hk3;rw [aF hk3] at hv;refine hmatch h4 hg4 λw5 e5=>?_;rw [Ah5];cases hm:Nz A s i with
   |none=>rw [hm] at hv;have hv:noP 80=v:=hv;exact Bh (fno (S4.ext e5) hv.symm)
   |some to=>rw [hm] at hv;have hv:Bz A to 1=v:=hv;exact Ah (fland (S4.ext e5) hv.symm)
  {rw [jO] at hk3;rw [aJ hk3] at hv;exact fno S4 hv.symm}
 rintro _ W ⟨T,kd,rfl,hvv,SW⟩;refine Ac (λhc=>?_) (λhc=>?_);{have hc:((T:Nat):Int)=(s:Int):=jM.1 hc;rw [aF (by omega)] at hvv;exact fno SW hvv};{have hc:((T:Nat):Int)≠(s:Int):=jO.1 hc;rw [aJ (by omega)] at hvv;exact fland SW hvv}
end
section
variable {w w':World}{p q:Nat}{A:List Int}{a:Va}
theorem Bl8 (hk:a.kind=7):Zb a:=by intro w p q A K hg tx pg hK;refine A18 (a2:=Xv a) ?_;unfold F18;refine (St.start w).Af λb1 w1 S1 e1=>?_;have S1:St (λ_=>False) w w1 [(b1,Rz a)]:=S1;refine S1.ld (off:=0) 0 rfl (x:=a.kind) rfl ?_;rw [hk];refine Ah (Ah (Ah (Ah (Ah (Ah (Bh (S1.ld (off:=1) 0 rfl (x:=a.at_) rfl (Lm (S1.at_ 0 rfl) (Ae9 (tx.ext S1.upd) λw2 e2=>?_)))))))));obtain ⟨l,hl⟩:∃l,Gx A a.at_ a.mkd a.count=l:=⟨_,rfl⟩;rw [hl];refine (S1.ext e2).Fp rfl rfl rfl λb3 w3 S3 e3=>?_;have S3:St (λ_=>False) w w3 [(b3,ldX l),(b1,Rz a)]:=S3;refine S3.ld (off:=1) 1 rfl (x:=a.at_) rfl (Lm (S3.at_ 1 rfl) (Ae3 (pg.ext S3.upd) (Aq9.ext hg S3.upd) λw4 e4=>?_));rw [hl];refine (S3.ext e4).Fp rfl rfl rfl λb5 w5 S5 e5=>?_;have S5:St (λ_=>False) w w5 [(b5,ldX l),(b3,ldX l),(b1,Rz a)]:=S5;exact S5.lds 1 (ldT l).1 rfl (S5.lds 0 (ldT l).1 rfl (Wv λw6 e6=>hK w6 (S5.ext e6).upd))
end
section
variable {w w':World}{q:Nat}{A:List Int}{i:Nat}
theorem Cc2 (A:List Int) (x g count:Int):Eu A x g 15 count=Eu A x 0 15 count:=by have a1:¬((15:Int)=11):=(by decide);have a2:¬((15:Int)=12):=(by decide);unfold Eu;dsimp only;rw [aJ a1,aJ a2,aJ a1,aJ a2]
set_option maxHeartbeats 2000000 in
theorem D9 (h:Gq w q A){a b kind:Int}{K:SpT->Wp}(hK:∀w',Ext w w'->K (O9 (Qb A a b kind)) w') :
  Aa Tryz.prog 53 #[.pointer (some (at0 q)),.int .i64 a,.int .i64 b,.int .i64 kind] (.tup [(.agg c94),(.one (.int .i64))]) K w:=by
 refine A53 ?_;unfold F53;have hA:=h.len;have hbl:=Gl A;have hb:=Bc A;obtain ⟨v,hv⟩:∃v,Qb A a b kind=v:=⟨_,rfl⟩;rw [hv] at hK;unfold Qb at hv;dsimp only at hv;refine (St.start w).Af λb1 w1 S1 e1=>Ik (h.ext e1) (Ik (h.ext e1) ?_);have S1:St (λ_=>False) w w1 [(b1,Jg ((0,0,0),0))]:=S1;have h1:=h.ext e1;have sa:=Nl A a true;have sb:=Nl A b true;obtain ⟨ca,hca⟩:∃ca,Ak A a true=ca:=⟨_,rfl⟩;obtain ⟨cb,hcb⟩:∃cb,Ak A b true=cb:=⟨_,rfl⟩;rw [hca,hcb] at hv;rw [hca] at sa;rw [hcb] at sb;rw [hca,hcb];have emin:(if (cb:Int)<(ca:Int) then (cb:Int) else (ca:Int))=((min ca cb:Nat):Int):=(by split<;>omega);have emax:(if (cb:Int)>(ca:Int) then (cb:Int) else (ca:Int))=((max ca cb:Nat):Int):=(by split<;>omega);rw [emin,emax];have slo:Stand A (min ca cb) true:=by
  rcases oM ca cb with hh|hh
  ·rw [gK hh];exact sa
  ·rw [oH hh];exact sb
 have shi:Stand A (max ca cb) true:=by
  rcases oM ca cb with hh|hh
  ·rw [Nat.max_eq_right hh];exact sb
  ·rw [oN hh];exact sa
 have hlh:min ca cb<=max ca cb:=(by omega);obtain ⟨lo,hlo⟩:∃lo,min ca cb=lo:=⟨_,rfl⟩;obtain ⟨hi,hhi⟩:∃hi,max ca cb=hi:=⟨_,rfl⟩;rw [hlo] at hv slo hlh;rw [hhi] at hv shi hlh;rw [hlo,hhi];have hlol:=slo.len;have hhil:=shi.len;(have eof:∀n:Nat,n<=A.length->ofI A (n:Int)=nb A n:=λn hn=>by unfold ofI;rw [Ut hn]);(have eor:∀n:Nat,n<=A.length->Cc A (n:Int) false=min (nb A n) (lnN A-1):=λn hn=>by unfold Cc;rw [aJ (by decide),eof n hn]);rw [eof hi hhil,eor lo hlol,eor hi hhil] at hv;have hpor:∀{W:World} {n:Nat} {K':Int->Wp},Gq W q A->n<=A.length->K' ((min (nb A n) (lnN A-1):Nat):Int) W->Aa Tryz.prog 84 #[.pointer (some (at0 q)),.int .i64 (n:Int)] rI K' W:=λh' hn hk=>Bf8 h' hn (by rw [eor _ hn];exact hk);have hib:=Ho A hi;have hbt:=Db1 hlol hhil hlh;have hto:=λhh=>Dg9 (hi:=hi) slo hh;have hone:=Db0 shi;refine Ib h1 hhil ?_;refine Ac (λhk=>?_) (λhk=>?_);{rw [jM] at hk;rw [aF hk] at hv;refine Ae (λx V=>x=(((if hi=(Aq A (nb A hi)).from_/\lo<hi/\0<nb A hi then max (Aq A (nb A hi-1)).to_ lo else hi:Nat):Int),())/\w1=V) ?_ ?_;{refine Ae (λx V=>x=(decide (hi=(Aq A (nb A hi)).from_/\nb A lo<nb A hi),())/\w1=V) ?_ ?_;{refine h1.V8 hib λs p=>Ac (λhc=>Ib h1 hlol ⟨Az ?_,rfl⟩) (λhc=>⟨Az ?_,rfl⟩);{have hc:((hi:Nat):Int)=((Aq A (nb A hi)).from_:Int):=jM.1 hc;simp only [iI];omega};{have hc:((hi:Nat):Int)≠((Aq A (nb A hi)).from_:Int):=jO.1 hc;simp only [dO,iI,lS];omega}};rintro _ _ ⟨rfl,rfl⟩;refine Ac (λhc=>?_) (λhc=>?_);{have hc:=cO hc;rw [aF (hbt.1 hc)];have:=hto hc.2;(have ew:W64 ((nb A hi:Int)-1)=((nb A hi-1:Nat):Int):=by rw [wrap64 (by omega) (by omega)];omega);rw [ew];refine h1.toK (i:=nb A hi-1) (by omega) λs p=>⟨?_,rfl⟩;rw [oN this]};{have hc:=pW hc;rw [aJ (λhh=>hc (hbt.2 hh))];exact ⟨rfl,rfl⟩}};rintro _ _ ⟨rfl,rfl⟩;refine Me (l:=(((lo:Int),(((if hi=(Aq A (nb A hi)).from_/\lo<hi/\0<nb A hi then max (Aq A (nb A hi-1)).to_ lo else hi:Nat):Int)),0),0)) (o:=Jg ((0,0,0),0)) (i:=0) S1 rfl λw' x=>?_;have:=hK w' x;rw [←hv] at this;split at this;{rename_i hc;rw [aF hc];exact this};{rename_i hc;rw [aJ hc];exact this}};rw [jO] at hk;rw [aJ hk] at hv;refine Ac (λhk=>?_) (λhk=>?_);{rw [jM] at hk;rw [aF hk] at hv;obtain ⟨n,hn⟩:∃n,(Ag A (nb A hi)).length=n:=⟨_,rfl⟩;have hcl:=Ht hib;have ok:=Cb hib;have tn:=ok.tn;have nl:=ok.nl;refine Ae (λ_ V=>w1=V/\∀(j:Nat) (x:Cel),(Ag A (nb A hi))[j]?=some x->x.from_≠hi) ?_ ?_;{refine Ba (λx V=>∃j:Nat,x=((j:Int),())/\w1=V/\j<=n/\∀(m:Nat) (x:Cel),m<j->(Ag A (nb A hi))[m]?=some x->x.from_≠hi) (λx _=>((n:Int)-x.1).toNat) ⟨0,rfl,rfl,iW _,λm x hm=>by omega⟩ ?_;rintro _ _ ⟨j,rfl,rfl,hj,hno⟩;dsimp only;refine h1.Xp hib λs1 p1 y1 hy1 hyl1=>Ac (λhc=>?_) (λhc=>?_);{simp only [iI] at hc;obtain ⟨c,hcc⟩:=Dk (C:=Ag A (nb A hi)) (j:=j) (by omega);rw [Qy (by omega)];refine h1.Xp hib λs2 p2 y hy hyl=>Jw hy hcc λp3=>Ac (λhe=>?_) (λhe=>?_);{have he:((c.from_:Nat):Int)=(hi:Int):=jM.1 he;refine h1.Xp hib λs4 p4 y4 hy4 hyl4=>Bu4 hy4 hcc λp5=>?_;rcases hone with ⟨m,cc,g1,g2,g3,g4,g5⟩|⟨_,g2⟩;{have:=g5 j c hcc (by omega);subst this;rw [aF g3,g4] at hv;exact Me (l:=(((lo:Int),(c.to_:Int),0),0)) (o:=Jg ((0,0,0),0)) (i:=0) S1 rfl (by rw [hv];exact hK)};{exact absurd (show c.from_=hi by omega) (g2 j c hcc)}};{have he:((c.from_:Nat):Int)≠(hi:Int):=jO.1 he;refine ⟨⟨j+1,rfl,rfl,by omega,λm x hm hx=>?_⟩,by omega⟩;by_cases hmj:m=j;{subst hmj;rw [hcc] at hx;cases hx;omega};{exact hno m x (by omega) hx}}};{simp only [iH] at hc;exact ⟨rfl,λm x hx=>hno m x (by have:=(fG.1 hx).1;omega) hx⟩}};rintro _ _ ⟨rfl,hno⟩;rcases hone with ⟨m,cc,g1,g2,_⟩|⟨g1,_⟩;{exact absurd g2 (hno m cc g1)};{rw [aJ (by omega)] at hv;exact Me (l:=(((lo:Int),(hi:Int),0),0)) (o:=Jg ((0,0,0),0)) (i:=0) S1 rfl (by rw [hv];exact hK)}};rw [jO] at hk;rw [aJ hk] at hv;refine Ac (λhk=>?_) (λhk=>?_);{rw [jM] at hk;rw [aF hk] at hv;have hr1:min (nb A lo) (lnN A-1)<=brs A:=(by omega);have hr2:min (nb A hi) (lnN A-1)<=brs A:=(by omega);refine S1.drew λw2 S2 e2 _=>?_;have h2:=h1.ext e2;refine h2.Ur λsl hsl hkl=>h2.Ur λsm hsm hkm=>hpor h2 hlol (Bg (hkm w2 (Ext.refl _)) (Bg (hkl w2 (Ext.refl _)) ?_));refine Am9 hsl hr1 λp46 hp46=>hpor h2 hhil (Bg (hp46 w2 (Ext.refl _)) (Bg (hkm w2 (Ext.refl _)) (Bg (hkl w2 (Ext.refl _)) ?_)));refine Am8 hsm hr2 λp49=>?_;exact Me (l:=((((Aq A (min (nb A lo) (lnN A-1))).from_:Int),((Aq A (min (nb A hi) (lnN A-1))).next:Int),1),0)) (o:=Jg ((0,0,0),0)) (i:=0) S2 rfl (by rw [hv];exact hK)};{rw [jO] at hk;rw [aJ hk] at hv;exact Me (l:=noP 1) (o:=Jg ((0,0,0),0)) (i:=0) S1 rfl (by rw [hv];exact hK)}
set_option maxHeartbeats 2000000 in
theorem Cn5 (h:Gq w q A) (hg:Aq9 w){s kind count arg:Int}{K:LdT->Wp}(hK:∀w',Ext w w'->K (ldT (goP A s kind count arg)) w') :
  Aa Tryz.prog 105 #[.pointer (some (at0 q)),.int .i64 s,.agg (Cells.vals c48 (mvM kind count arg)).toArray] (.tup [(.agg c83),(.one (.int .i64))]) K w:=by
 refine Ep7 (a2:=mvM kind count arg) ?_;unfold F105;refine (St.start w).Af λb1 w1 S1 e1=>S1.Af λb2 w2 S2 e2=>?_;have S2:St (λ_=>False) w w2 [(b2,ldZ),(b1,Kr kind count arg)]:=S2;have h2:=h.ext S2.upd;have hg2:=hg.ext S2.upd;obtain ⟨l,hl⟩:∃l,goP A s kind count arg=l:=⟨_,rfl⟩;rw [hl] at hK;unfold goP at hl;have rng:∀{lo hi:Int} {B C:World->Prop},(lo<=kind/\kind<=hi->B w2)->(¬(lo<=kind/\kind<=hi)->C w2)->join (S:=Bool×Unit) (λJ=>ld (.int .i64) (at0 b1) λ(x5:Int)=>sif (decide (x5>=lo)) (ld (.int .i64) (at0 b1) λ(x6:Int)=>J ((decide (x6<=hi)),())) (J (false,()))) (λs=>sif s.1 B C) w2:=λ{lo hi B C} hB hC=>by
  refine Ae (λy V=>y=(decide (lo<=kind/\kind<=hi),())/\w2=V) ?_ ?_
  ·refine S2.ld (off:=0) 1 rfl (x:=kind) rfl (Ac (λh1=>S2.ld (off:=0) 1 rfl (x:=kind) rfl ⟨Az ?_,rfl⟩) (λh1=>⟨Az ?_,rfl⟩))
   ·simp only [iI,jT] at h1 ⊢
    exact ⟨λhh=>⟨h1,hh⟩,λhh=>hh.2⟩
   ·simp only [iH,jT] at h1
    simp only [dO,iI,lS]
    exact λhh=>h1 hh.1
  ·rintro _ _ ⟨rfl,rfl⟩
   exact Ac (λhc=>hB (cO hc)) (λhc=>hC (pW hc))
 refine rng (λhc=>?_) (λhc=>?_);{rw [aF hc] at hl;exact S2.lds 1 (mvM kind count arg) rfl (Ae4 h2 λw3 e3=>Ih (S2.ext e3) (by rw [hl];exact hK))};rw [aJ hc] at hl;refine S2.ld (off:=0) 1 rfl (x:=kind) rfl (Ac (λhk=>?_) (λhk=>?_));{rw [jM] at hk;rw [aJ (by omega),aF hk] at hl;refine S2.drew λw3 S3 e3 _=>S3.ld (off:=1) 1 rfl (x:=count) rfl (Vg (h.ext S3.upd) λw4 e4=>?_);have S4:=S3.ext e4;refine S4.keep (off:=1) 1 rfl (v:=.int .i64 count) rfl ?_;refine I5 (kind:=15) (count:=count) (arg:=0) (h.ext S4.upd) λw5 e5=>?_;rw [Cc2];exact Ih (S4.ext e5) (by rw [hl];exact hK)};rw [jO] at hk;refine rng (λhc=>?_) (λhc=>?_);{rw [aF hc] at hl;refine S2.drew λw3 S3 e3 _=>S3.lds 1 (mvM kind count arg) rfl (Vg (h.ext S3.upd) λw4 e4=>?_);have S4:=S3.ext e4;refine S4.keeps 1 (x:=mvM kind count arg) rfl (I5 (h.ext S4.upd) λw5 e5=>?_);exact Ih (S4.ext e5) (by rw [hl];exact hK)};rw [aJ hc,aJ hk] at hl;refine rng (λhc=>?_) (λhc=>?_);{rw [aF hc] at hl;exact S2.lds 1 (mvM kind count arg) rfl (Ae0 h2 λw3 e3=>Ih (S2.ext e3) (by rw [hl];exact hK))};rw [aJ hc] at hl;refine rng (λhc=>?_) (λhc=>?_);{rw [aF hc] at hl;exact S2.lds 1 (mvM kind count arg) rfl (Ae3 h2 hg2 λw3 e3=>Ih (S2.ext e3) (by rw [hl];exact hK))};rw [aJ hc] at hl;exact Yc λw3 e3=>Ih (S2.ext e3) (by rw [hl];exact hK)
set_option maxHeartbeats 2000000 in
theorem Bf7 (h:Gq w q A) (hg:Aq9 w){x kind count arg:Int}{K:SpT->Wp}(hK:∀w',Ext w w'->K (O9 (Aa1 A x kind count arg)) w') :
  Aa Tryz.prog 50 #[.pointer (some (at0 q)),.int .i64 x,.agg (Cells.vals c48 (mvM kind count arg)).toArray] (.tup [(.agg c94),(.one (.int .i64))]) K w:=by
 refine A50 (a2:=mvM kind count arg) ?_;unfold F50;have hA:=h.len;refine (St.start w).Af λb1 w1 S1 e1=>S1.Af λb2 w2 S2 e2=>?_;have S2:St (λ_=>False) w w2 [(b2,Jg ((0,0,0),0)),(b1,Kr kind count arg)]:=S2;have h2:=h.ext S2.upd;obtain ⟨v,hv⟩:∃v,Aa1 A x kind count arg=v:=⟨_,rfl⟩;rw [hv] at hK;unfold Aa1 at hv;dsimp only at hv;have ss:=Ws (Nl A x false);refine Ik h2 ?_;obtain ⟨s,hs⟩:∃s,Ak A x false=s:=⟨_,rfl⟩;rw [hs] at hv ss;rw [hs];have hgo:=Cq0 A (s:Int) kind count arg;obtain ⟨l,hl⟩:∃l,goP A (s:Int) kind count arg=l:=⟨_,rfl⟩;rw [hl] at hv hgo;refine S2.lds 1 (mvM kind count arg) rfl (Cn5 h2 (hg.ext S2.upd) λw3 e3=>?_);rw [hl];refine (S2.ext e3).Fp rfl rfl rfl λb6 w4 S4 e4=>?_;have S4:St (λ_=>False) w w4 [(b6,Cf2 l),(b2,Jg ((0,0,0),0)),(b1,Kr kind count arg)]:=S4;have h4:=h.ext S4.upd;refine Ac (λhz=>?_) (λhz=>?_);{have hz:l.2≠0:=(by simpa using hz);rw [aF hz] at hv;exact Me (l:=noP l.2) (o:=Jg ((0,0,0),0)) (i:=1) S4 rfl (by rw [hv];exact hK)};have hz:l.2=0:=(by simpa using hz);rw [aJ (by omega)] at hv;obtain ⟨past,hln,_⟩:=hgo;obtain ⟨n,hn,hst,_⟩:=hln hz;have hnl:=hst.len;(have eof:∀n:Nat,n<=A.length->ofI A (n:Int)=nb A n:=λn hn=>by unfold ofI;rw [Ut hn]);have hps:=Cd5 A ss (decide (kind=25)) (kOf count);have hpl:=Cn8 A s (decide (kind=25)) (kOf count);obtain ⟨f,hf⟩:∃f,Mc A s (decide (kind=25)) (kOf count)=f:=⟨_,rfl⟩;rw [hf] at hv hps hpl;have hfl:=hps.2.len;rw [eof f hfl,hn,eof n hnl] at hv;refine Ae (λ_ V=>¬((kind=21\/kind=25)/\nb A f<nb A n)/\St (λ_=>False) w V [(b6,Cf2 l),(b2,Jg ((0,0,0),0)),(b1,Kr kind count arg)]) ?_ ?_
 ·refine Ae (λy V=>y=(decide (kind=21\/kind=25),())/\w4=V) ?_ ?_;{refine S4.ld (off:=0) 2 rfl (x:=kind) rfl (Ac (λh1=>⟨Az ?_,rfl⟩) (λh1=>S4.ld (off:=0) 2 rfl (x:=kind) rfl ⟨Az ?_,rfl⟩));{simp only [jM] at h1;simp only [lQ,iI];omega};{simp only [jO,ne_eq] at h1;simp only [jM,iI];omega}};rintro _ _ ⟨rfl,rfl⟩;refine Ac (λhc=>?_) (λhc=>?_)
  ·have hc:=cO hc;have eb:(kind==25)=decide (kind=25):=(by rw [gV,jM,iI]);refine S4.ld (off:=0) 2 rfl (x:=kind) rfl ?_;rw [eb];refine Np h4 λr z w5 o1 _ e5=>?_;rw [Ap8] at o1;have S5:=S4.ext e5;obtain ⟨m1,m2⟩:=Zm hA (Ll A (decide (kind=25)));obtain ⟨L,hL⟩:∃L,Bv A (Ll A (decide (kind=25)))=L:=⟨_,rfl⟩;rw [hL] at o1 m1 m2 hpl;have hkr:=Zo count;refine S5.lds 2 (mvM kind count arg) rfl (Px λw6 e6=>?_);have S6:=S5.ext e6;have h6:=h.ext S6.upd;have o6:=o1.ext e6;(have hLl:L.length=r.len:=by have:=o1.len1;rwa [gW,gW] at this);refine Ae (λz V=>z=((f:Int),())/\w6=V) ?_ ?_
   ·refine Ba (λx V=>∃k' fr j:Nat,x=((k':Int),(fr:Int),(j:Int),())/\w6=V/\j<=L.length/\1<=k'/\k'<=9999/\Yf (L.drop j) s (k'-1) fr=f) (λx _=>((L.length:Int)-x.2.2.1).toNat) ⟨kOf count,s,0,rfl,rfl,iW _,hkr.1,hkr.2,hpl.symm⟩ ?_;rintro _ _ ⟨k',fr,j,rfl,rfl,hj,hk1,hk2,hp⟩;dsimp only;refine Ae (λz V=>z=(decide (j<L.length/\1<k'),())/\w6=V) (Ac (λh1=>⟨Az ?_,rfl⟩) (λh1=>⟨Az ?_,rfl⟩)) ?_;{simp only [iI,kG] at h1 ⊢;omega};{simp only [iH] at h1;simp only [dO,iI,lS];omega};rintro _ _ ⟨rfl,rfl⟩;refine Ac (λhc2=>?_) (λhc2=>?_)
    ·obtain ⟨c1,c2⟩:=cO hc2;obtain ⟨y,hy⟩:∃y,L[j]?=some y:=⟨_,jC c1⟩;have hd:L.drop j=y::L.drop (j+1):=by
      rw [iZ c1,(fG.1 hy).2]
     rw [hd] at hp;rw [Qy (n:=j) (by omega),show W64 ((k':Int)-1)=((k'-1:Nat):Int) by rw [wrap64 (by omega) (by omega)];omega];refine Ae (λz V=>z=(((if s<y then k'-1 else k':Nat):Int),((if s<y then y else fr:Nat):Int),())/\w6=V) ?_ ?_;{refine Ew (c:=.int .i64) (xs:=nI L) o6 (kQ j) (Au9 hy) λp=>Ac (λhe=>?_) (λhe=>?_);{simp only [iI,kG] at he;have he:s<y:=(by omega);rw [aF he,aF he];exact Ew (c:=.int .i64) (xs:=nI L) o6 (kQ j) (Au9 hy) λp=>⟨rfl,rfl⟩};{simp only [iH,kG] at he;rw [aJ (by omega),aJ (by omega)];exact ⟨rfl,rfl⟩}};rintro _ _ ⟨rfl,rfl⟩;refine ⟨⟨_,_,j+1,rfl,rfl,by omega,by split<;>omega,by split<;>omega,?_⟩,by omega⟩;by_cases he:s<y;{rw [aF he,aF he];rw [Cd6 he (by omega)] at hp;exact hp};{rw [aJ he,aJ he];rw [Cn7 he] at hp;exact hp}
    ·have hc2:=pW hc2;refine ⟨?_,rfl⟩;have:fr=f:=by
      rw [←hp]
      by_cases hjl:j<L.length
      ·rw [show k'-1=0 by omega,Bo9]
      ·rw [iY (by omega),Cd7]
     rw [this]
   rintro _ _ ⟨rfl,rfl⟩;refine S6.ld (off:=0) 0 rfl (x:=l.1.1) rfl ?_;rw [hn];refine Ib h6 hnl (Ib h6 hfl (Ac (λhd=>?_) (λhd=>?_)));{simp only [iI,kG] at hd;rw [aF ⟨hc,by omega⟩] at hv;refine S6.drew λw7 S7 e7 _=>(h6.ext e7).Ur λsl hsl hk=>Ib (h6.ext e7) hfl (Bg (hk w7 (Ext.refl _)) ?_);refine Am7 hsl (Ho A f) λp=>?_;exact Me (l:=(((s:Int),((Aq A (nb A f)).to_:Int),0),0)) (o:=Jg ((0,0,0),0)) (i:=1) S7 rfl (by rw [hv];exact hK)};{simp only [iH,kG] at hd;exact ⟨λhh=>by have:=hh.2;omega,S6⟩}
  {have hc:=pW hc;exact ⟨λhh=>hc hh.1,S4⟩}
 rintro _ w6 ⟨hno,S6⟩;rw [aJ hno] at hv;refine S6.ld (off:=0) 0 rfl (x:=l.1.1) rfl (S6.ld (off:=1) 0 rfl (x:=l.1.2.1) rfl (D9 (h.ext S6.upd) λw7 e7=>?_));rw [hn];exact Me (l:=Qb A (s:Int) (n:Int) l.1.2.1) (o:=Jg ((0,0,0),0)) (i:=1) (S6.ext e7) rfl (by rw [hv];exact hK)
end
section
variable {w w':World}{p q:Nat}{A:List Int}{a:Va}
theorem Ak4 {l:Ld}{K:Bool->Wp}(hK:∀w',Ext w w'->K true w'):Aa Tryz.prog 51 #[.agg (Cells.vals c94 (O9 l).1).toArray,.int .i64 l.2,.agg (Cells.vals c94 (O9 l).1).toArray,.int .i64 l.2] rB K w:=by refine A51 (a0:=(O9 l).1) (a2:=(O9 l).1) ?_;unfold F51;refine (St.start w).Af λb1 w1 S1 e1=>S1.Af λb2 w2 S2 e2=>S2.ld (off:=0) 1 rfl (x:=l.1.1) rfl (S2.ld (off:=0) 0 rfl (x:=l.1.1) rfl ?_);rw [qI];refine Bh (S2.ld (off:=1) 1 rfl (x:=l.1.2.1) rfl (S2.ld (off:=1) 0 rfl (x:=l.1.2.1) rfl ?_));rw [qI];refine Bh (S2.ld (off:=2) 1 rfl (x:=l.1.2.2) rfl (S2.ld (off:=2) 0 rfl (x:=l.1.2.2) rfl ?_));rw [qI,qI];exact Bh (hK w2 S2.upd)
theorem Bl9 (hk:a.kind=8):Zb a:=by intro w p q A K hg tx pg hK;refine A18 (a2:=Xv a) ?_;unfold F18;refine (St.start w).Af λb1 w1 S1 e1=>?_;have S1:St (λ_=>False) w w1 [(b1,Rz a)]:=S1;refine S1.ld (off:=0) 0 rfl (x:=a.kind) rfl ?_;rw [hk];refine Ah (Ah (Ah (Ah (Ah (Ah (Ah (Bh (S1.ld (off:=1) 0 rfl (x:=a.at_) rfl (Lm (S1.at_ 0 rfl) (Bo2 (tx.ext S1.upd) λw2 e2=>?_))))))))));obtain ⟨l,hl⟩:∃l,Aa1 A a.at_ a.mkd a.count a.arg=l:=⟨_,rfl⟩;rw [hl];refine (S1.ext e2).Fp rfl rfl rfl λb3 w3 S3 e3=>?_;have S3:St (λ_=>False) w w3 [(b3,Jg l),(b1,Rz a)]:=S3;refine S3.ld (off:=1) 1 rfl (x:=a.at_) rfl (Lm (S3.at_ 1 rfl) (Bf7 (pg.ext S3.upd) (Aq9.ext hg S3.upd) λw4 e4=>?_));rw [hl];refine (S3.ext e4).Fp rfl rfl rfl λb5 w5 S5 e5=>?_;have S5:St (λ_=>False) w w5 [(b5,Jg l),(b3,Jg l),(b1,Rz a)]:=S5;exact S5.lds 1 (O9 l).1 rfl (S5.lds 0 (O9 l).1 rfl (Ak4 λw6 e6=>hK w6 (S5.ext e6).upd))
theorem Bz6 (hk:a.kind=9):Zb a:=by intro w p q A K hg tx pg hK;refine A18 (a2:=Xv a) ?_;unfold F18;refine (St.start w).Af λb1 w1 S1 e1=>?_;have S1:St (λ_=>False) w w1 [(b1,Rz a)]:=S1;refine S1.ld (off:=0) 0 rfl (x:=a.kind) rfl ?_;rw [hk];refine Ah (Ah (Ah (Ah (Ah (Ah (Ah (Ah (Bh (S1.ld (off:=1) 0 rfl (x:=a.at_) rfl (S1.ld (off:=2) 0 rfl (x:=a.b) rfl (S1.ld (off:=3) 0 rfl (x:=a.mkd) rfl (Y8 (tx.ext S1.upd) λw2 e2=>?_))))))))))));obtain ⟨l,hl⟩:∃l,Qb A a.at_ a.b a.mkd=l:=⟨_,rfl⟩;rw [hl];refine (S1.ext e2).Fp rfl rfl rfl λb3 w3 S3 e3=>?_;have S3:St (λ_=>False) w w3 [(b3,Jg l),(b1,Rz a)]:=S3;refine S3.ld (off:=1) 1 rfl (x:=a.at_) rfl (S3.ld (off:=2) 1 rfl (x:=a.b) rfl (S3.ld (off:=3) 1 rfl (x:=a.mkd) rfl (D9 (pg.ext S3.upd) λw4 e4=>?_)));rw [hl];refine (S3.ext e4).Fp rfl rfl rfl λb5 w5 S5 e5=>?_;have S5:St (λ_=>False) w w5 [(b5,Jg l),(b3,Jg l),(b1,Rz a)]:=S5;exact S5.lds 1 (O9 l).1 rfl (S5.lds 0 (O9 l).1 rfl (Ak4 λw6 e6=>hK w6 (S5.ext e6).upd))
end
end
section
open Go Go.Vx Cdc Trx
section
variable {w w':World}{S:Nat->Prop}{p:Nat}{e:Enc}{lim na:Nat}{O:Nat->Prop}{M:Parts}
theorem As6 {from_ to_:Int}(h:Txt w p e lim na O M){K:Sl->Wp}(hK:∀s w',Ar w' w.heap.size s 3 1 (iv (sub (tOf e M) from_ to_))->Ext w w'->K s w') :
  Aa Tryz.prog 22 #[.pointer (some (at0 p)),.int .i64 from_,.int .i64 to_] rS K w:=by
 refine A22 ?_;unfold F22;have few:=h.few;have lims:=h.lims;have hal:(tOf e M).length=(aOf e M).length:=O7 e M;rw [Be6,hal] at hK;generalize hcnt:min to_.toNat (aOf e M).length-from_.toNat=cnt at *;have hcl:cnt<=1048576:=(by omega);refine Cm λb1 w1 e1 n1 hb1 hz1=>?_;have h1:=h.ext e1;refine Ai7 h1 rfl (λk=>k=b1) (λk hk=>⟨by omega,λho=>by have:=h.own k ho;omega⟩)
  (λN j W=>∃s,W.heap[b1]?=some (.cells #[.slice s.a s.len s.cap] 43 (0,0))/\Ar W N s 3 1 (iv (((tOf e M).drop from_.toNat).take j))/\Upd (λk=>k=b1) w1 W) ?_ ?_ ?_ ?_
 {intro N W x hN hW;exact ⟨⟨none,0,0⟩,x.ext_get n1,by rw [iL];exact Ar.nil W N _ _,x.mono λ_ _ h=>h.elim⟩};{rintro N j W W' S hN hW ⟨s,g1,g2,g3⟩ u hS;refine ⟨s,u.get g1 (λhb=>by have:=(hS _ hb).1;omega),g2.upd u (λk hk _ hs=>by have:=(hS _ hs).2;omega),g3.new u λk hk hs=>by have:=(hS _ hs).1;omega⟩}
 ·rintro N j a tag W K' hN hW hj _ ha ⟨s,g1,g2,g3⟩ hK';have g2l:=g2.len1;rw [gW,gI,gJ,O7] at g2l;refine func_x (caps:=#[.pointer (some (at0 b1))]) (by kernel_rfl) ?_;refine A60 ?_;unfold F60;refine Ce g1 (x:=s) rfl (Cm λb2 w2 e2 n2 hb2 hz2=>?_);refine En Qi Qi.ts_ (x:=⟨some (at0 b2),1,1⟩) (g2.ext e2) (Ab6 n2) (λv hv=>by rw [iT.1 hv];rfl) (by
   show (s.len+1+(s.len+1)/4+512)*8<=2^48
   omega) (by omega) λs' w3 o3 l3 u3 b3=>?_
  have k3:∀k,s.blk k->N<=k:=λk hk=>g2.Fq hk;have g13:w3.heap[b1]?=some (.cells #[.slice s.a s.len s.cap] 43 (0,0)):=u3.get (e2.ext_get g1) (λhb=>by have:=k3 _ hb;omega);refine Jm g13 Nat.one_pos λw4 u4 n4 _=>?_;have o4:Ar w4 N s' 3 1 _:=o3.box g13 (by decide) u4;have e4:iv (((tOf e M).drop from_.toNat).take j)++[.int .i64 tag]=iv (((tOf e M).drop from_.toNat).take (j+1)):=by
   rw [kT,gU,ha]
   simp
  rw [e4] at o4;have s3:Fh w2 w3:=Fh.upd u3 λk hk o ho=>by
   obtain ⟨c,fr,hc⟩:=(g2.ext e2).in.Fv hk
   rw [ho] at hc;cases hc;rfl
  refine hK' w4 (((Fh.ext e2).trans s3).trans (Zp g13 rfl u4)) ?_ ⟨s',n4,o4,?_⟩;{refine ((e2.mono λ_ _ h=>h.elim).trans (u3.mono λk _ hk=>.inr (k3 k hk))).trans (u4.mono λk _ hk=>.inl hk)};{exact (g3.new (e2.mono λ_ _ h=>h.elim) (S':=λ_=>False) (λ_ _ h=>h.elim)).new (u3.mono λk _ hk=>k3 k hk) (S':=λk=>N<=k) (λk hk hn=>by omega) |>.trans u4}
 {rintro N W hN hW ⟨s,g1,g2,g3⟩;rw [hcnt] at g2;refine Ce g1 (x:=s) rfl (hK s W (g2.mono (by omega)) ?_);exact e1.step g3 λk hk=>by omega}
end
section
variable {w w':World}{S:Nat->Prop}{p:Nat}{e:Enc}{lim na:Nat}{O:Nat->Prop}{M:Parts}
theorem Bz2 (e:Enc):∀M:Parts,(bOf M).length=szs (aOf e M)
 |[]=>rfl
 |x::M=>by
  show (x.2++bOf M).length=szs (ats e x.2++aOf e M)
  rw [iE,Bq,Hz,Bz2 e M]
theorem Cx5 {c:Array Value}{l:List Value}(hs:c.size=l.length) (h:∀(i:Nat) (v:Value),l[i]?=some v->c[i]?=some v):c.toList=l:=by
 refine iC λi=>?_;rw [dM];cases hl:l[i]? with
 |some v=>exact h i v hl
 |none=>rw [kV] at hl;exact Array.getElem?_eq_none (by omega)
set_option maxHeartbeats 1000000 in
theorem Ap4 (h:Txt w p e lim na O M){K:Sl->Wp}(hK:∀s w',By w' s (bOf M)->Ext w w'->K s w') :
  Aa Tryz.prog 24 #[.pointer (some (at0 p))] rS K w:=by
 refine A24 ?_;unfold F24;have few:=h.few;have lims:=h.lims;have hsz:=h.sz;obtain ⟨t,ht,hi,hf,rd,hOt⟩:=h.Cl2;have il:=hi.len;have fl:=hf.few;have hbl:=Bz2 e M;obtain ⟨n,hn⟩:∃n,szs (aOf e M)=n:=⟨_,rfl⟩;rw [hn] at hbl hsz;refine Aj4 h λw1 e1=>?_;rw [hn];refine Af0 EBy.ts_ C5 (z:=.int .u8 0) rfl rfl (by omega) (by show ((n:Nat):Int)*1<=2^48;omega) (by omega) λbO w2 c0 n2 hc2 _ e2 hbO=>?_;rw [dF] at hc2 ⊢;(have hc2':c0.size=n:=by rw [hc2];show n*1=_;omega);have x2:=e1.trans e2;have hbOl:=lt_of_heap n2;(have hbOg:w.heap.size<=bO:=by have:=e1.size;omega);refine (St.start w2).Af λb3 w3 S3 e3=>S3.stC 0 rfl (by decide) λw4 S4 u4=>S4.Af λb4 w5 S5 e5=>S5.stC 0 rfl (by decide) λw6 S6 u6=>rd (x2.trans S6.upd) ?_;refine A63 (a0:=(t.ptr,())) ?_;unfold F63;refine S6.Af λc1 w9 S9 e9=>S9.Af λc2 w10 S10 e10=>?_;have hx10:Ext w w10:=x2.trans S10.upd;have hsz10:=hx10.size;have g3:=S10.ge 3 rfl;have g4:=S10.ge 2 rfl;have l3:=lt_of_heap (S10.at_ 3 rfl);have l4:=lt_of_heap (S10.at_ 2 rfl);have hz2:=S10.upd.size;have nd:[c2,c1,b4,b3].Nodup:=S10.nd;simp only [bU,aG,kW,kX,not_or] at nd;let At:Nat->World->Prop:=λj W=>Ext w W/\w10.heap.size+2<=W.heap.size/\(∃cc:Array Value,W.heap[bO]?=some (.cells cc 5 (0,0))/\cc.size=n/\∀(i:Nat) (v:Value),(bv (bOf (M.take j)))[i]?=some v->cc[i]?=some v)/\W.heap[b3]?=some (.cells #[.slice (some (at0 bO)) n n] 22 (0,0))/\W.heap[b4]?=some (.cells #[.int .i64 ((bOf (M.take j)).length:Int)] 3 (0,0));refine Af2 (n:=0) (λ_=>rfl) (S10.at_ 1 rfl) (S10.at_ 0 rfl) (ht.ext hx10) hf (by omega) At (λ_ _=>False) ?_ ?_ ?_ ?_ ?_;{intro W x hW;refine ⟨hx10.trans x,hW,⟨c0,x.ext_get (S10.upd.ext_get n2),hc2',λi v hv=>by simp [bOf] at hv⟩,x.ext_get (S10.at_ 3 rfl),x.ext_get (S10.at_ 2 rfl)⟩};{rintro j W W' ⟨a1,a2,⟨cc,a3,a4,a5⟩,a6,a7⟩ x;exact ⟨a1.trans x,fK a2 x.size,⟨cc,x.ext_get a3,a4,a5⟩,x.ext_get a6,x.ext_get a7⟩}
 ·rintro rc j x R W hj ⟨a1,a2,⟨cc,a3,a4,a5⟩,a6,a7⟩ hr hRt _;have hxi:t.items[j]?=some x:=hj;obtain ⟨y,hy,hp⟩:=(hi.ext a1).get j hxi;have hM1:bOf (M.take (j+1))=bOf (M.take j)++y.2:=by
   rw [kT,hy,lU,Bd1]
   simp [bOf]
  have hMl:(bOf (M.take (j+1))).length<=n:=by
   rw [←hbl]
   have h1:bOf M=bOf (M.take (j+1))++bOf (M.drop (j+1)):=by rw [←Bd1,jD]
   rw [h1,iE];omega
  rw [hM1,iE] at hMl;have hxl:=hp.by_.len;have hy0:0<y.2.length:=iO.2 hp.ne;obtain ⟨k,hk⟩:∃k,(bOf (M.take j)).length=k:=⟨_,rfl⟩;rw [hk] at hMl a7;refine (St.start W).Fp rfl rfl rfl λb13 W1 T1 y1=>⟨y1.ext_get hr,?_⟩;have g13:=T1.ge 0 rfl;have r1:=y1.ext_get hr;obtain ⟨u2,r2⟩:=Ji (o':=.loop (rc .busy none)) r1;(have s2:Fh W1 (W1.putObj (w10.heap.size+1) (.loop (rc .busy none))):=Fh.upd u2 λk hk o ho=>by subst hk;rw [r1] at ho;cases ho;rfl);have q2:Ext w (W1.putObj (w10.heap.size+1) (.loop (rc .busy none))):=(a1.trans y1).step u2 λk hk=>(by omega);have m13:=u2.Pg (T1.at_ 0 rfl) (by omega);have m3:=u2.Pg (y1.ext_get a6) (by omega);have m4:=u2.Pg (y1.ext_get a7) (by omega);have mO:=u2.Pg (y1.ext_get a3) (by omega);have z1:=y1.size;have z2:=u2.size;generalize W1.putObj (w10.heap.size+1) (.loop (rc .busy none))=W2 at *;refine Ci λW4 y4 _=>?_;have q4:=q2.trans y4;refine Ce (y4.ext_get m4) (x:=(k:Int)) rfl (Ce (y4.ext_get m3) (x:=⟨some (at0 bO),n,n⟩) rfl (Ce (y4.ext_get m4) (x:=(k:Int)) rfl (Dc (by show 0<=(k:Int)/\(k:Int)<=((n:Nat):Int)/\((n:Nat):Int)<=((n:Nat):Int)/\((n:Nat):Int)<=((n:Nat):Int);omega) ?_)));have ecut:Sl.cut (some (at0 bO)) (k:Int) ((n:Nat):Int) ((n:Nat):Int) 1=⟨some ⟨bO,k,none⟩,n-k,n-k⟩:=by
   unfold Sl.cut
   rw [aJ (by omega),dF,dF,bI,addr_add,Ei]
   simp
  rw [ecut];refine Ce (y4.ext_get m13) (x:=x.bytes) rfl ?_;have hBx:By W4 x.bytes y.2:=by
   obtain ⟨y',hy',hp'⟩:=(hi.ext q4).get j hxi
   rw [hy] at hy';cases hy'
   exact hp'.by_
  refine Cs3 (off:=k) EBy.ts_ C5.Gv (y4.ext_get mO) (by rw [gW];omega) hBx.x (by show x.bytes.len<=n-k;omega) (Ct4 y.2) λW5 n5 u5 z5=>?_;have s5:Fh W4 W5:=Zp (y4.ext_get mO) rfl u5;have q5:Ext w W5:=q4.step u5 λk hk=>(by omega);have m45:=u5.Pg (y4.ext_get m4) (by omega);refine Bg (cell_of (off:=0) m45 rfl) (Jm m45 Nat.one_pos λW6 u6' n6 _=>?_);have s6:Fh W5 W6:=Zp m45 rfl u6';have q6:Ext w W6:=q5.step u6' λk hk=>(by omega);have r6:W6.heap[w10.heap.size+1]?=some (.loop (rc .busy none)):=u6'.Pg (u5.Pg (y4.ext_get r2) (by omega)) (by omega);obtain ⟨u8,r8⟩:=Ji (o':=.loop (rc .ready none)) r6;(have s8:Fh W6 (W6.putObj (w10.heap.size+1) (.loop (rc .ready none))):=Fh.upd u8 λk hk o ho=>by subst hk;rw [r6] at ho;cases ho;rfl);refine ⟨⟨_,_,r6⟩,hRt _ ((((((Fh.ext y1).trans s2).trans (Fh.ext y4)).trans s5).trans s6).trans s8) ?_ r8⟩;have z4:=y4.size;have z6:=u6'.size;have z8:=u8.size;refine ⟨q6.step u8 λk hk=>by omega,fK (by omega) u8.size,⟨setRow cc k (bv y.2),u8.Pg (u6'.Pg n5 (by omega)) (by omega),by rw [Go.Vx.size_setRow];exact a4,λi v hv=>?_⟩,u8.Pg (u6'.Pg (u5.Pg (y4.ext_get m3) (by omega)) (by omega)) (by omega),?_⟩;{have hbv:bv (bOf (M.take j)++y.2)=bv (bOf (M.take j))++bv y.2:=lG;rw [hM1,hbv] at hv;by_cases hik:i<k;{rw [fZ (by rw [gW];omega)] at hv;rw [Go.Vx.Jc _ _ _ _ hik];exact a5 i v hv};{rw [gB (by rw [gW];omega),gW,hk] at hv;have hlt:=(fG.1 hv).1;rw [gW] at hlt;have:=Go.Vx.Rt (bv y.2) cc k (i-k) (by rw [gW];omega) (by rw [gW];exact hlt);rw [show k+(i-k)=i by omega] at this;rw [this];exact hv}}
  ·have:W64 ((k:Int)+((x.bytes.len:Nat):Int))=((bOf (M.take (j+1))).length:Int):=by
    rw [hM1,iE,wrap64 (by omega) (by omega)];omega
   rw [this] at n6;exact u8.Pg n6 (by omega)
 ·rintro W W' ⟨a1,a2,⟨cc,a3,a4,a5⟩,a6,a7⟩ hD u;have q1:Ext w W':=a1.step u λk hk=>(by omega);have m3:=u.Pg a6 (by omega);have mO:=u.Pg a3 (by omega);refine Ce m3 (x:=⟨some (at0 bO),n,n⟩) rfl ?_;obtain ⟨u2,_⟩:=Ji (o':=.deferred none) hD;refine ⟨hD,hK _ _ ?_ (q1.step u2 λk hk=>by omega)⟩;have hall:cc.toList=bv (bOf M):=by
   refine Cx5 (by rw [gW];omega) λi v hv=>a5 i v ?_
   rw [Nat.sub_zero,il,jR];exact hv
  have:=Bl.Jp (u2.Pg mO (by omega)) (n:=n) (sz:=1) (by omega);rw [hall] at this;exact this
 {rintro _ _ _ hfalse;exact hfalse.elim}
end
end
section
open Go Go.Vx Cdc Trx Gly Clu Lns Obx Mot
section
variable {w w':World}{p q:Nat}{a:Va}{e:Enc}{lim na:Nat}{O:Nat->Prop}{M:Parts}
theorem Bz9 (h:∀k:Int,1<=k->k<=9->a.kind≠k):Zb a:=by intro w p q A K hg tx pg hK;refine A18 (a2:=Xv a) ?_;unfold F18;refine (St.start w).Af λb1 w1 S1 e1=>?_;have S1:St (λ_=>False) w w1 [(b1,Rz a)]:=S1;have ne:∀{k:Int}{B C:World->Prop},1<=k->k<=9->C w1->sif (a.kind==k) B C w1:=λ{k B C} h1 h2 hC=>Ac (λhh=>absurd (jM.1 hh) (h k h1 h2)) (λ_=>hC);refine S1.ld (off:=0) 0 rfl (x:=a.kind) rfl ?_;refine ne (by decide) (by decide) (ne (by decide) (by decide) (ne (by decide) (by decide) (ne (by decide) (by decide) (ne (by decide) (by decide) (ne (by decide) (by decide) (ne (by decide) (by decide) (ne (by decide) (by decide) (ne (by decide) (by decide) ?_))))))));exact hK w1 S1.upd
theorem Ck0 (a:Va):Zb a:=by by_cases h:1<=a.kind/\a.kind<=9;{rcases (by omega:a.kind=1\/a.kind=2\/a.kind=3\/a.kind=4\/a.kind=5\/a.kind=6\/a.kind=7\/a.kind=8\/a.kind=9) with hk|hk|hk|hk|hk|hk|hk|hk|hk;{exact Cj9 hk};{exact Cj7 hk};{exact Bl7 hk};{exact Bz7 hk};{exact Bz8 hk};{exact Cj8 hk};{exact Bl8 hk};{exact Bl9 hk};{exact Bz6 hk}};{exact Bz9 λk h1 h2 hk=>h ⟨by omega,by omega⟩}
theorem As8 (T:List Int):sub T 0 (T.length:Int)=T:=by unfold sub;simp
set_option maxHeartbeats 1000000 in
theorem still_call (h:Txt w p e lim na O M) (pg:Gq w q (atoms (aOf e M))) (hg:Brk w){s:Sl}{al:List Va}(ha:SlX w s 7 (flat c50 (al.map Xv))) (hfew:al.length<=1048576){K:Bool->Wp}(hK:∀w',Ext w w'->K true w') :
  Aa Tryz.prog 13 #[.pointer (some (at0 p)),.pointer (some (at0 q)),s.v] rB K w:=by
 refine A13 ?_;unfold F13;have few:=h.few;have hal:al.length=s.len:=by
  have:=SlX.Na (cs:=c50) ha (by decide)
  rwa [gW] at this
 obtain ⟨n,hn⟩:∃n,(aOf e M).length=n:=⟨_,rfl⟩;obtain ⟨T,hT⟩:∃T,tOf e M=T:=⟨_,rfl⟩;obtain ⟨A,hA⟩:∃A,atoms (aOf e M)=A:=⟨_,rfl⟩;have hTl:T.length=n:=(by rw [←hT,O7,hn]);(have hAl:A.length=n:=by rw [←hA,←hn];exact gW _);rw [hn] at few;rw [hA] at pg;(have hsT:sub T 0 (n:Int)=T:=by rw [←hTl];exact As8 T);(have hsA:sub A 0 (n:Int)=A:=by rw [←hAl];exact As8 A);have tx:TxA w p A:=⟨e,lim,na,O,M,h,hA⟩;have hcv:∀{W:World} {y:Sl} {K':ByteArray->Wp},By W y (bOf M)->K' ⟨(bOf M).toArray⟩ W->Du Tryz.prog (.one (.one .str)) (convert 22 9 (.slice y.a y.len y.cap)) K' W:=λhy hk=>Bs9 C22.und C5.und C9.und hy.x hk;refine Iz h λw1 e1=>?_;rw [hn];refine As6 (h.ext e1) λx2 w2 o2 e2=>?_;rw [hT,hsT] at o2;have l2:=o2.len1;rw [gW] at l2;refine En Qi Qi.ts_ (s:=⟨none,0,0⟩) (x:=x2) (vs:=[]) (us:=iv T) (B:=w2.heap.size) (Ar.nil w2 _ 3 1) o2.in.x (λv hv=>by obtain ⟨z,_,rfl⟩:=gY.1 hv;rfl) (by
  show (0+x2.len+(0+x2.len)/4+512)*8<=2^48
  omega) (fJ _) λx3 w3 o3 l3 u3 k3=>?_
 (have e3:Ext w2 w3:=(Ext.refl w2).step u3 λk hk=>by obtain ⟨_,hp,_⟩:=hk;cases hp);rw [aU] at o3;have y3:=(e1.trans e2).trans e3;refine Ap4 (h.ext y3) λx4 w4 hB4 e4=>hcv hB4 ?_;have y4:=y3.trans e4;have l3:=o3.len1;rw [gW] at l3;have hst3:Bl w4 x3 3 1 (iv T):=o3.in.ext e4;refine Ae (λ_ W=>Ext w4 W) ?_ ?_;{refine Ba (λx W=>∃i:Nat,x=((i:Int),())/\i<=al.length/\Ext w4 W) (λx _=>((al.length:Int)-x.1).toNat) ⟨0,rfl,iW _,Ext.refl _⟩ ?_;rintro _ W ⟨i,rfl,hi,eW⟩;dsimp only;refine Ac (λhc=>?_) (λhc=>eW);simp only [iI] at hc;obtain ⟨b,hb⟩:∃b,al[i]?=some b:=⟨_,jC (by omega)⟩;have yW:=y4.trans eW;refine Bx5 (cs:=c50) (xs:=al.map Xv) (ha.ext yW) (by decide) (kQ i) (x:=Xv b) (by rw [dF,gX,hb];rfl) λp10=>?_;refine Ck0 b W p q A _ (hg.ext yW) (tx.ext yW) (pg.ext yW) λW1 e5=>Ah ?_;rw [Qy (by omega)];exact ⟨⟨i+1,rfl,by omega,eW.trans e5⟩,by omega⟩};rintro _ w5 e5;have y5:=y4.trans e5;refine Iz (h.ext y5) λw6 e6=>?_;rw [hn];refine Ry ((h.ext y5).ext e6) λx14 w7 o7 e7=>?_;rw [hA,hsA] at o7;refine As6 (((h.ext y5).ext e6).ext e7) λx15 w8 o8 e8=>?_;rw [hT,hsT] at o8;have y8:=((y5.trans e6).trans e7).trans e8;have l14:=o7.len1;have l15:=o8.len1;rw [gW] at l14 l15;have hst14:=o7.in.ext e8;have hst3:=(((hst3.ext e5).ext e6).ext e7).ext e8;have hst15:=o8.in;refine Ae (λz W=>z=(false,())/\Ext w8 W) ?_ ?_;{refine (pg.ext y8).Pj λsa t hsa=>?_;have la:=hsa.len1;rw [gW] at la;(have ne:∀{m:Nat} {B C:World->Prop},m=n->C w8->sif ((n:Int) !=((m:Nat):Int)) B C w8:=λ{m B C} hm hC=>by subst hm;rw [bne_self_eq_false];exact Ah hC);(have ne':∀{m:Nat} {B C:World->Prop},m=n->C w8->sif (((m:Nat):Int) !=(n:Int)) B C w8:=λ{m B C} hm hC=>by subst hm;rw [bne_self_eq_false];exact Ah hC);refine ne (by omega) (ne' (by omega) (ne' (by omega) (ne' (by omega) ?_)));refine Ap4 (h.ext y8) λx20 w9 hB9 e9=>hcv hB9 ⟨?_,e9⟩;rw [qI];rfl};rintro _ w9 ⟨rfl,e9⟩;refine Ah ?_;have y9:=y8.trans e9;refine Ae (λ_ W=>Ext w9 W) ?_ (λ_ W eW=>hK W (y9.trans eW));refine Ba (λx W=>∃i:Nat,x=((i:Int),())/\i<=n/\Ext w9 W) (λx _=>((n:Int)-x.1).toNat) ⟨0,rfl,iW _,Ext.refl _⟩ ?_;rintro _ W ⟨i,rfl,hi,eW⟩;dsimp only;refine Ac (λhc=>?_) (λhc=>eW);simp only [iI] at hc;obtain ⟨va,hva⟩:∃va,A[i]?=some va:=⟨_,jC (by omega)⟩;obtain ⟨vt,hvt⟩:∃vt,T[i]?=some vt:=⟨_,jC (by omega)⟩;refine Ae (λz V=>z=(false,())/\Ext w9 V) ?_ ?_;{refine Ci λW1 e10 _=>?_;have x1:=eW.trans e10;refine Ew (c:=.int .i64) (xs:=A) ((hst14.ext e9).ext x1) (kQ i) (by rw [dF];exact hva) λp28=>?_;refine ((pg.ext y9).ext x1).Pj λsa t hsa=>?_;refine Ew (c:=.int .i64) (xs:=A) hsa (kQ i) (by rw [dF];exact hva) λp32=>?_;rw [bne_self_eq_false];refine Ah ?_;refine Ew (c:=.int .i64) (xs:=T) ((hst15.ext e9).ext x1) (kQ i) (by rw [dF];exact hvt) λp34=>?_;refine Ew (c:=.int .i64) (xs:=T) ((hst3.ext e9).ext x1) (kQ i) (by rw [dF];exact hvt) λp36=>?_;rw [bne_self_eq_false];exact ⟨rfl,x1⟩};rintro _ V ⟨rfl,eV⟩;refine Ah ?_;rw [Qy (by omega)];exact ⟨⟨i+1,rfl,by omega,eV⟩,by omega⟩
end
section
variable {w w':World}
set_option maxHeartbeats 2000000 in
theorem Bl6 {y:Cells.T c26}{c:Int}{l:List UInt8}(hyc:y.1=c) (hbytes:SlX w y.2.1 1 (bv l)) (hyl:y.2.2.1.len=0){K:Option Addr×Option Addr×Bool×Unit->Wp}(hN:∀w',Ext w w'->K (none,none,true,()) w')
  (hS:∀p q e O M w',1<=c->c<=4->l.length<=65536->e.num=c->Txt w' p e 65536 0 O M->aOf e M=ats e l->(∀k,O k->w.heap.size<=k)->Gq w' q (atoms (ats e l))->Ext w w'->K (some (at0 p),some (at0 q),true,()) w') :
  Aa Tryz.prog 11 #[.agg (Cells.vals c26 y).toArray] (.tup [(.one .ptr),(.one .ptr),(.one .bool)]) K w:=by
 refine A11 (a0:=y) ?_;unfold F11;(have hbl:l.length=y.2.1.len:=by have:=hbytes.len1;rwa [gW] at this);have he:(some (Value.int .i64 y.1):Option Value)=some (Value.int .i64 c):=fC (λ(n:Int)=>some (Value.int .i64 n)) hyc;refine (St.start w).Af λb1 w1 S1 e1=>Cj6 λw2 e2=>Ah ?_;have S2:=S1.ext e2;have S2:St (λ_=>False) w w2 [(b1,lkO y)]:=S2;refine S2.ld (off:=0) 0 rfl (x:=c) he (S2.ld (off:=1) 0 rfl (x:=y.2.1) rfl ?_);by_cases hc:¬(1<=c/\c<=4/\l.length<=65536);{exact Cm4 hbl.symm hc λv hv=>Ac (λ_=>hN w2 S2.upd) (λhh=>absurd (by simpa using hh) hv)};have hc:=lJ hc;obtain ⟨e,hen⟩:=Da3 (c:=c) ⟨hc.1,hc.2.1⟩;rw [←hen];refine Al0 (hbytes.ext S2.upd) hc.2.2 λr w3 F hR hF e3=>Ah ?_;have S3:=S2.ext e3;refine S3.drew λw4 S4 e4 _=>S4.ld (off:=0) 0 rfl (x:=e.num) (by rw [hen];exact he) (S4.ld (off:=1) 0 rfl (x:=y.2.1) rfl ?_);refine Cv5 (s:=⟨none,0,0⟩) (l:=[]) (m:=l) (B:=w.heap.size) (Ar.nil w4 w.heap.size 5 1) (hbytes.ext S4.upd) (by
  show 0+y.2.1.len+(0+y.2.1.len)/4+512<=2^48
  omega) S4.upd.size λs8 w5 o5 l5 u5 b5 _=>?_
 (have e5:Ext w4 w5:=(Ext.refl w4).step u5 λk hk=>by obtain ⟨_,hp,_⟩:=hk;cases hp);have S5:=S4.ext e5;rw [aU] at o5;refine S5.keep (off:=0) 0 rfl (v:=.int .i64 e.num) (by rw [hen];exact he) ?_;have hB5:By w5 s8 l:=o5.in;refine Au2 (e:=e) (lim:=65536) hB5 hc.2.2 (fJ _) λp O M w6 tx hA _ e6 hnew=>?_;have S6:=S5.ext e6;refine Ae (λx W=>x=(false,())/\w6=W) (Ah ⟨rfl,rfl⟩) ?_;rintro _ _ ⟨rfl,rfl⟩;refine Ah ?_;refine Ae (λ_ W=>w6=W) ?_ ?_;{refine Ba (λx W=>x=((0:Int),())/\w6=W) (λ_ _=>0) ⟨rfl,rfl⟩ ?_;rintro _ _ ⟨rfl,rfl⟩;refine S6.ld (off:=2) 0 rfl (x:=y.2.2.1) rfl (Ac (λhc2=>?_) (λ_=>rfl));simp only [iI] at hc2;omega};rintro _ _ rfl;have hR6:=((hR.ext e4).ext e5).ext e6;refine hR6.Pj λsa hsa=>Bh3 hsa hR6.len λq w8 hq _ e8=>?_;exact hS p q e O M w8 hc.1 hc.2.1 hc.2.2 hen (tx.ext e8) hA (λk hO=>by
  have:=hnew k hO;have:=S5.upd.size;omega) hq (S6.ext e8).upd
set_option maxHeartbeats 2000000 in
theorem Ca0 {y:Cells.T c26}{c:Int}{l:List UInt8}{L:List (List LEd)}{al:List Va}(h:Cv9 w y c l L al) (hg:Brk w){K:Bool->Wp}(hK:∀w',Ext w w'->K true w'):Aa Tryz.prog 9 #[.agg (Cells.vals c26 y).toArray] rB K w:=by
 refine A9 (a0:=y) ?_;unfold F9;obtain ⟨ys,hys,hyl,hye⟩:=h.edits.ex;have few:=h.edits.few;(have hsl:ys.length=y.2.2.1.len:=by have:=hys.len1;rwa [gW] at this);have hfew:=h.asks.few;refine (St.start w).Af λb1 w1 S1 e1=>?_;have S1:St (λ_=>False) w w1 [(b1,lkO y)]:=S1;have he:(some (Value.int .i64 y.1):Option Value)=some (Value.int .i64 c):=fC (λ(n:Int)=>some (Value.int .i64 n)) h.e;have hw1:Ext w w1:=S1.upd;have hob:w1.heap[b1]?=some (lkO y):=S1.at_ 0 rfl;refine S1.ld (off:=0) 0 rfl (x:=c) he (S1.ld (off:=1) 0 rfl (x:=y.2.1) rfl ?_);refine Bl6 (c:=c) (y:=(c,y.2.1,⟨none,0,0⟩,⟨none,0,0⟩,())) rfl (h.bytes.ext hw1) rfl (λw2 e2=>?_) λp q e O M w2 hc1 hc2 hll hen tx hA hO pg e2=>?_;{refine Ae (λs W=>s=(true,())/\w2=W) (Ah ⟨rfl,rfl⟩) ?_;rintro _ _ ⟨rfl,rfl⟩;exact Bh (hK w2 (S1.ext e2).upd)};refine Ae (λs W=>s=(false,())/\w2=W) (Ah ⟨rfl,rfl⟩) ?_;rintro _ _ ⟨rfl,rfl⟩;refine Ah ?_;have S2:=S1.ext e2;refine S2.ld (off:=0) 0 rfl (x:=c) he (S2.ld (off:=1) 0 rfl (x:=y.2.1) rfl ?_);rw [←hen];refine Al0 (h.bytes.ext S2.upd) hll λr w3 F hR hF e3=>?_;(have hsz:szs (ats e l)<=65536:=by rw [Hz];exact hll);have x13:Ext w1 w3:=e2.trans e3;have B3:Bt w1 w3 e p r (ats e l) 0:=⟨⟨O,M,F,0,fJ _,tx.ext e3,hA,hR,λk hk hOk=>by
  have:=hF k hk;have:=tx.own k hOk;omega,hO,λk hk=>by have:=hF k hk;have:=e2.size;omega⟩,(Bt7 e _ l (fJ _)).prs,hsz⟩
 have hstill:∀{W:World} {A:As} {nA qq:Nat} {K':Bool->Wp},Ext w1 W->Bt w1 W e p r A nA->Gq W qq (atoms A)->(∀W',Ext W W'->K' true W')->Aa Tryz.prog 13 #[.pointer (some (at0 p)),.pointer (some (at0 qq)),y.2.2.2.1.v] rB K' W:=λ{W A nA qq K'} xW hB hq hk=>by
  obtain ⟨O',M',F',na',_,h1,h2,_⟩:=hB.ex
  subst h2
  exact still_call h1 hq (hg.ext (hw1.trans xW)) (h.asks.row.ext (hw1.trans xW)) hfew hk
 refine Ae (λx W=>∃(A:As) (qq:Nat),x=(some (at0 qq),())/\Ext w1 W/\Bt w1 W e p r A (65536*L.length)/\Gq W qq (atoms A)) ?_ ?_;{refine Ba (λx W=>∃(i:Nat) (A:As) (qq:Nat),x=(some (at0 qq),(i:Int),())/\i<=L.length/\Ext w1 W/\Bt w1 W e p r A (65536*i)/\Gq W qq (atoms A)) (λx _=>((L.length:Int)-x.2.1).toNat) ⟨0,_,q,rfl,iW _,x13,B3,pg.ext e3⟩ ?_;rintro _ W ⟨i,A,qq,rfl,hi,xW,hB,hq⟩;dsimp only;have hobW:=xW.ext_get hob;refine Ce (off:=2) (x:=y.2.2.1) hobW rfl (Ac (λhcl=>?_) (λhcl=>?_));{simp only [iI] at hcl;refine Ce (off:=3) (x:=y.2.2.2.1) hobW rfl (hstill xW hB hq λW4 e4=>Ah ?_);have x4:=xW.trans e4;have hB4:=hB.ext e4;(have ew:W64 ((i:Int)+1)=((i+1:Nat):Int):=by rw [wrap64 (by omega) (by omega)];omega);rw [ew];obtain ⟨z,hz⟩:∃z,ys[i]?=some z:=⟨_,jC (by omega)⟩;obtain ⟨es,hes⟩:∃es,L[i]?=some es:=⟨_,jC (by omega)⟩;(have hzn:ys[((i:Int)).toNat]?=some z:=by rw [dF];exact hz);refine Ci λw7 e7 _=>?_;have x7:=x4.trans e7;have ob7:=x7.ext_get hob;refine Ce (off:=2) (x:=y.2.2.1) ob7 rfl ?_;refine Bb4 (c:=.sl) (xs:=ys) (hys.ext (hw1.trans x7)) (kQ i) hzn λp1=>?_;refine Ce (off:=2) (x:=y.2.2.1) ob7 rfl ?_;refine Cz1 (c:=.sl) (xs:=ys) (hys.ext hw1) x7 (kQ i) hzn λp2 k2=>?_;refine Cg9 x7 (hB4.ext e7) ((hye i z es hz hes).ext hw1) (by omega) (λw' x'=>⟨k2 w' x',cell_of (off:=2) (x'.ext_get hob) rfl⟩) λv A' w8 x8 B8=>?_;rw [bne_self_eq_false];refine Ah ?_;obtain ⟨O',M',F',na',_,_,_,hR',_,_,_⟩:=B8.ex;refine hR'.Pj λsa hsa=>Bh3 hsa hR'.len λq9 w9 hq9 _ e9=>?_;exact ⟨⟨i+1,A',q9,rfl,by omega,x8.trans e9,by rw [Nat.mul_succ];exact B8.ext e9,hq9⟩,by omega⟩};{simp only [iH] at hcl;obtain rfl:i=L.length:=(by omega);exact ⟨A,qq,rfl,xW,hB,hq⟩}};rintro _ W ⟨A,qq,rfl,xW,hB,hq⟩;refine Ce (off:=3) (x:=y.2.2.2.1) (xW.ext_get hob) rfl (hstill xW hB hq λW4 e4=>?_);exact hK W4 ((hw1.trans xW).trans e4)
end
end
section
open Go Go.Vx Go.ChangeShapes Go.WideShapes Go.RowKit
theorem V3 (os:Os){H:Type}(enc:TypeId×Value->H) :
  (Rows.OpenSpec.upto Rows.motionAllSpec).preRow enc Tryz.prog Tryz.f9 Rows.motionAllUptoRow.domain false laidB ((laidWorld os).forCall (λ_ _=>0) ⟨#[],#[look0],[]⟩).memory #[look0]:=by
 have hw:(DataW.whole enc Tryz.prog ((laidWorld os).forCall (λ_ _=>0) ⟨#[],#[look0],[]⟩).memory Tryz.f9.params.toList (Rows.OpenSpec.upto Rows.motionAllSpec).vars false #[look0].toList 8).map (λx=>(x.1,x.2.1)) =
   some ([.agg [.lit (.int .i64 0),.nil,.nil,.nil]],[]):=by kernel_rfl
 obtain ⟨⟨x1,x2,x3⟩,hx,hx1⟩:=mP.1 hw;simp only [Prod.mk.injEq] at hx1;obtain ⟨rfl,rfl⟩:=hx1;exact OpenSpec.preRow_of_cond 8 hx (by kernel_rfl) (λk hk=>by cases hk;kernel_rfl) (by kernel_rfl) (laid_met os _)
set_option maxRecDepth 100000 in
set_option maxHeartbeats 2000000 in
theorem Ab1 (os:Os) (started:os.Started) (H:Type) (enc:TypeId×Value->H) (F:Stop.Interp) :
  ReturnsInHanded {} Tryz.checked os 9 .any ((Rows.OpenSpec.upto Rows.motionAllSpec).preRow enc Tryz.prog Tryz.f9 Rows.motionAllUptoRow.domain false laidB) (((Rows.OpenSpec.upto Rows.motionAllSpec).at F).post enc Tryz.prog Tryz.f9 false true false false):=by
 refine returnsInHanded_of_row (C:=Tryz.checked) (s:=Rows.OpenSpec.upto Rows.motionAllSpec) Tryz.own started (by kernel_rfl) Tryz.func9
  (witness_row_atRef (enc:=enc) (C:=Tryz.checked) false (laidWorld os) #[look0] rfl (by kernel_rfl) (by kernel_rfl) (by kernel_rfl) (V3 os enc)) ?_
 intro W base args ds gs before hval0 hW _ hk hwt0 hL _ _;have hval:∀(j:Nat) t v,Tryz.f9.params[j]?=some t->args[j]?=some v->Value.okWide Tryz.prog W .any base t v:=hval0;have hwt:(DataW.weightsEach Tryz.prog (Tryz.f9.params.toList++[]) (ds++gs)).all (·<=reachBytes)=true:=hwt0;have hW':=hW;obtain ⟨p,q,hA0,hV,rfl,hfz,hnd⟩:=hW;have hA:DataW.TrodAll enc Tryz.prog W 0 (λ_=>true) true Tryz.f9.params.toList args.toList ds p:=hA0;clear hA0 hval0 hwt0;rw [Tryz.params9] at hA hval hwt;obtain ⟨rfl,rfl⟩:=trodVars_none hV;obtain ⟨hn1,hn2,hT⟩:=Ad6 hA;obtain ⟨v0,hv⟩:=Cp8 args.toList hn1;(obtain rfl:args=#[v0]:=by cases args;simp_all);obtain ⟨d0,rfl⟩:=Cp8 ds hn2;have hbulk:bulk d0<=1048576:=by
  have h:Rows.uptoBulkAll ([d0]++[])<=1048576:=cO (hk _ rfl)
  simp only [kM,Rows.uptoBulkAll] at h
  show Rows.uptoBulk d0<=_
  omega
 obtain ⟨p0,q0⟩:=hT 0 26 v0 d0 rfl rfl rfl;obtain ⟨y,c,l,L,al,rfl,hLk⟩:=Cv4 (hval 0 26 v0 rfl rfl) q0 (weigh hwt 0 rfl rfl) hbulk;have walk:=Ca0 hLk (Bk4 hL) (K:=λr w'=>r=true/\Ext W w') λw' e=>⟨rfl,e⟩;refine walk.mono λe W' ⟨x,he,hx,hext⟩=>⟨.bool true,?_,?_⟩;{subst hx;exact he}
 ·exact Cd1 (s:=Rows.motionAllSpec) hW' rfl rfl u4 rfl Tryz.laidOut (λt ht=>by
   rw [Tryz.params9] at ht
   have ht:t∈[26]:=ht
   simp only [aG,kW,kX] at ht
   exact recs ht) hext
theorem Ar8:Rows.MotionAllUptoSaid :=
 OpenClaim.holds_of_cond 9 Tryz.f9 rfl rfl rfl rfl rfl rfl rfl ⟨rfl,rfl,rfl,rfl,rfl⟩ rfl rfl rfl rfl rfl (by kernel_rfl) Tryz.func9 (by kernel_rfl)
  (cO (by kernel_rfl)) (by unfold Func.isWrapper;rw [aJ (by decide +kernel)];exact ⟨rfl,rfl⟩)
  (λos started H enc _ F=>by rw [OpenClaim.pre_eq_preRow];exact Ab1 os started H enc F)
theorem motionAll_holds:Rows.MotionAllUptoCardSaid :=
 Claim7.holds_tied_plain_at .later [] [.data] true (true, "8f74c5824d2844387da4d3f60a6cadad0d89fd3d2452e68467ab9657e16e6046") false
  Ar8 (λ_ h=>by cases h) (by kernel_rfl) (λ_ h=>by cases h) motionAllUpto_row_tie rfl ⟨rfl,rfl⟩ (by kernel_rfl) rfl
  (λf fn hf hfn=>by
   obtain rfl:f=9:=kS ((show Tryz.prog.funcNamed "copyist/copyistlaw8.MotionAll" = some 9 by kernel_rfl).symm.trans hf) |>.symm
   obtain rfl:fn=Tryz.f9:=(kS (Tryz.func9.symm.trans hfn)).symm
   exact ⟨by kernel_rfl,λj t ht=>by
    rw [Tryz.params9] at ht
    have hm:t∈[26]:=by simpa using Array.mem_of_getElem? ht
    have hall:([26].all λu=>!Tryz.prog.wantsStandIn u)=true:=by kernel_rfl
    exact (show Tryz.prog.wantsStandIn t=false by simpa using aS.1 hall t hm)⟩)
  (by kernel_rfl)
end
end Go.Proofs.YtolhlldgnfbemaaGreatDoor
