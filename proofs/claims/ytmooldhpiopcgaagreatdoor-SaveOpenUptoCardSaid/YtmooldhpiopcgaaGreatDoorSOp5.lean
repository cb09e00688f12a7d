/- YtmooldhpiopcgaaGreatDoorSOp5: parts of the proof, put together by program. -/
import Derived.Test.YtmooldhpiopcgaaGreatDoorSOp4
set_option linter.unusedVariables false
set_option linter.defProp false
set_option linter.unusedSimpArgs false
set_option linter.unusedSectionVars false
noncomputable section
set_option maxHeartbeats 2000000
set_option maxRecDepth 100000
namespace Go.Proofs.YtmooldhpiopcgaaGreatDoor
open Go.Proofs.Tryz
section
open Go Go.Vx Cdc Trx
section
variable {w w':World}{S:Nat->Prop}{p:Nat}{e:Enc}{lim na:Nat}{O:Nat->Prop}{M:Parts}
def Cd7:Fh prog 165 146 7 64:=Fh.of (z:=.agg #[.slice none 0 0,vI 0,vI 0,vI 0,vI 0,.bool false,.bool false]) Da3 Da6 rfl rfl rfl (by decide)
def bOf (M:Parts):Bs:=M.flatMap λx=>x.2
def Zb (M N:Parts):bOf (M++N)=bOf M++bOf N:=by simp [bOf]
def Cv0 (x:Pc):∀v∈flat c146 [pcT x],Eb v=true:=by intro v hv;rw [Cd3] at hv;have:v∈(Cells.vals c146 (pcT x)):=hv;revert this;show v∈[_,_,_,_,_,_,_]->_;intro h;simp only [iL,vC,vU] at h;rcases h with rfl|rfl|rfl|rfl|rfl|rfl|rfl<;>rfl
def Wq {s:Sl}{l:Bs}(hB:By w s l) (hl:l.length<=lim) (hlim:lim<=65536){K:xM×Int×Unit->Wp}
  (hK:∀p O M w',Txt w' p e lim 0 O M->aOf e M=ats e l->bOf M=l->Ext w w'->(∀k,O k->w.heap.size<=k)->K (some (at0 p),0,()) w') :
  Aa prog 48 #[vI e.num,s.v,vI lim] dA K w:=by
 refine j48 ?_;unfold F48;have hlen:=hB.len;have hen:1<=e.num/\e.num<=4:=(by cases e<;>decide);refine Ai (λx w'=>x=(false,())/\w=w') (Ac (λh=>?_) (λh=>⟨by rw [qO (by omega)],rfl⟩)) ?_;{simp only [pF] at h;omega};rintro _ _ ⟨rfl,rfl⟩;refine Bh (Ai (λx w'=>x=(false,())/\w=w') (Ac (λh=>?_) (λh=>⟨by rw [qO (by omega)],rfl⟩)) ?_);{simp only [pF] at h;omega};rintro _ _ ⟨rfl,rfl⟩;refine Bh (Ac (λh=>?_) (λ_=>?_));{simp only [pF,sH] at h;omega};refine Q7 EBy.ts_ C5 (z:=.int .u8 0) rfl rfl (by omega) (by show ((s.len:Nat):Int)*1<=2^48;omega) (by omega) λb w1 c n1 hc1 _ e1 hb1=>?_;rw [kH] at hc1 ⊢;(have hc1':c.size=s.len:=by rw [hc1];show s.len*1=_;omega);refine Ce2 (off:=0) EBy.ts_ C5.Gj n1 (by rw [nO];omega) (hB.ext e1).x (mJ _) (Ph l) λw2 n2 u2 _=>?_;rw [Cc (bv l) c (by rw [nO];omega)] at n2;have e2:Ext w w2:=e1.step u2 λk hk=>(by omega);have hL:By w2 ⟨some (at0 b),s.len,s.len⟩ l:=by
  have:=Dx.Jk n2 (n:=s.len) (sz:=1) (by simp;omega)
  simpa using this
 refine (St.start w2).Ak λb7 w3 S3 e3=>?_;have hb7:=S3.ge 0 rfl;let Zt:xM->Obj:=λq=>.cells #[vI e.num,vI lim,.pointer q,.slice none 0 0] 141 (0,0);let Lp:Nat->Sl->World->Prop:=λj r W=>∃(its:List Pc) (M:Parts),xQ w2 W [(b7,Zt none)]/\Am W w3.heap.size r 146 7 (flat c146 (its.map pcT))/\Its W e its M/\aOf e M=(ats e l).take j/\bOf M=l.take (szs ((ats e l).take j)) /\
  (∀x∈its,∀k,x.bytes.blk k->k=b)/\By W ⟨some (at0 b),s.len,s.len⟩ l/\its.length<=j/\w3.heap.size<=W.heap.size
 have hne:∀{r:Sl} {its:List Pc} {W:World},Am W w3.heap.size r 146 7 (flat c146 (its.map pcT))->its.length=r.len:=λho=>by
  have:=Am.Py (cs:=c146) ho (by decide)
  rwa [nO] at this
 refine Ai (λx W=>∃j,Lp j x.1 W/\(ats e l).take j=ats e l) ?_ ?_
 ·refine Bo (λx W=>∃j,j<=(ats e l).length/\x.2=(((szs ((ats e l).take j):Nat):Int),())/\Lp j x.1 W) (λx _=>((l.length:Int)-x.2.1).toNat) ⟨0,qI _,rfl,[],[],S3,Am.nil _ _ _ _,trivial,rfl,rfl,(λ_ h=>by cases h),hL.ext e3,mJ _,mJ _⟩ ?_;rintro ⟨r,_⟩ W4 ⟨j,hj,rfl,its,M,S4,ho,hi,ha,hb,hk,hL4,hil,hW4⟩;have hsj:szs ((ats e l).take j)<=l.length:=Ae0 j;dsimp only at ho ⊢;refine Ac (λhc=>?_) (λhc=>?_)
  ·simp only [pF] at hc;have hc':szs ((ats e l).take j)<l.length:=(by omega);refine Ai (λx W=>∃q,1<=q/\j+q<=(ats e l).length/\x=(((szs ((ats e l).take (j+q)):Nat):Int),())/\Ext W4 W) ?_ ?_;{refine Bo (λx W=>∃q,j+q<=(ats e l).length/\q<=128/\x=(((szs ((ats e l).take (j+q)):Nat):Int),(q:Int),())/\Ext W4 W) (λx _=>((l.length:Int)-x.1).toNat) ⟨0,by omega,by omega,rfl,Ext.refl W4⟩ ?_;rintro _ W5 ⟨q,hq,hq2,rfl,x5⟩;have hsq:szs ((ats e l).take (j+q))<=l.length:=Ae0 _;refine Ai (λx W=>x=(decide (szs ((ats e l).take (j+q))<l.length/\q<128),())/\W5=W) ?_ ?_;{refine Ac (λh=>⟨Di ?_,rfl⟩) (λh=>⟨Di ?_,rfl⟩);{simp only [pF] at h ⊢;omega};{simp only [oK,pF] at h ⊢;exact ⟨(λh=>by cases h),λh=>by omega⟩}};rintro _ W6 ⟨rfl,rfl⟩;refine Ac (λh=>?_) (λh=>?_);{simp only [pF] at h;obtain ⟨a,m,hqa,hnx,htk,hss,hm1,hsl⟩:=Yl (e:=e) (l:=l) (j:=j+q) h.1;have hql:j+q<(ats e l).length:=(lY.1 hqa).1;refine Zq (hL4.ext x5) h.1 λW7 x7=>?_;rw [hnx];have ewa:W64 (((szs ((ats e l).take (j+q)):Nat):Int)+(m:Int))=((szs ((ats e l).take (j+q+1)):Nat):Int):=iD (by omega);have ewb:W64 ((q:Int)+1)=((q+1:Nat):Int):=iD (by omega);refine ⟨⟨q+1,by omega,by omega,by dsimp only;rw [ewa,ewb];rfl,x5.trans x7⟩,?_⟩;dsimp only;rw [ewa];omega};{refine ⟨q,?_,hq,rfl,x5⟩;rcases Nat.eq_zero_or_pos q with h0|h0;{subst h0;(have h':¬(szs ((ats e l).take (j+0))<l.length/\0<128):=λhh=>by rw [uX hh] at h;cases h);exact absurd ⟨hc',by decide⟩ h'};{exact h0}}}
   ·rintro _ W5 ⟨q,hq1,hjq,rfl,x5⟩;have S5:=S4.ext x5;have hsq:szs ((ats e l).take (j+q))<=l.length:=Ae0 _;have hadd:szs ((ats e l).take (j+q))=szs ((ats e l).take j)+szs (((ats e l).drop j).take q):=(by rw [vV,Jf]);have hpq:=((Jq e l).drop j).take q;have hqpos:1<=szs (((ats e l).drop j).take q):=by
     have:=Ac5 hpq
     rw [nG,nH] at this;omega
    obtain ⟨pb,hpb⟩:∃pb:Bs,pb=(l.drop (szs ((ats e l).take j))).take (szs (((ats e l).drop j).take q)):=⟨_,rfl⟩;have hpa:ats e pb=((ats e l).drop j).take q:=by
     have h1:=(As0 e j l).2
     have h2:=(As0 e q (l.drop (szs ((ats e l).take j)))).1
     rw [h1] at h2
     rw [hpb];exact h2
    have hpl:pb.length=szs (((ats e l).drop j).take q):=(by rw [←hpa,Me]);have hL5:=hL4.ext x5;have hcut:=By.cut hL5 (l:=((szs ((ats e l).take j):Nat):Int)) (h:=((szs ((ats e l).take (j+q)):Nat):Int)) (m:=((szs ((ats e l).take (j+q)):Nat):Int)) (by omega) (by omega) (by show _<=((s.len:Nat):Int);omega) (by omega) (by show _<=((s.len:Nat):Int);omega);have hcb:(l.drop ((szs ((ats e l).take j):Nat):Int).toNat).take (((szs ((ats e l).take (j+q)):Nat):Int).toNat-((szs ((ats e l).take j):Nat):Int).toNat)=pb:=by
     rw [hpb,kH,kH,hadd,vT]
    rw [hcb] at hcut;refine Ea (by omega) (Ap9 hcut (by omega) λW6 x6=>?_);have S6:=S5.ext x6;refine S6.Ak λb21 W7 S7 x7=>?_;have x47:=(x5.trans x6).trans x7;have hrl:=hne ho;have hi7:Its W7 e its M:=hi.ext x47;have hx:Bi5 W7 e (Br1 e (Sl.cut (some (at0 b)) ((szs ((ats e l).take j):Nat):Int) ((szs ((ats e l).take (j+q)):Nat):Int) ((szs ((ats e l).take (j+q)):Nat):Int) 1) ((szs ((ats e l).take j):Nat):Int) pb) (((szs ((ats e l).take j):Nat):Int),pb) :=
     ⟨hcut.ext (x6.trans x7),rfl,rfl,λh0=>by have h0':pb=[]:=h0;rw [h0'] at hpl;simp at hpl;omega,by show -1<=((szs ((ats e l).take j):Nat):Int);omega,by show ((szs ((ats e l).take j):Nat):Int)+(pb.length:Int)<=2^40;omega⟩
    generalize hpc:Br1 e (Sl.cut (some (at0 b)) ((szs ((ats e l).take j):Nat):Int) ((szs ((ats e l).take (j+q)):Nat):Int) ((szs ((ats e l).take (j+q)):Nat):Int) 1) ((szs ((ats e l).take j):Nat):Int) pb=xp at *;have hxb:∀k,xp.bytes.blk k->k=b:=by
     rw [←hpc]
     rintro k hk
     obtain ⟨pp,hp1,hp2⟩:=Cn3 (s:=⟨some (at0 b),s.len,s.len⟩) hk
     cases hp1;exact hp2.symm
    have hbox:SlX W7 ⟨some (at0 b21),1,1⟩ 7 (flat c146 [pcT xp]):=by
     have:=Dx.Jk (S7.at_ 0 rfl) (n:=1) (sz:=7) rfl
     exact this.x
    refine Ed Cd7 Cd7.ts_ (x:=⟨some (at0 b21),1,1⟩) (ho.ext x47) hbox (Cv0 xp) (by
     show (r.len+1+(r.len+1)/4+512)*64<=2^48
     have:=Ac5 (Jq e l)
     rw [Me] at this
     omega) (by have:=x47.size;omega) λr' W8 o8 l8 u8 k8=>?_
    have hty:∀{t':TypeId},146≠t'->Et W7 r.blk t':=λht=>Et.blk (ho.ext x47).in ht;have st8:xQ w2 W8 [(b7,Zt none)]:=by
     refine S7.tail.fresh u8 (λk hk=>.inr ?_) (λx hx hk=>?_)
     ·have:=ho.Dh hk;have:=e3.size;omega
     ·rw [uZ.1 hx] at hk
      exact hty (by decide) _ hk _ _ (S7.at_ 1 rfl)
    (have e8:flat c146 (its.map pcT)++flat c146 [pcT xp]=flat c146 ((its++[xp]).map pcT):=by rw [oQ,Ls];rfl);rw [e8] at o8;have hi8:Its W8 e (its++[xp]) (M++[(((szs ((ats e l).take j):Nat):Int),pb)]):=by
     have h9:Its W7 e (its++[xp]) (M++[(((szs ((ats e l).take j):Nat):Int),pb)]):=hi7.app ⟨hx,trivial⟩
     refine h9.upd u8 λx hx k hk hS=>?_
     obtain ⟨y,hy⟩:∃y,Bi5 W7 e x y:=by
      obtain ⟨n,hn⟩:=nV hx
      obtain ⟨y,_,hy⟩:=h9.get n hn
      exact ⟨y,hy⟩
     obtain ⟨c2,fr2,hc2⟩:=hy.by_.Bf hk
     exact hty (t':=5) (by decide) k hS _ _ hc2
    refine ⟨⟨j+q,hjq,rfl,its++[xp],M++[_],st8,o8,hi8,?_,?_,?_,?_,?_,?_⟩,?_⟩;{rw [Zd,ha,vV];show _++aOf e [_]=_;simp only [aOf,nZ,List.flatMap_nil,vP];rw [hpa]};{rw [Zb,hb,hadd,vV];show _++bOf [_]=_;simp only [bOf,nZ,List.flatMap_nil,vP];rw [hpb]};{intro x hx k hkk;rcases jV.1 hx with hx|hx;{exact hk x hx k hkk};{rw [uZ.1 hx] at hkk;exact hxb k hkk}};{exact Dx.ty (hL5.ext (x6.trans x7)) u8 (hty (by decide))};{rw [oC];simp;omega};{have:=u8.size;have:=x47.size;omega};{dsimp only;omega}
  {simp only [oK] at hc;have:=Aa3 (e:=e) (l:=l) (j:=j) (by omega);exact ⟨j,⟨its,M,S4,ho,hi,ha,hb,hk,hL4,hil,hW4⟩,this⟩}
 {rintro ⟨r,_⟩ W4 ⟨j,⟨its,M,S4,ho,hi,ha,hb,hk,hL4,hil,hW4⟩,hj⟩;rw [hj] at ha hb;have hM:szs (aOf e M)=l.length:=(by rw [ha,Me]);have hfine:=hi.fine (by omega);refine Au0 (l:=its) ho.in hfine λt W5 ht hti x5=>Ad ?_;have S5:=S4.ext x5;rw [addr_add];refine Ba (S5.at_ 0 rfl) rfl rfl (by show 0+2+1<=4;decide) λW6 u56 n6' z6=>?_;have n6:W6.heap[b7]?=some (Zt t.ptr):=n6';have hb0:w.heap.size<=b:=(by omega);(have hb0':w.heap.size<=b7:=by have:=e2.size;omega);have e06:Ext w W6:=(e2.trans S5.upd).step u56 λk hk=>(by omega);refine hK b7 (λk=>k=b\/k=b7) M W6 ⟨⟨t,⟨none,0,0⟩,[],n6,?_,?_,Am.nil _ _ _ _,?_,?_,?_,mJ _⟩,hlim,by omega,.inr rfl,?_⟩ ha (by rw [hb,Me];exact rH) e06 (by rintro k (rfl|rfl)<;>assumption);{exact ht.ty u56 (Et.box (S5.at_ 0 rfl) (by decide))};{rw [hti];refine (hi.ext x5).upd u56 λx hx k hkk he=>?_;have:=hk x hx k hkk;have hbl:=lt_of_heap n2;omega};{rintro x hx k hkk ⟨q,hq,_⟩;cases hq};{intro x hx k hkk;rw [hti] at hx;exact .inl (hk x hx k hkk)};{rintro k ⟨q,hq,_⟩;cases hq};{have hbl:=lt_of_heap n2;have h7:=lt_of_heap n6;have:=S5.upd.size;rintro k (rfl|rfl)<;>omega}}
end
section
variable {w w':World}{S:Nat->Prop}{p:Nat}{e:Enc}{lim na:Nat}{O:Nat->Prop}{M:Parts}
def Ar9 (e:Enc):∀M:Parts,(bOf M).length=szs (aOf e M)
 |[]=>rfl
 |x::M=>by
  show (x.2++bOf M).length=szs (ats e x.2++aOf e M)
  rw [oC,Jf,Me,Ar9 e M]
def Ci3 {c:Array Value}{l:List Value}(hs:c.size=l.length) (h:∀(i:Nat) (v:Value),l[i]?=some v->c[i]?=some v):c.toList=l:=by
 refine nY λi=>?_;rw [kQ];cases hl:l[i]? with
 |some v=>exact h i v hl
 |none=>rw [List.getElem?_eq_none_iff] at hl;exact nU (by omega)
def Bh6 (h:Txt w p e lim na O M){K:Sl->Wp}(hK:∀s w',By w' s (bOf M)->Ext w w'->K s w') :
  Aa prog 39 #[dU p] rS K w:=by
 refine j39 ?_;unfold F39;have few:=h.few;have lims:=h.lims;have hsz:=h.sz;obtain ⟨t,ht,hi,hf,rd,hOt⟩:=h.Bj0;have il:=hi.len;have fl:=hf.few;have hbl:=Ar9 e M;obtain ⟨n,hn⟩:∃n,szs (aOf e M)=n:=iG;rw [hn] at hbl hsz;refine Bc7 h λw1 e1=>?_;rw [hn];refine Q7 EBy.ts_ C5 (z:=.int .u8 0) rfl rfl (by omega) (by show ((n:Nat):Int)*1<=2^48;omega) (by omega) λbO w2 c0 n2 hc2 _ e2 hbO=>?_;rw [kH] at hc2 ⊢;(have hc2':c0.size=n:=by rw [hc2];show n*1=_;omega);have x2:=e1.trans e2;have hbOl:=lt_of_heap n2;(have hbOg:w.heap.size<=bO:=by have:=e1.size;omega);refine (St.start w2).Ak λb3 w3 S3 e3=>S3.stC 0 rfl (by decide) λw4 S4 u4=>S4.Ak λb4 w5 S5 e5=>S5.stC 0 rfl (by decide) λw6 S6 u6=>rd (x2.trans S6.upd) ?_;refine j70 (a0:=(t.ptr,())) ?_;unfold F70;refine S6.Ak λc1 w9 S9 e9=>S9.Ak λc2 w10 S10 e10=>?_;have hx10:Ext w w10:=x2.trans S10.upd;have hsz10:=hx10.size;have g3:=S10.ge 3 rfl;have g4:=S10.ge 2 rfl;have l3:=lt_of_heap (S10.at_ 3 rfl);have l4:=lt_of_heap (S10.at_ 2 rfl);have hz2:=S10.upd.size;have nd:[c2,c1,b4,b3].Nodup:=S10.nd;simp only [jT,iL,vC,vU,uY] at nd;let At:Nat->World->Prop:=λj W=>Ext w W/\w10.heap.size+2<=W.heap.size/\(∃cc:Array Value,W.heap[bO]?=some (.cells cc 5 (0,0))/\cc.size=n/\∀(i:Nat) (v:Value),(bv (bOf (M.take j)))[i]?=some v->cc[i]?=some v)/\W.heap[b3]?=some (.cells #[.slice (some (at0 bO)) n n] 30 (0,0))/\W.heap[b4]?=some (.cells #[vI ((bOf (M.take j)).length:Int)] 3 (0,0));refine Vl (n:=0) (λ_=>rfl) (S10.at_ 1 rfl) (S10.at_ 0 rfl) (ht.ext hx10) hf (by omega) At (λ_ _=>False) ?_ ?_ ?_ ?_ ?_;{intro W x hW;refine ⟨hx10.trans x,hW,⟨c0,x.ext_get (S10.upd.ext_get n2),hc2',λi v hv=>by simp [bOf] at hv⟩,x.ext_get (S10.at_ 3 rfl),x.ext_get (S10.at_ 2 rfl)⟩};{rintro j W W' ⟨a1,a2,⟨cc,a3,a4,a5⟩,a6,a7⟩ x;exact ⟨a1.trans x,mM a2 x.size,⟨cc,x.ext_get a3,a4,a5⟩,x.ext_get a6,x.ext_get a7⟩}
 ·rintro rc j x R W hj ⟨a1,a2,⟨cc,a3,a4,a5⟩,a6,a7⟩ hr hRt _;have hxi:t.items[j]?=some x:=hj;obtain ⟨y,hy,hp⟩:=(hi.ext a1).get j hxi;have hM1:bOf (M.take (j+1))=bOf (M.take j)++y.2:=by
   rw [sO,hy,vW,Zb]
   simp [bOf]
  have hMl:(bOf (M.take (j+1))).length<=n:=by
   rw [←hbl]
   have h1:bOf M=bOf (M.take (j+1))++bOf (M.drop (j+1)):=by rw [←Zb,vG]
   rw [h1,oC];omega
  rw [hM1,oC] at hMl;have hxl:=hp.by_.len;have hy0:0<y.2.length:=qF.2 hp.ne;obtain ⟨k,hk⟩:∃k,(bOf (M.take j)).length=k:=iG;rw [hk] at hMl a7;refine (St.start W).Iz rfl rfl rfl λb13 W1 T1 y1=>⟨y1.ext_get hr,?_⟩;have g13:=T1.ge 0 rfl;have r1:=y1.ext_get hr;obtain ⟨u2,r2⟩:=Dv (o':=.loop (rc .busy none)) r1;(have s2:Dw W1 (W1.putObj (w10.heap.size+1) (.loop (rc .busy none))):=Dw.upd u2 λk hk o ho=>by subst hk;rw [r1] at ho;cases ho;rfl);have q2:Ext w (W1.putObj (w10.heap.size+1) (.loop (rc .busy none))):=(a1.trans y1).step u2 λk hk=>(by omega);have m13:=u2.En (T1.at_ 0 rfl) (by omega);have m3:=u2.En (y1.ext_get a6) (by omega);have m4:=u2.En (y1.ext_get a7) (by omega);have mO:=u2.En (y1.ext_get a3) (by omega);have z1:=y1.size;have z2:=u2.size;generalize W1.putObj (w10.heap.size+1) (.loop (rc .busy none))=W2 at *;refine Az λW4 y4 _=>?_;have q4:=q2.trans y4;refine Af (y4.ext_get m4) (x:=(k:Int)) rfl (Af (y4.ext_get m3) (x:=⟨some (at0 bO),n,n⟩) rfl (Af (y4.ext_get m4) (x:=(k:Int)) rfl (Ea (by show 0<=(k:Int)/\(k:Int)<=((n:Nat):Int)/\((n:Nat):Int)<=((n:Nat):Int)/\((n:Nat):Int)<=((n:Nat):Int);omega) ?_)));have ecut:Sl.cut (some (at0 bO)) (k:Int) ((n:Nat):Int) ((n:Nat):Int) 1=⟨some ⟨bO,k,none⟩,n-k,n-k⟩:=by
   unfold Sl.cut
   rw [iP (by omega),kH,kH,jL,addr_add,Fj]
   simp
  rw [ecut];refine Af (y4.ext_get m13) (x:=x.bytes) rfl ?_;have hBx:By W4 x.bytes y.2:=by
   obtain ⟨y',hy',hp'⟩:=(hi.ext q4).get j hxi
   rw [hy] at hy';cases hy'
   exact hp'.by_
  refine Ce2 (off:=k) EBy.ts_ C5.Gj (y4.ext_get mO) (by rw [nO];omega) hBx.x (by show x.bytes.len<=n-k;omega) (Ph y.2) λW5 n5 u5 z5=>?_;have s5:Dw W4 W5:=Oo (y4.ext_get mO) rfl u5;have q5:Ext w W5:=q4.step u5 λk hk=>(by omega);have m45:=u5.En (y4.ext_get m4) (by omega);refine Bc (cell_of (off:=0) m45 rfl) (Dj m45 Nat.one_pos λW6 u6' n6 _=>?_);have s6:Dw W5 W6:=Oo m45 rfl u6';have q6:Ext w W6:=q5.step u6' λk hk=>(by omega);have r6:W6.heap[w10.heap.size+1]?=some (.loop (rc .busy none)):=u6'.En (u5.En (y4.ext_get r2) (by omega)) (by omega);obtain ⟨u8,r8⟩:=Dv (o':=.loop (rc .ready none)) r6;(have s8:Dw W6 (W6.putObj (w10.heap.size+1) (.loop (rc .ready none))):=Dw.upd u8 λk hk o ho=>by subst hk;rw [r6] at ho;cases ho;rfl);refine ⟨⟨_,_,r6⟩,hRt _ ((((((Dw.ext y1).trans s2).trans (Dw.ext y4)).trans s5).trans s6).trans s8) ?_ r8⟩;have z4:=y4.size;have z6:=u6'.size;have z8:=u8.size;refine ⟨q6.step u8 λk hk=>by omega,mM (by omega) u8.size,⟨setRow cc k (bv y.2),u8.En (u6'.En n5 (by omega)) (by omega),by rw [Go.Vx.size_setRow];exact a4,λi v hv=>?_⟩,u8.En (u6'.En (u5.En (y4.ext_get m3) (by omega)) (by omega)) (by omega),?_⟩;{have hbv:bv (bOf (M.take j)++y.2)=bv (bOf (M.take j))++bv y.2:=oQ;rw [hM1,hbv] at hv;by_cases hik:i<k;{rw [mZ (by rw [nO];omega)] at hv;rw [Go.Vx.Gi _ _ _ _ hik];exact a5 i v hv};{rw [nC (by rw [nO];omega),nO,hk] at hv;have hlt:=(lY.1 hv).1;rw [nO] at hlt;have:=Go.Vx.Nz (bv y.2) cc k (i-k) (by rw [nO];omega) (by rw [nO];exact hlt);rw [show k+(i-k)=i by omega] at this;rw [this];exact hv}}
  ·have:W64 ((k:Int)+((x.bytes.len:Nat):Int))=((bOf (M.take (j+1))).length:Int):=by
    rw [hM1,oC,iE (by omega)];omega
   rw [this] at n6;exact u8.En n6 (by omega)
 ·rintro W W' ⟨a1,a2,⟨cc,a3,a4,a5⟩,a6,a7⟩ hD u;have q1:Ext w W':=a1.step u λk hk=>(by omega);have m3:=u.En a6 (by omega);have mO:=u.En a3 (by omega);refine Af m3 (x:=⟨some (at0 bO),n,n⟩) rfl ?_;obtain ⟨u2,_⟩:=Dv (o':=.deferred none) hD;refine ⟨hD,hK _ _ ?_ (q1.step u2 λk hk=>by omega)⟩;have hall:cc.toList=bv (bOf M):=by
   refine Ci3 (by rw [nO];omega) λi v hv=>a5 i v ?_
   rw [Nat.sub_zero,il,rH];exact hv
  have:=Dx.Jk (u2.En mO (by omega)) (n:=n) (sz:=1) (by omega);rw [hall] at this;exact this
 {rintro _ _ _ hfalse;exact hfalse.elim}
end
section
variable {w w':World}{S:Nat->Prop}{e:Enc}{M:Parts}
def Hr (B:Bs) (j:Nat):Bs:=(B.drop (1024*j)).take 1024
structure Wk (z l b1 c1:Nat) (rc:LoopState->Option Code->Loop) (A:List Nat) (G0:Nat->Prop) (its:List Pc) (e:Enc) (M:Parts) (Inv:Nat->(Nat->Prop)->Wp) (j:Nat) (G:Nat->Prop) (W:World):Prop where
 inv:Inv j G W
 lt:∀k,G k->k<W.heap.size
 sub:∀k,G k->G0 k\/z<=k
 no:∀k∈A,¬G k/\k<W.heap.size/\z<=k
 y:W.heap[b1]?=some (.cells #[.func (.yield l) #[] #[]] 304 (0,0))
 c:W.heap[c1]?=some (.cells #[vI 1024] 3 (0,0))
 r:W.heap[l]?=some (.loop (rc .ready none))
 its:Its W e its M
 d:W.heap[z]?=some (.deferred (some []))
structure Ck (z b3:Nat) (A:List Nat) (s:Sl) (ch:Bs) (G:Nat->Prop) (W:World):Prop where
 box:W.heap[b3]?=some (.cells #[.slice s.a s.len s.cap] 30 (0,0))
 row:Am W z s 5 1 (bv ch)
 no:∀k,s.blk k->¬G k
 na:∀k∈A,¬s.blk k
structure Rds (z l:Nat) (rc:LoopState->Option Code->Loop) (B:Bs) (Inv:Nat->(Nat->Prop)->Wp) (Brk:Code->(Nat->Prop)->Wp):Prop where
 hx:∀j G (S:Nat->Prop) W W',Inv j G W->Upd S W W'->(∀k,S k->¬G k/\z<=k)->Inv j G W'
 hxb:∀q G (S:Nat->Prop) W W',Brk q G W->Upd S W W'->(∀k,S k->¬G k/\z<=k)->Brk q G W'
 hy:∀j s (G:Nat->Prop) W (R:Bool->Wp),Hr B j≠[]->Inv j G W->(∀k,G k->k<W.heap.size)->¬G l->By W s (Hr B j)->(∀k,s.blk k->¬G k)->W.heap[l]?=some (.loop (rc .ready none)) ->
  (∀G' W',Dw W W'->Upd (λk=>G k\/k=l) W W'->(∀k,G' k->G k\/W.heap.size<=k)->(∀k,G' k->k<W'.heap.size)->Inv (j+1) G' W'->W'.heap[l]?=some (.loop (rc .ready none))->R true W') ->
  (∀q G' W',Dw W W'->Upd (λk=>G k\/k=l) W W'->(∀k,G' k->G k\/W.heap.size<=k)->(∀k,G' k->k<W'.heap.size)->Brk q G' W'->W'.heap[l]?=some (.loop (rc .done (some q)))->R false W') ->
  An7 prog l [.slice s.a s.len s.cap] R W
variable {z l b1 b3 c1:Nat}{rc:LoopState->Option Code->Loop}{A:List Nat}{G0 G:Nat->Prop}{its:List Pc}{Inv:Nat->(Nat->Prop)->Wp}{Brk:Code->(Nat->Prop)->Wp}{j:Nat}{W W':World}{s:Sl}{ch B:Bs}
def Wk.own (h:Wk z l b1 c1 rc A G0 its e M Inv j G W) (R:Rds z l rc B Inv Brk) (u:Upd S W W') (hS:∀k,S k->¬G k/\z<=k) (h1:¬S b1) (h2:¬S c1) (h3:¬S l) (h4:∀x∈its,∀k,x.bytes.blk k->¬S k) (h5:¬S z):Wk z l b1 c1 rc A G0 its e M Inv j G W' :=
 ⟨R.hx _ _ _ _ _ h.inv u hS,λk hk=>mP (h.lt k hk) u.size,h.sub,λk hk=>let ⟨a,b,c⟩:=h.no k hk;⟨a,mP b u.size,c⟩,u.get h.y h1,u.get h.c h2,u.get h.r h3,h.its.upd u h4,u.get h.d h5⟩
def Wk.ext (h:Wk z l b1 c1 rc A G0 its e M Inv j G W) (R:Rds z l rc B Inv Brk) (u:Ext W W'):Wk z l b1 c1 rc A G0 its e M Inv j G W' :=
 h.own R u (λ_ h=>h.elim) id id id (λ_ _ _ _=>id) id
def Ck.ext (h:Ck z b3 A s ch G W) (u:Ext W W'):Ck z b3 A s ch G W':=⟨u.ext_get h.box,h.row.ext u,h.no,h.na⟩
def Ck.upd (h:Ck z b3 A s ch G W) (u:Upd S W W') (h1:¬S b3) (h2:∀k,s.blk k->¬S k):Ck z b3 A s ch G W':=⟨u.get h.box h1,h.row.upd u λk _ hk=>h2 k hk,h.no,h.na⟩
def At3 (h:Wk z l b1 c1 rc A G0 its e M Inv j G W) (C:Ck z b3 A s ch G W) (R:Rds z l rc B Inv Brk) (hl:l∈A) (h1:b1∈A) (hz:z∈A) (hc1:c1<z/\¬G0 c1) (hits:∀x∈its,∀k,x.bytes.blk k->k<z/\¬G0 k)
  (hch:Hr B j=ch) (hne:ch≠[]) {K:Bool->Wp}
  (ht:∀G' W',Wk z l b1 c1 rc A G0 its e M Inv (j+1) G' W'->Upd (λk=>G0 k\/z<=k) W W'->(∀k∈A,k≠l->∀o,W.heap[k]?=some o->W'.heap[k]?=some o)->Dw W W'->K true W')
  (hf:∀q G' W',Brk q G' W'->(∀k∈A,¬G' k)->W'.heap[l]?=some (.loop (rc .done (some q)))->(∀k∈A,k≠l->∀o,W.heap[k]?=some o->W'.heap[k]?=some o)->Dw W W'->K false W') :
  Cj prog (do let d ←Deferred.ofValue (.func (.yield l) #[] #[]) #[.slice s.a s.len s.cap];invoke d.target d.args:Sem Next) (.one (.one .bool)) K W:=by
 (have hby:By W s (Hr B j):=by rw [hch];exact C.row.in);have noA:∀(G':Nat->Prop),(∀k,G' k->G k\/W.heap.size<=k)->∀k∈A,¬G' k:=λG' hG' k hk hg=>by
  obtain ⟨a,b,_⟩:=h.no k hk
  rcases hG' k hg with hh|hh
  ·exact a hh
  ·omega
 refine Bi8 (R.hy j s G W K (by rw [hch];exact hne) h.inv h.lt (h.no l hl).1 hby C.no h.r (λG' W' st u hG' hlt hi hr=>?_) λq G' W' st u hG' hlt hb hr=>?_)
 ·have ne:∀k∈A,k≠l->¬(λk=>G k\/k=l) k:=λk hk hne hh=>hh.elim (h.no k hk).1 hne;(have hb1l:b1≠l:=λhh=>by have:=h.y;rw [hh,h.r] at this;cases this);(have hc1l:c1≠l:=λhh=>by have:=h.c;rw [hh,h.r] at this;cases this);have old:∀k,k<z->¬G0 k->¬G k:=λk hk h0 hg=>by
   rcases h.sub k hg with hh|hh
   ·exact h0 hh
   ·omega
  have hlz:=(h.no l hl).2.2;refine ht G' W' ⟨hi,hlt,λk hk=>?_,λk hk=>?_,u.get h.y (ne b1 h1 hb1l),u.get h.c λhh=>hh.elim (old c1 hc1.1 hc1.2) hc1l,hr,h.its.upd u λx hx k hk hh=>?_,u.get h.d (ne z hz λhh=>by have:=h.d;rw [hh,h.r] at this;cases this)⟩ (u.mono λk _ hk=>hk.elim (h.sub k) λhh=>.inr (by omega)) (λk hk hne o ho=>u.get ho (ne k hk hne)) st;{rcases hG' k hk with hh|hh;{exact h.sub k hh};{exact .inr (by have:=h.no l hl;omega)}};{obtain ⟨a,b,c⟩:=h.no k hk;exact ⟨noA G' hG' k hk,mP b u.size,c⟩};{obtain ⟨k1,k2⟩:=hits x hx k hk;rcases hh with hh|hh;{exact old k k1 k2 hh};{omega}}
 {exact hf q G' W' hb (noA G' hG') hr (λk hk hne o ho=>u.get ho λhh=>hh.elim (h.no k hk).1 hne) st}
def Du {Q:Prop}{k n m:Nat}(h:(⟨none,n,m⟩:Sl).blk k):Q:=by obtain ⟨p,hp,_⟩:=h;cases hp
def Cn4 (h:Wk z l b1 c1 rc A G0 its e M Inv j G W) (C:Ck z b3 A s ch G W) (R:Rds z l rc B Inv Brk) (h3:b3∈A) (hc1:c1<z) (hits:∀x∈its,∀k,x.bytes.blk k->k<z){x:Sl}{us:Bs}(hx:SlX W x 1 (bv us)) (hlen:ch.length+us.length<=2048){K:World->Prop}
  (hK:∀s' W',Wk z l b1 c1 rc A G0 its e M Inv j G W'->Ck z b3 A s' (ch++us) G W'->Upd (λk=>s.blk k\/k=b3) W W'->Dw W W'->K W') :
  Dy prog (.one (.one .sl)) (Builtin.append_ #[30,30] 30 #[.slice s.a s.len s.cap,.slice x.a x.len x.cap]) (λx=>stC (at0 b3) (.slice x.a x.len x.cap) K) W:=by
 have hl1:=C.row.len1;rw [nO] at hl1;have hl2:=hx.len1;rw [nO] at hl2;have hz:=h.no b3 h3;have bc:∀k,s.blk k->∃c fr,W.heap[k]?=some (.cells c 5 fr):=λk hk=>C.row.in.Bf hk;refine Ed EBy uBy C.row hx (Ph us) (by omega) (by omega) λs' W1 r1 hl u1 hb1=>?_;(have hb3:¬s.blk b3:=λhh=>by obtain ⟨c,fr,hc⟩:=bc _ hh;rw [C.box] at hc;cases hc);(have hzb:¬s.blk z:=λhh=>by obtain ⟨c,fr,hc⟩:=bc _ hh;rw [h.d] at hc;cases hc);have w1:=h.own R u1 (λk hk=>⟨C.no k hk,C.row.Dh hk⟩) (λhh=>by obtain ⟨c,fr,hc⟩:=bc _ hh;rw [h.y] at hc;cases hc) (λhh=>by obtain ⟨c,fr,hc⟩:=bc _ hh;rw [h.c] at hc;cases hc)
  (λhh=>by obtain ⟨c,fr,hc⟩:=bc _ hh;rw [h.r] at hc;cases hc) (λx' hx' k hk hh=>by have:=hits x' hx' k hk;have:=C.row.Dh hh;omega) hzb
 (have st1:Dw W W1:=Dw.upd u1 λk hk o ho=>by obtain ⟨c,fr,hc⟩:=bc k hk;rw [hc] at ho;cases ho;rfl);have x1:=u1.get C.box hb3;refine Dj x1 Nat.one_pos λW2 u2 n2 _=>?_;have w2:=w1.own R u2 (λk hk=>by rw [hk];exact ⟨hz.1,hz.2.2⟩) (λhh=>by have:=w1.y;rw [hh,x1] at this;cases this) (by omega) (λhh=>by have:=w1.r;rw [hh,x1] at this;cases this) (λx' hx' k hk hh=>by have:=hits x' hx' k hk;omega) (λhh=>by have:=w1.d;rw [hh,x1] at this;cases this);have st2:Dw W1 W2:=Oo x1 rfl u2;have hbv:bv (ch++us)=bv ch++bv us:=oQ;refine hK s' W2 w2 ⟨n2,?_,λk hk hg=>?_,λk hk hh=>?_⟩ (Upd.trans (u1.mono λk _ hk=>.inl hk) (u2.mono λk _ hk=>.inr hk)) (st1.trans st2);{rw [hbv];exact r1.upd u2 λk _ hk hh=>by obtain ⟨c,fr,hc⟩:=r1.in.Bf hk;rw [hh,x1] at hc;cases hc};{rcases hb1 k hk with hh|hh;{exact C.no k hh hg};{have:=h.lt k hg;omega}};{rcases hb1 k hh with h'|h';{exact C.na k hk h'};{have:=(h.no k hk).2.1;omega}}
def Cu3 (h:Wk z l b1 c1 rc A G0 its e M Inv j G W) (hb:W.heap[b3]?=some (.cells #[.slice s.a s.len s.cap] 30 (0,0))) (R:Rds z l rc B Inv Brk) (h3:b3∈A) (hc1:c1<z) (hits:∀x∈its,∀k,x.bytes.blk k->k<z){K:World->Prop}
  (hK:∀W',Wk z l b1 c1 rc A G0 its e M Inv j G W'->Ck z b3 A ⟨none,0,0⟩ [] G W'->Upd (λk=>k=b3) W W'->Dw W W'->K W'):stC (at0 b3) (.slice none 0 0) K W:=by have hz:=h.no b3 h3;refine Dj hb Nat.one_pos λW2 u2 n2 _=>hK W2 ?_ ⟨n2,Am.nil _ _ _ _,λk hk=>Du hk,λk _ hk=>Du hk⟩ u2 (Oo hb rfl u2);exact h.own R u2 (λk hk=>by rw [hk];exact ⟨hz.1,hz.2.2⟩) (λhh=>by have:=h.y;rw [hh,hb] at this;cases this) (by omega) (λhh=>by have:=h.r;rw [hh,hb] at this;cases this) (λx' hx' k hk hh=>by have:=hits x' hx' k hk;omega) (λhh=>by have:=h.d;rw [hh,hb] at this;cases this)
def Bh4 {B P:Bs}{j:Nat}(hp:P <+: B) (h1:1024*j<=P.length) (h2:P.length=1024*(j+1)):Hr B j=P.drop (1024*j):=by obtain ⟨Q,rfl⟩:=hp;unfold Hr;rw [vS h1,tZ (by rw [nH];omega),sQ (by rw [nH];omega)]
def Bh3 {B:Bs}{j:Nat}(h2:B.length<=1024*(j+1)):Hr B j=B.drop (1024*j):=by unfold Hr;exact sQ (by rw [nH];omega)
def Ba8 {N:World->Prop}{E:Nat->Wp}{R:World->Prop}(h:N W):aft N E R none W:=h
def Bn3 {N:World->Prop}{E:Nat->Wp}{R:World->Prop}(h:R W):aft N E R (some .ret) W:=h
def Ar5 {t:Tr}{c4:Nat}{vals:Sl×Unit->List Value}{body:Nat->(LoopState->Option Code->Loop)->(Bool->Wp)->Sl×Unit->Wp}{aft':Nat->Option Code->Wp}
  (hv:∀s,vals s=[.slice s.1.a s.1.len s.1.cap]) (h1:w.heap[c1]?=some (.cells #[vI 1024] 3 (0,0))) (h2:w.heap[c4]?=some (.cells #[.pointer t.ptr] 139 (0,0))) (ht:t.In w) (hi:Its w e t.items M) (hf:Fine t.items)
  (hG0:∀k,G0 k->k<w.heap.size) (hc1:¬G0 c1) (hits:∀x∈t.items,∀k,x.bytes.blk k->¬G0 k) (hB:(bOf M).length<=2^30)
  (h0:∀W,Ext w W->w.heap.size+2<=W.heap.size->Inv 0 G0 W)
  (hx:∀j G (S:Nat->Prop) W W',Inv j G W->Upd S W W'->(∀k,S k->¬G k/\w.heap.size<=k)->Inv j G W')
  (hxb:∀q G (S:Nat->Prop) W W',Brk q G W->Upd S W W'->(∀k,S k->¬G k/\w.heap.size<=k)->Brk q G W')
  (hb:∀(rc:LoopState->Option Code->Loop) j s (G:Nat->Prop) (R:Bool->Wp) W,Hr (bOf M) j≠[]->Inv j G W->(∀k,G k->k<W.heap.size)->¬G (w.heap.size+1)->By W s (Hr (bOf M) j)->(∀k,s.blk k->¬G k)->W.heap[w.heap.size+1]?=some (.loop (rc .ready none)) ->
   (∀G' W',Dw W W'->Upd (λk=>G k\/k=w.heap.size+1) W W'->(∀k,G' k->G k\/W.heap.size<=k)->(∀k,G' k->k<W'.heap.size)->Inv (j+1) G' W'->W'.heap[w.heap.size+1]?=some (.loop (rc .ready none))->R true W') ->
   (∀q G' W',Dw W W'->Upd (λk=>G k\/k=w.heap.size+1) W W'->(∀k,G' k->G k\/W.heap.size<=k)->(∀k,G' k->k<W'.heap.size)->Brk q G' W'->W'.heap[w.heap.size+1]?=some (.loop (rc .done (some q)))->R false W') ->
   body (w.heap.size+1) rc R (s,()) W)
  (he:∀n G W W',(bOf M).length<=1024*n->Inv n G W->¬G (w.heap.size+1)->¬G w.heap.size->W'.heap[w.heap.size]?=some (.deferred (some []))->Upd (λk=>k=w.heap.size+1) W W'->aft' w.heap.size none W')
  (hk:∀q G W W',Brk q G W->¬G (w.heap.size+1)->¬G w.heap.size->W'.heap[w.heap.size]?=some (.deferred (some []))->Upd (λk=>k=w.heap.size+1) W W'->aft' w.heap.size (some q) W') :
  Xp prog vals (.func (.func 200) #[] #[dU c1,dU c4]) body aft' w:=by
 intro rc hyield
 have e0:Ext w (w.alloc (.deferred (some []))):=Ext.alloc w _
 generalize hW0:w.alloc (.deferred (some []))=W0 at *
 have d0:W0.heap[w.heap.size]?=some (.deferred (some [])):=by rw [←hW0];exact heap_alloc w _
 have z0:W0.heap.size=w.heap.size+1:=by rw [←hW0];simp
 have e1:Ext W0 (W0.alloc (.loop (rc .ready none))):=Ext.alloc W0 _
 have l1:(W0.alloc (.loop (rc .ready none))).heap[w.heap.size+1]?=some (.loop (rc .ready none)):=by rw [←z0];exact heap_alloc W0 _
 have z1:(W0.alloc (.loop (rc .ready none))).heap.size=w.heap.size+2:=by simp [z0]
 generalize hW1:W0.alloc (.loop (rc .ready none))=W1 at *
 refine ⟨200,#[.func (.yield (w.heap.size+1)) #[] #[],dU c1,dU c4],?_,?_⟩
 ·simp only [Deferred.ofValue,pure_bind,invoke]
  exact Gq (P:=prog) (f:=200) (by kernel_rfl) W1
 have e01:=e0.trans e1
 refine De4 ?_
 unfold F200
 refine Ea rfl ((St.start W1).Ak λb1 W2 S2 e2=>Af (S2.upd.ext_get (e01.ext_get h1)) (x:=(1024:Int)) rfl (Ac (λh=>absurd h (by decide)) λ_=>S2.Ak λb3 W3 S3 e3=>Dp (x:=(t.ptr,())) (S3.upd.ext_get (e01.ext_get h2)) (λi v hv=>by rw [kY,←kQ];exact hv) ?_))
 refine j70 (a0:=(t.ptr,())) ?_
 unfold F70
 refine S3.Ak λd1 W4 S4 e4=>S4.Ak λd2 W5 S5 e5=>?_
 have x15:=S5.upd
 have x05:Ext w W5:=e01.trans x15
 have g1:=S5.ge 3 rfl
 have g3:=S5.ge 2 rfl
 have lb1:=lt_of_heap (S5.at_ 3 rfl)
 have lb3:=lt_of_heap (S5.at_ 2 rfl)
 have zz:=x15.size
 have nd:[d2,d1,b3,b1].Nodup:=S5.nd
 simp only [jT,iL,vC,vU,uY] at nd
 have y5:=S5.at_ 3 rfl
 have k5:=S5.at_ 2 rfl
 obtain ⟨z,hz⟩:∃z,z=w.heap.size:=⟨_,rfl⟩
 obtain ⟨l,hl⟩:∃l,l=z+1:=⟨_,rfl⟩
 obtain ⟨z5,hz5⟩:∃z5,z5=W5.heap.size:=⟨_,rfl⟩
 rw [←hz] at d0 z0 l1 z1 y5 hyield hx hxb h0 hb he hk hG0 ⊢
 rw [←hl] at l1 y5 hyield hb he hk ⊢
 have hc1z:c1<z:=by have:=lt_of_heap h1;omega
 obtain ⟨A,hA⟩:∃A,A=[l,b1,b3,z5,z5+1,z]:=⟨_,rfl⟩
 have itsz:∀x∈t.items,∀k,x.bytes.blk k->k<z/\¬G0 k:=λx hx k hk=>by
  obtain ⟨i,hxi⟩:=uU.1 hx
  obtain ⟨y,_,hp⟩:=hi.get i hxi
  exact ⟨by have:=hp.by_.Ci hk;omega,hits x hx k hk⟩
 have Rd:Rds z l rc (bOf M) Inv Brk:=⟨hx,hxb,λj s G W R hne hj hlt hGl hs hsG hr hT hF=>by
  have:=hyield R (s,()) W hr (hb rc j s G R W hne hj hlt hGl hs hsG hr hT hF)
  rwa [hv] at this⟩
 let At:Nat->World->Prop:=λi W=>∃j G s,Wk z l b1 c1 rc A G0 t.items e M Inv j G W/\Ck z b3 A s ((bOf (M.take i)).drop (1024*j)) G W/\1024*j<=(bOf (M.take i)).length/\(bOf (M.take i)).length<1024*(j+1)
 have fin:∀(K':World->Prop) q G W,Brk q G W->(∀k∈A,¬G k)->W.heap[l]?=some (.loop (rc .done (some q)))->W.heap[z]?=some (.deferred (some []))->W.heap[z5]?=some (.deferred (some []))->(aft' z (some q) (((W.putObj z5 (.deferred none))).putObj l (.loop (rc .exhausted (some q))))->K' (W.putObj z5 (.deferred none)))->Sj z5 K' W:=by
  intro K' q G W hq hA' hr hd hD hK'
  obtain ⟨u1,_⟩:=Dv (o':=.deferred none) hD
  have r1:=u1.En hr (by omega)
  obtain ⟨u2,_⟩:=Dv (o':=.loop (rc .exhausted (some q))) r1
  have q1:=hxb q G _ _ _ hq u1 λk hk=>⟨by rw [hk];exact hA' z5 (by rw [hA];simp),by omega⟩
  refine ⟨hD,hK' (hk q G _ _ q1 (hA' l (by rw [hA];simp)) (hA' z (by rw [hA];simp)) ?_ u2)⟩
  exact u2.En (u1.En hd (by omega)) (by omega)
 have fin2:∀(K':World->Prop) n G W,(bOf M).length<=1024*n->Wk z l b1 c1 rc A G0 t.items e M Inv n G W->W.heap[z5]?=some (.deferred (some []))->(aft' z none (((W.putObj z5 (.deferred none))).putObj l (.loop (rc .exhausted none)))->K' (W.putObj z5 (.deferred none)))->Sj z5 K' W:=by
  intro K' n G W hn hW hD hK'
  obtain ⟨u1,_⟩:=Dv (o':=.deferred none) hD
  have r1:=u1.En hW.r (by omega)
  obtain ⟨u2,_⟩:=Dv (o':=.loop (rc .exhausted none)) r1
  have q1:=hx n G _ _ _ hW.inv u1 λk hk=>⟨by rw [hk];exact (hW.no z5 (by rw [hA];simp)).1,by omega⟩
  refine ⟨hD,hK' (he n G _ _ hn q1 (hW.no l (by rw [hA];simp)).1 (hW.no z (by rw [hA];simp)).1 ?_ u2)⟩
  have hd:=hW.d
  exact u2.En (u1.En hd (by omega)) (by omega)
 refine Vl (n:=0) (λ_=>rfl) (S5.at_ 1 rfl) (S5.at_ 0 rfl) (ht.ext x05) hf (by omega) At (λc W=>c=.ret/\∃q G,Brk q G W/\(∀k∈A,¬G k)/\W.heap[l]?=some (.loop (rc .done (some q)))/\W.heap[z]?=some (.deferred (some []))) ?_ ?_ ?_ ?_ ?_
 ·intro W x hW
  refine ⟨0,G0,⟨none,0,0⟩,⟨h0 W (x05.trans x) (by have:=x.size;omega),λk hk=>?_,λk hk=>.inl hk,λk hk=>?_,x.ext_get y5,x.ext_get (x05.ext_get h1),x.ext_get (x15.ext_get l1),hi.ext (x05.trans x),x.ext_get (x15.ext_get (e1.ext_get d0))⟩,⟨x.ext_get k5,Am.nil _ _ _ _,λk hk=>Du hk,λk _ hk=>Du hk⟩,by simp,by simp [bOf]⟩
  ·have:=hG0 k hk;have:=x.size;omega
  ·rw [hA] at hk
   simp only [iL,vC,vU] at hk
   have:z<=k/\k<W.heap.size:=by have:=x.size;omega
   exact ⟨λhg=>by have:=hG0 k hg;omega,this.2,this.1⟩
 ·rintro i W W' ⟨j,G,s,hW,hC,hj⟩ x
  exact ⟨j,G,s,hW.ext Rd x,hC.ext x,hj⟩
 ·rintro rc6 i x R W hxi ⟨j,G,s,hW,hC,hj1,hj2⟩ hr6 hRt hRf
  rw [←hz5] at hr6 hRt hRf ⊢
  have hxi:t.items[i]?=some x:=hxi
  obtain ⟨y,hy,hp⟩:=hW.its.get i hxi
  have hM1:bOf (M.take (i+1))=bOf (M.take i)++y.2:=by
   rw [sO,hy,vW,Zb]
   simp [bOf]
  have hpre:bOf (M.take (i+1)) <+: bOf M:=by
   have:bOf M=bOf (M.take (i+1))++bOf (M.drop (i+1)):=by rw [←Zb,vG]
   rw [this];exact List.prefix_append _ _
  have hplen:=hpre.length_le
  obtain ⟨P,hP⟩:∃P,bOf (M.take i)=P:=iG
  rw [hP] at hM1 hC hj1 hj2
  rw [hM1,oC] at hplen
  have hxz:∀k,x.bytes.blk k->k<z/\¬G0 k:=itsz x (lU hxi)
  have h6A:z5+1∈A:=by rw [hA];simp
  have hlA:l∈A:=by rw [hA];simp
  have h1A:b1∈A:=by rw [hA];simp
  have h3A:b3∈A:=by rw [hA];simp
  have hxl:=hp.by_.len
  refine (St.start W).Iz rfl rfl rfl λb11 W2 T2 y2=>⟨y2.ext_get hr6,?_⟩
  have r6:=y2.ext_get hr6
  obtain ⟨u3,r3⟩:=Dv (o':=.loop (rc6 .busy none)) r6
  have s3:Dw W2 (W2.putObj (z5+1) (.loop (rc6 .busy none))):=Dw.upd u3 λk hk o ho=>by subst hk;rw [r6] at ho;cases ho;rfl
  have m11:=u3.En (T2.at_ 0 rfl) (λhh=>by have:=T2.at_ 0 rfl;rw [hh,r6] at this;cases this)
  have hW2:=hW.ext Rd y2
  have hC2:=hC.ext y2
  have hW3:=hW2.own Rd u3 (λk hk=>by rw [hk];exact ⟨(hW2.no _ h6A).1,(hW2.no _ h6A).2.2⟩) (by omega) (by omega) (by omega) (λx' hx' k hk hh=>by have:=(itsz x' hx' k hk).1;omega) (by omega)
  have hC3:=hC2.upd u3 (by omega) λk hk hh=>by
   obtain ⟨c,fr,hc⟩:=hC2.row.in.Bf hk
   rw [hh,r6] at hc;cases hc
  have st3:Dw W (W2.putObj (z5+1) (.loop (rc6 .busy none))):=(Dw.ext y2).trans s3
  generalize W2.putObj (z5+1) (.loop (rc6 .busy none))=W3 at *
  refine Af m11 (x:=x.bytes) rfl ?_
  refine Bo (λs4 W4=>∃q j G s,q<=y.2.length/\By W4 s4.1 (y.2.drop q)/\(∀k,s4.1.blk k->x.bytes.blk k)/\W4.heap[z5+1]?=some (.loop (rc6 .busy none))/\Dw W W4/\Wk z l b1 c1 rc A G0 t.items e M Inv j G W4/\Ck z b3 A s ((P++y.2.take q).drop (1024*j)) G W4/\1024*j<=(P++y.2.take q).length/\(P++y.2.take q).length<1024*(j+1)) (λs4 _=>s4.1.len) ⟨0,j,G,s,qI _,?_,λk hk=>hk,r3,st3,hW3,by simpa using hC3,by simpa using hj1,by simpa using hj2⟩ ?_
  ·obtain ⟨y',hy',hp'⟩:=hW3.its.get i hxi
   rw [hy] at hy';cases hy'
   simpa using hp'.by_
  clear hW hC hW2 hC2 hW3 hC3 hj1 hj2 hp m11 r3 st3 T2 y2 u3 s3
  rintro ⟨sx,_⟩ W4 ⟨q,j,G,s,hq,hby,hsb,r4,st4,hW4,hC4,hj1,hj2⟩
  dsimp only at hby hsb ⊢
  have hbl:=hby.len
  rw [nH] at hbl
  refine Ac (λhlt=>?_) λhge=>?_
  rotate_left
  ·
   have hge:=sK hge
   have hql:q=y.2.length:=by omega
   obtain ⟨u8,r8⟩:=Dv (o':=.loop (rc6 .ready none)) r4
   have s8:Dw W4 (W4.putObj (z5+1) (.loop (rc6 .ready none))):=Dw.upd u8 λk hk o ho=>by subst hk;rw [r4] at ho;cases ho;rfl
   refine ⟨⟨_,_,r4⟩,hRt _ (st4.trans s8) ⟨j,G,s,hW4.own Rd u8 (λk hk=>by rw [hk];exact ⟨(hW4.no _ h6A).1,(hW4.no _ h6A).2.2⟩) (by omega) (by omega) (by omega) (λx' hx' k hk hh=>by have:=(itsz x' hx' k hk).1;omega) (by omega),?_⟩ r8⟩
   rw [hM1]
   rw [hql,rH] at hC4 hj1 hj2
   refine ⟨hC4.upd u8 (by omega) λk hk hh=>?_,hj1,hj2⟩
   obtain ⟨c,fr,hc⟩:=hC4.row.in.Bf hk
   rw [hh,r4] at hc;cases hc
  have hlt:=jY hlt
  have hzA:z∈A:=by rw [hA];simp
  have hl1:=hC4.row.len1
  rw [nO,nH] at hl1
  obtain ⟨cl,hcl⟩:∃cl,cl=(P++y.2.take q).length:=⟨_,rfl⟩
  rw [←hcl] at hl1 hj1 hj2
  have hcle:cl=P.length+q:=by rw [hcl,oC,nG];omega
  refine Af hW4.c (x:=(1024:Int)) rfl (Af hC4.box (x:=s) rfl (Az λW5 e5 _=>?_))
  have hW5:=hW4.ext Rd e5
  have hC5:=hC4.ext e5
  obtain ⟨n,hn,hn1,hn2,hn3,hn4⟩:∃n:Nat,(if ((sx.len:Nat):Int)<W64 (1024-((s.len:Nat):Int)) then ((sx.len:Nat):Int) else W64 (1024-((s.len:Nat):Int)))=(n:Int)/\n<=sx.len/\s.len+n<=1024/\0<n/\(n=sx.len\/s.len+n=1024):=by
   rw [iE (by omega)]
   by_cases hc:((sx.len:Nat):Int)<1024-((s.len:Nat):Int)
   ·exact ⟨sx.len,by rw [iK hc],by omega,by omega,by omega,.inl rfl⟩
   ·exact ⟨1024-s.len,by rw [iP hc];omega,by omega,by omega,by omega,.inr (by omega)⟩
  rw [hn]
  have hcap:=hby.le
  refine Af hC5.box (x:=s) rfl (Nr (hby.ext e5) (by omega) (by omega) (by omega) (by omega) (by omega) λx18 hx18 hl18 _ hb18=>?_)
  have hbv:((bv (y.2.drop q)).drop (Int.toNat 0*1)).take ((Int.toNat (n:Int)-Int.toNat 0)*1)=bv ((y.2.drop q).take n):=by
   rw [kH];simp [tK]
  rw [hbv] at hx18
  have htl:((y.2.drop q).take n).length=n:=by rw [nG,nH];omega
  refine Cn4 hW5 hC5 Rd h3A hc1z (λx hx k hk=>(itsz x hx k hk).1) hx18.x (by rw [htl,nH,←hcl];omega) λs6 W6 hW6 hC6 u6 st6=>?_
  have hPq:(P++y.2.take q).drop (1024*j)++(y.2.drop q).take n=(P++y.2.take (q+n)).drop (1024*j):=by
   rw [vV,←lM]
   exact (vS (by rw [←hcl];exact hj1)).symm
  rw [hPq] at hC6
  have hby6:By W6 sx (y.2.drop q):=(hby.ext e5).upd u6 λk hk hh=>by
   have h1:=(hxz k (hsb k hk)).1
   rcases hh with hh|hh
   ·have:=hC5.row.Dh hh;omega
   ·omega
  have r6':W6.heap[z5+1]?=some (.loop (rc6 .busy none)):=u6.get (e5.ext_get r4) λhh=>by
   rcases hh with hh|hh
   ·obtain ⟨c,fr,hc⟩:=hC5.row.in.Bf hh
    rw [e5.ext_get r4] at hc;cases hc
   ·omega
  refine Nr hby6 (by omega) (by omega) (by omega) (by omega) (by omega) λx20 hx20 hl20 _ hb20=>?_
  have hbv2:((bv (y.2.drop q)).drop (Int.toNat (n:Int)*1)).take ((Int.toNat ((sx.len:Nat):Int)-Int.toNat (n:Int))*1)=bv (y.2.drop (q+n)):=by
   rw [kH,kH,kX,kX,←vM,qH,sQ]
   rw [nO,nH];omega
  rw [hbv2] at hx20
  have hPl:(P++y.2.take (q+n)).length=cl+n:=by rw [oC,nG];omega
  have hPp:P++y.2.take (q+n) <+: bOf M:=by
   refine List.IsPrefix.trans ?_ hpre
   rw [hM1]
   exact (vX P).2 (List.take_prefix _ _)
  have hl6:=hC6.row.len1
  rw [nO,nH,hPl] at hl6
  refine Af hC6.box (x:=s6) rfl (Af hW6.c (x:=(1024:Int)) rfl (Ac (λhfull=>?_) λhpart=>?_))
  ·have hfull:((s6.len:Nat):Int)=1024:=by simpa using hfull
   refine Af hW6.y (x:=(.func (.yield l) #[] #[]:Value)) rfl (Af hC6.box (x:=s6) rfl ?_)
   refine At3 hW6 hC6 Rd hlA h1A hzA ⟨hc1z,hc1⟩ itsz (Bh4 hPp (by rw [hPl];omega) (by rw [hPl];omega)) (λhh=>by have:=lW List.length hh;rw [nH,hPl,kW] at this;omega) (λG7 W7 hW7 u7 k7 st7=>?_) λq7 G7 W7 hq7 hn7 hr7 k7 st7=>?_
   ·refine Ac (λh=>by cases h) λ_=>?_
    have r7:=k7 (z5+1) h6A (by omega) _ r6'
    have hby7:By W7 x20 (y.2.drop (q+n)):=hx20.upd u7 λk hk hh=>by
     have h1:=hxz k (hsb k (hb20 k hk))
     rcases hh with hh|hh
     ·exact h1.2 hh
     ·omega
    refine Cu3 hW7 (k7 b3 h3A (by omega) _ hC6.box) Rd h3A hc1z (λx hx k hk=>(itsz x hx k hk).1) λW8 hW8 hC8 u8 st8=>⟨⟨q+n,j+1,G7,⟨none,0,0⟩,by omega,hby7.upd u8 λk hk hh=>?_,λk hk=>hsb k (hb20 k hk),u8.En r7 (by omega),(((st4.trans (Dw.ext e5)).trans st6).trans st7).trans st8,hW8,?_,by rw [hPl];omega,by rw [hPl];omega⟩,?_⟩
    ·have:=(hxz k (hsb k (hb20 k hk))).1;omega
    ·have:(P++y.2.take (q+n)).drop (1024*(j+1))=[]:=vF (by rw [hPl];omega)
     rw [this];exact hC8
    ·show x20.len<sx.len;omega
   ·refine Ac (λ_=>?_) λh=>by cases h
    have r7:=k7 (z5+1) h6A (by omega) _ r6'
    obtain ⟨u8,r8⟩:=Dv (o':=.loop (rc6 .done (some .ret))) r7
    have s8:Dw W7 (W7.putObj (z5+1) (.loop (rc6 .done (some .ret)))):=Dw.upd u8 λk hk o ho=>by subst hk;rw [r7] at ho;cases ho;rfl
    refine ⟨⟨_,_,r7⟩,hRf .ret _ ((((st4.trans (Dw.ext e5)).trans st6).trans st7).trans s8) r8 ⟨rfl,q7,G7,hxb q7 G7 _ _ _ hq7 u8 λk hk=>⟨by rw [hk];exact hn7 _ h6A,by omega⟩,hn7,u8.En hr7 (by omega),u8.En (k7 z hzA (by omega) _ hW6.d) (by omega)⟩⟩
  ·have hpart:¬((s6.len:Nat):Int)=1024:=by simpa using hpart
   refine ⟨⟨q+n,j,G,s6,by omega,hx20,λk hk=>hsb k (hb20 k hk),r6',(st4.trans (Dw.ext e5)).trans st6,hW6,hC6,by rw [hPl];omega,by rw [hPl];omega⟩,?_⟩
   show x20.len<sx.len;omega
 ·rintro W W' ⟨j,G,s,hW,hC,hj1,hj2⟩ hD u
  rw [←hz5] at hD u ⊢
  have il:=hi.len
  rw [Nat.sub_zero,il,rH] at hC hj1 hj2
  have h6A:z5+1∈A:=by rw [hA];simp
  have hlA:l∈A:=by rw [hA];simp
  have h1A:b1∈A:=by rw [hA];simp
  have h3A:b3∈A:=by rw [hA];simp
  have hzA:z∈A:=by rw [hA];simp
  have hW':=hW.own Rd u (λk hk=>by rw [hk];exact ⟨(hW.no _ h6A).1,(hW.no _ h6A).2.2⟩) (by omega) (by omega) (by omega) (λx' hx' k hk hh=>by have:=(itsz x' hx' k hk).1;omega) (by omega)
  have hl1:=hC.row.len1
  rw [nO,nH] at hl1
  have n3:=u.En hC.box (by omega)
  have hfin:∀n G W,(bOf M).length<=1024*n->Wk z l b1 c1 rc A G0 t.items e M Inv n G W->W.heap[z5]?=some (.deferred (some []))->Sj z5 (λW=>∃st pe,W.heap[l]?=some (.loop (rc st pe))/\st≠.busy/\aft' z pe (W.putObj l (.loop (rc .exhausted pe)))) W:=λn G W hn hw hd =>
   fin2 _ n G W hn hw hd λh=>⟨.ready,none,(Dv (o':=.deferred none) hd).1.En hw.r (by omega),by decide,h⟩
  refine Ba8 (Af n3 (x:=s) rfl (Ac (λhp=>?_) λhp=>?_))
  ·have hp:=jY hp
   have hs6:∀k,s.blk k->k≠z5+1:=λk hk hh=>hC.na _ h6A (hh▸hk)
   have hC':Ck z b3 A s ((bOf M).drop (1024*j)) G W':=hC.upd u (by omega) λk hk hh=>hs6 k hk hh
   refine Af hW'.y (x:=(.func (.yield l) #[] #[]:Value)) rfl (Af n3 (x:=s) rfl ?_)
   refine At3 hW' hC' Rd hlA h1A hzA ⟨hc1z,hc1⟩ itsz (Bh3 (by omega)) (λhh=>by have:=lW List.length hh;rw [nH,kW] at this;omega) (λG7 W7 hW7 u7 k7 st7=>?_) λq7 G7 W7 hq7 hn7 hr7 k7 st7=>?_
   ·exact hfin (j+1) G7 W7 (by omega) hW7 (st7.at_ _ _ hD rfl)
   ·have hd7:=st7.at_ _ _ hD rfl
    exact fin _ q7 G7 W7 hq7 hn7 hr7 (k7 z hzA (by omega) _ hW'.d) hd7 λh=>⟨.done,some q7,(Dv (o':=.deferred none) hd7).1.En hr7 (by omega),by decide,h⟩
  ·have hp:=sK hp
   exact hfin j G W' (by omega) hW' hD
 ·rintro c W W' ⟨rfl,q,G,hq,hnA,hr,hd⟩ hD u
  rw [←hz5] at hD u ⊢
  have h6A:z5+1∈A:=by rw [hA];simp
  have hr':=u.En hr (by omega)
  refine Bn3 ?_
  exact fin _ q G W' (hxb q G _ _ _ hq u λk hk=>⟨by rw [hk];exact hnA _ h6A,by omega⟩) hnA hr' (u.En hd (by omega)) hD λh=>⟨.done,some q,(Dv (o':=.deferred none) hD).1.En hr' (by omega),by decide,h⟩
end
end
section
namespace Dq
open Go Go.Vx Dsk Trx
def dty:Obj->Bool
 |.map _ _=>true
 |.cells _ t _=>t==107||(t==123||(t==5||(t==147||(t==9||(t==121||(t==127||t==3))))))
 |_=>false
section
variable {w w':World}{S F F':Nat->Prop}{d m ms ml:Nat}{f:Dir}{fb:List Nat}{ds:List Sl}{fs:List Fl}{sa:Sl}{vs:List Value}{D:Dk}{pl:Option Nat}{p:Int->Option Ce}{N:Nat}
def Lu {c:Array Value}{t:TypeId}{fr:Nat×Nat}{k:Nat}(h:w.heap[k]?=some (.cells c t fr)) (ht:dty (.cells #[] t fr)=true):∀o,w.heap[k]?=some o->dty o=true:=λo ho=>by rw [h] at ho;cases ho;exact ht
def Ar2 {c:Array MapEntry}{t:Nat}{k:Nat}(h:w.heap[k]?=some (.map c t)):∀o,w.heap[k]?=some o->dty o=true:=λo ho=>by rw [h] at ho;cases ho;rfl
def Ar3 {s:Sl}{t:TypeId}{sz:Nat}{vs:List Value}(h:Dx w s t sz vs) (ht:∀fr,dty (.cells #[] t fr)=true){k:Nat}(hk:s.blk k):∀o,w.heap[k]?=some o->dty o=true:=by obtain ⟨c,fr,hc⟩:=h.Bf hk;exact Lu hc (ht fr)
def Dn.thin (h:Dn w d F D):Dn w d (λk=>F k/\∀o,w.heap[k]?=some o->dty o=true) D:=by
 obtain ⟨ms,ml,sa,pl,vs,fb,ds,A⟩:=h
 obtain ⟨o1,c1,h1⟩:=A.seen.Ep
 obtain ⟨o2,c2,h2⟩:=A.lasts.Ep
 refine ⟨ms,ml,sa,pl,vs,fb,ds,A.box,A.seen,A.lasts,A.files,⟨A.acts.row,A.acts.len,λi v a hv ha=>?_⟩,?_,A.ne,A.nes,A.nel,⟨A.fd,Lu A.box rfl⟩,⟨A.fms,Ar2 h1⟩,⟨A.fml,Ar2 h2⟩,λb hb=>⟨A.ffb b hb,?_⟩,λs hs k hk=>⟨A.fds s hs k hk,?_⟩,λk hk=>⟨A.fsa k hk,Ar3 A.acts.row.in (λ_=>rfl) hk⟩,λk hk=>A.lt k hk.1⟩
 ·have:=A.acts.at_ i v a hv ha
  cases a with
  |rm n=>obtain ⟨b,g1,g2,g3⟩:=this;exact ⟨b,g1,g2,g3,Lu g2 rfl⟩
  |mk n i=>obtain ⟨b1,b2,g1,g2,g3,g4,g5,g6⟩:=this;exact ⟨b1,b2,g1,g2,g3,⟨g4,Lu g2 rfl⟩,⟨g5,Lu g3 rfl⟩,g6⟩
  |mv a b i=>obtain ⟨b1,b2,g1,g2,g3,g4,g5,g6⟩:=this;exact ⟨b1,b2,g1,g2,g3,⟨g4,Lu g2 rfl⟩,⟨g5,Lu g3 rfl⟩,g6⟩
 ·rcases A.plan with h|⟨m,es,g1,g2,g3,g4⟩
  ·exact .inl h
  ·obtain ⟨o3,c3,h3⟩:=Oy.Aa7 g3
   refine .inr ⟨m,es,g1,⟨g2,Ar2 h3⟩,g3,λk=>?_⟩
   have:=g4 k
   revert this
   generalize Jw es k=v
   generalize D.plan k=q
   intro this
   match v,q,this with
   |none,none,_=>trivial
   |some v,some g,⟨s,h1,h2,h3,h4⟩=>exact ⟨s,h1,h2,λk hk=>⟨h3 k hk,Ar3 h2 (λ_=>rfl) hk⟩,h4⟩
 ·obtain ⟨i,s,f,_,_,_,g,_⟩:=A.files.Zy hb
  exact Lu g rfl
 ·obtain ⟨i,hi,hs'⟩:=qW.1 hs
  obtain ⟨b,f,_,_,_,g⟩:=A.files.Aq5 (i:=i) (s:=s) (by rw [oP hi,hs'])
  exact Ar3 g.in (λ_=>rfl) hk
structure DS (w:World) (d:Nat) (F:Nat->Prop) (D:Dk) (N:Nat):Prop where
 disk:Dn w d F D
 ok:Bj D N
 ty:∀k,F k->∀o,w.heap[k]?=some o->dty o=true
 no0:¬F 0
def DS.lt (h:DS w d F D N):∀k,F k->k<w.heap.size:=h.disk.lt
def DS.frame (h:DS w d F D N) (u:Upd S w w') (hS:∀k,F k->¬S k):DS w' d F D N :=
 ⟨h.disk.frame u hS,h.ok,λk hk o ho=>h.ty k hk o (by rw [u.at_ k (h.lt k hk) (hS k hk)] at ho;exact ho),h.no0⟩
def DS.ext (h:DS w d F D N) (e:Ext w w'):DS w' d F D N:=h.frame e λ_ _=>id
def DS.mono {M:Nat}(h:DS w d F D N) (hm:N<=M):DS w d F D M:=⟨h.disk,h.ok.mono hm,h.ty,h.no0⟩
def DS.no {t:TypeId}(h:DS w d F D N) (ht:∀fr,dty (.cells #[] t fr)=false):Et w F t:=λk hk c fr hc=>by have h1:=h.ty k hk _ hc;have h2:=ht fr;unfold dty at h1 h2;simp only at h1 h2;rw [h1] at h2;cases h2
def DS.stay (h:DS w d F D N) (u:Upd F w w'):Dw w w':=Dw.upd u λk hk o ho=>by have:=h.ty k hk o ho;unfold dty at this;unfold Ck4;split at this;{rfl};{rename_i t _;simp only [jO,pX] at this;rcases this with h|h|h|h|h|h|h|h<;>subst h<;>rfl};{cases this}
def DS.of {D':Dk}(h:DS w d F D N) (A:Dn w' d F' D') (ok:Bj D' (N+2)) (hF:∀k,F' k->F k\/w.heap.size<=k) (h0:0<w.heap.size):DS w' d (λk=>F' k/\∀o,w'.heap[k]?=some o->dty o=true) D' (N+2) :=
 ⟨A.thin,ok,λk hk=>hk.2,λh0'=>by rcases hF 0 h0'.1 with hh|hh;exact h.no0 hh;omega⟩
def DS.pos (h:DS w d F D N):0<w.heap.size:=by have:=h.lt d h.disk.fd;omega
def Tt.new {w0:World}{v:Value}{op nm:ByteArray}{e:Int}(h:Tt w0 w F v op nm e):∀b,v=.iface 99 (.pointer (some (at0 b)))->w0.heap.size<=b:=λb hb=>by by_cases he:e=0;{rw [h.ok he] at hb;cases hb};{obtain ⟨b',k,h1,_,h3,_⟩:=h.bad he;rw [h1] at hb;have:b'=b:=(by simpa using hb);omega}
abbrev An4 (w:World) (d:Nat) (F:Nat->Prop) (N:Nat) (r:Dk×Int×Unit) (K:Value->Wp):Prop :=
 ∀F' w' v,Hz w' v r.2.1->DS w' d F' r.1 (N+2)->Upd F w w'->(∀k,F' k->F k\/w.heap.size<=k)->K v w'
def Ag1 {op nm:ByteArray}{r:Dk×Int×Unit}{K:Value->Wp}(h:DS w d F D N) (ok:Bj r.1 (N+2)) (hK:An4 w d F N r K):Ends w d F op nm r K :=
 λF' w' v hv A u hF=>hK _ w' v hv.v (h.of A ok hF h.pos) u λk hk=>hF k hk.1
def Cp0 (h:DS w d F D N) (hN:N+2<=2^30){n:Nm}{K:Value->Wp}(hK:An4 w d F N (Bz D n) K):Aa prog 137 #[dU d,.string n] (.one (.one .any)) K w :=
 Br2 h.disk h.ok hN (Ag1 h (Jj h.ok n) hK)
def Cw4 (h:DS w d F D N) (hN:N+2<=2^30){n:Nm}{K:Value->Wp}(hK:An4 w d F N (Ef D n) K):Aa prog 139 #[dU d,.string n] (.one (.one .any)) K w :=
 Bo8 h.disk h.ok (by omega) (Ag1 h (Rj h.ok n) hK)
def Ac6 (h:DS w d F D N) (hN:N+2<=2^30){K:Value->Wp}(hK:An4 w d F N (Bg D) K):Aa prog 76 #[dU d] (.one (.one .any)) K w :=
 Ao4 h.disk h.ok (by omega) (Ag1 h (Nc h.ok) hK)
def Aa2 (h:DS w d F D N) (hN:N+2<=2^30){n:Nm}{K:Value->Wp}(hK:An4 w d F N (Au D n) K):Aa prog 75 #[dU d,.string n] (.one (.one .any)) K w :=
 Av2 h.disk h.ok hN (Ag1 h (Iu h.ok n) hK)
def Bk3 (h:DS w d F D N) (hN:N+2<=2^30){n t:Nm}{K:Value->Wp}(hK:An4 w d F N (Dc D n t) K):Aa prog 140 #[dU d,.string n,.string t] (.one (.one .any)) K w :=
 Av1 h.disk h.ok hN (Ag1 h (Oj h.ok n t) hK)
def Bn0 (h:DS w d F D N) (hN:N+2<=2^30){n:Nm}{x:Sl}{l:List UInt8}(hx:Bytes w x l) (hxb:Lie (λk=>k<w.heap.size/\¬F k) x){K:aQ->Wp}
  (hK:∀F' w' v,Hz w' v (Bv D n l).2.1->DS w' d F' (Bv D n l).1 (N+2)->Upd F w w'->(∀k,F' k->F k\/w.heap.size<=k)->(∀b,v=.iface 99 (.pointer (some (at0 b)))->w.heap.size<=b)->K ((Bv D n l).2.2,v,()) w') :
  Aa prog 169 #[dU d,.string n,x.v] cO K w :=
 Ba7 h.disk h.ok hN hx hxb λF' w' v hv A u hF=>hK _ w' v hv.v (h.of A (Kq h.ok n l) hF h.pos) u (λk hk=>hF k hk.1) hv.new
def Uz (h:DS w d F D N) (hN:N+2<=2^30){n:Nm}{K:(bC×Value×Unit)->Wp}
  (hK:∀F' w' v,Hz w' v (Aj D n).2.1->DS w' d F' (Aj D n).1 (N+2)->Upd F w w'->(∀k,F' k->F k\/w.heap.size<=k)->K (((Aj D n).2.2.1,(Aj D n).2.2.2.1,(Aj D n).2.2.2.2,()),v,()) w') :
  Aa prog 34 #[dU d,.string n] bK K w :=
 Bc3 h.disk h.ok hN λF' w' v hv A u hF=>hK _ w' v hv.v (h.of A (Ho h.ok n) hF h.pos) u λk hk=>hF k hk.1
def Bk4 (h:DS w d F D N) (hN:N+2<=2^30){n:Nm}{K:aX->Wp}
  (hK:∀F' w' s v,Hz w' v (Aw D n).2.1->DS w' d F' (Aw D n).1 (N+2)->Upd F w w'->(∀k,F' k->F k\/w.heap.size<=k)->Dl w' w.heap.size s (Aw D n).2.2->(∀k,s.blk k->¬F' k)->K (s,v,()) w') :
  Aa prog 49 #[dU d,.string n] bT K w :=
 Bp8 h.disk h.ok hN λF' w' s v hv A u hF hs hb=>hK _ w' s v hv.v (h.of A (Vh h.ok n) hF h.pos) u (λk hk=>hF k hk.1) hs λk hk hk'=>hb k hk hk'.1
def Cx1 (h:DS w d F D N) (hN:N+2<=2^30){n:Nm}{x:Sl}{l:List UInt8}(hx:Bytes w x l) (hxb:∀k,x.blk k->k<w.heap.size/\¬F k){K:Value->Wp}
  (hK:∀F' w' v,Hz w' v (Lc D n l).2->DS w' d F' (Lc D n l).1 (N+2)->Upd F w w'->(∀k,F' k->F k\/w.heap.size<=k)->K v w') :
  Aa prog 32 #[dU d,.string n,x.v] (.one (.one .any)) K w :=
 Bz1 h.disk h.ok hN hx hxb λF' w' v hv A u hF=>hK _ w' v hv.v (h.of A ((Ca4 h.ok n l).mono (tX _)) hF h.pos) u λk hk=>hF k hk.1
def Be5 {space:Int}(h0:0<=space) (h1:space<=1048576):Bj (Rx space) 0 :=
 ⟨⟨h0,h1⟩,λi f hf=>by simp [Rx] at hf,mJ _,λk=>by have:Gf ((Rx space).acts.take k) (Rx space).lasts=λ_=>none:=(by simp [Rx,Gf]);rw [this];exact ⟨λ_ _ h=>(by cases h),⟨[],⟨jX,λn=>by simp⟩,by simp⟩,λ_ _ _ h=>(by cases h),λ_ _ h=>(by cases h)⟩,⟨kJ 0,kJ 0⟩,mJ _⟩
def newS {space:Int}(h0:0<=space) (h1:space<=1048576) (hp:0<w.heap.size){K:aZ->Wp}
  (hK:∀d F w',DS w' d F (Rx space) 0->Ext w w'->(∀k,F k->w.heap.size<=k)->K (some (at0 d),.nilIface,()) w'):Aa prog 17 #[vI space] bV K w :=
 Cb4 h0 h1 λd F w' A e hF=>hK d _ w' ⟨A.thin,Be5 h0 h1,λk hk=>hk.2,λh=>by have:=hF 0 h.1;omega⟩ e λk hk=>hF k hk.1
def Mc {s:Sl}{l:List UInt8}(h:Bytes w s l) (hl:l.length<=2^30){K:Sl->Wp}(hK:∀s' w',Dl w' w.heap.size s' l->Ext w w'->K s' w'):Aa prog 57 #[s.v] rS K w:=by
 refine j57 (a0:=s) ?_;unfold F57;have hl1:=h.len1;rw [nO] at hl1;refine Ac (λh0=>?_) λh0=>?_
 ·have hn:s.a=none:=(by simpa using h0);have:l=[]:=by
   rcases h.at_ with ⟨h1,h2⟩|⟨t,h2⟩
   ·simpa using h2
   ·rcases h2.at_ with ⟨_,hc⟩|⟨b,off,c,fr,ha,_⟩
    ·have:=h2.le
     rw [hc] at this
     exact jH.1 (by omega)
    ·rw [hn] at ha;cases ha
  subst this;exact hK _ w (Am.nil _ _ _ _) (Ext.refl w)
 {refine Ag λb1 w1 e1 n1 hb1 hz1=>?_;have ho:Am w1 w.heap.size ⟨some (at0 b1),0,0⟩ 5 1 []:=⟨rfl,mJ _,.inr ⟨b1,0,#[],rfl,by omega,n1,mJ _,λj v hj=>by simp at hj⟩⟩;refine Ed (s:=⟨some (at0 b1),0,0⟩) (x:=s) EB uB ho (h.ext e1) (Ph l) (by dsimp only;omega) (by omega) λs' w2 hs' hl' u2 _=>?_;rw [iZ] at hs';exact hK s' w2 hs' (e1.step u2 λk hk=>by obtain ⟨p,hp,rfl⟩:=hk;cases hp;show w.heap.size<=b1;omega)}
end
end Dq
end
section
namespace Dq
open Go Go.Vx Dsk Cdc Trx
def Am8:∀(n m:Nat) (l:List UInt8),l.length<=n->l.length<=m->Qa n l=Qa m l
 |0,m,l,h,_=>by
  obtain rfl:l=[]:=jH.1 (by omega)
  cases m<;>simp [Qa]
 |n+1,0,l,_,h=>by
  obtain rfl:l=[]:=jH.1 (by omega)
  simp [Qa]
 | n+1,m+1,l,h1,h2=>by
  by_cases hl:l=[]
  ·simp [Qa,hl]
  ·have:0<l.length:=qF.2 hl
   simp only [Qa,iP hl]
   rw [Am8 n m (l.drop 1024) (by rw [nH];omega) (by rw [nH];omega)]
def Fe (n:Nm) (T:List UInt8) (D:Dk):Dk×Int:=Vp n (Qa T.length T) D
def Xa (n:Nm) (D:Dk):Fe n [] D=(D,0):=rfl
def Xy {n:Nm}{T:List UInt8}{D:Dk}(h:T≠[]):Fe n T D=if (Bv D n (T.take 1024)).2.1=0 then Fe n (T.drop 1024) (Bv D n (T.take 1024)).1 else ((Bv D n (T.take 1024)).1,(Bv D n (T.take 1024)).2.1):=by have hl:0<T.length:=qF.2 h;obtain ⟨k,hk⟩:∃k,T.length=k+1:=⟨T.length-1,by omega⟩;unfold Fe;rw [hk];simp only [Qa,iP h,Vp];rw [Am8 k (T.drop 1024).length (T.drop 1024) (by rw [nH];omega) (mJ _)]
section
variable {w w':World}{S F F':Nat->Prop}{d:Nat}{D:Dk}{N:Nat}{p:Nat}{e:Enc}{lim na:Nat}{O:Nat->Prop}{M:Parts}
structure FI (w:World) (F:Nat->Prop) (d N f b1 b2 b3 b8:Nat) (cs:Array Value) (n:Nm) (T mk B:List UInt8) (D:Dk) (j:Nat) (G:Nat->Prop) (W:World) (fl:Nat) (Fd:Nat->Prop) (Df:Dk) (s:Sl):Prop where
 disk:DS W d Fd Df (N+2*fl)
 fg:∀k,Fd k->G k
 g8:G b8
 g3:G b3
 gs:∀k,s.blk k->G k
 gw:∀k,G k->F k\/w.heap.size<=k
 n1:W.heap[b1]?=some (.cells #[dU f] 29 (0,0))
 n2:W.heap[b2]?=some (.cells #[.string n] 9 (0,0))
 n3:W.heap[b3]?=some (.cells #[.nilIface] 26 (0,0))
 n8:W.heap[b8]?=some (.cells #[.slice s.a s.len s.cap] 30 (0,0))
 nf:W.heap[f]?=some (.cells cs 110 (0,0))
 row:Dl W w.heap.size s ((mk++B.take (1024*j)).drop (1024*fl))
 no8:¬Fd b8
 no3:¬Fd b3
 nos:∀k,s.blk k->¬Fd k
 lo:1024*fl<=(mk++B.take (1024*j)).length
 hi:(mk++B.take (1024*j)).length<1024*(fl+1)
 left:Fe n T D=Fe n (T.drop (1024*fl)) Df
 upd:Upd (λk=>F k\/w.heap.size<=k) w W
 no2:¬Fd b2
 fw:∀k,Fd k->F k\/w.heap.size<=k
def FI.move {f b1 b2 b3 b8:Nat}{cs:Array Value}{n:Nm}{T mk B:List UInt8}{j:Nat}{G:Nat->Prop}{W W':World}{fl:Nat}{Fd:Nat->Prop}{Df:Dk}{s:Sl}(h:FI w F d N f b1 b2 b3 b8 cs n T mk B D j G W fl Fd Df s) (u:Upd S W W') (hS:∀k,S k->¬G k) (h1:¬S b1) (h2:¬S b2) (hf:¬S f) (hw:∀k,S k->w.heap.size<=k) :
  FI w F d N f b1 b2 b3 b8 cs n T mk B D j G W' fl Fd Df s :=
 ⟨h.disk.frame u λk hk hh=>hS k hh (h.fg k hk),h.fg,h.g8,h.g3,h.gs,h.gw,u.get h.n1 h1,u.get h.n2 h2,u.get h.n3 λhh=>hS _ hh h.g3,u.get h.n8 λhh=>hS _ hh h.g8,u.get h.nf hf,h.row.upd u λk _ hk hh=>hS k hh (h.gs k hk),h.no8,h.no3,h.nos,h.lo,h.hi,h.left,h.upd.trans (u.mono λk _ hk=>.inr (hw k hk)),h.no2,h.fw⟩
structure FB (w:World) (F:Nat->Prop) (d N b3:Nat) (n:Nm) (T:List UInt8) (D:Dk) (G:Nat->Prop) (W:World) (Fd:Nat->Prop) (v:Value):Prop where
 disk:DS W d Fd (Fe n T D).1 (N+4000)
 fg:∀k,Fd k->G k
 g3:G b3
 n3:W.heap[b3]?=some (.cells #[v] 26 (0,0))
 er:Hz W v (Fe n T D).2
 gv:∀b,v=.iface 99 (.pointer (some (at0 b)))->G b
 upd:Upd (λk=>F k\/w.heap.size<=k) w W
 fw:∀k,Fd k->F k\/w.heap.size<=k
def FB.move {b3:Nat}{n:Nm}{T:List UInt8}{G:Nat->Prop}{W W':World}{Fd:Nat->Prop}{v:Value}(h:FB w F d N b3 n T D G W Fd v) (u:Upd S W W') (hS:∀k,S k->¬G k) (hw:∀k,S k->w.heap.size<=k):FB w F d N b3 n T D G W' Fd v :=
 ⟨h.disk.frame u λk hk hh=>hS k hh (h.fg k hk),h.fg,h.g3,u.get h.n3 λhh=>hS _ hh h.g3,⟨h.er.ok,λhe=>let ⟨b,op,nm,st,q1,q2⟩:=h.er.bad he;⟨b,op,nm,st,q1,u.get q2 λhh=>hS _ hh (h.gv b q1)⟩⟩,h.gv,h.upd.trans (u.mono λk _ hk=>.inr (hw k hk)),h.fw⟩
def Bs4 (A:DS w d F D N) (hN:N+5000<=2^30) (h:Txt w p e lim na O M) (hO:∀k,O k->¬F k){f:Nat}{cs:Array Value}(hf:w.heap[f]?=some (.cells cs 110 (0,0))){sm:Sl}(c0:cs[0]?=some (.pointer (some (at0 d)))) (c2:cs[2]?=some (.slice sm.a sm.len sm.cap)) (hfF:¬F f)
  {mk:List UInt8} (hm:Bytes w sm mk) (hml:mk.length<1024) {n:Nm} {K:Value->Wp}
  (hK:∀F' w' v,Hz w' v (Fe n (mk++bOf M) D).2->DS w' d F' (Fe n (mk++bOf M) D).1 (N+4000)->Upd F w w'->(∀k,F' k->F k\/w.heap.size<=k)->K v w') :
  Aa prog 138 #[dU f,.string n,dU p] (.one (.one .any)) K w:=by
 refine j138 ?_;unfold F138;have hBl:=Ar9 e M;have hsz:=h.sz;have hfl:=lt_of_heap hf;have hAlt:=A.lt;obtain ⟨B,hBd⟩:∃B,B=bOf M:=⟨_,rfl⟩;(have hBlen:B.length<=1048576:=by rw [hBd];omega);rw [←hBd] at hK;refine Ag λb1 w1 e1 n1 hb1 hz1=>Ag λb2 w2 e2 n2 hb2 hz2=>Ag λb3 w3 e3 n3 hb3 hz3=>?_;have e13:=(e1.trans e2).trans e3;refine Af ((e2.trans e3).ext_get n1) (x:=some (at0 f)) rfl (Ad ?_);rw [addr_add];refine Af (e13.ext_get hf) (off:=2) (x:=sm) c2 (Mc (hm.ext e13) (by omega) λs0 w4 r4 e4=>Ag λb8 w5 e5 n5 hb5 hz5=>Dj n5 Nat.one_pos λw6 u6 n6 hz6=>?_);have e46:Ext w4 w6:=e5.step u6 λk hk=>(by omega);have e36:=e4.trans e46;have e06:=e13.trans e36;have hsz4:=e4.size;obtain ⟨t,ht,hi,hff,rd,hOt⟩:=h.Bj0;refine Dg2 ?_;unfold F168;refine Ag λc1 w7 e7 n7 hc1 hz7=>rd (e06.trans e7) (Ag λc4 w8 e8 n8 hc4 hz8=>Ba n8 rfl rfl (by decide) λw9 u9 n9 hz9=>?_);have e79:Ext w7 w9:=e8.step u9 λk hk=>(by omega);have e69:=e7.trans e79;have e09:=e06.trans e69;have hz79:=e79.size;have m1:=(e36.trans e69).ext_get ((e2.trans e3).ext_get n1);have m2:=(e36.trans e69).ext_get (e3.ext_get n2);have m3:=(e36.trans e69).ext_get n3;have m8:=e69.ext_get n6;have mf:=e09.ext_get hf;have mc1:=e79.ext_get n7;have row0:Dl w9 w.heap.size s0 mk:=((r4.ext e46).ext e69).mono (by omega);have s0lt:∀k,s0.blk k->w.heap.size<=k/\k<w4.heap.size:=λk hk=>⟨by have:=r4.Dh hk;omega,r4.in.Ci hk⟩;obtain ⟨G0,hG0⟩:∃G0:Nat->Prop,G0=λk=>F k\/k=b8\/k=b3\/s0.blk k:=⟨_,rfl⟩;have hG0lt:∀k,G0 k->k<w9.heap.size:=λk hk=>by
  rw [hG0] at hk
  rcases hk with hk|hk|hk|hk
  ·have:=hAlt k hk;omega
  ·omega
  ·omega
  ·have:=(s0lt k hk).2;omega
 (have hb8s:¬s0.blk b8:=λhh=>by have:=(s0lt _ hh).2;omega);(have hb3s:¬s0.blk b3:=λhh=>by have:=r4.Dh hh;omega);have hc1G:¬G0 c1:=λhh=>by
  rw [hG0] at hh
  rcases hh with hk|hk|hk|hk
  ·have:=hAlt _ hk;omega
  ·omega
  ·omega
  ·have:=(s0lt _ hk).2;omega
 have hOG:∀x∈t.items,∀k,x.bytes.blk k->¬G0 k:=λx hx k hk hh=>by
  have hok:=hOt x hx k hk
  have hol:=h.own k hok
  rw [hG0] at hh
  rcases hh with hh|hh|hh|hh
  ·exact hO k hok hh
  ·omega
  ·omega
  ·have:=(s0lt k hh).1;omega
 refine Ar5 (t:=t) (c1:=c1) (c4:=c4) (G0:=G0) (e:=e) (M:=M) (λ_=>rfl) mc1 n9 (ht.ext e09) (hi.ext e09) hff hG0lt hc1G hOG (by omega)
  (Inv:=λj G W=>∃fl Fd Df s,FI w F d N f b1 b2 b3 b8 cs n (mk++B) mk B D j G W fl Fd Df s) (Brk:=λq G W=>q=.ret/\∃Fd v,FB w F d N b3 n (mk++B) D G W Fd v) ?_ ?_ ?_ ?_ ?_ ?_
 {intro W x hW;refine ⟨0,F,D,s0,A.ext (e09.trans x),?_,?_,?_,?_,?_,x.ext_get m1,x.ext_get m2,x.ext_get m3,x.ext_get m8,x.ext_get mf,by simpa using row0.ext x,λhh=>?_,λhh=>?_,λk hk hh=>?_,by simp,by simpa using hml,by simp,Upd.Ae (e09.trans x),λhh=>?_,λk hk=>.inl hk⟩;{intro k hk;rw [hG0];exact .inl hk};{rw [hG0];exact .inr (.inl rfl)};{rw [hG0];exact .inr (.inr (.inl rfl))};{intro k hk;rw [hG0];exact .inr (.inr (.inr hk))};{intro k hk;rw [hG0] at hk;rcases hk with hk|hk|hk|hk;{exact .inl hk};{exact .inr (by omega)};{exact .inr (by omega)};{exact .inr (s0lt k hk).1}};{have:=hAlt _ hh;omega};{have:=hAlt _ hh;omega};{have:=hAlt _ hh;have:=(s0lt k hk).1;omega};{have:=hAlt _ hh;omega}};{rintro j G S W W' ⟨fl,Fd,Df,s,I⟩ u hS;exact ⟨fl,Fd,Df,s,I.move u (λk hk=>(hS k hk).1) (λhh=>by have:=(hS _ hh).2;omega) (λhh=>by have:=(hS _ hh).2;omega) (λhh=>by have:=(hS _ hh).2;omega) λk hk=>by have:=(hS k hk).2;omega⟩};{rintro q G S W W' ⟨rfl,Fd,v,I⟩ u hS;exact ⟨rfl,Fd,v,I.move u (λk hk=>(hS k hk).1) λk hk=>by have:=(hS k hk).2;omega⟩}
 ·rintro rc j sc G R W hne ⟨fl,Fd,Df,s,I⟩ hGlt hGl hsc hscG hr hT hF;rw [←hBd] at hne hsc;obtain ⟨l,hl⟩:∃l,l=w9.heap.size+1:=⟨_,rfl⟩;rw [←hl] at hGl hr hT hF ⊢;have hlW:=lt_of_heap hr;refine ⟨hr,?_⟩;obtain ⟨u1,r1⟩:=Dv (o':=.loop (rc .busy none)) hr;(have st1:Dw W (W.putObj l (.loop (rc .busy none))):=Dw.upd u1 λk hk o ho=>by subst hk;rw [hr] at ho;cases ho;rfl);have I1:=I.move u1 (λk hk=>by rw [hk];exact hGl) (by omega) (by omega) (by omega) (λk hk=>by omega);(have hsc1:=hsc.upd u1 λk hk hh=>by obtain ⟨c,fr,hc⟩:=hsc.Bf hk;rw [hh,hr] at hc;cases hc);have hzu1:=u1.size;generalize W.putObj l (.loop (rc .busy none))=W1 at *;have hsl1:=I1.row.len1;have hscl:=hsc1.len1;rw [nO] at hscl;(have hckl:(Hr B j).length<=1024:=by unfold Hr;rw [nG];omega);have hlo:=I1.lo;have hhi:=I1.hi;have htn:mk++B.take (1024*(j+1))=(mk++B.take (1024*j))++Hr B j:=by
   unfold Hr
   rw [show 1024*(j+1)=1024*j+1024 by omega,vV,lM]
  obtain ⟨T0,hT0⟩:∃T0,T0=mk++B.take (1024*j):=⟨_,rfl⟩;have row1:=I1.row;rw [←hT0] at hsl1 hlo hhi htn row1;rw [nO,nH] at hsl1;have hdr:T0.drop (1024*fl)++Hr B j=(mk++B.take (1024*(j+1))).drop (1024*fl):=by
   rw [htn,vS hlo]
  obtain ⟨R1,hR1⟩:∃R1,R1=(mk++B.take (1024*(j+1))).drop (1024*fl):=⟨_,rfl⟩;have hR1l:R1.length=(mk++B.take (1024*(j+1))).length-1024*fl:=(by rw [hR1,nH]);have htl:(mk++B.take (1024*(j+1))).length=T0.length+(Hr B j).length:=(by rw [htn,oC]);have hpre:R1 <+: (mk++B).drop (1024*fl):=by
   rw [hR1]
   obtain ⟨Q,hQ⟩:=(vX mk).2 (List.take_prefix (1024*(j+1)) B)
   exact ⟨Q,by rw [←vS (by rw [htl];omega),hQ]⟩
  (have hTl:(mk++B).length<=1048576+1024:=by rw [oC];omega);have hprel:=hpre.length_le;rw [nH] at hprel;refine Af I1.n8 (x:=s) rfl (Ed (s:=s) (x:=sc) EB uB row1 hsc1.x (Ph _) (by omega) (by have:=(u1.size);have:=I.upd.size;omega) λs1 W2 r2 hl2 u2 hb2=>?_);(have hbv:bv (T0.drop (1024*fl))++bv (Hr B j)=bv R1:=by rw [hR1,←hdr];exact oQ.symm);rw [hbv] at r2;have bc:∀k,s.blk k->∃c fr,W1.heap[k]?=some (.cells c 5 fr):=λk hk=>row1.in.Bf hk;(have ns8:¬s.blk b8:=λhh=>by obtain ⟨c,fr,hc⟩:=bc _ hh;rw [I1.n8] at hc;cases hc);(have ns3:¬s.blk b3:=λhh=>by obtain ⟨c,fr,hc⟩:=bc _ hh;rw [I1.n3] at hc;cases hc);(have nsl:¬s.blk l:=λhh=>by obtain ⟨c,fr,hc⟩:=bc _ hh;rw [r1] at hc;cases hc);(have ns1:¬s.blk b1:=λhh=>by obtain ⟨c,fr,hc⟩:=bc _ hh;rw [I1.n1] at hc;cases hc);(have ns2:¬s.blk b2:=λhh=>by obtain ⟨c,fr,hc⟩:=bc _ hh;rw [I1.n2] at hc;cases hc);(have nsf:¬s.blk f:=λhh=>by obtain ⟨c,fr,hc⟩:=bc _ hh;rw [I1.nf] at hc;cases hc);(have st2:Dw W1 W2:=Dw.upd u2 λk hk o ho=>by obtain ⟨c,fr,hc⟩:=bc k hk;rw [hc] at ho;cases ho;rfl);have m8:=u2.get I1.n8 ns8;refine Dj m8 Nat.one_pos λW3 u3 n8 _=>?_;have n8:W3.heap[b8]?=some (.cells #[.slice s1.a s1.len s1.cap] 30 (0,0)):=n8;have st3:Dw W2 W3:=Oo m8 rfl u3;(have row3:Dl W3 w.heap.size s1 R1:=r2.upd u3 λk _ hk hh=>by obtain ⟨c,fr,hc⟩:=r2.in.Bf hk;rw [hh,m8] at hc;cases hc);have r3:W3.heap[l]?=some (.loop (rc .busy none)):=u3.En (u2.get r1 nsl) (λhh=>by have:=I1.n8;rw [←hh,r1] at this;cases this);have disk3:DS W3 d Fd Df (N+2*fl):=(I1.disk.frame u2 λk hk hh=>I1.nos k hh hk).frame u3 λk hk hh=>I1.no8 (hh▸hk);have n1':=u3.En (u2.get I1.n1 ns1) (by omega);have n2':=u3.En (u2.get I1.n2 ns2) (by omega);have n3':=u3.En (u2.get I1.n3 ns3) (by omega);have nf':=u3.En (u2.get I1.nf nsf) (by omega);have s1F:∀k,s1.blk k->¬Fd k:=λk hk hh=>by
   rcases hb2 k hk with h'|h'
   ·exact I1.nos k h' hh
   ·have:=I1.disk.lt k hh;omega
  have U3:Upd (λk=>G k\/k=l) W W3:=((u1.mono λk _ hk=>.inr hk).trans (u2.mono λk _ hk=>.inl (I1.gs k hk))).trans (u3.mono λk _ hk=>.inl (hk▸I1.g8));have S3:Dw W W3:=(st1.trans st2).trans st3;have zW:=I.upd.size;have z2:=u2.size;have z3:=u3.size;have hrl:=row3.len1;rw [nO] at hrl;have gW:∀k,G k->F k\/w.heap.size<=k:=I.gw;have UW:∀W',Upd (λk=>G k\/k=l) W W'->Upd (λk=>F k\/w.heap.size<=k) w W':=λW' u=>I.upd.trans (u.mono λk _ hk=>hk.elim (gW k) λhh=>.inr (by omega));refine Af n8 (x:=s1) rfl (Ac (λhfull=>?_) λhpart=>?_)
  ·have hfull:=jY hfull;have hR1g:1024<=R1.length:=(by omega);refine Az λW4 e4 _=>Af (e4.ext_get n1') (x:=some (at0 f)) rfl (Ad (Af (e4.ext_get nf') (off:=0) (x:=some (at0 d)) c0 (Af (e4.ext_get n2') (x:=n) rfl (Af (e4.ext_get n8) (x:=s1) rfl ?_))));have hcap:=row3.in.le;refine Nr (row3.in.ext e4) (by omega) (by omega) (by omega) (by omega) (by omega) λx23 hx23 hl23 _ hb23=>?_;have hbv23:((bv R1).drop (Int.toNat 0*1)).take ((Int.toNat 1024-Int.toNat 0)*1)=bv (((mk++B).drop (1024*fl)).take 1024):=by
    have e1:R1.take 1024=((mk++B).drop (1024*fl)).take 1024:=by
     obtain ⟨Q,hQ⟩:=hpre
     rw [←hQ,tZ hR1g]
    rw [←e1];simp [tK]
   rw [hbv23] at hx23;obtain ⟨blk,hblk⟩:∃blk,blk=((mk++B).drop (1024*fl)).take 1024:=⟨_,rfl⟩;rw [←hblk] at hx23;(have hne:(mk++B).drop (1024*fl)≠[]:=λhh=>by have:=lW List.length hh;rw [nH,kW] at this;omega);have hcons:=Xy (n:=n) (D:=Df) hne;rw [←hblk,qH,show 1024*fl+1024=1024*(fl+1) by omega] at hcons;have hleft:=I.left;refine Bn0 (disk3.ext e4) (by omega) hx23.x (.inr λk hk=>⟨hx23.Ci hk,s1F k (hb23 k hk)⟩) λF5 W5 v5 hv5 disk5 u5 hF5 hnew5=>?_;have z4:=e4.size;have z5:=u5.size;have g5:∀k,Fd k->G k:=I.fg;have n35:=u5.get (e4.ext_get n3') I1.no3;have n85:=u5.get (e4.ext_get n8) I1.no8;have r5:=u5.get (e4.ext_get r3) λhh=>hGl (g5 _ hh);have n15:=u5.get (e4.ext_get n1') (λhh=>by rcases I1.fw _ hh with h'|h';have:=hAlt _ h';omega;have:=disk3.ty _ hh _ n1';cases this);have n25:W5.heap[b2]?=some (.cells #[.string n] 9 (0,0)):=u5.get (e4.ext_get n2') I1.no2;have nf5:=u5.get (e4.ext_get nf') (λhh=>by rcases I1.fw _ hh with h'|h';exact hfF h';omega);have U5:Upd (λk=>G k\/k=l) W W5:=(U3.trans (Upd.Ae e4)).trans (u5.mono λk _ hk=>.inl (g5 k hk));have S5:Dw W W5:=(S3.trans (Dw.ext e4)).trans ((disk3.ext e4).stay u5);refine hv5.Qo (Ac (λhe=>?_) λhe=>?_);{have he:=jY he;rw [iP he] at hcons;rw [hcons] at hleft;refine Ea hv5.one (Dj n35 Nat.one_pos λW6 u6 n6 _=>?_);have n6:W6.heap[b3]?=some (.cells #[v5] 26 (0,0)):=n6;have r6:=u6.En r5 (λhh=>by rw [←hh,r5] at n35;cases n35);obtain ⟨u7,r7⟩:=Dv (o':=.loop (rc .done (some .ret))) r6;(have st7:Dw W6 (W6.putObj l (.loop (rc .done (some .ret)))):=Dw.upd u7 λk hk o ho=>by subst hk;rw [r6] at ho;cases ho;rfl);have U7:Upd (λk=>G k\/k=l) W (W6.putObj l (.loop (rc .done (some .ret)))):=(U5.trans (u6.mono λk _ hk=>.inl (hk▸I.g3))).trans (u7.mono λk _ hk=>.inr hk);have z6:=u6.size;have z7:=u7.size;refine ⟨⟨_,_,r6⟩,hF .ret (λk=>(G k\/W.heap.size<=k)/\k<(W6.putObj l (.loop (rc .done (some .ret)))).heap.size) _ ((S5.trans (Oo n35 rfl u6)).trans st7) U7 (λk hk=>hk.1) (λk hk=>hk.2) ⟨rfl,F5,v5,?_⟩ r7⟩;(have n6l:b3≠l:=λhh=>by rw [hh,r6] at n6;cases n6);have f5G:∀k,F5 k->G k\/W.heap.size<=k:=λk hk=>(hF5 k hk).elim (λhh=>.inl (g5 k hh)) λhh=>.inr (by omega);(have no3:¬F5 b3:=λhh=>(hF5 _ hh).elim I1.no3 λhh=>by have:=lt_of_heap (e4.ext_get n3');omega);have nol:¬F5 l:=λhh=>(hF5 _ hh).elim (λhh=>hGl (g5 _ hh)) λhh=>(by omega);have dk7:=(disk5.frame u6 λk hk hh=>no3 (hh▸hk)).frame u7 λk hk hh=>nol (hh▸hk);have gb3:=lt_of_heap n6;refine ⟨?_,λk hk=>⟨f5G k hk,dk7.lt k hk⟩,⟨.inl I.g3,by omega⟩,u7.En n6 n6l,?_,?_,UW _ U7,λk hk=>(hF5 k hk).elim (I.fw k) λhh=>.inr (by omega)⟩;{rw [hleft];exact dk7.mono (by omega)};{rw [hleft];exact (hv5.upd u6 (Et.box n35 (by decide))).upd u7 λk hk c fr hc=>by subst hk;rw [r6] at hc;cases hc};{intro b hb;obtain ⟨b',op,nm,st,q1,q2⟩:=hv5.bad he;rw [q1] at hb;have hbb:b'=b:=(by simpa using hb);subst hbb;have hlt:=lt_of_heap q2;exact ⟨.inr (by have:=hnew5 _ q1;omega),by omega⟩}}
   ·(have he:(Bv Df n blk).2.1=0:=by have:=sK he;omega);rw [iK he] at hcons;rw [hcons] at hleft;have n85':W5.heap[b8]?=some (.cells #[.slice s1.a s1.len s1.cap] 30 (0,0)):=n85;have row5:Dl W5 w.heap.size s1 R1:=(row3.ext e4).upd u5 λk _ hk hh=>s1F k hk hh;refine Af n85' (x:=s1) rfl (Nr row5.in (by omega) (by omega) (by omega) (by omega) (by omega) λx27 hx27 hl27 _ hb27=>?_);have hbv27:((bv R1).drop (Int.toNat 1024*1)).take ((Int.toNat ((s1.len:Nat):Int)-Int.toNat 1024)*1)=bv (R1.drop 1024):=by
     rw [show Int.toNat 1024*1=1024 from rfl,←vM,sQ]
     rw [nO,nH,kH];omega
    rw [hbv27] at hx27;refine Mc hx27.x (by rw [nH];omega) λs5 W6 r6 e6=>?_;have n86:=e6.ext_get n85';refine Dj n86 Nat.one_pos λW7 u7 n7 _=>?_;have n7:W7.heap[b8]?=some (.cells #[.slice s5.a s5.len s5.cap] 30 (0,0)):=n7;have z6:=e6.size;have z7:=u7.size;(have b8l:b8≠l:=λhh=>by rw [hh,r5] at n85';cases n85');have r7:=u7.En (e6.ext_get r5) b8l.symm;obtain ⟨u8,r8⟩:=Dv (o':=.loop (rc .ready none)) r7;have z8:=u8.size;(have st8:Dw W7 (W7.putObj l (.loop (rc .ready none))):=Dw.upd u8 λk hk o ho=>by subst hk;rw [r7] at ho;cases ho;rfl);have U8:Upd (λk=>G k\/k=l) W (W7.putObj l (.loop (rc .ready none))):=((U5.trans (Upd.Ae e6)).trans (u7.mono λk _ hk=>.inl (hk▸I.g8))).trans (u8.mono λk _ hk=>.inr hk);have s5ge:∀k,s5.blk k->W5.heap.size<=k/\k<W6.heap.size:=λk hk=>⟨r6.Dh hk,r6.in.Ci hk⟩;(have no8:¬F5 b8:=λhh=>(hF5 _ hh).elim I1.no8 λhh=>by have:=lt_of_heap (e4.ext_get n8);omega);(have no3:¬F5 b3:=λhh=>(hF5 _ hh).elim I1.no3 λhh=>by have:=lt_of_heap (e4.ext_get n3');omega);have nol:¬F5 l:=λhh=>(hF5 _ hh).elim (λhh=>hGl (g5 _ hh)) λhh=>(by omega);have dk8:=((disk5.ext e6).frame u7 λk hk hh=>no8 (hh▸hk)).frame u8 λk hk hh=>nol (hh▸hk);have f5G:∀k,F5 k->G k\/W.heap.size<=k:=λk hk=>(hF5 k hk).elim (λhh=>.inl (g5 k hh)) λhh=>.inr (by omega);have l8:=lt_of_heap n7;have l3:=lt_of_heap n35;have keep:∀{k o},W5.heap[k]?=some o->k≠b8->k≠l->(W7.putObj l (.loop (rc .ready none))).heap[k]?=some o:=λh h1 h2=>u8.En (u7.En (e6.ext_get h) h1) h2;refine ⟨⟨_,_,r7⟩,hT (λk=>(G k\/W.heap.size<=k)/\k<(W7.putObj l (.loop (rc .ready none))).heap.size) _ (((S5.trans (Dw.ext e6)).trans (Oo n86 rfl u7)).trans st8) U8 (λk hk=>hk.1) (λk hk=>hk.2) ⟨fl+1,F5,(Bv Df n blk).1,s5,?_⟩ r8⟩;refine ⟨dk8.mono (by omega),λk hk=>⟨f5G k hk,dk8.lt k hk⟩,⟨.inl I.g8,by omega⟩,⟨.inl I.g3,by omega⟩,λk hk=>⟨.inr (by have:=(s5ge k hk).1;omega),by have:=(s5ge k hk).2;omega⟩,λk hk=>hk.1.elim (gW k) λhh=>.inr (by omega),keep n15 (by omega) (by omega),keep n25 (by omega) (by omega),keep n35 (by omega) (λhh=>by rw [hh,r5] at n35;cases n35),u8.En n7 b8l,keep nf5 (by omega) (by omega),?_,no8,no3,λk hk hh=>?_,?_,?_,hleft,UW _ U8,?_,λk hk=>(hF5 k hk).elim (I.fw k) λhh=>.inr (by omega)⟩;{(have hq:(mk++B.take (1024*(j+1))).drop (1024*(fl+1))=R1.drop 1024:=by rw [hR1,qH];congr 1);rw [hq];refine Am.mono ((r6.upd u7 λk _ hk hh=>?_).upd u8 λk _ hk hh=>?_) (by omega);{obtain ⟨c,fr,hc⟩:=r6.in.Bf hk;rw [hh,n86] at hc;cases hc};{have:=s5ge k hk;omega}};{have:=disk5.lt k hh;have:=(s5ge k hk).1;omega};{rw [htl];omega};{rw [htl];omega};{exact λhh=>(hF5 _ hh).elim I1.no2 λhh=>by have:=lt_of_heap (e4.ext_get n2');omega}
  {have hpart:=sK hpart;obtain ⟨u8,r8⟩:=Dv (o':=.loop (rc .ready none)) r3;have z8:=u8.size;(have st8:Dw W3 (W3.putObj l (.loop (rc .ready none))):=Dw.upd u8 λk hk o ho=>by subst hk;rw [r3] at ho;cases ho;rfl);have U8:Upd (λk=>G k\/k=l) W (W3.putObj l (.loop (rc .ready none))):=U3.trans (u8.mono λk _ hk=>.inr hk);(have b8l:b8≠l:=λhh=>by rw [hh,r3] at n8;cases n8);have l8:=lt_of_heap n8;have l3:=lt_of_heap n3';have dk8:=disk3.frame u8 λk hk hh=>hGl (I.fg _ (hh▸hk));refine ⟨⟨_,_,r3⟩,hT (λk=>(G k\/W.heap.size<=k)/\k<(W3.putObj l (.loop (rc .ready none))).heap.size) _ (S3.trans st8) U8 (λk hk=>hk.1) (λk hk=>hk.2) ⟨fl,Fd,Df,s1,?_⟩ r8⟩;refine ⟨dk8,λk hk=>⟨.inl (I.fg k hk),dk8.lt k hk⟩,⟨.inl I.g8,by omega⟩,⟨.inl I.g3,by omega⟩,λk hk=>⟨?_,?_⟩,λk hk=>hk.1.elim (gW k) λhh=>.inr (by omega),u8.En n1' (by omega),u8.En n2' (by omega),u8.En n3' (λhh=>by rw [hh,r3] at n3';cases n3'),u8.En n8 b8l,u8.En nf' (by omega),?_,I1.no8,I1.no3,s1F,?_,?_,I.left,UW _ U8,I.no2,I.fw⟩;{rcases hb2 k hk with h'|h';{exact .inl (I1.gs k h')};{exact .inr (by omega)}};{have:=row3.in.Ci hk;omega};{rw [←hR1];exact row3.upd u8 λk _ hk hh=>by obtain ⟨c,fr,hc⟩:=row3.in.Bf hk;rw [hh,r3] at hc;cases hc};{rw [htl];omega};{rw [htl];omega}}
 ·rintro n0 G W W' hn ⟨fl,Fd,Df,s,I⟩ hGl hGD hD u;rw [←hBd] at hn;have htk:B.take (1024*n0)=B:=sQ hn;have I1:=I.move u (λk hk=>by rw [hk];exact hGl) (by omega) (by omega) (by omega) (λk hk=>by omega);have row:=I1.row;have lo:=I1.lo;have hi':=I1.hi;rw [htk] at row lo hi';have hrl:=row.len1;rw [nO,nH] at hrl;(have hTl:(mk++B).length<=1048576+1024:=by rw [oC];omega);obtain ⟨D0,hD0⟩:∃D0,D0=w9.heap.size:=⟨_,rfl⟩;rw [←hD0] at hD hGD ⊢;have zW:=I1.upd.size;(have gD3:D0≠b3:=λhh=>by have:=I1.n3;rw [←hh,hD] at this;cases this);have fin:∀F' W2 v,W2.heap[b3]?=some (.cells #[v] 26 (0,0))->W2.heap[D0]?=some (.deferred (some []))->Hz W2 v (Fe n (mk++B) D).2->DS W2 d F' (Fe n (mk++B) D).1 (N+4000)->¬F' D0->Upd (λk=>F k\/w.heap.size<=k) w W2->(∀k,F' k->F k\/w.heap.size<=k)->Sj D0 (ld .any (at0 b3) K) W2:=by
   intro F' W2 v h3 hD2 hv hd hn hu hF
   obtain ⟨u3,_⟩:=Dv (o':=.deferred none) hD2
   refine ⟨hD2,Af (u3.En h3 gD3.symm) (x:=v) rfl (hK F' _ v (hv.upd u3 λk hk c fr hc=>?_) (hd.frame u3 λk hk hh=>hn (hh▸hk)) ?_ hF)⟩
   ·subst hk;rw [hD2] at hc;cases hc
   ·exact (hu.trans (u3.mono (S':=λk=>F k\/w.heap.size<=k) λk _ hk=>.inr (by omega))).mono λk hk h=>h.resolve_right (by omega)
  have hFD:∀k,Fd k->k≠D0:=λk hk hh=>hGD (I.fg _ (hh▸hk));refine Ba8 (Af I1.n8 (x:=s) rfl (Ac (λh0=>?_) λh0=>?_));{have h0:((s.len:Nat):Int)=0:=(by simpa using h0);have hnil:(mk++B).drop (1024*fl)=[]:=vF (by omega);have hleft:=I1.left;rw [hnil,Xa] at hleft;refine Ea rfl (Dj I1.n3 Nat.one_pos λW2 u2 n2 _=>?_);have n2:W2.heap[b3]?=some (.cells #[.nilIface] 26 (0,0)):=n2;refine fin Fd W2 .nilIface n2 (u2.En hD gD3) (by rw [hleft];exact Hz.none W2) ?_ (λhh=>hFD _ hh rfl) (I1.upd.trans (u2.mono λk _ hk=>.inr (by omega))) I1.fw;rw [hleft];exact (I1.disk.frame u2 λk hk hh=>I1.no3 (hh▸hk)).mono (by omega)}
  ·have h0:¬((s.len:Nat):Int)=0:=(by simpa using h0);(have hne:(mk++B).drop (1024*fl)≠[]:=λhh=>by have:=lW List.length hh;rw [nH,kW] at this;omega);have hcons:=Xy (n:=n) (D:=Df) hne;(have hlt:((mk++B).drop (1024*fl)).length<=1024:=by rw [nH];omega);rw [sQ hlt,vF hlt,Xa] at hcons;have hleft:Fe n (mk++B) D=((Bv Df n ((mk++B).drop (1024*fl))).1,(Bv Df n ((mk++B).drop (1024*fl))).2.1):=by
    rw [I1.left,hcons]
    split
    ·rename_i hh;rw [hh]
    ·rfl
   refine Az λW4 e4 _=>Af (e4.ext_get I1.n1) (x:=some (at0 f)) rfl (Ad (Af (e4.ext_get I1.nf) (off:=0) (x:=some (at0 d)) c0 (Af (e4.ext_get I1.n2) (x:=n) rfl (Af (e4.ext_get I1.n8) (x:=s) rfl ?_))));refine Bn0 (I1.disk.ext e4) (by omega) (row.in.ext e4).x (.inr λk hk=>⟨(row.in.ext e4).Ci hk,I1.nos k hk⟩) λF5 W5 v5 hv5 disk5 u5 hF5 _=>?_;have z4:=e4.size;have n35:=u5.get (e4.ext_get I1.n3) I1.no3;refine Ea hv5.one (Dj n35 Nat.one_pos λW6 u6 n6 _=>?_);have n6:W6.heap[b3]?=some (.cells #[v5] 26 (0,0)):=n6;have l3:=lt_of_heap (e4.ext_get I1.n3);have lD:=lt_of_heap (e4.ext_get hD);refine fin F5 W6 v5 n6 (u6.En (u5.get (e4.ext_get hD) λhh=>hFD _ hh rfl) gD3) ?_ ?_ (λhh=>(hF5 _ hh).elim (λhh=>hFD _ hh rfl) λhh=>by omega) (((I1.upd.trans (Upd.Ae e4)).trans (u5.mono λk _ hk=>I1.fw k hk)).trans (u6.mono λk _ hk=>.inr (by omega))) λk hk=>(hF5 k hk).elim (I1.fw k) λhh=>.inr (by omega);{rw [hleft];exact hv5.upd u6 (Et.box n35 (by decide))};{rw [hleft];exact (disk5.frame u6 λk hk hh=>(hF5 k hk).elim (λh'=>I1.no3 (hh▸h')) λh'=>by omega).mono (by omega)}
 {rintro q G W W' ⟨rfl,Fd,v,I⟩ hGl hGD hD u;have I1:=I.move u (λk hk=>by rw [hk];exact hGl) (λk hk=>by omega);obtain ⟨D0,hD0⟩:∃D0,D0=w9.heap.size:=⟨_,rfl⟩;rw [←hD0] at hD hGD ⊢;obtain ⟨u3,_⟩:=Dv (o':=.deferred none) hD;have I2:=I1.move u3 (λk hk=>by rw [hk];exact hGD) (λk hk=>by omega);exact Bn3 ⟨hD,Af I2.n3 (x:=v) rfl (hK Fd _ v I2.er I2.disk (I2.upd.mono λk hk h=>h.resolve_right (by omega)) I2.fw)⟩}
end
end Dq
end
section
namespace Dq
open Go Go.Vx Dsk
section
variable {w w':World}
abbrev stT (s:Stm):Cells.T c57:=(s.1,s.2.1,s.2.2,())
def Qc {xs:Array Value}{j:Nat}{v:Value}(h:xs[j]?=some v):(part 3 xs j).run prog w=.ok v w:=by simp [part,C3.Qd,h,show Xw i3.desc=false from rfl]
def Aj9 (a b:Stm) (w:World):(Op.equalIn 10000 57 (.agg (Cells.vals c57 (stT a)).toArray) (.agg (Cells.vals c57 (stT b)).toArray)).run prog w=.ok (decide (a=b)) w:=by obtain ⟨j,hj,_⟩:=C3.Al8;have hu:prog.underlying 57=some (.array 3 3):=C57.und;have hc:prog.cellsOf 3=1:=(by kernel_rfl);rw [run_equalIn_array w 9999 _ _ hu hj,hc];obtain ⟨a1,a2,a3⟩:=a;obtain ⟨b1,b2,b3⟩:=b;have hI:∀x y:Int,(Op.equalIn 9999 3 (vI x) (vI y)).run prog w=.ok (x==y) w:=λx y=>uM w 9998 _ _ _ _ _ C3.und;have p0:∀(x y z:Int),(part 3 (Cells.vals c57 (stT (x,y,z))).toArray 0).run prog w=.ok (vI x) w:=λx y z=>Qc rfl;have p1:∀(x y z:Int),(part 3 (Cells.vals c57 (stT (x,y,z))).toArray 1).run prog w=.ok (vI y) w:=λx y z=>Qc rfl;have p2:∀(x y z:Int),(part 3 (Cells.vals c57 (stT (x,y,z))).toArray 2).run prog w=.ok (vI z) w:=λx y z=>Qc rfl;show (Op.eqItems 9999 3 1 _ _ [0,1,2]).run prog w=_;by_cases h1:a1=b1<;>by_cases h2:a2=b2<;>by_cases h3:a3=b3<;>simp [Op.eqItems,h1,h2,h3,hI,p0,p1,p2]
def Aj8 (op:BinOp) (o1 o2:Operand) (a b:Stm) (w:World):(eqGuard op 57 o1 o2 (.agg (Cells.vals c57 (stT a)).toArray) (.agg (Cells.vals c57 (stT b)).toArray)).run prog w=.ok () w:=run_eqGuard_agg w op 57 o1 o2 _ _ (by kernel_rfl)
def Cr3 {o1 o2:Operand}{a b:Stm}{K:Bool->Wp}(hK:K (decide (a=b)) w):rdB prog (do eqGuard .eql 57 o1 o2 (.agg (Cells.vals c57 (stT a)).toArray) (.agg (Cells.vals c57 (stT b)).toArray);binOp .eql 57 (.agg (Cells.vals c57 (stT a)).toArray) (.agg (Cells.vals c57 (stT b)).toArray):Sem Value) K w:=by refine ⟨decide (a=b),?_,hK⟩;have h:=run_eql_struct (P:=prog) w 57 (Cells.vals c57 (stT a)).toArray (Cells.vals c57 (stT b)).toArray;rw [Aj9] at h;dsimp only;rw [iH,Aj8 .eql o1 o2 a b w,iI,h];rfl
def Cr2 {o1 o2:Operand}{a b:Stm}{K:Bool->Wp}(hK:K (decide (a≠b)) w):rdB prog (do eqGuard .neq 57 o1 o2 (.agg (Cells.vals c57 (stT a)).toArray) (.agg (Cells.vals c57 (stT b)).toArray);binOp .neq 57 (.agg (Cells.vals c57 (stT a)).toArray) (.agg (Cells.vals c57 (stT b)).toArray):Sem Value) K w:=by refine ⟨decide (a≠b),?_,hK⟩;have h:=run_neq_struct (P:=prog) w 57 (Cells.vals c57 (stT a)).toArray (Cells.vals c57 (stT b)).toArray;rw [Aj9] at h;dsimp only;rw [iH,Aj8 .neq o1 o2 a b w,iI,h];show Result.ok (Value.bool !decide (a=b)) w=Result.ok (Value.bool (decide (a≠b))) w;rw [decide_not]
end
end Dq
end
section
namespace Dq
open Go Go.Vx Dsk Cdc Trx
section
variable {w w':World}{S F F':Nat->Prop}{d:Nat}{D:Dk}{N:Nat}{p:Nat}{e:Enc}{lim na:Nat}{O:Nat->Prop}{M:Parts}
def Bj8 (n:Nm):n++({ data:=#[126] }:ByteArray)=side n:=by unfold side;cases h:n++({ data:=#[126] }:ByteArray);have:(n++({ data:=#[126] }:ByteArray)).data=n.data++#[126]:=ByteArray.data_append;rw [h] at this;simp only at this;rw [this];simp
def Ap4 (v0 v1 v2:Addr) (K:World->Prop):Cq4 tab prog Tryz.f136 Cy1 [.pointer (some v0),.pointer (some v1),.pointer (some v2)] K=F136 v0 v1 v2 (λ_=>K):=by kernel_rfl
def Ah7 {v0 v1 v2:Addr}{K:World->Prop}(h:F136 v0 v1 v2 (λ_=>K) w):Xk prog { target:=.fn (.func 136) #[.pointer (some v0),.pointer (some v1),.pointer (some v2)],args:=#[]++#[] } K w:=by refine ⟨.func 136,#[.pointer (some v0),.pointer (some v1),.pointer (some v2)],136,#[.pointer (some v0),.pointer (some v1),.pointer (some v2)],rfl,?_,?_⟩;{exact Gq (P:=prog) (f:=136) (by kernel_rfl) w};{exact Ac1 Ap func136 Cy1 [.pointer (some v0),.pointer (some v1),.pointer (some v2)] K w (Eq.mpr (congrFun (Ap4 v0 v1 v2 K) w) h)}
structure Bd (b1 b2 b3 f d:Nat) (sm:Sl) (bs:Nm) (bt:Nat) (ct:Array Value) (tt:TypeId) (mk:List UInt8) (p:Nat) (e:Enc) (lim na:Nat) (O:Nat->Prop) (M:Parts) (F:Nat->Prop) (w:World):Prop where
 n1:w.heap[b1]?=some (.cells #[dU f] 29 (0,0))
 n2:∃v,w.heap[b2]?=some (.cells #[v] 26 (0,0))
 n3:w.heap[b3]?=some (.cells #[.string bs] 9 (0,0))
 nf:∃cs,w.heap[f]?=some (.cells cs 110 (0,0))/\cs[0]?=some (.pointer (some (at0 d)))/\cs[2]?=some (.slice sm.a sm.len sm.cap)
 nt:w.heap[bt]?=some (.cells ct tt (0,0))
 x3:¬F b3
 xf:¬F f
 xt:¬F bt
 x1:¬F b1
 x2:¬F b2
 tt2:bt≠b2
 nz:b2≠0
 txt:Txt w p e lim na O M
 xO:∀k,O k->¬F k/\k≠b2
 mk_:By w sm mk
 xm:∀k,sm.blk k->¬F k
 laid:Jc w
variable {b1 b2 b3 f:Nat}{sm:Sl}{bs:Nm}{bt:Nat}{ct:Array Value}{tt:TypeId}{mk:List UInt8}
def Bd.step (h:Bd b1 b2 b3 f d sm bs bt ct tt mk p e lim na O M F w) (A:DS w d F D N) (u:Upd F w w') (hF:∀k,F' k->F k\/w.heap.size<=k):Bd b1 b2 b3 f d sm bs bt ct tt mk p e lim na O M F' w':=by
 obtain ⟨v,hv⟩:=h.n2;obtain ⟨cs,c1,c2,c3⟩:=h.nf;(have nn:∀{k o},w.heap[k]?=some o->¬F k->¬F' k:=λ{k o} hk hn hh=>(hF _ hh).elim hn λhl=>by have:=lt_of_heap hk;omega);exact ⟨u.get h.n1 h.x1,⟨v,u.get hv h.x2⟩,u.get h.n3 h.x3,⟨cs,u.get c1 h.xf,c2,c3⟩,u.get h.nt h.xt,nn h.n3 h.x3,nn c1 h.xf,nn h.nt h.xt,nn h.n1 h.x1,nn hv h.x2,h.tt2,h.nz,h.txt.upd u (λk hk=>(h.xO k hk).1) (A.no λ_=>rfl),
  λk hk=>⟨λhh=>(hF _ hh).elim (h.xO k hk).1 λhl=>by have:=h.txt.own k hk;omega,(h.xO k hk).2⟩,h.mk_.upd u h.xm,λk hk hh=>(hF _ hh).elim (h.xm k hk) λhl=>by have:=h.mk_.Ci hk;omega,h.laid.upd u A.no0⟩
def Bd.ext (h:Bd b1 b2 b3 f d sm bs bt ct tt mk p e lim na O M F w) (A:DS w d F D N) (u:Ext w w'):Bd b1 b2 b3 f d sm bs bt ct tt mk p e lim na O M F w':=h.step A (Upd.Ae u) λk hk=>.inl hk
def Bd.err (h:Bd b1 b2 b3 f d sm bs bt ct tt mk p e lim na O M F w) (u:Upd (λk=>k=b2) w w'){v:Value}(hv:w'.heap[b2]?=some (.cells #[v] 26 (0,0))):Bd b1 b2 b3 f d sm bs bt ct tt mk p e lim na O M F w':=by
 obtain ⟨v0,h0⟩:=h.n2;obtain ⟨cs,c1,c2,c3⟩:=h.nf;exact ⟨u.En h.n1 (λhh=>by have:=h.n1;rw [hh,h0] at this;cases this),⟨v,hv⟩,u.En h.n3 (λhh=>by have:=h.n3;rw [hh,h0] at this;cases this),⟨cs,u.En c1 (λhh=>by rw [hh,h0] at c1;cases c1),c2,c3⟩,u.En h.nt h.tt2,h.x3,h.xf,h.xt,h.x1,h.x2,h.tt2,h.nz,
  h.txt.upd u (λk hk hh=>(h.xO k hk).2 hh) (Et.box h0 (by decide)),h.xO,h.mk_.upd u (λk hk hh=>by obtain ⟨c,fr,hc⟩:=h.mk_.Bf hk;rw [hh,h0] at hc;cases hc),h.xm,h.laid.upd u λhh=>h.nz hh.symm⟩
def Bd.Cs4 (h:Bd b1 b2 b3 f d sm bs bt ct tt mk p e lim na O M F w) (A:DS w d F D N){v:Value}{er:Int}{D':Dk}{N':Nat}(hv:Hz w' v er) (A':DS w' d F' D' N') (u:Upd F w w') (hF:∀k,F' k->F k\/w.heap.size<=k){K:World->Prop}
  (hK:∀w'',Bd b1 b2 b3 f d sm bs bt ct tt mk p e lim na O M F' w''->DS w'' d F' D' N'->w''.heap[b2]?=some (.cells #[v] 26 (0,0))->Hz w'' v er->Upd (λk=>F k\/k=b2) w w''->Upd (λk=>k=b2) w' w''->K w''):chk (Eb v=true) (stC (at0 b2) v K) w':=by have h':=h.step A u hF;obtain ⟨v0,h0⟩:=h'.n2;refine Ea hv.one (Dj h0 Nat.one_pos λw2 u2 n2 _=>?_);have n2:w2.heap[b2]?=some (.cells #[v] 26 (0,0)):=n2;exact hK w2 (h'.err u2 n2) (A'.frame u2 λk hk hh=>h'.x2 (hh▸hk)) n2 (hv.upd u2 (Et.box h0 (by decide))) ((u.mono λk _ hk=>.inl hk).trans (u2.mono λk _ hk=>.inr hk)) u2
def Bd.put (h:Bd b1 b2 b3 f d sm bs bt ct tt mk p e lim na O M F w) (A:DS w d F D N){v:Value}{er:Int}{D':Dk}{N':Nat}(hv:Hz w' v er) (A':DS w' d F' D' N') (u:Upd F w w') (hF:∀k,F' k->F k\/w.heap.size<=k){K:World->Prop}
  (hK:∀w'',Bd b1 b2 b3 f d sm bs bt ct tt mk p e lim na O M F' w''->DS w'' d F' D' N'->w''.heap[b2]?=some (.cells #[v] 26 (0,0))->Hz w'' v er->Upd (λk=>F k\/k=b2) w w''->K w''):chk (Eb v=true) (stC (at0 b2) v K) w' :=
 h.Cs4 A hv A' u hF λw'' a b c d e _=>hK w'' a b c d e
def Ci8 (h:Bd b1 b2 b3 f d sm bs bt ct tt mk p e lim na O M F w) (A:DS w d F D N) (hN:N+2<=2^30){v:Value}{er:Int}{t:Stm}(hv:Hz w v er) (n2:w.heap[b2]?=some (.cells #[v] 26 (0,0))){K:Value->Wp}
  (hK:∀F' w',Hz w' v er->DS w' d F' (clean D bs er t).1 (N+2)->Upd F w w'->(∀k,F' k->F k\/w.heap.size<=k)->K v w') :
  Xk prog { target:=.fn (.func 136) #[dU b2,dU b1,dU b3],args:=#[]++#[] } (ld .any (at0 b2) K) w:=by refine Ah7 ?_;unfold F136;unfold clean at hK;refine Af n2 (x:=v) rfl (hv.Qo (Ac (λhe=>?_) λhe=>?_));{have he:=jY he;rw [iP he] at hK;obtain ⟨cs,c1,c2,_⟩:=h.nf;refine Az λw1 e1 _=>Af (e1.ext_get h.n1) (x:=some (at0 f)) rfl (Ad (Af (e1.ext_get c1) (off:=0) (x:=some (at0 d)) c2 (Af (e1.ext_get h.n3) (x:=bs) rfl ?_)));refine Aa2 (A.ext e1) hN λF' w2 v' _ A2 u2 hF2=>?_;have hz:=e1.size;exact Af (u2.get (e1.ext_get n2) h.x2) (x:=v) rfl (hK F' w2 ((hv.ext e1).upd u2 ((A.ext e1).no λ_=>rfl)) A2 ((Upd.Ae e1).trans u2) λk hk=>(hF2 k hk).imp id λhh=>by omega)};{(have he:er=0:=by have:=sK he;omega);rw [iK he] at hK;exact Af n2 (x:=v) rfl (hK F w hv (A.mono (by omega)) (Upd.refl _ _) λk hk=>.inl hk)}
end
end Dq
end
section
namespace Dq
open Go Go.Vx Dsk Cdc Trx
section
variable {w w':World}{S F F':Nat->Prop}{d:Nat}{D:Dk}{N:Nat}{p:Nat}{e:Enc}{lim na:Nat}{O:Nat->Prop}{M:Parts}
variable {b1 b2 b3 f:Nat}{sm:Sl}{bs:Nm}{bt ot:Nat}{ct:Array Value}{tt:TypeId}{mk:List UInt8}
def O7:∀(vs:List Value) (c:Array Value) (o:Nat),(∀i v,vs[i]?=some v->c[o+i]?=some v)->setRow c o vs=c
 |[],_,_,_=>rfl
 | v::r,c,o,h=>by
  have h0:=h 0 v rfl
  have e:c.setIfInBounds o v=c:=by
   refine Array.ext (by simp) λi h1 h2=>?_
   rw [Array.getElem_setIfInBounds]
   split
   ·rename_i hh
    subst hh
    have:=pI h2
    rw [Nat.add_zero] at h0
    rw [this] at h0
    exact (sW h0).symm
   ·rfl
  show setRow (c.setIfInBounds o v) (o+1) r=c
  rw [e]
  exact O7 r c (o+1) λi u hu=>by have:=h (i+1) u hu;rwa [show o+(i+1)=o+1+i by omega] at this
def Bd.tried (h:Bd b1 b2 b3 f d sm bs bt ct tt mk p e lim na O M F w) (u:Upd (λk=>k=bt) w w'){ct':Array Value}(hn:w'.heap[bt]?=some (.cells ct' tt (0,0))) (hc:bt=f->ct'[0]?=ct[0]?/\ct'[2]?=ct[2]?) (h1:bt≠b1) (h3:bt≠b3) (hO:¬O bt) (hs:¬sm.blk bt) (h0:bt≠0) (hN:tt≠186):Bd b1 b2 b3 f d sm bs bt ct' tt mk p e lim na O M F w':=by obtain ⟨v0,hv0⟩:=h.n2;obtain ⟨cs,c1,c2,c3⟩:=h.nf;refine ⟨u.En h.n1 h1.symm,⟨v0,u.En hv0 h.tt2.symm⟩,u.En h.n3 h3.symm,?_,hn,h.x3,h.xf,h.xt,h.x1,h.x2,h.tt2,h.nz,h.txt.upd u (λk hk hh=>hO (hh▸hk)) (Et.box h.nt hN),h.xO,h.mk_.upd u (λk hk hh=>hs (hh▸hk)),h.xm,h.laid.upd u λhh=>h0 hh.symm⟩;by_cases hbf:bt=f;{have hnt:=h.nt;rw [hbf,c1] at hnt;cases hnt;rw [hbf] at hn;obtain ⟨g1,g2⟩:=hc hbf;exact ⟨ct',hn,by rw [g1];exact c2,by rw [g2];exact c3⟩};{exact ⟨cs,u.En c1 (Ne.symm hbf),c2,c3⟩}
def Bd.rd (h:Bd b1 b2 b3 f d sm bs bt ct tt mk p e lim na O M F w){K:xM->ByteArray->Wp}(hK:∀w1,Ext w w1->K (some (at0 d)) bs w1) :
  drew (ld (.ptr) (at0 b1) λx=>nn x λq=>ld (.ptr) q λy=>ld (.str) (at0 b3) λz=>K y z) w:=by obtain ⟨csx,q1,q2,q3⟩:=h.nf;exact Az λw5 e5 _=>Af (e5.ext_get h.n1) (x:=some (at0 f)) rfl (Ad (Af (e5.ext_get q1) (off:=0) (x:=some (at0 d)) q2 (Af (e5.ext_get h.n3) (x:=bs) rfl (hK w5 e5))))
def Bd.rd4 (h:Bd b1 b2 b3 f d sm bs bt ct tt mk p e lim na O M F w){K:xM->Addr->xM->ByteArray->Wp}(hK:∀w1,Ext w w1->K (some (at0 f)) (at0 f) (some (at0 d)) bs w1) :
  drew (ld (.ptr) (at0 b1) λx=>nn x λq=>ld (.ptr) q λy=>ld (.str) (at0 b3) λz=>K x q y z) w:=by obtain ⟨csx,q1,q2,q3⟩:=h.nf;exact Az λw5 e5 _=>Af (e5.ext_get h.n1) (x:=some (at0 f)) rfl (Ad (Af (e5.ext_get q1) (off:=0) (x:=some (at0 d)) q2 (Af (e5.ext_get h.n3) (x:=bs) rfl (hK w5 e5))))
def Ci7 {n:Nm}{b:List UInt8}{t:Stm}(h:(Ec D (side n)).2≠0):Hl D n b t=clean (Ec D (side n)).1 (side n) (Ec D (side n)).2 t:=by unfold Hl;simp only [iK h]
def Ci6 {n:Nm}{b:List UInt8}{t:Stm}(h:(Ec D (side n)).2=0) (h2:(Fe (side n) b (Ec D (side n)).1).2≠0):Hl D n b t=clean (Fe (side n) b (Ec D (side n)).1).1 (side n) (Fe (side n) b (Ec D (side n)).1).2 t:=by unfold Hl Fe at *;simp only [h,ne_eq,vY,kU,iK h2]
def Ci5 {n:Nm}{b:List UInt8}{t:Stm}(h:(Ec D (side n)).2=0) (h2:(Fe (side n) b (Ec D (side n)).1).2=0) (h3:(Ef (Fe (side n) b (Ec D (side n)).1).1 (side n)).2.1≠0) :
  Hl D n b t=clean (Ef (Fe (side n) b (Ec D (side n)).1).1 (side n)).1 (side n) (Ef (Fe (side n) b (Ec D (side n)).1).1 (side n)).2.1 t:=by unfold Hl Fe at *;simp only [h,h2,ne_eq,vY,kU,iK h3]
def Ci4 {n:Nm}{b:List UInt8}{t:Stm}(h:(Ec D (side n)).2=0) (h2:(Fe (side n) b (Ec D (side n)).1).2=0) (h3:(Ef (Fe (side n) b (Ec D (side n)).1).1 (side n)).2.1=0)
  (h4:(Aj (Ef (Fe (side n) b (Ec D (side n)).1).1 (side n)).1 (side n)).2.1≠0) :
  Hl D n b t=clean (Aj (Ef (Fe (side n) b (Ec D (side n)).1).1 (side n)).1 (side n)).1 (side n) (Aj (Ef (Fe (side n) b (Ec D (side n)).1).1 (side n)).1 (side n)).2.1 t:=by unfold Hl Fe at *;simp only [h,h2,h3,ne_eq,vY,kU,iK h4]
def Bk1 {n:Nm}{b:List UInt8}{t:Stm}(h:(Ec D (side n)).2=0) (h2:(Fe (side n) b (Ec D (side n)).1).2=0) (h3:(Ef (Fe (side n) b (Ec D (side n)).1).1 (side n)).2.1=0)
  (h4:(Aj (Ef (Fe (side n) b (Ec D (side n)).1).1 (side n)).1 (side n)).2.1=0) :
  Hl D n b t=clean (Dc (Aj (Ef (Fe (side n) b (Ec D (side n)).1).1 (side n)).1 (side n)).1 (side n) n).1 (side n) (Dc (Aj (Ef (Fe (side n) b (Ec D (side n)).1).1 (side n)).1 (side n)).1 (side n) n).2.1 (Aj (Ef (Fe (side n) b (Ec D (side n)).1).1 (side n)).1 (side n)).2.2:=by unfold Hl Fe at *;simp only [h,h2,h3,h4,ne_eq,vY,kU]
def Yj (A:DS w d F D N) (hN:N+6000<=2^30) (h:Txt w p e lim na O M) (hO:∀k,O k->¬F k){cs:Array Value}(hf:w.heap[f]?=some (.cells cs 110 (0,0))) (c0:cs[0]?=some (.pointer (some (at0 d)))) (c2:cs[2]?=some (.slice sm.a sm.len sm.cap)) (hfF:¬F f)
  (hm:By w sm mk) (hmF:∀k,sm.blk k->¬F k) (hml:mk.length<1024) (hl:Jc w) (hbt:w.heap[bt]?=some (.cells ct tt (0,0))) (hot:ot+3<=ct.size) (hbtf:bt=f->3<=ot) (hbtF:¬F bt) (hbtO:¬O bt) (hbts:¬sm.blk bt) (hbt0:bt≠0) (hbtn:tt≠186)
  {t:Stm} (ht:∀i v,(Cells.vals c57 (stT t))[i]?=some v->ct[ot+i]?=some v) {n:Nm} (hn:n.size<=2^40) {K:Value->Wp}
  (hK:∀F' w' v,Hz w' v (Hl D n (mk++bOf M) t).2.1->DS w' d F' (Hl D n (mk++bOf M) t).1 (N+5000)->Upd (λk=>F k\/k=bt) w w'->(∀k,F' k->F k\/w.heap.size<=k) ->
   w'.heap[bt]?=some (.cells (setRow ct ot (Cells.vals c57 (stT (Hl D n (mk++bOf M) t).2.2))) tt (0,0))->K v w') :
  Aa prog 97 #[dU f,.string n,dU p,.pointer (some ⟨bt,ot,none⟩)] (.one (.one .any)) K w:=by
 refine j97 ?_;unfold F97;have hAlt:=A.lt;have lbt:=lt_of_heap hbt;have lf:=lt_of_heap hf;obtain ⟨T,hT⟩:∃T,T=mk++bOf M:=⟨_,rfl⟩;rw [←hT] at hK;have hw0:0<w.heap.size:=A.pos;refine Ag λb1 w1 e1 n1 hb1 hz1=>Ag λb2 w2 e2 n2 hb2 hz2=>Ea ?_ (Ag λb3 w3 e3 n3 hb3 hz3=>Dj n3 Nat.one_pos λw4 u4 n4 hz4=>?_);{have:(ByteArray.size ({ data:=#[126] }:ByteArray))=1:=rfl;rw [this,show IntKind.max .i64=9223372036854775807 by decide];omega};obtain ⟨bs,hbs⟩:∃bs,bs=side n:=⟨_,rfl⟩;(have n4:w4.heap[b3]?=some (.cells #[.string bs] 9 (0,0)):=by rw [hbs,←Bj8 n];exact n4);have e24:Ext w2 w4:=e3.step u4 λk hk=>(by omega);have e04:Ext w w4:=(e1.trans e2).trans e24;have hz04:=e04.size;have A4:=A.ext e04;have B4:Bd b1 b2 b3 f d sm bs bt ct tt mk p e lim na O M F w4:=by
  refine ⟨(e2.trans e24).ext_get n1,⟨_,e24.ext_get n2⟩,n4,⟨cs,e04.ext_get hf,c0,c2⟩,e04.ext_get hbt,λhh=>?_,hfF,hbtF,λhh=>?_,λhh=>?_,by omega,by omega,h.ext e04,λk hk=>⟨hO k hk,?_⟩,hm.ext e04,hmF,hl.ext e04⟩
  ·have:=hAlt _ hh;omega
  ·have:=hAlt _ hh;omega
  ·have:=hAlt _ hh;omega
  ·have:=h.own k hk;omega
 have hct:setRow ct ot (Cells.vals c57 (stT t))=ct:=O7 _ _ _ ht;have fin:∀(W:World) (F1:Nat->Prop) (D1:Dk) (N1:Nat) (ct1:Array Value) (v:Value) (er:Int) (t1:Stm),Bd b1 b2 b3 f d sm bs bt ct1 tt mk p e lim na O M F1 W->DS W d F1 D1 N1->N1+2<=N+5000->Hz W v er->W.heap[b2]?=some (.cells #[v] 26 (0,0))->Upd (λk=>F k\/(k=b2\/k=bt)) w4 W->(∀k,F1 k->F k\/w4.heap.size<=k) ->
   ct1=setRow ct ot (Cells.vals c57 (stT t1))->Hl D n T t=clean D1 bs er t1->Xk prog { target:=.fn (.func 136) #[dU b2,dU b1,dU b3],args:=#[]++#[] } (ld .any (at0 b2) K) W:=by
  intro W F1 D1 N1 ct1 v er t1 B1 A1 hN1 hv hn2 U hF1 hct1 hrep
  refine Ci8 (t:=t1) B1 A1 (by omega) hv hn2 λF' w' hv' A' u' hF'=>?_
  have e1:(clean D1 bs er t1).2.1=er:=by unfold clean;split<;>rfl
  have e2:(clean D1 bs er t1).2.2=t1:=by unfold clean;split<;>rfl
  have zz:=U.size
  refine hK F' w' v (by rw [hrep,e1];exact hv') (by rw [hrep];exact A'.mono hN1) ?_ (λk hk=>?_) ?_
  ·exact Upd.new (Upd.Ae e04) ((U.new u' λk hk hh=>(hF1 k hh).imp id λh'=>by omega)) λk hk hh=>by
    rcases hh with hh|hh|hh
    ·exact .inl hh
    ·omega
    ·exact .inr hh
  ·rcases hF' k hk with hh|hh
   ·exact (hF1 k hh).imp id λh'=>by omega
   ·exact .inr (by omega)
  ·rw [hrep,e2,←hct1]
   exact u'.get B1.nt B1.xt
 have UE:∀{W W':World} {F1:Nat->Prop},Upd (λk=>F k\/(k=b2\/k=bt)) w4 W->(∀k,F1 k->F k\/w4.heap.size<=k)->Upd (λk=>F1 k\/k=b2) W W'->Upd (λk=>F k\/(k=b2\/k=bt)) w4 W':=λ{W W' F1} U hF1 u=>U.new u λk hk hh=>by
  rcases hh with hh|hh
  ·exact (hF1 k hh).imp id λh'=>by omega
  ·exact .inr (.inl hh)
 have FE:∀{W:World} {F1 F2:Nat->Prop},Upd (λk=>F k\/(k=b2\/k=bt)) w4 W->(∀k,F1 k->F k\/w4.heap.size<=k)->(∀k,F2 k->F1 k\/W.heap.size<=k)->∀k,F2 k->F k\/w4.heap.size<=k:=λ{W F1 F2} U h1 h2 k hk=>by
  have:=U.size
  rcases h2 k hk with hh|hh
  ·exact h1 k hh
  ·exact .inr (by omega)
 have fail:∀(W:World) (F1:Nat->Prop) (D1:Dk) (N1:Nat) (v:Value) (er:Int),Bd b1 b2 b3 f d sm bs bt ct tt mk p e lim na O M F1 W->DS W d F1 D1 N1->N1+2<=N+5000->Hz W v er->W.heap[b2]?=some (.cells #[v] 26 (0,0))->Upd (λk=>F k\/(k=b2\/k=bt)) w4 W->(∀k,F1 k->F k\/w4.heap.size<=k) ->
   Hl D n T t=clean D1 bs er t->(ld .any (at0 b2) λx=>chk (Eb x=true)<|stC (at0 b2) x<|Xk prog { target:=.fn (.func 136) #[dU b2,dU b1,dU b3],args:=#[]++#[] } (ld .any (at0 b2) K)) W:=by
  intro W F1 D1 N1 v er B1 A1 hN1 hv hn2 U hF1 hrep
  refine Af hn2 (x:=v) rfl (Ea hv.one (Dj hn2 Nat.one_pos λW2 u2 n2 _=>?_))
  exact fin W2 F1 D1 N1 ct v er t (B1.err u2 n2) (A1.frame u2 λk hk hh=>B1.x2 (hh▸hk)) hN1 (hv.upd u2 (Et.box hn2 (by decide))) n2 (U.trans (u2.mono λk _ hk=>.inr (.inl hk))) hF1 hct.symm hrep
 have U0:Upd (λk=>F k\/(k=b2\/k=bt)) w4 w4:=Upd.refl _ _;refine B4.rd λw5 e5=>Cp0 (A4.ext e5) (by omega) λF6 w6 v6 hv6 A6 u6 hF6=>(B4.ext A4 e5).put (A4.ext e5) hv6 A6 u6 hF6 λw7 B7 A7 n7 hv7 U7=>?_;have U5:Upd (λk=>F k\/(k=b2\/k=bt)) w4 w5:=Upd.Ae e5;have V7:=UE U5 (λk hk=>.inl hk) U7;have G6:=FE U5 (λk hk=>.inl hk) hF6;have hbp:Ec D bs=if (Bz D bs).2.1=163 then (if (Au (Bz D bs).1 bs).2.1=0 then ((Bz (Au (Bz D bs).1 bs).1 bs).1,(Bz (Au (Bz D bs).1 bs).1 bs).2.1) else ((Au (Bz D bs).1 bs).1,(Au (Bz D bs).1 bs).2.1)) else ((Bz D bs).1,(Bz D bs).2.1):=rfl;refine Ai (λ_ W=>∃F1 v,Bd b1 b2 b3 f d sm bs bt ct tt mk p e lim na O M F1 W/\DS W d F1 (Ec D bs).1 (N+6)/\W.heap[b2]?=some (.cells #[v] 26 (0,0))/\Hz W v (Ec D bs).2/\Upd (λk=>F k\/(k=b2\/k=bt)) w4 W/\∀k,F1 k->F k\/w4.heap.size<=k) ?_ ?_
 ·refine Af n7 (x:=v6) rfl (Ti hv7 (by decide) (Ac (λh163=>?_) λh163=>?_))
  ·have h163:=jY h163;rw [iK h163] at hbp;refine B7.rd λw8 e8=>Aa2 (A7.ext e8) (by omega) λF9 w9 v9 hv9 A9 u9 hF9=>(B7.ext A7 e8).put (A7.ext e8) hv9 A9 u9 hF9 λw10 B10 A10 n10 hv10 U10=>Af n10 (x:=v9) rfl (hv10.Yy (Ac (λh0=>?_) λh0=>?_));all_goals
    have V8:=V7.trans (S:=λk=>F k\/(k=b2\/k=bt)) (Upd.Ae e8)
    have V10:=UE V8 G6 U10
    have G9:=FE V8 G6 hF9
   {have h0:=jY h0;rw [iK h0] at hbp;refine B10.rd λw11 e11=>Cp0 (A10.ext e11) (by omega) λF12 w12 v12 hv12 A12 u12 hF12=>(B10.ext A10 e11).put (A10.ext e11) hv12 A12 u12 hF12 λw13 B13 A13 n13 hv13 U13=>?_;have V11:=V10.trans (S:=λk=>F k\/(k=b2\/k=bt)) (Upd.Ae e11);exact ⟨F12,v12,B13,by rw [hbp];exact A13,n13,by rw [hbp];exact hv13,UE V11 G9 U13,FE V11 G9 hF12⟩};{have h0:=sK h0;rw [iP h0] at hbp;exact ⟨F9,v9,B10,by rw [hbp];exact A10.mono (by omega),n10,by rw [hbp];exact hv10,V10,G9⟩}
  {have h163:=sK h163;rw [iP h163] at hbp;exact ⟨F6,v6,B7,by rw [hbp];exact A7.mono (by omega),n7,by rw [hbp];exact hv7,V7,G6⟩}
 clear hbp V7 G6 B7 A7 n7 hv7 U7 hv6 A6 u6 hF6;rintro _ W1 ⟨F1,v1,B1,A1,n1',hv1,V1,G1⟩;refine Af n1' (x:=v1) rfl (hv1.Qo (Ac (λhe=>?_) λhe=>?_));{have he:=jY he;exact fail W1 F1 _ _ v1 _ B1 A1 (by omega) hv1 n1' V1 G1 (by rw [hbs] at he ⊢;exact Ci7 he)};(have hb0:(Ec D bs).2=0:=by have:=sK he;omega);obtain ⟨csx,q1,q2,q3⟩:=B1.nf;refine Af B1.n1 (x:=some (at0 f)) rfl (Af B1.n3 (x:=bs) rfl (Bs4 A1 (by omega) B1.txt (λk hk=>(B1.xO k hk).1) q1 q2 q3 B1.xf B1.mk_.x hml λF2 w2 v2 hv2 A2 u2 hF2=>?_));rw [←hT] at hv2 A2;refine B1.put A1 hv2 A2 u2 hF2 λW2 B2 A2 n2' hv2 U2=>?_;have V2:=UE V1 G1 U2;have G2:=FE V1 G1 hF2;refine Af n2' (x:=v2) rfl (hv2.Qo (Ac (λhe=>?_) λhe=>?_));{have he:=jY he;exact fail W2 F2 _ _ v2 _ B2 A2 (by omega) hv2 n2' V2 G2 (by rw [hbs] at he hb0 ⊢;exact Ci6 hb0 he)};(have hf0:(Fe bs T (Ec D bs).1).2=0:=by have:=sK he;omega);refine B2.rd λw3 e3=>Cw4 (A2.ext e3) (by omega) λF3 w3' v3 hv3 A3 u3 hF3=>(B2.ext A2 e3).put (A2.ext e3) hv3 A3 u3 hF3 λW3 B3 A3 n3' hv3 U3=>?_;have V2':=V2.trans (S:=λk=>F k\/(k=b2\/k=bt)) (Upd.Ae e3);have V3:=UE V2' G2 U3;have G3:=FE V2' G2 hF3;refine Af n3' (x:=v3) rfl (hv3.Qo (Ac (λhe=>?_) λhe=>?_));{have he:=jY he;exact fail W3 F3 _ _ v3 _ B3 A3 (by omega) hv3 n3' V3 G3 (by rw [hbs] at he hb0 hf0 ⊢;exact Ci5 hb0 hf0 he)};(have hs0:(Ef (Fe bs T (Ec D bs).1).1 bs).2.1=0:=by have:=sK he;omega);obtain ⟨D3,hD3⟩:∃D3,D3=(Ef (Fe bs T (Ec D bs).1).1 bs).1:=⟨_,rfl⟩;rw [←hD3] at A3;refine Ai (λs W=>∃bS F4 v4,s=(at0 bS,())/\W.heap[bS]?=some (.cells (Cells.vals c57 (stT (Aj D3 bs).2.2)).toArray 57 (0,0))/\Bd b1 b2 b3 f d sm bs bt ct tt mk p e lim na O M F4 W/\DS W d F4 (Aj D3 bs).1 (N+6+4000+2+2)/\W.heap[b2]?=some (.cells #[v4] 26 (0,0))/\Hz W v4 (Aj D3 bs).2.1/\Upd (λk=>F k\/(k=b2\/k=bt)) w4 W/\∀k,F4 k->F k\/w4.heap.size<=k) ?_ ?_;{refine B3.rd4 λw5' e5'=>?_;have V3':=V3.trans (S:=λk=>F k\/(k=b2\/k=bt)) (Upd.Ae e5');have A5':=A3.ext e5';have B5':=B3.ext A3 e5';obtain ⟨csy,r1,r2,r3⟩:=B5'.nf;(have b2lt:b2<w5'.heap.size:=by obtain ⟨v0,h0⟩:=B5'.n2;exact lt_of_heap h0);refine ⟨?_,?_⟩;{refine Ag λb51 w6 e6 n6 hb6 hz6=>Bc (cell_of (off:=0) (e6.ext_get B5'.n3) rfl) (Bc (cell_of (off:=0) (e6.ext_get r1) r2) (Bc (cell_of (off:=0) (e6.ext_get B5'.n1) rfl) ?_));refine Uz (A5'.ext e6) (by omega) λF7 w7 v7 hv7 A7 u7 hF7=>?_;(have hn51:¬F3 b51:=λhh=>by have:=A5'.lt _ hh;omega);refine Ba (u7.get n6 hn51) rfl rfl (by decide) λw8 u8 n8 hz8=>?_;have n8:w8.heap[b51]?=some (.cells (Cells.vals c57 (stT (Aj D3 bs).2.2)).toArray 57 (0,0)):=n8;have hf7:¬F7 b51:=λhh=>(hF7 _ hh).elim hn51 λh'=>(by omega);have hz7:=u7.size;exact B5'.Cs4 A5' (hv7.upd u8 (Et.box (u7.get n6 hn51) (by decide))) (A7.frame u8 λk hk hh=>hf7 (hh▸hk)) (((Upd.Ae e6).trans u7).new u8 λk hk hh=>by omega) (λk hk=>(hF7 k hk).imp id λh'=>by omega) λW9 B9 A9 n9 hv9 U9 u9=>⟨b51,F7,v7,rfl,u9.En n8 (by omega),B9,A9,n9,hv9,UE V3' G3 U9,FE V3' G3 λk hk=>(hF7 k hk).imp id λh'=>by omega⟩};{refine Uz A5' (by omega) λF7 w7 v7 hv7 A7 u7 hF7=>⟨?_,trivial⟩;have hz7:=u7.size;refine Ag λb51 w8 e8 n8 hb8 hz8=>Bc (cell_of (off:=0) (e8.ext_get (u7.get B5'.n3 B5'.x3)) rfl) (Bc (cell_of (off:=0) (e8.ext_get (u7.get r1 B5'.xf)) r2) (Bc (cell_of (off:=0) (e8.ext_get (u7.get B5'.n1 B5'.x1)) rfl) ?_));(have hf7:¬F7 b51:=λhh=>by have:=A7.lt _ hh;omega);refine Ba n8 rfl rfl (by decide) λw9 u9 n9 hz9=>?_;have n9:w9.heap[b51]?=some (.cells (Cells.vals c57 (stT (Aj D3 bs).2.2)).toArray 57 (0,0)):=n9;exact B5'.Cs4 A5' ((hv7.ext e8).upd u9 (Et.box n8 (by decide))) ((A7.ext e8).frame u9 λk hk hh=>hf7 (hh▸hk)) ((u7.trans (Upd.Ae e8)).new u9 λk hk hh=>by omega) (λk hk=>(hF7 k hk).imp id λh'=>by omega) λW9 B9 A9 n9' hv9 U9 u9'=>⟨b51,F7,v7,rfl,u9'.En n9 (by omega),B9,A9,n9',hv9,UE V3' G3 U9,FE V3' G3 λk hk=>(hF7 k hk).imp id λh'=>by omega⟩}};{rintro _ W4 ⟨bS,F4,v4,rfl,nS,B4',A4',n4',hv4,V4,G4⟩;refine Af n4' (x:=v4) rfl (hv4.Qo (Ac (λhe=>?_) λhe=>?_));{have he:=jY he;rw [hD3] at A4' hv4 he;exact fail W4 F4 _ _ v4 _ B4' A4' (by omega) hv4 n4' V4 G4 (by rw [hbs] at he hb0 hf0 hs0 ⊢;exact Ci4 hb0 hf0 hs0 he)};(have hst0:(Aj D3 bs).2.1=0:=by have:=sK he;omega);refine Dp (x:=stT (Aj D3 bs).2.2) nS (λi v hv=>by rw [kY,←kQ];exact hv) (Ad (Ba B4'.nt rfl rfl hot λW5 u5 n5 hz5=>?_));have n5:W5.heap[bt]?=some (.cells (setRow ct ot (Cells.vals c57 (stT (Aj D3 bs).2.2))) tt (0,0)):=n5;have B5:=B4'.tried u5 n5 (λhh=>by have:=hbtf hh;exact ⟨Gi _ _ _ _ (by omega),Gi _ _ _ _ (by omega)⟩) (by omega) (by omega) hbtO hbts hbt0 hbtn;have A5:=A4'.frame u5 λk hk hh=>B4'.xt (hh▸hk);have V5:=V4.trans (S:=λk=>F k\/(k=b2\/k=bt)) (u5.mono λk _ hk=>.inr (.inr hk));have G4':∀k,F4 k->F k\/w4.heap.size<=k:=G4;refine B5.rd λw6 e6=>Bk3 (A5.ext e6) (by omega) λF7 w7 v7 hv7 A7 u7 hF7=>(B5.ext A5 e6).put (A5.ext e6) hv7 A7 u7 hF7 λW8 B8 A8 n8 hv8 U8=>?_;have V6:=V5.trans (S:=λk=>F k\/(k=b2\/k=bt)) (Upd.Ae e6);rw [hD3] at A8 hv8 hst0;refine fin W8 F7 _ _ _ v7 _ (Aj D3 bs).2.2 B8 A8 (by omega) hv8 n8 (UE V6 G4 U8) (FE V6 G4 hF7) rfl ?_;rw [hD3];rw [hbs] at hb0 hf0 hs0 hst0 ⊢;exact Bk1 hb0 hf0 hs0 hst0}
end
end Dq
end
section
namespace Dq
open Go Go.Vx Dsk Cdc Trx
abbrev Gg (d:Nat) (X:Fil) (sm:Sl):Array Value:=#[dU d,.string X.name,.slice sm.a sm.len sm.cap,.int .i64 X.known.1,.int .i64 X.known.2.1,.int .i64 X.known.2.2,.int .i64 X.tried.1,.int .i64 X.tried.2.1,.int .i64 X.tried.2.2]
structure Oh (w:World) (f d:Nat) (X:Fil) (sm:Sl):Prop where
 box:w.heap[f]?=some (.cells (Gg d X sm) 110 (0,0))
 mkr:By w sm X.mark
section
variable {w w':World}{S F F':Nat->Prop}{d:Nat}{D:Dk}{N:Nat}{p:Nat}{e:Enc}{lim na:Nat}{O:Nat->Prop}{M:Parts}{f:Nat}{X:Fil}{sm:Sl}
def Oh.upd (h:Oh w f d X sm) (u:Upd S w w') (h1:¬S f) (h2:∀k,sm.blk k->¬S k):Oh w' f d X sm:=⟨u.get h.box h1,h.mkr.upd u h2⟩
def Oh.ext (h:Oh w f d X sm) (u:Ext w w'):Oh w' f d X sm:=h.upd u id λ_ _=>id
def Oh.Cb6 (h:Oh w f d X sm):¬sm.blk f:=λhh=>by obtain ⟨c,fr,hc⟩:=h.mkr.Bf hh;rw [h.box] at hc;cases hc
def Oh.set (h:Oh w f d X sm) (u:Upd (λk=>k=f) w w'){Y:Fil}(hb:w'.heap[f]?=some (.cells (Gg d Y sm) 110 (0,0))) (hm:Y.mark=X.mark):Oh w' f d Y sm :=
 ⟨hb,by rw [hm];exact h.mkr.upd u λk hk hh=>h.Cb6 (hh▸hk)⟩
def Ax5 (i:Nat) (v:Value) (h:(Cells.vals c57 (stT X.known))[i]?=some v):(Gg d X sm)[3+i]?=some v:=by
 match i,h with
 |0,h=>exact h
 |1,h=>exact h
 |2,h=>exact h
 |i+3,h=>cases h
def Ac3 (i:Nat) (v:Value) (h:(Cells.vals c57 (stT X.tried))[i]?=some v):(Gg d X sm)[6+i]?=some v:=by
 match i,h with
 |0,h=>exact h
 |1,h=>exact h
 |2,h=>exact h
 |i+3,h=>cases h
def Oz {s:Stm}(i:Nat) (v:Value) (h:(Cells.vals c57 (stT s))[i]?=some v):(Cells.vals c57 (stT s)).toArray[0+i]?=some v:=by rw [kY,←kQ];exact h
def Bp3 (s:Stm):setRow (Gg d X sm) 6 (Cells.vals c57 (stT s))=Gg d { X with tried:=s } sm:=rfl
def Ay1 (h:Oh w f d X sm){K:bC->Wp}(hK:iF w (K (stT X.known))):Aa prog 31 #[dU f] (.one (.agg c57)) K w:=by refine j31 ?_;unfold F31;refine Ag λb w1 e1 n1 hb hz=>Ad ?_;rw [addr_add];refine Dp (x:=stT X.known) (e1.ext_get h.box) (λi v hv=>Ax5 i v hv) (Ba n1 rfl rfl (by decide) λw2 u2 n2 hz2=>?_);exact Dp (x:=stT X.known) n2 (λi v hv=>Oz i v hv) (hK w2 (e1.step u2 λk hk=>by omega))
structure FS (w:World) (f d:Nat) (X:Fil) (sm:Sl) (F:Nat->Prop):Prop where
 at_:Oh w f d X sm
 nf:¬F f
 nm:∀k,sm.blk k->¬F k
 laid:Jc w
 small:X.mark.length<1024
 name:X.name.size<=2^40
 nz:f≠0
def FS.step (h:FS w f d X sm F) (A:DS w d F D N) (u:Upd F w w') (hF:∀k,F' k->F k\/w.heap.size<=k):FS w' f d X sm F' :=
 ⟨h.at_.upd u h.nf h.nm,λhh=>(hF _ hh).elim h.nf λhl=>by have:=lt_of_heap h.at_.box;omega,λk hk hh=>(hF _ hh).elim (h.nm k hk) λhl=>by have:=h.at_.mkr.Ci hk;omega,h.laid.upd u A.no0,h.small,h.name,h.nz⟩
def FS.ext (h:FS w f d X sm F) (u:Ext w w'):FS w' f d X sm F:=⟨h.at_.ext u,h.nf,h.nm,h.laid.ext u,h.small,h.name,h.nz⟩
def FS.set (h:FS w f d X sm F) (u:Upd (λk=>k=f) w w'){Y:Fil}(hb:w'.heap[f]?=some (.cells (Gg d Y sm) 110 (0,0))) (hm:Y.mark=X.mark) (hn:Y.name=X.name):FS w' f d Y sm F :=
 ⟨h.at_.set u hb hm,h.nf,h.nm,h.laid.upd u λhh=>h.nz hh.symm,by rw [hm];exact h.small,by rw [hn];exact h.name,h.nz⟩
def Ay0 (A:DS w d F D N) (hN:N+6000<=2^30) (h:Txt w p e lim na O M) (hO:∀k,O k->¬F k/\k≠f) (hX:FS w f d X sm F){K:Value->Wp}
  (hK:∀F' w' v,let r:=Fb D X.name (X.mark++bOf M) X.tried X.known
   Hz w' v r.2.1->DS w' d F' r.1 (N+5002)->FS w' f d { X with tried:=r.2.2.1,known:=r.2.2.2 } sm F'->Upd (λk=>F k\/k=f) w w'->(∀k,F' k->F k\/w.heap.size<=k)->K v w') :
  Aa prog 58 #[dU f,.string X.name,dU p,.pointer (some ⟨f,6,none⟩),.pointer (some ⟨f,3,none⟩)] (.one (.one .any)) K w:=by
 refine j58 ?_;unfold F58;refine Yj (t:=X.tried) A hN h (λk hk=>(hO k hk).1) hX.at_.box rfl rfl hX.nf hX.at_.mkr hX.nm hX.small hX.laid hX.at_.box (by show 6+3<=9;decide) (λ_=>by decide) hX.nf (λhh=>(hO f hh).2 rfl) hX.at_.Cb6 hX.nz (by decide) (λi v hv=>Ac3 i v hv) hX.name λF1 w1 v1 hv1 A1 u1 hF1 n1=>?_;obtain ⟨r,hr⟩:∃r,r=Hl D X.name (X.mark++bOf M) X.tried:=⟨_,rfl⟩;rw [←hr] at hv1 A1 n1;rw [Bp3] at n1;(have hw:Fb D X.name (X.mark++bOf M) X.tried X.known=if r.2.1≠0 then (r.1,r.2.1,r.2.2,X.known) else ((Bg r.1).1,(Bg r.1).2.1,r.2.2,r.2.2):=by rw [hr];rfl);have lf:=lt_of_heap hX.at_.box;have X1:FS w1 f d { X with tried:=r.2.2 } sm F1:=by
  refine ⟨⟨n1,hX.at_.mkr.upd u1 λk hk hh=>hh.elim (hX.nm k hk) λh'=>hX.at_.Cb6 (h'▸hk)⟩,λhh=>(hF1 _ hh).elim hX.nf λhl=>by omega,λk hk hh=>(hF1 _ hh).elim (hX.nm k hk) λhl=>by have:=hX.at_.mkr.Ci hk;omega,hX.laid.upd u1 λhh=>hh.elim A.no0 λh'=>hX.nz h'.symm,hX.small,hX.name,hX.nz⟩
 refine hv1.Qo (Ac (λhe=>?_) λhe=>?_);{have he:=jY he;have hk:=hK F1 w1 v1;rw [hw,iK he] at hk;exact hk hv1 (A1.mono (by omega)) X1 u1 hF1};{have he:=sK he;rw [iP he] at hw;have h0:r.2.1=0:=(by omega);refine Ad (Dp (x:=stT r.2.2) X1.at_.box (λi v hv=>Ac3 (X:={ X with tried:=r.2.2 }) i v hv) (Ad (Ba X1.at_.box rfl rfl (by show 3+3<=9;decide) λw2 u2 n2 hz2=>?_)));have n2:w2.heap[f]?=some (.cells (Gg d { X with tried:=r.2.2,known:=r.2.2 } sm) 110 (0,0)):=n2;have X2:FS w2 f d { X with tried:=r.2.2,known:=r.2.2 } sm F1:=X1.set u2 n2 rfl rfl;have A2:=A1.frame u2 λk hk hh=>X1.nf (hh▸hk);refine Ad (Af n2 (off:=0) (x:=some (at0 d)) rfl (Ac6 A2 (by omega) λF3 w3 v3 hv3 A3 u3 hF3=>?_));have hk:=hK F3 w3 v3;rw [hw] at hk;have z2:=u2.size;have z1:=u1.size;refine hk hv3 A3 (X2.step A2 u3 hF3) ?_ λk hk=>?_;{exact (u1.trans (u2.mono λk _ hk=>.inr hk)).new u3 λk hk hh=>by rcases hF1 k hh with h'|h';exact .inl h';omega};{rcases hF3 k hk with hh|hh;{exact hF1 k hh};{exact .inr (by omega)}}}
end
end Dq
end
section
namespace Dq
open Go Go.Vx Dsk Cdc Trx
section
variable {w w':World}{S F F':Nat->Prop}{d:Nat}{D:Dk}{N:Nat}{p:Nat}{e:Enc}{lim na:Nat}{O:Nat->Prop}{M:Parts}{f:Nat}{X:Fil}{sm:Sl}
def Zj (A:DS w d F D N) (hN:N+6010<=2^30) (h:Txt w p e lim na O M) (hO:∀k,O k->¬F k/\k≠f) (hX:FS w f d X sm F){force:Bool}{K:Int->Wp}
  (hK:∀F' w',let r:=Ns D X (bOf M) force
   DS w' d F' r.1 (N+5004)->FS w' f d r.2.2 sm F'->Txt w' p e lim na O M->(∀k,O k->¬F' k/\k≠f)->Upd (λk=>F k\/k=f) w w'->(∀k,F' k->F k\/w.heap.size<=k)->K r.2.1 w') :
  Aa prog 27 #[dU f,dU p,.bool force] rI K w:=by
 refine j27 ?_;unfold F27;obtain ⟨s,hs⟩:∃s,s=Aj D X.name:=⟨_,rfl⟩;have hAlt:=A.lt;have lf:=lt_of_heap hX.at_.box;have hsv:Ns D X (bOf M) force=if s.2.1≠0/\s.2.1≠162 then (s.1,s.2.1,X) else
   if force=false/\s.2.2≠(if s.2.1=0/\s.2.2=X.tried then s.2.2 else X.known) then (s.1,170,{ X with known:=(if s.2.1=0/\s.2.2=X.tried then s.2.2 else X.known) }) else
   ((Fb s.1 X.name (X.mark++bOf M) X.tried (if s.2.1=0/\s.2.2=X.tried then s.2.2 else X.known)).1,(Fb s.1 X.name (X.mark++bOf M) X.tried (if s.2.1=0/\s.2.2=X.tried then s.2.2 else X.known)).2.1,{ X with tried:=(Fb s.1 X.name (X.mark++bOf M) X.tried (if s.2.1=0/\s.2.2=X.tried then s.2.2 else X.known)).2.2.1,known:=(Fb s.1 X.name (X.mark++bOf M) X.tried (if s.2.1=0/\s.2.2=X.tried then s.2.2 else X.known)).2.2.2 }):=by
  rw [hs];rfl
 obtain ⟨kn,hkn⟩:∃kn,kn=(if s.2.1=0/\s.2.2=X.tried then s.2.2 else X.known):=⟨_,rfl⟩;rw [←hkn] at hsv;have tx:∀{W:World} {F1:Nat->Prop},Upd (λk=>F k\/k=f) w W->(∀k,F1 k->F k\/w.heap.size<=k)->Txt W p e lim na O M/\∀k,O k->¬F1 k/\k≠f:=λ{W F1} u hF1 =>
  ⟨h.upd u (λk hk hh=>hh.elim (hO k hk).1 (hO k hk).2) (λk hk c fr hc=>by
   rcases hk with hk|hk
   ·exact A.no (λ_=>rfl) k hk c fr hc
   ·rw [hk,hX.at_.box] at hc;cases hc),λk hk=>⟨λhh=>(hF1 k hh).elim (hO k hk).1 λhl=>by have:=h.own k hk;omega,(hO k hk).2⟩⟩
 refine Ai (λx W=>∃bS F1 v,x=(at0 bS,v,())/\W.heap[bS]?=some (.cells (Cells.vals c57 (stT s.2.2)).toArray 57 (0,0))/\DS W d F1 s.1 (N+2)/\Hz W v s.2.1/\Upd F w W/\(∀k,F1 k->F k\/w.heap.size<=k)/\w.heap.size<=bS) ?_ ?_;{refine Az λw1 e1 _=>Ad (Af (e1.ext_get hX.at_.box) (off:=0) (x:=some (at0 d)) rfl (Ad ?_));rw [addr_add];refine Af (e1.ext_get hX.at_.box) (off:=0+1) (x:=X.name) rfl ⟨?_,?_⟩;{refine Ag λb w2 e2 n2 hb2 hz2=>Bc (cell_of (off:=0+1) (e2.ext_get (e1.ext_get hX.at_.box)) rfl) (Bc (cell_of (off:=0) (e2.ext_get (e1.ext_get hX.at_.box)) rfl) ?_);have A2:=(A.ext e1).ext e2;have z1:=e1.size;refine Uz A2 (by omega) λF3 w3 v3 hv3 A3 u3 hF3=>?_;rw [←hs] at hv3 A3 ⊢;(have hnb:¬F b:=λhh=>by have:=hAlt _ hh;omega);have hnb3:¬F3 b:=λhh=>(hF3 _ hh).elim hnb λh'=>(by omega);refine Ba (u3.get n2 hnb) rfl rfl (by decide) λw4 u4 n4 _=>⟨b,F3,v3,rfl,n4,A3.frame u4 λk hk hh=>hnb3 (hh▸hk),hv3.upd u4 (Et.box (u3.get n2 hnb) (by decide)),(((Upd.Ae (e1.trans e2)).trans u3).new u4 λk hk hh=>by omega),λk hk=>(hF3 k hk).imp id λh'=>by omega,by omega⟩};{refine Uz (A.ext e1) (by omega) λF3 w3 v3 hv3 A3 u3 hF3=>⟨?_,trivial⟩;rw [←hs] at hv3 A3 ⊢;have z1:=e1.size;have z3:=u3.size;refine Ag λb w4 e4 n4 hb4 hz4=>Bc (cell_of (off:=0+1) (e4.ext_get (u3.get (e1.ext_get hX.at_.box) hX.nf)) rfl) (Bc (cell_of (off:=0) (e4.ext_get (u3.get (e1.ext_get hX.at_.box) hX.nf)) rfl) ?_);(have hnb3:¬F3 b:=λhh=>by have:=A3.lt _ hh;omega);refine Ba n4 rfl rfl (by decide) λw5 u5 n5 _=>⟨b,F3,v3,rfl,n5,(A3.ext e4).frame u5 λk hk hh=>hnb3 (hh▸hk),(hv3.ext e4).upd u5 (Et.box n4 (by decide)),((((Upd.Ae e1).trans u3).trans (Upd.Ae e4)).new u5 λk hk hh=>by omega),λk hk=>(hF3 k hk).imp id λh'=>by omega,by omega⟩}};rintro _ W1 ⟨bS,F1,v,rfl,nS,A1,hv,U1,G1,hbS⟩;have X1:FS W1 f d X sm F1:=hX.step A U1 G1;have U1':Upd (λk=>F k\/k=f) w W1:=U1.mono λk _ hk=>.inl hk;have bSf:bS≠f:=(by omega);refine Ar (decide (s.2.1≠0/\s.2.1≠162),()) (hv.Qo (Ac (λhe=>Ti hv (by decide) ⟨Di ?_,rfl⟩) λhe=>⟨Di ?_,rfl⟩)) (Ac (λhb=>?_) λhb=>?_);{have he:=jY he;simp [he]};{have he:=sK he;simp only [pF];exact ⟨λhh=>(by cases hh),λhh=>absurd hh.1 he⟩};{have hb:=jY hb;refine Hq hv X1.laid λw2 e2=>?_;have hk:=hK F1 w2;rw [hsv,iK hb] at hk;obtain ⟨t1,t2⟩:=tx (U1'.trans (Upd.Ae e2)) G1;exact hk ((A1.ext e2).mono (by omega)) (X1.ext e2) t1 t2 (U1'.trans (Upd.Ae e2)) G1};have hb:=sK hb;rw [iP hb] at hsv;refine Ai (λ_ W=>W.heap[bS]?=some (.cells (Cells.vals c57 (stT s.2.2)).toArray 57 (0,0))/\DS W d F1 s.1 (N+2)/\FS W f d { X with known:=kn } sm F1/\Upd (λk=>F k\/k=f) w W) ?_ ?_;{refine Ai (λx W=>x=(decide (s.2.1=0/\s.2.2=X.tried),())/\Ext W1 W) ?_ ?_;{refine Az λw2 e2 _=>(hv.ext e2).Yy (Ac (λhe=>?_) λhe=>?_);{have he:=jY he;refine Dp (x:=stT s.2.2) (e2.ext_get nS) (λi v hv=>Oz i v hv) (Ad ?_);rw [addr_add];refine Dp (x:=stT X.tried) (e2.ext_get X1.at_.box) (λi v hv=>by rw [kY];exact Ac3 i v hv) (Cr3 ⟨Di ?_,e2⟩);simp [he]};{have he:=sK he;refine ⟨Di ?_,e2⟩;simp [he]}};{rintro _ W2 ⟨rfl,e2⟩;have U2:=U1'.trans (Upd.Ae e2);refine Ac (λhc=>?_) λhc=>?_;{have hc:=jY hc;rw [iK hc] at hkn;refine Dp (x:=stT s.2.2) (e2.ext_get nS) (λi v hv=>Oz i v hv) (Ad ?_);rw [addr_add];refine Ba (e2.ext_get X1.at_.box) rfl rfl (by show 0+3+3<=9;decide) λw3 u3 n3 _=>?_;(have n3:w3.heap[f]?=some (.cells (Gg d { X with known:=kn } sm) 110 (0,0)):=by rw [hkn];exact n3);exact ⟨u3.En (e2.ext_get nS) bSf,(A1.ext e2).frame u3 λk hk hh=>X1.nf (hh▸hk),(X1.ext e2).set u3 n3 rfl rfl,U2.trans (u3.mono λk _ hk=>.inr hk)⟩};{have hc:=sK hc;rw [iP hc] at hkn;exact ⟨e2.ext_get nS,A1.ext e2,by rw [hkn];exact X1.ext e2,U2⟩}}};rintro _ W3 ⟨nS3,A3,X3,U3⟩;refine Ai (λx W=>x=(decide (force=false/\s.2.2≠kn),())/\Ext W3 W) ?_ ?_;{refine Az λw4 e4 _=>Ac (λhf=>?_) λhf=>?_;{have hf:force=false:=(by simpa using hf);refine Dp (x:=stT s.2.2) (e4.ext_get nS3) (λi v hv=>Oz i v hv) (Ad ?_);rw [addr_add];refine Dp (x:=stT kn) (e4.ext_get X3.at_.box) (λi v hv=>by rw [kY];exact Ax5 (X:={ X with known:=kn }) i v hv) (Cr2 ⟨Di ?_,e4⟩);simp [hf]};{have hf:force=true:=(by simpa using hf);refine ⟨Di ?_,e4⟩;simp [hf]}};rintro _ W4 ⟨rfl,e4⟩;have U4:=U3.trans (Upd.Ae e4);refine Ac (λhc=>?_) λhc=>?_;{have hc:=jY hc;have hk:=hK F1 W4;rw [hsv,iK hc] at hk;obtain ⟨t1,t2⟩:=tx U4 G1;exact hk ((A3.ext e4).mono (by omega)) (X3.ext e4) t1 t2 U4 G1}
 ·have hc:=sK hc;rw [iP hc] at hsv;refine Az λw5 e5 _=>Ad ?_;have U5:=U4.trans (Upd.Ae e5);have X5:=(X3.ext e4).ext e5;have A5:=(A3.ext e4).ext e5;obtain ⟨t1,t2⟩:=tx U5 G1;rw [addr_add];refine Af X5.at_.box (off:=0+1) (x:=X.name) rfl (Ad (Ad ?_));rw [addr_add,addr_add];refine Ay0 (X:={ X with known:=kn }) A5 (by omega) t1 t2 X5 λF6 w6 v6 hv6 A6 X6 u6 hF6=>?_;have z5:=U5.size;refine Hq hv6 X6.laid λw7 e7=>?_;have hk:=hK F6 w7;rw [hsv] at hk;have G6:∀k,F6 k->F k\/w.heap.size<=k:=λk hk=>(hF6 k hk).elim (G1 k) λhh=>.inr (by omega);have U7:Upd (λk=>F k\/k=f) w w7:=(U5.new u6 λk hk hh=>by
   rcases hh with hh|hh
   ·rcases G1 k hh with h'|h'
    ·exact .inl h'
    ·omega
   ·exact .inr hh).trans (Upd.Ae e7)
  obtain ⟨t3,t4⟩:=tx U7 G6;exact hk ((A6.ext e7).mono (by omega)) (X6.ext e7) t3 t4 U7 G6
end
end Dq
end
section
namespace Dq
open Go Go.Vx Dsk Cdc Trx
def Ew (b:List UInt8):Int×Int :=
 if [239,187,191].isPrefixOf b then (1,3) else if [255,254].isPrefixOf b then (2,2) else if [254,255].isPrefixOf b then (3,2) else (0,0)
def Ic (enc:Int):List UInt8:=if enc=1 then [239,187,191] else if enc=2 then [255,254] else if enc=3 then [254,255] else []
def He (g:List UInt8->Int) (enc:Int) (b:List UInt8):Int×Int :=
 if enc=0/\(Ew b).1≠0 then Ew b else if enc=0 then (g b,0) else if (Ic enc).isPrefixOf b then (enc,(Ic enc).length) else (enc,0)
structure Lod where
 enc:Int
 mark:Int
 data:List UInt8
 new:Bool
abbrev Nh:Lod:=⟨0,0,[],false⟩
def Ib (g:List UInt8->Int) (D:Dk) (n:Nm) (enc limit:Int):Dk×Int×Option Fil×Lod :=
 if userName n=false then (D,164,none,Nh) else
 if enc<0\/enc>4 then (D,10,none,Nh) else
 if limit<0\/limit>65536 then (D,1,none,Nh) else
 let s:=Aj D n
 if s.2.1=162 then (s.1,0,some ⟨n,[],(0,0,0),(0,0,0)⟩,⟨if 1>enc then 1 else enc,0,[],true⟩) else
 if s.2.1≠0 then (s.1,s.2.1,none,Nh) else
 let r:=Aw s.1 n
 if r.2.1≠0 then (r.1,r.2.1,none,Nh) else
 let e:=He g enc r.2.2
 if (r.2.2.length:Int)-e.2>limit then (r.1,50,none,Nh) else
 (r.1,0,some ⟨n,r.2.2.take e.2.toNat,s.2.2,(0,0,0)⟩,⟨e.1,e.2,r.2.2.drop e.2.toNat,false⟩)
section
variable {w w':World}{S F F':Nat->Prop}{d:Nat}{D:Dk}{N:Nat}
def byt {s:Sl}{l:List UInt8}{n:Int}{K:Addr->Int->Wp}(h:Bytes w s l) (h0:0<=n){x:UInt8}(hx:l[n.toNat]?=some x) (hK:∀p,K p (x.toNat:Int) w):ix s.a s.len n (λp=>ld (.int .u8) (p.add (scaled (Int.toNat n) 1)) (K p)) w :=
 Nk (c:=.int .u8) (xs:=l.map λb=>(b.toNat:Int)) (by rw [qZ];exact h) h0 (by rw [nP,hx];rfl) hK
def Eh {s:Sl}{l:List UInt8}(h:Bytes w s l):l.length=s.len:=by have:=h.len1;rwa [nO] at this
def Ac2 (x:UInt8) (n:Nat) (hn:n<256):(((x.toNat:Nat):Int)==(n:Int))=(x==UInt8.ofNat n):=by rw [nN,pX,pX];constructor;{intro h;have h:x.toNat=n:=(by omega);rw [←h];simp};{rintro rfl;simp [qJ hn]}
def Cs5 (x y z:UInt8) (r:List UInt8):[239,187,191].isPrefixOf (x::y::z::r)=((x==239)&&((y==187)&&(z==191))):=by show ((239==x)&&((187==y)&&((191==z)&&true)))=_;rw [vZ (a:=(239:UInt8)),vZ (a:=(187:UInt8)),vZ (a:=(191:UInt8)),lC]
def pre2 (a b x y:UInt8) (r:List UInt8):[a,b].isPrefixOf (x::y::r)=((x==a)&&(y==b)):=by show ((a==x)&&((b==y)&&true))=_;rw [vZ (a:=a),vZ (a:=b),lC]
def Vr {s:Sl}{l:List UInt8}(h:Bytes w s l){K:aI->Wp}(hK:K ((Ew l).1,(Ew l).2,()) w):Aa prog 24 #[s.v] bJ K w:=by
 refine j24 (a0:=s) ?_;unfold F24;have hl:=Eh h;have e239:∀x:UInt8,(((x.toNat:Nat):Int)==239)=(x==239):=λx=>Ac2 x 239 (by decide);have e187:∀x:UInt8,(((x.toNat:Nat):Int)==187)=(x==187):=λx=>Ac2 x 187 (by decide);have e191:∀x:UInt8,(((x.toNat:Nat):Int)==191)=(x==191):=λx=>Ac2 x 191 (by decide);have e255:∀x:UInt8,(((x.toNat:Nat):Int)==255)=(x==255):=λx=>Ac2 x 255 (by decide);have e254:∀x:UInt8,(((x.toNat:Nat):Int)==254)=(x==254):=λx=>Ac2 x 254 (by decide);refine Ar ([239,187,191].isPrefixOf l,()) (Ac (λh3=>?_) λh3=>?_) ?_
 ·have h3:=jY h3;obtain ⟨x,y,z,r,rfl⟩:∃x y z r,l=x::y::z::r:=by
   match l,hl with
   |[],hl=>simp at hl;omega
   |[_],hl=>simp at hl;omega
   |[_,_],hl=>simp at hl;omega
   |x::y::z::r,_=>exact ⟨x,y,z,r,rfl⟩
  refine byt h (by decide) (x:=x) rfl λ_=>Ac (λh1=>byt h (by decide) (x:=y) rfl λ_=>Ac (λh2=>byt h (by decide) (x:=z) rfl λ_=>⟨?_,rfl⟩) λh2=>⟨?_,rfl⟩) λh1=>⟨?_,rfl⟩;all_goals (clear h hK hl h3;(first|rw [Cs5]|rw [pre2]);simp_all)
 ·have h3:=sK h3;refine ⟨?_,rfl⟩;have:[239,187,191].isPrefixOf l=false:=by
   rw [wB];intro hh
   have:=(wC.1 hh).length_le
   simp at this;omega
  rw [this]
 refine Ac (λhb=>?_) λhb=>?_;{(have:Ew l=(1,3):=by unfold Ew;rw [iK hb]);rw [this] at hK;exact hK};have hb:[239,187,191].isPrefixOf l=false:=hb;(have hb:¬([239,187,191].isPrefixOf l=true):=by rw [hb];simp);refine Ar ([255,254].isPrefixOf l,()) (Ac (λh3=>?_) λh3=>?_) ?_
 ·have h3:=jY h3;obtain ⟨x,y,r,rfl⟩:∃x y r,l=x::y::r:=by
   match l,hl with
   |[],hl=>simp at hl;omega
   |[_],hl=>simp at hl;omega
   |x::y::r,_=>exact ⟨x,y,r,rfl⟩
  refine byt h (by decide) (x:=x) rfl λ_=>Ac (λh1=>byt h (by decide) (x:=y) rfl λ_=>⟨?_,rfl⟩) λh1=>⟨?_,rfl⟩;all_goals (clear h hK hl h3;(first|rw [Cs5]|rw [pre2]);simp_all)
 ·have h3:=sK h3;refine ⟨?_,rfl⟩;have:[255,254].isPrefixOf l=false:=by
   rw [wB];intro hh
   have:=(wC.1 hh).length_le
   simp at this;omega
  rw [this]
 refine Ac (λhb2=>?_) λhb2=>?_;{(have:Ew l=(2,2):=by unfold Ew;rw [iP hb,iK hb2]);rw [this] at hK;exact hK};have hb2:[255,254].isPrefixOf l=false:=hb2;(have hb2:¬([255,254].isPrefixOf l=true):=by rw [hb2];simp);refine Ar ([254,255].isPrefixOf l,()) (Ac (λh3=>?_) λh3=>?_) ?_
 ·have h3:=jY h3;obtain ⟨x,y,r,rfl⟩:∃x y r,l=x::y::r:=by
   match l,hl with
   |[],hl=>simp at hl;omega
   |[_],hl=>simp at hl;omega
   |x::y::r,_=>exact ⟨x,y,r,rfl⟩
  refine byt h (by decide) (x:=x) rfl λ_=>Ac (λh1=>byt h (by decide) (x:=y) rfl λ_=>⟨?_,rfl⟩) λh1=>⟨?_,rfl⟩;all_goals (clear h hK hl h3;(first|rw [Cs5]|rw [pre2]);simp_all)
 ·have h3:=sK h3;refine ⟨?_,rfl⟩;have:[254,255].isPrefixOf l=false:=by
   rw [wB];intro hh
   have:=(wC.1 hh).length_le
   simp at this;omega
  rw [this]
 refine Ac (λhb3=>?_) λhb3=>?_;{(have:Ew l=(3,2):=by unfold Ew;rw [iP hb,iP hb2,iK hb3]);rw [this] at hK;exact hK};{have hb3:[254,255].isPrefixOf l=false:=hb3;(have:Ew l=(0,0):=by unfold Ew;rw [iP hb,iP hb2,iP (by rw [hb3];simp)]);rw [this] at hK;exact hK}
def Uh {enc:Int}{K:Sl->Wp}(hK:∀s w',Dl w' w.heap.size s (Ic enc)->Ext w w'->K s w'):Aa prog 25 #[vI enc] rS K w:=by
 refine j25 ?_;unfold F25;have lit:∀(c:List UInt8) (b:Nat) (w1:World),w1.heap[b]?=some (.cells (bv c).toArray 5 (0,0))->b=w.heap.size->Dl w1 w.heap.size ⟨some (at0 b),c.length,c.length⟩ c:=λc b w1 h hb =>
  ⟨by simp,mJ _,.inr ⟨b,0,(bv c).toArray,rfl,by omega,h,by simp,λj v hj=>by simpa using hj⟩⟩
 refine Ac (λh=>?_) λh=>Ac (λh2=>?_) λh2=>Ac (λh3=>?_) λh3=>?_;{have h:enc=1:=(by simpa using h);subst h;exact Ag λb w1 e1 n1 hb hz=>hK _ w1 (lit [239,187,191] b w1 n1 hb) e1};{have h:enc=2:=(by simpa using h2);subst h;exact Ag λb w1 e1 n1 hb hz=>hK _ w1 (lit [255,254] b w1 n1 hb) e1};{have h:enc=3:=(by simpa using h3);subst h;exact Ag λb w1 e1 n1 hb hz=>hK _ w1 (lit [254,255] b w1 n1 hb) e1};{have h:enc≠1:=(by simpa using h);have h2:enc≠2:=(by simpa using h2);have h3:enc≠3:=(by simpa using h3);(have:Ic enc=[]:=by unfold Ic;rw [iP h,iP h2,iP h3]);exact hK _ w (by rw [this];exact Am.nil _ _ _ _) (Ext.refl w)}
def Vo {s m:Sl}{l p:List UInt8}(h:Dx w s 5 1 (bv l)) (hp:Bytes w m p){K:Bool->Wp}(hK:K (p.isPrefixOf l) w):Aa prog 56 #[s.v,m.v] rB K w:=by
 refine j56 (a0:=s) (a1:=m) ?_;unfold F56;have hl:=Eh h.x;have hpl:=Eh hp;have hcap:=h.le;refine Ac (λhge=>?_) λhge=>?_
 ·have hge:=jY hge;refine Nr h (by omega) (by omega) (by omega) (by omega) (by omega) λx hx _ _ _=>?_;have hbv:((bv l).drop (Int.toNat 0*1)).take ((Int.toNat ((m.len:Nat):Int)-Int.toNat 0)*1)=bv (l.take p.length):=by
   rw [kH,hpl];simp [tK]
  rw [hbv] at hx;refine j96 (a0:=x) (a1:=m) ?_;unfold F96;refine Ul uB ub us hx.x (Ul uB ub us hp ?_);have:(ByteArray.toList ⟨(l.take p.length).toArray⟩==ByteArray.toList ⟨p.toArray⟩)=p.isPrefixOf l:=by
   rw [bytes_eq,nN,pF,wC,wE]
   constructor
   ·intro hh
    have:=lW (λb:ByteArray=>b.data.toList) hh
    simpa using this.symm
   ·intro hh
    rw [←hh]
  rw [this];exact hK
 ·have hge:=sK hge;have:p.isPrefixOf l=false:=by
   rw [wB];intro hh
   have:=(wC.1 hh).length_le
   omega
  rw [this] at hK;exact hK
structure Bn4 (w w':World) (d:Nat) (F:Nat->Prop) (N:Nat) (r:Dk×Int×Option Fil×Lod) (F':Nat->Prop) (fo:xM) (sd:Sl):Prop where
 disk:DS w' d F' r.1 (N+4)
 upd:Upd F w w'
 new:∀k,F' k->F k\/w.heap.size<=k
 file:match r.2.2.1 with
  |some X=>∃f sm,fo=some (at0 f)/\FS w' f d X sm F'/\w.heap.size<=f/\∀k,sm.blk k->w.heap.size<=k
  |none=>fo=none
 data:Dl w' w.heap.size sd r.2.2.2.data
 apart:∀k,sd.blk k->¬F' k
 apartf:∀f,fo=some (at0 f)->¬sd.blk f
def Ze (g:List UInt8->Int):Prop:=∀(l:List UInt8) (s:Sl) (w:World) (K:Int×Value×Unit->Wp),l.length<=1048576->Dx w s 5 1 (bv l)->(Ew l).1=0->(∀v w',Ext w w'->K (g l,v,()) w')->Aa prog 55 #[s.v] cO K w
def D8 {g:List UInt8->Int}{enc:Int}{b:List UInt8}:0<=(He g enc b).2/\(He g enc b).2<=b.length/\(He g enc b).2<=3:=by
 have pf:∀m:List UInt8,m.length<=3->m.isPrefixOf b=true->0<=(m.length:Int)/\(m.length:Int)<=b.length/\(m.length:Int)<=3:=λm hm h=>by
  have:=(wC.1 h).length_le
  omega
 have hd:0<=(Ew b).2/\(Ew b).2<=b.length/\(Ew b).2<=3:=by
  unfold Ew
  split
  ·rename_i h;exact pf [239,187,191] (by decide) h
  ·split
   ·rename_i h;exact pf [255,254] (by decide) h
   ·split
    ·rename_i h;exact pf [254,255] (by decide) h
    ·exact ⟨by decide,by show (0:Int)<=_;omega,by decide⟩
 unfold He;split;{exact hd};{split;{exact ⟨kJ _,by show (0:Int)<=_;omega,by show (0:Int)<=3;decide⟩};{split;{rename_i h;exact pf _ (by unfold Ic;split;decide;split;decide;split;decide;decide) h};{exact ⟨kJ _,by show (0:Int)<=_;omega,by show (0:Int)<=3;decide⟩}}}
end
end Dq
end
section
namespace Dq
open Go Go.Vx Dsk Cdc Trx
section
variable {w w':World}{S F F':Nat->Prop}{d:Nat}{D:Dk}{N:Nat}
abbrev Xu (a b:Int) (s:Sl) (n:Bool):Cells.T c32:=(a,b,s,n,())
def Pg {x:Cells.T c32}(i:Nat) (v:Value) (h:(Cells.vals c32 x)[i]?=some v):(Cells.vals c32 x).toArray[0+i]?=some v:=by rw [kY,←kQ];exact h
def Ve (ok:Bj D N) (n:Nm):(Aw D n).2.2.length<=1048576:=by
 have key:∀D1:Dk,D1.files=D.files->(rdR n D1).2.2.length<=1048576:=by
  intro D1 h1
  unfold rdR
  split
  ·exact qI _
  ·rename_i i _ _
   show (fl D1 i).data.length<=_
   unfold fl
   rw [h1,rJ]
   cases hi:D.files[i]? with
   |none=>exact qI _
   |some f=>exact (ok.fil i f hi).1
 unfold Aw;dsimp only;split;{unfold Dsk.step;split;{exact qI _};{split;{exact key _ rfl};{unfold Uk;(repeat' split);all_goals first|exact qI _|exact key _ rfl}}};{exact qI _}
def Wq {g:List UInt8->Int}{enc:Int}{n:Nm}(hG:userName n=true->Ze g\/enc≠0\/(Aj D n).2.1=162) (A:DS w d F D N) (hN:N+10<=2^30) (hl:Jc w) (hn:n.size<2^62){limit:Int}{K:bD->Wp}
  (hK:∀F' w' fo sd,let r:=Ib g D n enc limit
   Bn4 w w' d F N r F' fo sd->K (fo,(r.2.2.2.enc,r.2.2.2.mark,sd,r.2.2.2.new,()),r.2.1,()) w') :
  Aa prog 18 #[dU d,.string n,vI enc,vI limit] dD K w:=by
 refine j18 ?_
 unfold F18
 have hAlt:=A.lt
 have hpos:=A.pos
 refine Ag λb1 w1 e1 n1 hb1 hz1=>Ag λb2 w2 e2 n2 hb2 hz2=>Qh hn λw3 e3=>?_
 have e03:=(e1.trans e2).trans e3
 have m1:=(e2.trans e3).ext_get n1
 have m2:=e3.ext_get n2
 have nF1:¬F b1:=λhh=>by have:=hAlt _ hh;omega
 have nF2:¬F b2:=λhh=>by have:=hAlt _ hh;omega
 have hz3:=e3.size
 clear n1 n2 e1 e2 e3
 have bad0:∀(W:World) (F1:Nat->Prop) (D1:Dk) (er:Int),DS W d F1 D1 (N+4)->W.heap[b1]?=some (.cells #[vI 0,vI 0,.slice none 0 0,.bool false] 32 (0,0))->¬F1 b1->Upd F w W->(∀k,F1 k->F k\/w.heap.size<=k) ->
   Ib g D n enc limit=(D1,er,none,Nh)->(Ah (at0 b1) (.agg (Cells.vals c32 (Xu 0 0 ⟨none,0,0⟩ false)).toArray) 4<|lds c32 (at0 b1) λy=>K (none,y,er,())) W:=by
  intro W F1 D1 er A1 h1 hb U hF he
  refine Ba h1 rfl rfl (by decide) λW3 u3 n3 _=>Dp (x:=Xu 0 0 ⟨none,0,0⟩ false) n3 (λi v hv=>Pg i v hv) ?_
  have hk:=hK F1 W3 none ⟨none,0,0⟩
  rw [he] at hk
  exact hk ⟨A1.frame u3 λk hk hh=>hb (hh▸hk),U.new u3 λk hk hh=>by omega,hF,rfl,Am.nil _ _ _ _,λk hk=>Du hk,λf hf=>by cases hf⟩
 have bad:∀(W:World) (F1:Nat->Prop) (D1:Dk) (er:Int),DS W d F1 D1 (N+4)->W.heap[b1]?=some (.cells #[vI 0,vI 0,.slice none 0 0,.bool false] 32 (0,0))->W.heap[b2]?=some (.cells #[vI 0,vI 0,.slice none 0 0,.bool false] 32 (0,0))->¬F1 b1->Upd F w W->(∀k,F1 k->F k\/w.heap.size<=k) ->
   Ib g D n enc limit=(D1,er,none,Nh)->(drew<|lds c32 (at0 b2) λx=>Ah (at0 b1) (.agg (Cells.vals c32 x).toArray) 4<|lds c32 (at0 b1) λy=>K (none,y,er,())) W:=by
  intro W F1 D1 er A1 h1 h2 hb U hF he
  exact Az λW2 e2 _=>Dp (x:=Xu 0 0 ⟨none,0,0⟩ false) (e2.ext_get h2) (λi v hv=>Pg i v hv) (bad0 W2 F1 D1 er (A1.ext e2) (e2.ext_get h1) hb (U.trans (Upd.Ae e2)) hF he)
 have bad2:∀(W:World) (F1:Nat->Prop) (D1:Dk) (v:Value) (er:Int),Hz W v er->Jc W->DS W d F1 D1 (N+4)->W.heap[b1]?=some (.cells #[vI 0,vI 0,.slice none 0 0,.bool false] 32 (0,0))->W.heap[b2]?=some (.cells #[vI 0,vI 0,.slice none 0 0,.bool false] 32 (0,0))->¬F1 b1->Upd F w W->(∀k,F1 k->F k\/w.heap.size<=k) ->
   Ib g D n enc limit=(D1,er,none,Nh)->(drew<|lds c32 (at0 b2) λx=>Aa prog 54 #[v] rI λq=>keep (λw=>Ez w (at0 b2) 0 (Cells.vals c32 x))<|Ah (at0 b1) (.agg (Cells.vals c32 x).toArray) 4<|lds c32 (at0 b1) λy=>K (none,y,q,())) W:=by
  intro W F1 D1 v er hv hL A1 h1 h2 hb U hF he
  refine Az λW2 e2 _=>Dp (x:=Xu 0 0 ⟨none,0,0⟩ false) (e2.ext_get h2) (λi v hv=>Pg i v hv) (Hq (hv.ext e2) (hL.ext e2) λW3 e3=>Bc ?_ ?_)
  ·exact Gh (off:=0) _ 0 λj v hv=>by rw [kY];exact cell_of (e3.ext_get (e2.ext_get h2)) (Pg j v hv)
  ·exact bad0 W3 F1 D1 er ((A1.ext e2).ext e3) (e3.ext_get (e2.ext_get h1)) hb ((U.trans (Upd.Ae e2)).trans (Upd.Ae e3)) hF he
 have A3:=A.ext e03
 have U3:Upd F w w3:=Upd.Ae e03
 refine Ac (λhc=>?_) λhc=>?_
 ·have hc:userName n=false:=by simpa using hc
  exact bad w3 F D 164 (A3.mono (by omega)) m1 m2 nF1 U3 (λk hk=>.inl hk) (by unfold Ib;rw [iK hc])
 have hc:userName n=true:=by simpa using hc
 have hnc:¬userName n=false:=by rw [hc];simp
 refine Ar (decide (enc<0\/enc>4),()) (Ac (λh=>⟨Di ?_,rfl⟩) λh=>⟨Di ?_,rfl⟩) (Ac (λh=>?_) λh=>?_)
 ·have h:=jY h;simp [h]
 ·have h:=sK h;simp only [pF];omega
 ·have h:=jY h
  exact bad w3 F D 10 (A3.mono (by omega)) m1 m2 nF1 U3 (λk hk=>.inl hk) (by unfold Ib;rw [iP hnc,iK h])
 have henc:=sK h
 refine Ar (decide (limit<0\/limit>65536),()) (Ac (λh=>⟨Di ?_,rfl⟩) λh=>⟨Di ?_,rfl⟩) (Ac (λh=>?_) λh=>?_)
 ·have h:=jY h;simp [h]
 ·have h:=sK h;simp only [pF];omega
 ·have h:=jY h
  exact bad w3 F D 1 (A3.mono (by omega)) m1 m2 nF1 U3 (λk hk=>.inl hk) (by unfold Ib;rw [iP hnc,iP henc,iK h])
 have hlim:=sK h
 refine Uz A3 (by omega) λF4 w4 v4 hv4 A4 u4 hF4=>?_
 obtain ⟨s,hs⟩:∃s,s=Aj D n:=⟨_,rfl⟩
 rw [←hs] at hv4 A4 ⊢
 have z4:=u4.size
 have U4:=U3.trans u4
 have G4:∀k,F4 k->F k\/w.heap.size<=k:=λk hk=>(hF4 k hk).imp id λhh=>by omega
 have nn4:∀b,¬F b->b<w3.heap.size->¬F4 b:=λb h1 h2 hh=>(hF4 _ hh).elim h1 λh'=>by omega
 refine Ag λb15 w5 e5 n5 hb5 hz5=>Ba n5 rfl rfl (by decide) λw6 u6 n6 hz6=>?_
 have n6:w6.heap[b15]?=some (.cells (Cells.vals c57 (stT s.2.2)).toArray 57 (0,0)):=n6
 have e46:Ext w4 w6:=e5.step u6 λk hk=>by omega
 have A6:=A4.ext e46
 have U6:=U4.trans (S:=F) (Upd.Ae e46)
 have m16:=e46.ext_get (u4.get m1 nF1)
 have m26:=e46.ext_get (u4.get m2 nF2)
 have hl6:=((hl.ext e03).upd u4 A3.no0).ext e46
 have nF41:=nn4 b1 nF1 (by have:=lt_of_heap m1;omega)
 have nF42:=nn4 b2 nF2 (by have:=lt_of_heap m2;omega)
 have hop:Ib g D n enc limit=if s.2.1=162 then (s.1,0,some ⟨n,[],(0,0,0),(0,0,0)⟩,⟨if 1>enc then 1 else enc,0,[],true⟩) else
   if s.2.1≠0 then (s.1,s.2.1,none,Nh) else
   if (Aw s.1 n).2.1≠0 then ((Aw s.1 n).1,(Aw s.1 n).2.1,none,Nh) else
   if ((Aw s.1 n).2.2.length:Int)-(He g enc (Aw s.1 n).2.2).2>limit then ((Aw s.1 n).1,50,none,Nh) else
   ((Aw s.1 n).1,0,some ⟨n,(Aw s.1 n).2.2.take (He g enc (Aw s.1 n).2.2).2.toNat,s.2.2,(0,0,0)⟩,⟨(He g enc (Aw s.1 n).2.2).1,(He g enc (Aw s.1 n).2.2).2,(Aw s.1 n).2.2.drop (He g enc (Aw s.1 n).2.2).2.toNat,false⟩):=by
  unfold Ib
  rw [iP hnc,iP henc,iP hlim,hs]
 have hnl:n.size<32:=by
  unfold userName at hc
  simp only [jA,pF] at hc
  exact hc.1.2
 refine Ti (hv4.ext e46) (by decide) (Ac (λh=>?_) λh=>?_)
 ·
  have h:=jY h
  rw [iK h] at hop
  refine Ag λb17 w7 e7 n7 hb7 hz7=>Ba (e7.ext_get m16) rfl rfl (by decide) λw8 u8 n8 hz8=>Dp (x:=Xu (if 1>enc then 1 else enc) 0 ⟨none,0,0⟩ true) n8 (λi v hv=>Pg i v hv) ?_
  have l1:=lt_of_heap m16
  have z46:=e46.size
  have hk:=hK F4 w8 (some (at0 b17)) ⟨none,0,0⟩
  rw [hop] at hk
  have n7:w7.heap[b17]?=some (.cells (Gg d ⟨n,[],(0,0,0),(0,0,0)⟩ ⟨none,0,0⟩) 110 (0,0)):=n7
  have nF17:¬F4 b17:=λhh=>by have:=A6.lt _ hh;omega
  refine hk ⟨((A6.ext e7).frame u8 λk hk hh=>nF41 (hh▸hk)).mono (by omega),(U6.trans (Upd.Ae e7)).new u8 λk hk hh=>by omega,G4,⟨b17,⟨none,0,0⟩,rfl,⟨⟨u8.En n7 (by omega),Dx.nil _ _ _⟩,nF17,λk hk=>Du hk,(hl6.ext e7).upd u8 (by omega),(by show 0<1024;decide),by show n.size<=_;omega,by omega⟩,by omega,λk hk=>Du hk⟩,Am.nil _ _ _ _,λk hk=>Du hk,λf hf hh=>Du hh⟩
 have h162:=sK h
 rw [iP h162] at hop
 refine (hv4.ext e46).Qo (Ac (λh=>?_) λh=>?_)
 ·have h:=jY h
  rw [iK h] at hop
  exact bad2 w6 F4 s.1 v4 s.2.1 (hv4.ext e46) hl6 (A6.mono (by omega)) m16 m26 nF41 U6 G4 hop
 have h0:=sK h
 rw [iP h0] at hop
 refine Bk4 A6 (by omega) λF7 w7 sx v7 hv7 A7 u7 hF7 row7 ap7=>?_
 obtain ⟨r,hr⟩:∃r,r=Aw s.1 n:=⟨_,rfl⟩
 rw [←hr] at hv7 A7 row7 hop
 have z7:=u7.size
 have z46:=e46.size
 have U7:=U6.new u7 λk hk hh=>(G4 k hh).resolve_right (by omega)
 have G7:∀k,F7 k->F k\/w.heap.size<=k:=λk hk=>(hF7 k hk).elim (G4 k) λhh=>.inr (by omega)
 have m17:=u7.get m16 nF41
 have m27:=u7.get m26 nF42
 have l16:=lt_of_heap m16
 have l26:=lt_of_heap m26
 have nF71:¬F7 b1:=λhh=>(hF7 _ hh).elim nF41 λh'=>by omega
 have hl7:=hl6.upd u7 A6.no0
 refine hv7.Qo (Ac (λh=>?_) λh=>?_)
 ·have h:=jY h
  rw [iK h] at hop
  exact bad2 w7 F7 r.1 v7 r.2.1 hv7 hl7 (A7.mono (by omega)) m17 m27 nF71 U7 G7 hop
 have h7:=sK h
 rw [iP h7] at hop
 have hlen:=Eh row7.in.x
 have hmax:r.2.2.length<=1048576:=by rw [hr];exact Ve A6.ok n
 obtain ⟨b,hb⟩:∃b,b=r.2.2:=⟨_,rfl⟩
 rw [←hb] at row7 hlen hmax hop
 obtain ⟨q0,q1,q2⟩:=D8 (g:=g) (enc:=enc) (b:=b)
 refine Ai (λx W=>x=((He g enc b).1,(He g enc b).2,())/\Ext w7 W) ?_ ?_
 ·refine Vr row7.in.x (Ar (decide (enc=0/\(Ew b).1≠0),()) (Ac (λh=>⟨Di ?_,rfl⟩) λh=>⟨Di ?_,rfl⟩) (Ac (λh=>?_) λh=>?_))
  ·have h:enc=0:=by simpa using h
   simp [h]
  ·have h:enc≠0:=by simpa using h
   simp [h]
  ·have h:=jY h
   refine ⟨?_,Ext.refl w7⟩
   unfold He;rw [iK h]
  ·have h:=sK h
   refine Ac (λh2=>?_) λh2=>?_
   ·have h2:enc=0:=by simpa using h2
    have hd:(Ew b).1=0:=qU λhh=>h ⟨h2,hh⟩
    have hG:Ze g:=(hG hc).resolve_right λhh=>hh.elim (λhh=>hh h2) λhh=>by rw [←hs] at hh;exact h162 hh
    refine hG b sx w7 _ hmax row7.in hd λv w' e'=>⟨?_,e'⟩
    unfold He;rw [iP h,iK h2]
   ·have h2:enc≠0:=by simpa using h2
    refine Uh λsm w8 rm e8=>Vo (row7.in.ext e8) rm.in.x (Ac (λhp=>Uh λsm2 w9 rm2 e9=>⟨?_,e8.trans e9⟩) λhp=>⟨?_,e8⟩)
    ·have:=Eh rm2.in.x
     unfold He;rw [iP h,iP h2,iK hp,this]
    ·have hp:¬(Ic enc).isPrefixOf b=true:=by rw [hp];simp
     unfold He;rw [iP h,iP h2,iP hp]
 rintro _ w8 ⟨rfl,e8⟩
 have U8:=U7.trans (S:=F) (Upd.Ae e8)
 dsimp only
 rw [iE (by omega)]
 refine Ac (λh=>?_) λh=>?_
 ·have h:=jY h
  rw [iK (by omega)] at hop
  exact bad w8 F7 r.1 50 ((A7.ext e8).mono (by omega)) (e8.ext_get m17) (e8.ext_get m27) nF71 U8 G7 hop
 have h:=sK h
 rw [iP (by omega)] at hop
 have hcap:=row7.in.le
 obtain ⟨k,hk⟩:∃k:Nat,(He g enc b).2=(k:Int):=⟨(He g enc b).2.toNat,by omega⟩
 rw [hk] at q1 q2 hop h ⊢
 rw [kH] at hop
 have n67:=u7.get n6 λhh=>by have:=A4.lt _ hh;omega
 refine Az λw9 e9 _=>Nr ((row7.in.ext e8).ext e9) (by omega) (by omega) (by omega) (by omega) (by omega) λx39 hx39 _ _ _=>?_
 have hbv39:((bv b).drop (Int.toNat 0*1)).take ((Int.toNat (k:Int)-Int.toNat 0)*1)=bv (b.take k):=by
  rw [kH];simp [tK]
 rw [hbv39] at hx39
 have e79:=e8.trans e9
 refine Dp (x:=stT s.2.2) (e79.ext_get n67) (λi v hv=>Oz i v hv) (Mc hx39.x (by rw [nG];omega) λsm w10 rm e10=>Bc ?_ (Ag λf w11 e11 n11 hf11 hz11=>?_))
 ·exact Gh (off:=0) _ 0 λj v hv=>by rw [kY];exact cell_of (e10.ext_get (e79.ext_get n67)) (Oz j v hv)
 have n11:w11.heap[f]?=some (.cells (Gg d ⟨n,b.take k,s.2.2,(0,0,0)⟩ sm) 110 (0,0)):=n11
 have e711:=(e79.trans e10).trans e11
 refine Nr (row7.in.ext e711) (by omega) (by omega) (by omega) (by omega) (by omega) λx43 hx43 _ _ _=>?_
 have hbv43:((bv b).drop (Int.toNat (k:Int)*1)).take ((Int.toNat ((sx.len:Nat):Int)-Int.toNat (k:Int))*1)=bv (b.drop k):=by
  rw [kH,kH,kX,kX,←vM,sQ]
  rw [nO,nH];omega
 rw [hbv43] at hx43
 have z710:=(e79.trans e10).size
 have z79:=e79.size
 refine Mc hx43.x (by rw [nH];omega) λsd w12 rd e12=>?_
 have e712:=e711.trans e12
 refine Ba (e712.ext_get m17) rfl rfl (by decide) λw13 u13 n13 hz13=>Dp (x:=Xu (He g enc b).1 (k:Int) sd false) n13 (λi v hv=>Pg i v hv) ?_
 have hk:=hK F7 w13 (some (at0 f)) sd
 rw [hop] at hk
 have U12:=U7.trans (S:=F) (Upd.Ae e712)
 have A12:=A7.ext e712
 have zw7:=U7.size
 have sdge:∀k,sd.blk k->w11.heap.size<=k:=λk hk=>rd.Dh hk
 have smge:∀k,sm.blk k->w9.heap.size<=k/\k<w10.heap.size:=λk hk=>⟨rm.Dh hk,rm.in.Ci hk⟩
 have F7lt:∀k,F7 k->k<w7.heap.size:=A7.lt
 have rmb:=(rm.in.ext (e11.trans e12))
 refine hk ⟨(A12.frame u13 λk hk hh=>nF71 (hh▸hk)).mono (by omega),U12.new u13 λk hk hh=>by omega,G7,⟨f,sm,rfl,⟨⟨u13.En (e12.ext_get n11) (by omega),rmb.upd u13 λk hk hh=>by have:=(smge k hk).1;omega⟩,λhh=>by have:=F7lt _ hh;omega,λk hk hh=>by have:=F7lt _ hh;have:=(smge k hk).1;omega,(hl7.ext e712).upd u13 (by omega),?_,by show n.size<=_;omega,by omega⟩,by omega,λk hk=>by have:=(smge k hk).1;omega⟩,?_,λk hk hh=>by have:=F7lt _ hh;have:=sdge k hk;omega,λf' hf' hh=>?_⟩
 ·show (b.take k).length<1024
  rw [nG];omega
 ·refine Am.mono (rd.upd u13 λk _ hk hh=>?_) (by omega)
  have:=sdge k hk;omega
 ·have hff:f=f':=by simpa using hf'
  have:=sdge _ hh;omega
end
end Dq
end
section
namespace Dq
open Go Go.Vx Dsk Cdc Trx Flp
section
variable {w w':World}
def Db1:prog.underlying 112=some (.float .f64):=Da8.und
def u3i:prog.underlying 3=some (.int .i64):=C3.und
def Ai0 {n:Int}{K:Value->Wp}(h:K (.float .f64 (fi n)) w):rdV prog (convert 3 112 (vI n)) K w:=by refine ⟨_,?_,h⟩;simp [convert,Db1,u3i,Conv.intToFloat,fi]
def Cd8 {x y:Operand}{a b:Int}(ha:0<=a/\a<1099511627776) (hb:0<b/\b<1099511627776){K:Value->Wp}(h:K (.float .f64 (dv (fi a) (fi b))) w) :
  rdV prog (do eqGuard .quo 112 x y (.float .f64 (fi a)) (.float .f64 (fi b));binOp .quo 112 (.float .f64 (fi a)) (.float .f64 (fi b)):Sem Value) K w:=by refine ⟨_,?_,h⟩;have e:=run_float_arith (P:=prog) w .quo 112 .f64 (fi a) (fi b) _ (Bm2 ha hb).1;simpa [eqGuard] using e
def Cw6 {x y:Operand}{a b:Int}(ha:0<=a/\a<1099511627776) (hb:0<b/\b<1099511627776){K:Value->Wp}(h:K (.float .f64 (sb 4607182418800017408 (dv (fi a) (fi b)))) w) :
  rdV prog (do eqGuard .sub 112 x y (.float .f64 4607182418800017408) (.float .f64 (dv (fi a) (fi b)));binOp .sub 112 (.float .f64 4607182418800017408) (.float .f64 (dv (fi a) (fi b))):Sem Value) K w:=by refine ⟨_,?_,h⟩;have e:=run_float_arith (P:=prog) w .sub 112 .f64 _ _ _ (Ci1 ha hb);simpa [eqGuard] using e
def Bs2 {x y:Operand}{a b:Nat}{K:Bool->Wp}(h:K (ge a b) w) :
  rdB prog (do eqGuard .geq 112 x y (.float .f64 a) (.float .f64 b);binOp .geq 112 (.float .f64 a) (.float .f64 b):Sem Value) K w:=by refine ⟨_,?_,h⟩;simp [eqGuard,binOp,Op.floatCmp,ge]
def Cl8 {x y:Operand}{a b:Nat}{K:Bool->Wp}(h:K (le a b) w) :
  rdB prog (do eqGuard .leq 112 x y (.float .f64 a) (.float .f64 b);binOp .leq 112 (.float .f64 a) (.float .f64 b):Sem Value) K w:=by refine ⟨_,?_,h⟩;simp [eqGuard,binOp,Op.floatCmp,le]
def Ab2 {s:Sl}{l:List UInt8}(h:By w s l) (hl:l.length<=1048576){a u:Nat}(ha:a<=1) (hu:2*u<=l.length) (h0:0<u){K:Value->Wp}(hK:K (.float .f64 (dv (fi (zc l a u)) (fi u))) w) :
  Aa prog 94 #[s.v,vI a,vI u] (.one (.one .any)) K w:=by refine j94 (a0:=s) ?_;unfold F94;refine Ai (λx W=>x=((zc l a u:Int),())/\w=W) ?_ ?_;{refine Bo (λs W=>∃i:Nat,s=((zc l a i:Int),((a+2*i:Nat):Int),())/\w=W/\i<=u) (λs _=>2*u+2-s.2.1.toNat) ⟨0,rfl,rfl,qI _⟩ ?_;rintro _ _ ⟨i,rfl,rfl,hi⟩;dsimp only;have e2:W64 ((2:Int)*(u:Int))=((2*u:Nat):Int):=iD (by omega);rw [e2];have hz:=Ai4 l a i;refine Ac (λhlt=>?_) λhge=>?_;{have hlt:=jY hlt;have hlt:i<u:=(by omega);obtain ⟨x,hx⟩:∃x,l[a+2*i]?=some x:=⟨_,oP (by omega)⟩;(have hd:l.getD (a+2*i) 1=x:=by rw [rJ,hx];rfl);have ez:((x.toNat:Int)==0)=(x==0):=Ac2 x 0 (by decide);refine Ar (((zc l a (i+1):Nat):Int),()) (Lr h (by omega) (b:=x) (by rw [kH];exact hx) λp=>?_) ?_;{rw [ez,Xz,hd];refine Ac (λhb=>?_) λhb=>?_;{have hb:x=0:=eq_of_beq hb;rw [iK hb,iE (by omega)];exact ⟨by rw [rE];rfl,rfl⟩};{have hb:x≠0:=(by simpa using hb);rw [iP hb];exact ⟨rfl,rfl⟩}};{rw [iE (by omega)];refine ⟨⟨i+1,by rw [show (((a+2*i:Nat):Int)+2)=((a+2*(i+1):Nat):Int) by omega],rfl,by omega⟩,?_⟩;show 2*u+2-(((a+2*i:Nat):Int)+2).toNat<2*u+2-((a+2*i:Nat):Int).toNat;omega}};{have hge:=sK hge;obtain rfl:i=u:=(by omega);exact ⟨rfl,rfl⟩}};{rintro _ _ ⟨rfl,rfl⟩;have hz:=Ai4 l a u;exact Ai0 (Ai0 (Cd8 ⟨by omega,by omega⟩ ⟨by omega,by omega⟩ hK))}
def Ax9:Ze λl=>(Rz l).1:=by
 intro l s w K hl h hd hK;refine j55 (a0:=s) ?_;unfold F55;have hlen:l.length=s.len:=By.len h;refine Vr h.x (Ac (λhh=>by rw [hd] at hh;cases hh) λ_=>?_);(have hdiv:Int.tdiv ((s.len:Nat):Int) (2:Int)=((l.length/2:Nat):Int):=by rw [←hlen];rfl);have ew:W64 (Int.tdiv ((s.len:Nat):Int) (2:Int))=((l.length/2:Nat):Int):=(by rw [hdiv,iE (by omega)]);rw [ew];obtain ⟨u,hu⟩:∃u,u=l.length/2:=⟨_,rfl⟩;rw [←hu];obtain ⟨hi,hhi⟩:∃x,x=dv (fi (zc l 0 u)) (fi u):=⟨_,rfl⟩;obtain ⟨lo,hlo⟩:∃x,x=dv (fi (zc l 1 u)) (fi u):=⟨_,rfl⟩;have hg:Rz l=if 0<u/\ge lo 4602678819172646912=true/\le hi 4593671619917905920=true then (2,lo) else
  if 0<u/\ge hi 4602678819172646912=true/\le lo 4593671619917905920=true then (3,hi) else
  if (hrK l.length l).2=0 then (1,4607182418800017408) else
  if ge (dv (fi (((hrK l.length l).1:Int)-(hrK l.length l).2)) (fi (hrK l.length l).1)) 4604930618986332160=true then (1,dv (fi (((hrK l.length l).1:Int)-(hrK l.length l).2)) (fi (hrK l.length l).1)) else (4,sb 4607182418800017408 (dv (fi (((hrK l.length l).1:Int)-(hrK l.length l).2)) (fi (hrK l.length l).1))):=by
  rw [hhi,hlo,hu];rfl
 have hK:∀v w',Ext w w'->K ((Rz l).1,v,()) w':=hK;rw [hg] at hK;refine Ai (λ_ W=>w=W/\¬(0<u/\ge lo 4602678819172646912=true/\le hi 4593671619917905920=true)/\¬(0<u/\ge hi 4602678819172646912=true/\le lo 4593671619917905920=true)) (Rn.2 ⟨by decide,?_⟩) ?_;{refine Ac (λhp=>?_) λhp=>?_;{(have hp:0<u:=by have:=jY hp;omega);refine Ab2 (a:=0) h hl (by decide) (by omega) hp (Ab2 (a:=1) h hl (by decide) (by omega) hp ?_);rw [←hhi,←hlo];refine Ar (decide (ge lo 4602678819172646912=true/\le hi 4593671619917905920=true),()) (Bs2 (Ac (λh1=>Cl8 ⟨Di ?_,rfl⟩) λh1=>⟨Di ?_,rfl⟩)) (Ac (λhc=>?_) λhc=>?_);{rw [pF];exact ⟨λh2=>⟨h1,h2⟩,λh2=>h2.2⟩};{rw [pF];exact ⟨λh2=>(by cases h2),λh2=>by rw [h1] at h2;exact absurd h2.1 (by decide)⟩};{have hc:=jY hc;rw [iK ⟨hp,hc⟩] at hK;exact hK _ _ (Ext.refl _)};have hc:=sK hc;refine Ar (decide (ge hi 4602678819172646912=true/\le lo 4593671619917905920=true),()) (Bs2 (Ac (λh1=>Cl8 ⟨Di ?_,rfl⟩) λh1=>⟨Di ?_,rfl⟩)) (Ac (λhc2=>?_) λhc2=>?_);{rw [pF];exact ⟨λh2=>⟨h1,h2⟩,λh2=>h2.2⟩};{rw [pF];exact ⟨λh2=>(by cases h2),λh2=>by rw [h1] at h2;exact absurd h2.1 (by decide)⟩};{have hc2:=jY hc2;rw [iP (λhh=>hc hh.2),iK ⟨hp,hc2⟩] at hK;exact hK _ _ (Ext.refl _)};have hc2:=sK hc2;exact ⟨rfl,λhh=>hc hh.2,λhh=>hc2 hh.2⟩};{(have hp:¬0<u:=by have:=sK hp;omega);exact ⟨rfl,λhh=>hp hh.1,λhh=>hp hh.1⟩}};rintro _ _ ⟨rfl,n1,n2⟩;rw [iP n1,iP n2] at hK;clear n1 n2 hg hhi hlo;obtain ⟨hRH,hHl⟩:=Bl8 l.length l;obtain ⟨H,hH⟩:∃x,x=(hrK l.length l).1:=⟨_,rfl⟩;obtain ⟨R,hR⟩:∃x,x=(hrK l.length l).2:=⟨_,rfl⟩;rw [←hH,←hR] at hK hRH;rw [←hH] at hHl;refine Ai (λx W=>x=((H:Int),(R:Int),())/\Ext w W) ?_ ?_
 ·refine Bo (λs W=>∃m a h r:Nat,s=((h:Int),(r:Int),(a:Int),())/\Ext w W/\a<=l.length/\h+(hrK m (l.drop a)).1=H/\r+(hrK m (l.drop a)).2=R/\l.length-a<=m) (λs _=>l.length-s.2.2.1.toNat) ⟨l.length,0,0,0,rfl,Ext.refl _,qI _,by rw [hH];simp,by rw [hR];simp,Nat.sub_le _ _⟩ ?_;rintro _ W ⟨m,a,hc,rc,rfl,e1,ha,h1,h2,hm⟩;dsimp only;refine Ac (λhlt=>?_) λhge=>?_
  ·(have hlt:a<l.length:=by have:=jY hlt;omega);obtain ⟨b,r,hbr⟩:∃b r,l.drop a=b::r:=by
    cases hd:l.drop a with
    |nil=>have:=lW List.length hd;simp at this;omega
    |cons b r=>exact ⟨b,r,rfl⟩
   have hba:l[a]?=some b:=by
    have:=lW (λx=>x[0]?) hbr
    simpa using this
   have hW:By W s l:=Dx.ext h e1;obtain ⟨m,rfl⟩:∃k,m=k+1:=⟨m-1,by omega⟩;have hcap:=hW.le;refine Ad0 hW (by omega) (by omega) (by omega) (by omega) (by omega) λs' hs' hl' hb'=>?_;have et:(l.drop ((a:Int)).toNat).take (((s.len:Nat):Int).toNat-((a:Int)).toNat)=b::r:=by
    rw [kH,kH,hbr]
    refine sQ ?_
    have:=lW List.length hbr
    simp only [nH] at this
    omega
   rw [et] at hs';refine X0 hs' λW2 e2=>?_;obtain ⟨z1,z2,z3⟩:=Qn b r;have hlen2:(b::r).length=l.length-a:=(by rw [←hbr,nH]);rw [hbr] at h1 h2;simp only [hrK] at h1 h2;have ed:(b::r).drop (nx8 (b::r)).2=l.drop (a+(nx8 (b::r)).2):=(by rw [←hbr,qH,hbr]);rw [ed] at h1 h2;obtain ⟨v,hv⟩:∃v,v=nx8 (b::r):=⟨_,rfl⟩;rw [←hv] at z1 z2 z3 h1 h2 ⊢;dsimp only;obtain ⟨q1,q2⟩:=Bl8 m (l.drop (a+v.2));refine Ar (((rc+(if v.1<0 then 1 else 0):Nat):Int),()) (Ac (λhb=>?_) λhb=>?_) ?_;{rw [iK (jY hb),iE (by omega)];exact ⟨by rw [rE];rfl,rfl⟩};{rw [iP (sK hb)];exact ⟨rfl,rfl⟩};refine Ar (((hc+(if 128<=b.toNat then v.2 else 0):Nat):Int),()) (Lr (hW.ext e2) (by omega) (b:=b) (by rw [kH];exact hba) λp=>Ac (λhb=>?_) λhb=>?_) ?_;{(have hb:128<=b.toNat:=by have:=jY hb;omega);rw [iK hb] at h1 ⊢;rw [iE (by omega)];exact ⟨by rw [rE],rfl⟩};{(have hb:¬128<=b.toNat:=by have:=sK hb;omega);rw [iP hb];exact ⟨rfl,rfl⟩};rw [iE (by omega)];refine ⟨⟨m,a+v.2,_,_,by rw [←rE],e1.trans e2,by omega,by omega,by omega,by omega⟩,?_⟩;show l.length-((a:Int)+(v.2:Int)).toNat<l.length-((a:Int)).toNat;omega
  {(have hge:¬a<l.length:=by have:=sK hge;omega);have hnil:l.drop a=[]:=vF (by omega);rw [hnil,Ct7] at h1 h2;exact ⟨by rw [←h1,←h2];rfl,e1⟩}
 rintro _ W ⟨rfl,e1⟩;dsimp only;refine Ac (λh0=>?_) λh0=>?_;{(have h0:R=0:=by have:(R:Int)=0:=eq_of_beq h0;omega);rw [iK h0] at hK;exact hK _ _ e1};have h0:R≠0:=by
  intro hh;rw [hh] at h0;cases h0
 rw [iP h0] at hK;rw [iE (by omega)];refine Ai0 (Ai0 (Cd8 ⟨by omega,by omega⟩ ⟨by omega,by omega⟩ (Bs2 (Ac (λhg=>?_) λhg=>?_))));{rw [iK hg] at hK;exact hK _ _ e1};{rw [iP (by rw [hg];decide)] at hK;exact Cw6 ⟨by omega,by omega⟩ ⟨by omega,by omega⟩ (hK _ _ e1)}
end
end Dq
end
section
namespace Dq
open Go Go.Vx Dsk
section
variable {D D':Dk}{N:Nat}
def Yu {l:List Fl}{i:Nat}{g:Fl}(hg:l[i]?=some g) (f:Fl->Fl) (j:Nat):(Ju l i f).getD j ⟨[],0,0⟩=if j=i then f g else l.getD j ⟨[],0,0⟩:=by rw [Ig hg,rJ,nX];have hi:=(lY.1 hg).1;by_cases h:j=i;{subst h;rw [iK rfl,iK rfl,iK hi];rfl};{rw [iP (Ne.symm h),iP h,rJ]}
def Ah5 (q:Quiet D):Bg D=(Dsk.settle { D with steps:=D.steps+1 },0,()):=by unfold Bg;rw [Gw q];rfl
end
end Dq
end
section
namespace Dq
open Go Go.Vx Dsk
section
variable {D D':Dk}{N:Nat}
def Bj2 {α:Type} [DecidableEq α] {f g:α->Int}{a:α}:∀{l:List α},l.Nodup->a∈l->(∀x∈l,x≠a->f x=g x)->Fq (l.map f)=Fq (l.map g)+(f a-g a)
 |[],_,h,_=>by cases h
 | x::r,hn,ha,h=>by
  obtain ⟨h1,h2⟩:=jT.1 hn
  by_cases e:x=a
  ·subst e
   have:r.map f=r.map g:=rD λy hy=>h y (iO _ hy) λe=>h1 (e▸hy)
   simp only [kV,Fq,this];omega
  ·have ha:a∈r:=by rcases iL.1 ha with h|h;exact absurd h.symm e;exact h
   have:=Bj2 h2 ha λy hy=>h y (iO _ hy)
   simp only [kV,Fq,this,h x iM e];omega
def Au3 {α:Type}{f g:α->Int}{p:α->Bool}:∀{l:List α},(∀x∈l,p x=true->f x=g x)->(∀x∈l,0<=g x)->Fq ((l.filter p).map f)<=Fq (l.map g)
 |[],_,_=>kJ _
 |x::r,h,h0=>by
  have:=Au3 (l:=r) (λy hy=>h y (iO _ hy)) λy hy=>h0 y (iO _ hy)
  have hx:=h0 x iM
  cases hp:p x with
  |true=>rw [wG hp];simp only [kV,Fq,h x iM hp];omega
  |false=>rw [wH (by rw [hp];simp)];simp only [kV,Fq];omega
def _root_.Go.Proofs.YtmooldhpiopcgaaGreatDoor.Dsk.Lists.eq {f g:Dir}{l:List Nm}(h:Lists f l) (e:g=f):Lists g l:=e▸h
def wt (fs:List Fl):Option Nat->Int
 |some i=>(fs.getD i ⟨[],0,0⟩).data.length
 |none=>0
def Bo0 (fs:List Fl) (o:Option Nat):0<=wt fs o:=by cases o<;>simp only [wt]<;>omega
def Bv6 (D:Dk):weigh D none=λn=>wt D.files (D.seen n):=by funext n;unfold weigh wt;cases D.seen n<;>rfl
def Yc {l:List Nm}(h:Lists D.seen l):Cb D none=Fq (l.map λn=>wt D.files (D.seen n)):=by rw [Z9 h,Bv6]
def Bv8 (ok:Bj D N){n:Nm}{i:Nat}(h:D.seen n=some i) (f:Fl->Fl) (hs:D'.seen=D.seen) (hf:D'.files=Ju D.files i f) :
  Cb D' none=Cb D (some i)+(f (fl D i)).data.length:=by
 obtain ⟨hl,_⟩:=ok.seen.names;obtain ⟨g,hg,hfl⟩:=Jz ok h;(have hl':Lists D'.seen (names D.seen):=by rw [hs];exact hl);have hm:n∈names D.seen:=(hl.2 n).2 (by rw [h];rfl);rw [Yc hl',Z9 hl,Bj2 (g:=weigh D (some i)) hl.1 hm λm _ hmn=>?_]
 ·(have h1:weigh D (some i) n=0:=by unfold weigh;rw [h];simp);have h2:wt D'.files (D'.seen n)=(f (fl D i)).data.length:=by
   rw [hs,h,hf];show ((_:Fl).data.length:Int)=_;rw [Yu hg,iK rfl,hfl]
  rw [h1,h2];omega
 ·rw [hs];cases hm':D.seen m with
  |none=>unfold wt weigh;rw [hm']
  |some j=>have hji:j≠i:=λe=>hmn (ok.seen.inj m n i (by rw [hm',e]) h);unfold wt weigh;rw [hm',hf];dsimp only;rw [Yu hg,iP hji,iP (by simpa using hji)];rfl
def Bw0 (ok:Bj D N){n:Nm}{i:Nat}(h:D.seen n=some i):Cb D none=Cb D (some i)+(fl D i).data.length:=by refine Bv8 ok h id rfl ?_;obtain ⟨g,hg,hfl⟩:=Jz ok h;rw [Ig hg];obtain ⟨hl,rfl⟩:=lY.1 hg;exact (List.set_getElem_self hl).symm
def Bv9 (ok:Bj D N) (a:Nm) (hs:D'.seen=Eo D.seen a none) (hf:D'.files=D.files):Cb D' none<=Cb D none:=by obtain ⟨hl,_⟩:=ok.seen.names;have hl':=(Wy hl a).eq hs;rw [Yc hl',Yc hl];refine Au3 (λm _ hm=>?_) λ_ _=>Bo0 ..;rw [hs,hf];unfold Eo;rw [iP (by simpa using hm)]
def At7 (ok:Bj D N){a:Nm}(h:D.seen a=none){g:Fl}(hs:D'.seen=Eo D.seen a (some D.files.length)) (hf:D'.files=D.files++[g]):Cb D' none=Cb D none+g.data.length:=by
 obtain ⟨hl,_⟩:=ok.seen.names;have hl':=(Wx (i:=D.files.length) hl h).eq hs;rw [Yc hl',Yc hl];(have ha:wt D'.files (D'.seen a)=g.data.length:=by rw [hs,hf];unfold Eo wt;rw [iK rfl];simp);have hr:(names D.seen).map (λn=>wt D'.files (D'.seen n))=(names D.seen).map λn=>wt D.files (D.seen n):=rD λn hn=>by
  obtain ⟨i,hi⟩:=sV.1 ((hl.2 n).1 hn)
  have hna:n≠a:=λe=>by rw [e,h] at hi;cases hi
  have:=ok.seen.ids n i hi
  rw [hs,hf];unfold Eo;rw [iP hna,hi];unfold wt
  simp [mZ this]
 simp only [kV,Fq,ha,hr];omega
def Vz (D:Dk) (a:Iq):Gf (D.acts++[a]) D.lasts=a.on D.seen:=by
 have:∀(l:List Iq) (f:Dir),Gf (l++[a]) f=a.on (Gf l f):=by
  intro l
  induction l with
  |nil=>intro f;rfl
  |cons x r ih=>intro f;exact ih _
 exact this _ _
def Ak8 (ok:Bj D N):Bj { D with steps:=D.steps+1 } (N+1):=by have:=ok.steps;exact ⟨ok.space,λi f hf=>let ⟨a,b,c,e⟩:=ok.fil i f hf;⟨a,b,c,by omega⟩,mM ok.num (tX _),ok.good,⟨by dsimp only;omega,by dsimp only;omega⟩,mM ok.acts (tX _)⟩
end
end Dq
end
section
namespace Dq
open Go Go.Vx Dsk
section
variable {D E:Dk}{N M:Nat}{n sd:Nm}{k:Int}{g:Fl}{T:List UInt8}
def Ak1 (n:Nm):(side n).data.toList=n.data.toList++[126]:=by unfold side;simp
def Ao7 (n:Nm):side n≠n:=λh=>by have:=lW (λx:Nm=>x.data.toList.length) h;simp only [Ak1] at this;simp at this
def Aa1 (h:userName n=true):Bl n=true/\Bl (side n)=true:=by
 unfold userName at h;simp only [jA,pF] at h;obtain ⟨⟨h1,h2⟩,h3⟩:=h;refine ⟨h1,?_⟩;unfold Bl at h1 ⊢;simp only [jA,wI,ne_eq,pF] at h1 ⊢;have hs:(side n).size=n.size+1:=by
  show (n.data.push 126).size=n.data.size+1
  simp
 refine ⟨⟨by omega,by omega⟩,?_⟩;rw [Ak1,jD,h1.2];decide
structure Bes (D E:Dk) (sd:Nm) (k:Int) (g:Fl):Prop where
 q:Quiet E
 files:E.files=D.files++[g]
 lasts:E.lasts=D.lasts
 seen:E.seen=Eo D.seen sd (some D.files.length)
 steps:E.steps=D.steps+k
 space:E.space=D.space
 ok:∃M,Bj E M
 acts:∃as_,E.acts=D.acts++as_
def Bes.find (h:Bes D E sd k g) (hn:Bl sd=true):Dsk.find E sd=(some D.files.length,0):=by unfold Dsk.find;rw [iP (by rw [hn];simp),h.seen];unfold Eo;rw [iK rfl]
def Bes.at_ (h:Bes D E sd k g):E.files[D.files.length]?=some g:=by rw [h.files];simp
def Bes.fl (h:Bes D E sd k g):fl E D.files.length=g:=by unfold Dsk.fl;rw [rJ,h.at_];rfl
def E5 (f:Dir) (a:Nm) (x y:Option Nat):Eo (Eo f a x) a y=Eo f a y:=by funext m;unfold Eo;split<;>rfl
def Bs9 (f:Dir) (a:Nm){x:Option Nat}(h:f a=x):Eo f a x=f:=by funext m;unfold Eo;split;{rename_i hh;rw [hh,h]};{rfl}
def Bes.used (h:Bes D E sd k g) (ok:Bj D N):Cb E none<=Cb D none+g.data.length:=by
 cases hs:D.seen sd with
 |none=>have:=At7 ok hs h.seen h.files;omega
 |some j=>have hG:Good D.files.length (Eo D.seen sd none):=Good.del ok.seen sd;have ok2:Bj { D with acts:=D.acts++[.rm sd] } (N+1):=ok.push hG;have h2:({ D with acts:=D.acts++[.rm sd] }:Dk).seen=Eo D.seen sd none:=Vz D (.rm sd);(have h3:({ D with acts:=D.acts++[.rm sd] }:Dk).seen sd=none:=by rw [h2];unfold Eo;rw [iK rfl]);have h4:=At7 (D':=E) ok2 h3 (by rw [h2,E5];exact h.seen) h.files;have h5:=Bv9 (D':={ D with acts:=D.acts++[.rm sd] }) ok sd h2 rfl;omega
def Ae9 (q:Quiet D) (ok:Bj D N) (hn:Bl sd=true) (h0:D.seen sd=none) (hl:(names D.seen).length<16) :
  (Bz D sd).2.1=0/\Bes D (Bz D sd).1 sd 1 ⟨[],0,0⟩:=by
 have hok:=Jj ok sd;have hf:Dsk.find { D with steps:=D.steps+1 } sd=(none,162):=by
  rw [Hy];unfold Dsk.find;rw [iP (by rw [hn];simp),h0]
 have e:Bz D sd=({ D with steps:=D.steps+1,files:=D.files++[⟨[],0,0⟩],acts:=D.acts++[.mk sd D.files.length] },0,()):=by
  unfold Bz
  rw [Gw q]
  unfold u mkR
  rw [hf]
  dsimp only
  have hl':¬16<=(names ({ D with steps:=D.steps+1 }:Dk).seen).length:=by show ¬16<=(names D.seen).length;omega
  rw [iP (by decide),iP (by decide),iP hl']
 rw [e] at hok ⊢;exact ⟨rfl,⟨q.up,q.plan⟩,rfl,rfl,Vz D (.mk sd D.files.length),rfl,rfl,⟨_,hok⟩,⟨_,rfl⟩⟩
def Ap5 (q:Quiet D) (hn:Bl sd=true){i:Nat}(h0:D.seen sd=some i):Au D sd=({ D with steps:=D.steps+1,acts:=D.acts++[.rm sd] },0,()):=by
 have hf:Dsk.find { D with steps:=D.steps+1 } sd=(some i,0):=by
  rw [Hy];unfold Dsk.find;rw [iP (by rw [hn];simp),h0]
 unfold Au;rw [Gw q];unfold u rmR;rw [hf]
def Bf2 (q:Quiet D) (hn:Bl sd=true){i:Nat}(h0:D.seen sd=some i):Bz D sd=({ D with steps:=D.steps+1 },163,()):=by
 have hf:Dsk.find { D with steps:=D.steps+1 } sd=(some i,0):=by
  rw [Hy];unfold Dsk.find;rw [iP (by rw [hn];simp),h0]
 unfold Bz;rw [Gw q];unfold u mkR;rw [hf];rfl
def Ba3 (q:Quiet D) (ok:Bj D N) (hn:Bl sd=true) (hl:D.seen sd=none->(names D.seen).length<16) :
  (Ec D sd).2=0/\Bes D (Ec D sd).1 sd (if D.seen sd=none then 1 else 3) ⟨[],0,0⟩:=by
 cases h0:D.seen sd with
 | none =>
  obtain ⟨h1,h2⟩:=Ae9 q ok hn h0 (hl h0);have e:Ec D sd=((Bz D sd).1,(Bz D sd).2.1):=by
   unfold Ec
   dsimp only
   rw [h1,iP (by decide)]
  rw [e,iK rfl];exact ⟨h1,h2⟩
 | some i =>
  have e1:=Bf2 q hn h0;have q1:Quiet { D with steps:=D.steps+1 }:=⟨q.up,q.plan⟩;have e2:Au { D with steps:=D.steps+1 } sd=({ D with steps:=D.steps+1+1,acts:=D.acts++[.rm sd] },0,()):=Ap5 q1 hn h0;have hG:Good D.files.length (Eo D.seen sd none):=Good.del ok.seen sd;have ok1:=Ak8 (Ak8 ok);have hs2:({ D with steps:=D.steps+1+1,acts:=D.acts++[.rm sd] }:Dk).seen=Eo D.seen sd none:=Vz D (.rm sd);have ok2:Bj { D with steps:=D.steps+1+1,acts:=D.acts++[.rm sd] } (N+2+1):=ok1.push (a:=.rm sd) hG;have q2:Quiet { D with steps:=D.steps+1+1,acts:=D.acts++[.rm sd] }:=⟨q.up,q.plan⟩;(have h3:({ D with steps:=D.steps+1+1,acts:=D.acts++[.rm sd] }:Dk).seen sd=none:=by rw [hs2];unfold Eo;rw [iK rfl]);have hl2:(names ({ D with steps:=D.steps+1+1,acts:=D.acts++[.rm sd] }:Dk).seen).length<16:=by
   obtain ⟨l1,l2⟩:=ok.seen.names
   rw [hs2,Qg (Wy l1 sd)]
   have:=filter_lt (l:=names D.seen) (a:=sd) ((l1.2 sd).2 (by rw [h0];rfl))
   omega
  obtain ⟨h4,h5⟩:=Ae9 q2 ok2 hn h3 hl2;have e:Ec D sd=((Bz { D with steps:=D.steps+1+1,acts:=D.acts++[.rm sd] } sd).1,(Bz { D with steps:=D.steps+1+1,acts:=D.acts++[.rm sd] } sd).2.1):=by
   unfold Ec
   dsimp only
   rw [e1]
   dsimp only
   rw [iK rfl,e2]
   dsimp only
   rw [iK rfl]
  rw [e];refine ⟨h4,h5.q,h5.files,h5.lasts,?_,?_,h5.space,h5.ok,?_⟩;{rw [h5.seen,hs2,E5]};{rw [h5.steps,iP (by simp)];show D.steps+1+1+1=_;omega};{obtain ⟨as_,ha⟩:=h5.acts;exact ⟨.rm sd::as_,by rw [ha];show (D.acts++[.rm sd])++as_=_;simp⟩}
def Bi2 (h:Bes D E sd k g) (ok:Bj D N) (hn:Bl sd=true){b:List UInt8}(hb:b≠[]) (hr:Cb D none+g.data.length+b.length<=D.space) :
  (Bv E sd b).2.1=0/\Bes D (Bv E sd b).1 sd (k+1) ⟨g.data++b,g.synced,g.count+1⟩:=by
 obtain ⟨M,okE⟩:=h.ok;have hok:=Kq okE sd b;have hu:=h.used ok;have hu2:=okE.used none;have hbl:0<b.length:=qF.2 hb;have hroom:¬room { E with steps:=E.steps+1 }<(b.length:Int):=by
  have:room { E with steps:=E.steps+1 }=room E:=rfl
  rw [this]
  unfold room
  rw [h.space];omega
 (have hf:Dsk.find { E with steps:=E.steps+1 } sd=(some D.files.length,0):=by rw [Hy];exact h.find hn);have e:Bv E sd b=({ E with steps:=E.steps+1,files:=Ju E.files D.files.length λf=>⟨f.data++b,f.synced,f.count+1⟩ },0,(if E.down=true then 0 else (b.length:Int))):=by
  unfold Bv
  rw [Gw h.q]
  unfold apR
  rw [hf]
  dsimp only
  rw [iP hroom,iP (by omega)]
  have ht:b.take (Int.toNat (b.length:Int))=b:=by rw [kH,rH]
  rw [ht]
  have hpos:((b.length:Int)>0):=by omega
  simp only [iK hpos]
 rw [e] at hok ⊢;refine ⟨rfl,⟨h.q.up,h.q.plan⟩,?_,h.lasts,h.seen,?_,h.space,⟨_,hok⟩,h.acts⟩;{show Ju E.files _ _=_;rw [Ig h.at_,h.files];simp};{show E.steps+1=_;rw [h.steps];omega}
def Af7:∀(m:Nat) (T:List UInt8),T.length<=m->∀{E:Dk}{k:Int}{g:Fl},Bes D E sd k g->Bj D N->Bl sd=true->Cb D none+g.data.length+T.length<=D.space ->
  (Fe sd T E).2=0/\∃c,Bes D (Fe sd T E).1 sd (k+((T.length+1023)/1024:Nat)) ⟨g.data++T,g.synced,c⟩
 |0,T,hm,E,k,g,h,ok,hn,hr=>by
  obtain rfl:T=[]:=jH.1 (by omega)
  exact ⟨rfl,g.count,by rw [Xa,vP];simpa using h⟩
 | m+1,T,hm,E,k,g,h,ok,hn,hr=>by
  by_cases hT:T=[]
  ·subst hT
   exact ⟨rfl,g.count,by rw [Xa,vP];simpa using h⟩
  ·have hpos:0<T.length:=qF.2 hT
   have hl:(T.take 1024).length<=T.length:=by rw [nG];omega
   obtain ⟨h1,h2⟩:=Bi2 h ok hn (b:=T.take 1024) (λhh=>by have:=lW List.length hh;rw [nG,kW] at this;omega) (by omega)
   have hlen:(T.take 1024).length+(T.drop 1024).length=T.length:=by rw [nG,nH];omega
   obtain ⟨h3,c,h4⟩:=Af7 m (T.drop 1024) (by rw [nH];omega) h2 ok hn (by simp only [oC];omega)
   rw [Xy hT,iK h1]
   refine ⟨h3,c,?_⟩
   have e1:(g.data++T.take 1024)++T.drop 1024=g.data++T:=by rw [lM,vG]
   have e2:k+1+(((T.drop 1024).length+1023)/1024:Nat)=k+((T.length+1023)/1024:Nat):=by
    rw [nH];omega
   dsimp only at h4
   rw [e1,e2] at h4
   exact h4
def Bw8 (h:Bes D E sd k g) (hn:Bl sd=true):(Ef E sd).2.1=0/\Bes D (Ef E sd).1 sd (k+1) ⟨g.data,g.data.length,g.count⟩:=by
 obtain ⟨M,okE⟩:=h.ok;have hok:=Rj okE sd;(have hf:Dsk.find { E with steps:=E.steps+1 } sd=(some D.files.length,0):=by rw [Hy];exact h.find hn);have e:Ef E sd=({ E with steps:=E.steps+1,files:=Ju E.files D.files.length λf=>⟨f.data,f.data.length,f.count⟩ },0,()):=by
  unfold Ef
  rw [Gw h.q]
  unfold u syR
  rw [hf]
 rw [e] at hok ⊢;refine ⟨rfl,⟨h.q.up,h.q.plan⟩,?_,h.lasts,h.seen,?_,h.space,⟨_,hok⟩,h.acts⟩;{show Ju E.files _ _=_;rw [Ig h.at_,h.files];simp};{show E.steps+1=_;rw [h.steps];omega}
def Bp0 (h:Bes D E sd k g) (hn:Bl sd=true):(Aj E sd).2.1=0/\(Aj E sd).2.2=((D.files.length:Int)+1,(g.data.length:Int),g.count)/\Bes D (Aj E sd).1 sd (k+1) g:=by obtain ⟨M,okE⟩:=h.ok;have hok:=Ho okE sd;have e:=O6 h.q hn (i:=D.files.length) (by rw [h.seen];unfold Eo;rw [iK rfl]);rw [h.fl] at e;rw [e] at hok ⊢;exact ⟨rfl,rfl,⟨h.q.up,h.q.plan⟩,h.files,h.lasts,h.seen,by show E.steps+1=_;rw [h.steps];omega,h.space,⟨_,hok⟩,h.acts⟩
structure Put (D E:Dk) (n:Nm) (k:Int) (g:Fl):Prop where
 q:Quiet E
 files:E.files=D.files++[g]
 seen:E.seen=Eo (Eo D.seen (side n) none) n (some D.files.length)
 steps:E.steps=D.steps+k
 space:E.space=D.space
 ok:∃M,Bj E M
def Bd2 (h:Bes D E (side n) k g) (hn:Bl n=true) (hs:Bl (side n)=true):(Dc E (side n) n).2.1=0/\Put D (Dc E (side n) n).1 n (k+1) g/\(Dc E (side n) n).1.lasts=D.lasts:=by
 obtain ⟨M,okE⟩:=h.ok;have hok:=Oj okE (side n) n;(have hf:Dsk.find { E with steps:=E.steps+1 } (side n)=(some D.files.length,0):=by rw [Hy];exact h.find hs);have e:Dc E (side n) n=({ E with steps:=E.steps+1,acts:=E.acts++[.mv (side n) n D.files.length] },0,()):=by
  unfold Dc
  rw [Gw h.q]
  unfold u mvR
  rw [iP (by rw [hn];simp),hf]
  dsimp only
  rw [iP (Ao7 n)]
 rw [e] at hok ⊢;refine ⟨rfl,⟨⟨h.q.up,h.q.plan⟩,h.files,?_,?_,h.space,⟨_,hok⟩⟩,h.lasts⟩;{have:=Vz { E with steps:=E.steps+1 } (.mv (side n) n D.files.length);show Gf (E.acts++[.mv (side n) n D.files.length]) E.lasts=_;have h2:Gf (E.acts++[.mv (side n) n D.files.length]) E.lasts=Eo (Eo E.seen (side n) none) n (some D.files.length):=this;rw [h2,h.seen,E5]};{show E.steps+1=_;rw [h.steps];omega}
def Bd1 (q:Quiet D) (ok:Bj D N) (hu:userName n=true) (hl:D.seen (side n)=none->(names D.seen).length<16) (hr:Cb D none+T.length<=D.space) (t:Stm) :
  ∃c,(Hl D n T t).2=(0,(D.files.length:Int)+1,(T.length:Int),c)/\Put D (Hl D n T t).1 n ((if D.seen (side n)=none then 4 else 6)+((T.length+1023)/1024:Nat)) ⟨T,T.length,c⟩:=by obtain ⟨hn,hs⟩:=Aa1 hu;obtain ⟨b1,b2⟩:=Ba3 q ok hs hl;obtain ⟨f1,c,f2⟩:=Af7 T.length T (mJ _) b2 ok hs (by simpa using hr);rw [iZ] at f2;obtain ⟨s1,s2⟩:=Bw8 f2 hs;obtain ⟨t1,t2,t3⟩:=Bp0 s2 hs;obtain ⟨r1,r2,_⟩:=Bd2 t3 hn hs;have e:=Bk1 (t:=t) b1 f1 s1 t1;rw [t2,r1] at e;unfold clean at e;rw [iK rfl] at e;rw [e];refine ⟨c,rfl,?_⟩;have hk:((if D.seen (side n)=none then 1 else 3)+((T.length+1023)/1024:Nat)+1+1+1:Int)=(if D.seen (side n)=none then 4 else 6)+((T.length+1023)/1024:Nat):=(by split<;>omega);rw [hk] at r2;exact r2
def Au2 (h:Put D E n k g):(Bg E).2.1=0/\Put D (Bg E).1 n (k+1) g/\(Bg E).1.acts=[]/\(Bg E).1.lasts=E.seen:=by obtain ⟨M,okE⟩:=h.ok;have hok:=Nc okE;have e:=Ah5 h.q;rw [e] at hok ⊢;refine ⟨rfl,⟨⟨h.q.up,h.q.plan⟩,h.files,?_,?_,h.space,⟨_,hok⟩⟩,rfl,rfl⟩;{show Gf [] (Dk.seen { E with steps:=E.steps+1 })=_;exact h.seen};{show E.steps+1=_;rw [h.steps];omega}
def As8 (q:Quiet D) (ok:Bj D N) (hu:userName n=true) (hl:D.seen (side n)=none->(names D.seen).length<16) (hr:Cb D none+T.length<=D.space) (t kn:Stm) :
  ∃c,(Fb D n T t kn).2=(0,((D.files.length:Int)+1,(T.length:Int),c),((D.files.length:Int)+1,(T.length:Int),c))/\Put D (Fb D n T t kn).1 n ((if D.seen (side n)=none then 5 else 7)+((T.length+1023)/1024:Nat)) ⟨T,T.length,c⟩/\(Fb D n T t kn).1.acts=[]/\(Fb D n T t kn).1.lasts=(Fb D n T t kn).1.seen:=by
 obtain ⟨c,h1,h2⟩:=Bd1 q ok hu hl hr t;obtain ⟨s1,s2,s3,s4⟩:=Au2 h2;have e:Fb D n T t kn=((Bg (Hl D n T t).1).1,(Bg (Hl D n T t).1).2.1,(Hl D n T t).2.2,(Hl D n T t).2.2):=by
  unfold Fb
  dsimp only
  rw [iP (by rw [h1];simp)]
 rw [e,s1,h1];refine ⟨c,rfl,?_,s3,?_⟩;{have hk:((if D.seen (side n)=none then 4 else 6)+((T.length+1023)/1024:Nat)+1:Int)=(if D.seen (side n)=none then 5 else 7)+((T.length+1023)/1024:Nat):=(by split<;>omega);rw [hk] at s2;exact s2};{show (Bg (Hl D n T t).1).1.lasts=(Bg (Hl D n T t).1).1.seen;rw [s4,s2.seen,h2.seen]}
end
end Dq
end
section
namespace Dq
open Go Go.Vx Dsk
abbrev Vw:=Nm->Option (List UInt8)
def Zg (V:Vw) (n:Nm) (b:Option (List UInt8)):Vw:=λm=>if m=n then b else V m
structure Sol (D:Dk) (V:Vw):Prop where
 q:Quiet D
 acts:D.acts=[]
 view:∀m,(D.seen m).map (λi=>(fl D i).data)=V m
 dry:∀m i,D.seen m=some i->(fl D i).synced=(fl D i).data.length
section
variable {D E:Dk}{N M:Nat}{n:Nm}{k:Int}{g:Fl}{T b:List UInt8}{V:Vw}
def Sol.st (h:Sol D V) (k:Int):Sol { D with steps:=k } V:=⟨⟨h.q.up,h.q.plan⟩,h.acts,h.view,h.dry⟩
def Sol.Yp (h:Sol D V){m:Nm}:D.seen m=none↔V m=none:=by rw [←h.view m];simp
def Sol.new (space:Int):Sol (Rx space) λ_=>none:=⟨⟨rfl,λ_=>rfl⟩,rfl,λ_=>rfl,λm i h=>by cases h⟩
def Sol.used (h:Sol D V) (ok:Bj D N){B:Nat}(hB:∀m b,V m=some b->b.length<=B) (o:Option Nat):Cb D o<=((names D.seen).length:Int)*(B:Int):=by
 unfold Cb
 have:=Yg (l:=(names D.seen).map (weigh D o)) (B:=(B:Int)) λx hx=>by
  obtain ⟨m,_,rfl⟩:=nT.1 hx
  unfold weigh
  have hv:=h.view m
  cases hs:D.seen m with
  |none=>dsimp only;omega
  |some i =>
   rw [hs] at hv
   have hb:(fl D i).data.length<=B:=hB m _ hv.symm
   dsimp only
   split<;>omega
 rwa [nO] at this
def Ck1 (h:Sol D V) (ok:Bj D N) (hn:Bl n=true) (hl:V n=none->(names D.seen).length<16) (hr:(b.length:Int)<=D.space-Cb D (D.seen n)) :
  (Lc D n b).2=0/\Sol (Lc D n b).1 (Zg V n (some b))/\(Lc D n b).1.space=D.space/\(Lc D n b).1.steps=D.steps/\(names (Lc D n b).1.seen).length<=(names D.seen).length+1/\(V n≠none->(names (Lc D n b).1.seen).length=(names D.seen).length):=by
 have hno:¬((D.seen n=none/\16<=(names D.seen).length)\/(b.length:Int)>D.space-Cb D (D.seen n)):=by
  rintro (⟨h1,h2⟩|h2)
  ·have:=hl (h.Yp.1 h1);omega
  ·omega
 obtain ⟨l1,l2⟩:=ok.seen.names;cases hs:D.seen n with
 | none =>
  have e:Lc D n b=({ D with lasts:=Eo D.seen n (some D.files.length),acts:=[],files:=D.files++[⟨b,b.length,1⟩] },0):=by
   unfold Lc
   rw [iP (by rw [h.q.up];simp),iP (by rw [hn];simp),iP hno,hs]
  obtain ⟨E,hE⟩:∃E:Dk,E={ D with lasts:=Eo D.seen n (some D.files.length),acts:=[],files:=D.files++[⟨b,b.length,1⟩] }:=⟨_,rfl⟩;rw [←hE] at e;rw [e];(have hseen:E.seen=Eo D.seen n (some D.files.length):=by rw [hE];rfl);have hfiles:E.files=D.files++[⟨b,b.length,1⟩]:=(by rw [hE]);have hfn:fl E D.files.length=⟨b,b.length,1⟩:=by
   unfold fl;rw [hfiles,rJ];simp
  have hfo:∀i,i<D.files.length->fl E i=fl D i:=λi hi=>by
   unfold fl;rw [hfiles,rJ,rJ,mZ hi]
  refine ⟨rfl,⟨by rw [hE];exact ⟨h.q.up,h.q.plan⟩,by rw [hE],λm=>?_,λm i hi=>?_⟩,by rw [hE],by rw [hE],?_,λhh=>absurd (h.Yp.1 hs) hh⟩
  ·dsimp only;rw [hseen];unfold Eo Zg;split;{rw [jL,hfn]}
   ·rw [←h.view m];cases hm:D.seen m with
    |none=>rfl
    |some i=>rw [jL,jL,hfo i (ok.seen.ids m i hm)]
  {dsimp only at hi ⊢;rw [hseen] at hi;unfold Eo at hi;split at hi;{cases hi;rw [hfn]};{rw [hfo i (ok.seen.ids m i hi)];exact h.dry m i hi}};{dsimp only;rw [hseen,Qg (Wx l1 hs)];simp}
 | some i =>
  have e:Lc D n b=({ Dsk.settle D with files:=Ju D.files i λf=>⟨b,b.length,f.count+1⟩ },0):=by
   unfold Lc
   rw [iP (by rw [h.q.up];simp),iP (by rw [hn];simp),iP hno,hs]
  obtain ⟨g,hg,hfl⟩:=Jz ok hs;obtain ⟨E,hE⟩:∃E:Dk,E={ Dsk.settle D with files:=Ju D.files i λf=>⟨b,b.length,f.count+1⟩ }:=⟨_,rfl⟩;rw [←hE] at e;rw [e];(have hseen:E.seen=D.seen:=by rw [hE];rfl);(have hf2:∀j,fl E j=if j=i then ⟨b,b.length,g.count+1⟩ else fl D j:=λj=>by rw [hE];exact Yu hg _ j);refine ⟨rfl,⟨by rw [hE];exact ⟨h.q.up,h.q.plan⟩,by rw [hE];rfl,λm=>?_,λm j hj=>?_⟩,by rw [hE];rfl,by rw [hE];rfl,?_,λ_=>by dsimp only;rw [hseen]⟩
  ·dsimp only;rw [hseen];unfold Zg;split;{rename_i hm;rw [hm,hs,jL,hf2,iK rfl]}
   ·rename_i hm;rw [←h.view m];cases hsm:D.seen m with
    |none=>rfl
    |some j=>have:j≠i:=λhh=>hm (ok.seen.inj m n i (by rw [hsm,hh]) hs);rw [jL,jL,hf2,iP this]
  {dsimp only at hj ⊢;rw [hseen] at hj;rw [hf2];split;{rfl};{exact h.dry m j hj}};{dsimp only;rw [hseen];exact tX _}
def Ie (D:Dk) (n:Nm):Stm:=match D.seen n with|some i=>((i:Int)+1,((fl D i).data.length:Int),(fl D i).count)|none=>(0,0,0)
def Bj4 (q:Quiet D) (hn:Bl n=true):Aj D n=({ D with steps:=D.steps+1 },(if D.seen n=none then 162 else 0),Ie D n):=by
 unfold Ie;cases hs:D.seen n with
 |some i=>rw [O6 q hn hs,iP (by simp)]
 | none =>
  have hf:Dsk.find { D with steps:=D.steps+1 } n=(none,162):=by
   rw [Hy];unfold Dsk.find;rw [iP (by rw [hn];simp),hs]
  unfold Aj;rw [Gw q];unfold stR;rw [hf];rfl
def By4 (q:Quiet D) (hn:Bl n=true):Aw D n=({ D with steps:=D.steps+1 },(if D.seen n=none then 162 else 0),((D.seen n).map λi=>(fl D i).data).getD []):=by
 cases hs:D.seen n with
 |some i=>rw [Bd3 q hn hs,iP (by simp)];rfl
 | none =>
  have hf:Dsk.find { D with steps:=D.steps+1 } n=(none,162):=by
   rw [Hy];unfold Dsk.find;rw [iP (by rw [hn];simp),hs]
  unfold Aw;rw [Gw q];unfold rdR;rw [hf];rfl
def Put.sol {c:Int}(h:Put D E n k ⟨T,T.length,c⟩) (hS:Sol D V) (ok:Bj D N) (hv:V (side n)=none) (ha:E.acts=[]):Sol E (Zg V n (some T)):=by
 have h0:D.seen (side n)=none:=hS.Yp.2 hv;have hs:E.seen=Eo D.seen n (some D.files.length):=(by rw [h.seen,Bs9 _ _ h0]);(have hfn:fl E D.files.length=⟨T,T.length,c⟩:=by unfold fl;rw [h.files,rJ];simp);(have hfo:∀i,i<D.files.length->fl E i=fl D i:=λi hi=>by unfold fl;rw [h.files,rJ,rJ,mZ hi]);refine ⟨h.q,ha,λm=>?_,λm i hi=>?_⟩
 ·rw [hs];unfold Eo Zg;split;{rw [jL,hfn]}
  ·rw [←hS.view m];cases hm:D.seen m with
   |none=>rfl
   |some i=>rw [jL,jL,hfo i (ok.seen.ids m i hm)]
 {rw [hs] at hi;unfold Eo at hi;split at hi;{cases hi;rw [hfn]};{rw [hfo i (ok.seen.ids m i hi)];exact hS.dry m i hi}}
end
end Dq
end
section
namespace Dq
open Go Go.Vx Dsk
section
variable {D E:Dk}{N M:Nat}{n:Nm}{k:Int}{g:Fl}{T b:List UInt8}{V:Vw}{X:Fil}{force:Bool}
def Put.later (h:Put { D with steps:=D.steps+1 } E n k g):Put D E n (k+1) g:=⟨h.q,h.files,h.seen,by rw [h.steps];show D.steps+1+k=_;omega,h.space,h.ok⟩
def Nj (D:Dk) (X:Fil):Stm:=if D.seen X.name≠none/\Ie D X.name=X.tried then Ie D X.name else X.known
def Ci2 (q:Quiet D) (hn:Bl X.name=true):Ns D X b force =
  if force=false/\Ie D X.name≠Nj D X then ({ D with steps:=D.steps+1 },170,{ X with known:=Nj D X }) else
  ((Fb { D with steps:=D.steps+1 } X.name (X.mark++b) X.tried (Nj D X)).1,(Fb { D with steps:=D.steps+1 } X.name (X.mark++b) X.tried (Nj D X)).2.1,
   { X with tried:=(Fb { D with steps:=D.steps+1 } X.name (X.mark++b) X.tried (Nj D X)).2.2.1,known:=(Fb { D with steps:=D.steps+1 } X.name (X.mark++b) X.tried (Nj D X)).2.2.2 }):=by
 unfold Ns;rw [Bj4 q hn];dsimp only;have h1:¬((if D.seen X.name=none then (162:Int) else 0)≠0/\(if D.seen X.name=none then (162:Int) else 0)≠162):=(by split<;>simp);have h2:(if (if D.seen X.name=none then (162:Int) else 0)=0/\Ie D X.name=X.tried then Ie D X.name else X.known)=Nj D X:=by
  unfold Nj
  by_cases h:D.seen X.name=none<;>simp [h]
 rw [iP h1,h2]
def Bc9 (q:Quiet D) (ok:Bj D N) (hu:userName X.name=true) (hl:D.seen (side X.name)=none->(names D.seen).length<16) (hr:Cb D none+(X.mark++b).length<=D.space) (hk:force=true\/Ie D X.name=Nj D X) :
  ∃c,(Ns D X b force).2=(0,{ X with tried:=((D.files.length:Int)+1,((X.mark++b).length:Int),c),known:=((D.files.length:Int)+1,((X.mark++b).length:Int),c) }) /\
   Put D (Ns D X b force).1 X.name ((if D.seen (side X.name)=none then 6 else 8)+(((X.mark++b).length+1023)/1024:Nat)) ⟨X.mark++b,(X.mark++b).length,c⟩/\(Ns D X b force).1.acts=[]/\(Ns D X b force).1.lasts=(Ns D X b force).1.seen:=by obtain ⟨hn,_⟩:=Aa1 hu;have q1:Quiet { D with steps:=D.steps+1 }:=⟨q.up,q.plan⟩;obtain ⟨c,h1,h2,h3,h4⟩:=As8 (T:=X.mark++b) q1 (Ak8 ok) hu hl hr X.tried (Nj D X);have e:=Ci2 (b:=b) (force:=force) q hn;rw [iP (by rintro ⟨hf,hh⟩;rcases hk with hk|hk;rw [hk] at hf;cases hf;exact hh hk)] at e;rw [e,h1];refine ⟨c,rfl,?_,h3,h4⟩;have:=h2.later;have hk:((if D.seen (side X.name)=none then 5 else 7)+(((X.mark++b).length+1023)/1024:Nat)+1:Int)=(if D.seen (side X.name)=none then 6 else 8)+(((X.mark++b).length+1023)/1024:Nat):=(by split<;>omega);rw [←hk];exact this
def Ca0 {g:List UInt8->Int}{enc limit:Int}(q:Quiet D) (hu:userName n=true) (he:0<=enc/\enc<=4) (hl:0<=limit/\limit<=65536){i:Nat}(h:D.seen n=some i){b:List UInt8}(hb:(fl D i).data=b) (hf:(b.length:Int)-(He g enc b).2<=limit) :
  Ib g D n enc limit=({ D with steps:=D.steps+1+1 },0,some ⟨n,b.take (He g enc b).2.toNat,Ie D n,(0,0,0)⟩,⟨(He g enc b).1,(He g enc b).2,b.drop (He g enc b).2.toNat,false⟩):=by
 obtain ⟨hn,_⟩:=Aa1 hu;have q1:Quiet { D with steps:=D.steps+1 }:=⟨q.up,q.plan⟩;have hs:({ D with steps:=D.steps+1 }:Dk).seen n=some i:=h;have hr:Aw { D with steps:=D.steps+1 } n=({ D with steps:=D.steps+1+1 },0,b):=by
  rw [By4 q1 hn,hs,iP (by simp)]
  show (_,_,(fl { D with steps:=D.steps+1 } i).data)=_
  have:(fl { D with steps:=D.steps+1 } i).data=b:=hb
  rw [this]
 (have hst:Aj D n=({ D with steps:=D.steps+1 },0,Ie D n):=by rw [Bj4 q hn,iP (by rw [h];simp)]);unfold Ib;rw [iP (by rw [hu];simp),iP (by omega),iP (by omega),hst];dsimp only;rw [iP (show ¬(0:Int)=162 by decide),iP (show ¬(0:Int)≠0 by decide),hr];dsimp only;rw [iP (show ¬(0:Int)≠0 by decide),iP (by omega)]
end
end Dq
end
end Go.Proofs.YtmooldhpiopcgaaGreatDoor
