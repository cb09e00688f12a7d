/- YtolhlldgnfbemaaGreatDoorXAl4: parts of the proof, put together by program. -/
import Derived.Test.YtolhlldgnfbemaaGreatDoorXAl3
set_option linter.unusedVariables false
set_option linter.defProp false
set_option linter.unusedSimpArgs false
set_option linter.unusedSectionVars false
noncomputable section
set_option maxRecDepth 100000
namespace Go.Proofs.YtolhlldgnfbemaaGreatDoor
section
open Go Go.Vx Cdc Trx
section
variable {w w' W W':World}{S:Nat->Prop}{p:Nat}{e:Enc}{lim na:Nat}{O:Nat->Prop}{M:Parts}
theorem Un {a:Addr}{K:Addr->Wp}:nn (some a) K=K a:=funext λ_=>propext Ae6
abbrev txO (e:Enc) (lim:Nat) (tp:Option Addr) (a:Sl):Obj:=.cells #[.int .i64 e.num,.int .i64 (lim:Int),.pointer tp,.slice a.a a.len a.cap] 106 (0,0)
abbrev Cg2 (p b1 b2 b6 b7:Nat) (ps:Sl) (f n:Nat):List (Nat×Obj):=[(b7,.cells #[.int .i64 (n:Int)] 3 (0,0)),(b6,.cells #[.int .i64 (f:Int)] 3 (0,0)),(b2,.cells #[.slice ps.a ps.len ps.cap] 107 (0,0)),(b1,.cells #[.pointer (some (at0 p))] 29 (0,0))]
structure FrI (w W:World) (p:Nat) (e:Enc) (lim:Nat) (tp:Option Addr) (a0:Sl) (b1 b2 b6 b7:Nat) (a ps:Sl) (ab cb:Bs) (pl:List Pc) (M':Parts) (n:Nat):Prop where
 st:St (λk=>k=p\/a0.blk k) w W (Cg2 p b1 b2 b6 b7 ps (ab.length-cb.length) n)
 tx:W.heap[p]?=some (txO e lim tp a)
 own:Ar W 0 a 5 1 (bv ab)
 suf:∃x,ab=x++cb
 row:Ar W w.heap.size ps 111 7 (flat Aj (pl.map pcT))
 its:Its W e pl M'
 tops:∀x∈pl,∀k,x.bytes.blk k->a.blk k->top x.bytes<=top a
 pblk:∀x∈pl,∀k,x.bytes.blk k->a0.blk k\/w.heap.size<=k
 ablk:∀k,a.blk k->a0.blk k\/w.heap.size<=k
 old:Old w W a0 a
 cnt:pl.length+cb.length<=ab.length
variable {tp:Option Addr}{a0 a ps:Sl}{b1 b2 b6 b7 n:Nat}{ab cb:Bs}{pl:List Pc}{M':Parts}
theorem FrI.ext (h:FrI w W p e lim tp a0 b1 b2 b6 b7 a ps ab cb pl M' n) (x:Ext W W'):FrI w W' p e lim tp a0 b1 b2 b6 b7 a ps ab cb pl M' n :=
 ⟨h.st.ext x,x.ext_get h.tx,h.own.ext x,h.suf,h.row.ext x,h.its.ext x,h.tops,h.pblk,h.ablk,h.old.ty x (Ba6 _ _),h.cnt⟩
set_option maxHeartbeats 1000000 in
theorem De2 {K:Unit->Wp}(h:FrI w W p e lim tp a0 b1 b2 b6 b7 a ps ab cb pl M' n) (hab:ab.length<2^40)
  (hK:∀ps' pl' M'' n' W',FrI w W' p e lim tp a0 b1 b2 b6 b7 a ps' ab [] pl' M'' n'->aOf e M''=aOf e M'++ats e cb->n'<=n->W.heap.size<=W'.heap.size->K () W') :
  Cj Tryz.prog (do let d ←Deferred.ofValue (.func (.func 118) #[] #[.pointer (some (at0 b1)),.pointer (some (at0 b6)),.pointer (some (at0 b2)),.pointer (some (at0 b7))]) #[];invoke d.target d.args:Sem Next) (.tup []) K W:=by
 refine func_x (caps:=#[.pointer (some (at0 b1)),.pointer (some (at0 b6)),.pointer (some (at0 b2)),.pointer (some (at0 b7))]) (by kernel_rfl) ?_;refine Eo6 ?_;unfold F118;(have hlen:ab.length=a.len:=by have:=h.own.len1;rwa [gW] at this);(have hcl:cb.length<=ab.length:=by obtain ⟨x,hx⟩:=h.suf;rw [hx];simp);have S0:=h.st;refine S0.ld 3 rfl (x:=some (at0 p)) rfl ?_;simp only [Un,addr_add];refine Ce h.tx (x:=a) rfl (S0.ld 1 rfl (x:=((ab.length-cb.length:Nat):Int)) rfl (Ac (λhc=>?_) (λhc=>?_)))
 ·simp only [iI,kG] at hc;have hcb:0<cb.length:=(by omega);refine S0.drew λW1 S1 e1 _=>?_;have h1:=h.ext e1;refine S1.ld 2 rfl (x:=ps) rfl (S1.ld 3 rfl (x:=some (at0 p)) rfl ?_);simp only [Un,addr_add];refine Ce h1.tx (x:=e.num) rfl (S1.ld 3 rfl (x:=some (at0 p)) rfl ?_);simp only [Un,addr_add];refine Ce h1.tx (x:=a) rfl (S1.ld 1 rfl (x:=((ab.length-cb.length:Nat):Int)) rfl ?_);have hcap:=h.own.in.le;refine Dc (by omega) ?_;have hB1:By W1 a ab:=h1.own.in;have c1:=hB1.cut (l:=((ab.length-cb.length:Nat):Int)) (h:=(a.len:Int)) (m:=(a.len:Int)) (by omega) (by omega) (by omega) (by omega) (by omega);have d1:(ab.drop ((ab.length-cb.length:Nat):Int).toNat).take ((a.len:Int).toNat-((ab.length-cb.length:Nat):Int).toNat)=cb:=by
   obtain ⟨x,hx⟩:=h.suf
   rw [dF,dF,jE (by rw [gJ];omega)]
   have:ab.length-cb.length=x.length:=by rw [hx];simp
   rw [this,hx,kC]
  rw [d1] at c1;have ct:=Bb9 hB1 (l:=((ab.length-cb.length:Nat):Int)) (h:=(a.len:Int)) (m:=(a.len:Int)) (by omega) (by omega) (by omega);have cbk:=λk=>Zr (s:=a) (l:=((ab.length-cb.length:Nat):Int)) (h:=(a.len:Int)) (m:=(a.len:Int)) (k:=k);generalize Sl.cut a.a ((ab.length-cb.length:Nat):Int) (a.len:Int) (a.len:Int) 1=y at *;refine Qo c1 (by omega) λW2 e2=>?_;have h2:=h1.ext e2;have S2:=h2.st;refine S2.keep 2 rfl (v:=.slice ps.a ps.len ps.cap) rfl ?_;refine Cm λb15 W3 e3 n3 hb15 hz3=>?_;have h3:=h2.ext e3;have S3:=h3.st;refine S3.keep 2 rfl (v:=.slice ps.a ps.len ps.cap) rfl ?_;have hbox:SlX W3 ⟨some (at0 b15),1,1⟩ 7 (flat Aj [pcT (I9 e y (-1) cb)]):=(Bl.Jp n3 (n:=1) (sz:=7) rfl).x;have hrl:=Ar.Na (cs:=Aj) h3.row (by decide);rw [gW] at hrl;have hcnt:=h.cnt;refine En Uw Uw.ts_ (x:=⟨some (at0 b15),1,1⟩) h3.row hbox (Aq7 _) (by
   show (ps.len+1+(ps.len+1)/4+512)*64<=2^48
   omega) (by have:=S3.upd.size;omega) λps' W4 o4 l4 u4 k4=>?_
  have nb4:Gs W3 ps.blk 5:=Gs.blk h3.row.in (by decide);have nt4:Gs W3 ps.blk 106:=Gs.blk h3.row.in (by decide);(have e4:flat Aj (pl.map pcT)++flat Aj [pcT (I9 e y (-1) cb)]=flat Aj ((pl++[I9 e y (-1) cb]).map pcT):=by rw [lG,Nu];rfl);rw [e4] at o4;have tx4:W4.heap[p]?=some (txO e lim tp a):=u4.get h3.tx λhk=>nt4 _ hk _ _ h3.tx;have own4:=h3.own.ty u4 nb4;have st4:St (λk=>k=p\/a0.blk k) w W4 (Cg2 p b1 b2 b6 b7 ps (ab.length-cb.length) n):=S3.fresh u4 (λk hk=>.inr (h3.row.Fq hk)) (λx hx hk=>by
   obtain ⟨c,fr,hc'⟩:=h3.row.in.Fv hk
   have hl:=(S3.loc x hx).1
   rw [hc'] at hl
   simp only [Cg2,aG,kW,kX] at hx
   rcases hx with rfl|rfl|rfl|rfl<;>cases hl)
  have its4:Its W4 e (pl++[I9 e y (-1) cb]) (M'++[(-1,cb)]):=by
   refine Its.app (h3.its.ty u4 nb4) ⟨⟨?_,rfl,rfl,?_,dG _,?_⟩,trivial⟩
   ·exact ((c1.ext e2).ext e3).ty u4 nb4
   ·intro hn
    replace hn:cb=[]:=hn
    rw [hn] at hcb;simp at hcb
   ·show (-1:Int)+(cb.length:Int)<=2^40;omega
  have old4:=h3.old.ty u4 nb4;refine st4.stC 2 rfl (by show 0<1;decide) λW5 S5 u5=>S5.stC 1 rfl (by show 0<1;decide) λW6 S6 u6=>S6.stC 0 rfl (by show 0<1;decide) λW7 S7 u7=>?_;have g2:W4.heap[b2]?=some (.cells #[.slice ps.a ps.len ps.cap] 107 (0,0)):=st4.at_ 2 rfl;have g6:W5.heap[b6]?=some (.cells #[.int .i64 ((ab.length-cb.length:Nat):Int)] 3 (0,0)):=S5.at_ 1 rfl;have g7:W6.heap[b7]?=some (.cells #[.int .i64 (n:Int)] 3 (0,0)):=S6.at_ 0 rfl;have tx5:W5.heap[p]?=some (txO e lim tp a):=u5.get tx4 (λhk=>Gs.box g2 (by decide) _ hk _ _ tx4);have tx6:W6.heap[p]?=some (txO e lim tp a):=u6.get tx5 (λhk=>Gs.box g6 (by decide) _ hk _ _ tx5);have tx7:W7.heap[p]?=some (txO e lim tp a):=u7.get tx6 (λhk=>Gs.box g7 (by decide) _ hk _ _ tx6);have hts:∀x∈pl++[I9 e y (-1) cb],∀k,x.bytes.blk k->a.blk k->top x.bytes<=top a:=by
   intro x hx
   rcases bV.1 hx with hx|hx
   ·exact h.tops x hx
   ·rw [iT.1 hx];intro k _ _;exact ct
  have hpb:∀x∈pl++[I9 e y (-1) cb],∀k,x.bytes.blk k->a0.blk k\/w.heap.size<=k:=by
   intro x hx
   rcases bV.1 hx with hx|hx
   ·exact h.pblk x hx
   ·rw [iT.1 hx];intro k hk;exact h.ablk k (cbk k hk)
  refine hK ps' (pl++[I9 e y (-1) cb]) (M'++[(-1,cb)]) 0 W7 ⟨?_,tx7,?_,⟨ab,by simp⟩,?_,?_,hts,hpb,h.ablk,?_,?_⟩ ?_ (iW _) ?_;{(have e0:((a.len:Nat):Int)=((ab.length-([]:Bs).length:Nat):Int):=by simp;omega);rw [e0] at S7;exact S7};{exact ((own4.box g2 (by decide) u5).box g6 (by decide) u6).box g7 (by decide) u7};{exact ((o4.box g2 (by decide) u5).box g6 (by decide) u6).box g7 (by decide) u7};{exact ((its4.ty u5 (Gs.box g2 (by decide))).ty u6 (Gs.box g6 (by decide))).ty u7 (Gs.box g7 (by decide))};{exact ((old4.ty u5 (Gs.box g2 (by decide))).ty u6 (Gs.box g6 (by decide))).ty u7 (Gs.box g7 (by decide))};{simp;omega};{rw [He];simp [aOf]};{have:=e1.size;have:=e2.size;have:=e3.size;have:=u4.size;have:=u5.size;have:=u6.size;have:=u7.size;omega}
 {simp only [iH,kG] at hc;have hcb:cb=[]:=bF.1 (by omega);subst hcb;exact hK ps pl M' n W h (by rw [Kv,kM]) (fJ _) (fJ _)}
theorem Old.trans {w W W':World}{a0 a a':Sl}(h:Old w W a0 a) (h':Old W W' a a'):Old w W' a0 a':=λy b hy ht=>h' y b (h y b hy ht).1 (h y b hy ht).2
set_option maxHeartbeats 1000000 in
theorem Br1 {s:Sl}{t:TypeId}{put:List Int}(hs:Bl w s t 1 (iv put)) (hsep:∀k,s.blk k->k≠p/\¬a0.blk k) (hfit:Fits e put) (tx:w.heap[p]?=some (txO e lim tp a0)) (own:Ar w 0 a0 5 1 (bv ab)) (hab:ab.length+(bts e put).length<2^40) (hput:put.length<2^40){K:Sl->Wp}
  (hK:∀ps a pl M' W,W.heap[p]?=some (txO e lim tp a)->Ar W 0 a 5 1 (bv (ab++bts e put))->Ar W w.heap.size ps 111 7 (flat Aj (pl.map pcT))->Its W e pl M'->aOf e M'=prs e put->(∀x∈pl,∀k,x.bytes.blk k->a.blk k->top x.bytes<=top a) ->
   (∀x∈pl,∀k,x.bytes.blk k->a0.blk k\/w.heap.size<=k)->(∀k,a.blk k->a0.blk k\/w.heap.size<=k)->Old w W a0 a->Upd (λk=>k=p\/a0.blk k) w W->pl.length<=ab.length+(bts e put).length->K ps W) :
  Aa Tryz.prog 70 #[.pointer (some (at0 p)),s.v] rS K w:=by
 refine A70 ?_;unfold F70;(have hlen:put.length=s.len:=by have:=hs.len1;rwa [gW] at this);(have hal:ab.length=a0.len:=by have:=own.len1;rwa [gW] at this);have hpw:=lt_of_heap tx;refine (St.Cl6 (λk=>k=p\/a0.blk k) w (λk hk=>hk.elim (λh=>h▸hpw) λh=>own.in.Ph h)).Af λb1 w1 S1 e1=>S1.Af λb2 w2 S2 e2=>S2.ld 1 rfl (x:=some (at0 p)) rfl ?_;simp only [Un,addr_add];have x2:=e1.trans e2;refine Ce (x2.ext_get tx) (x:=a0) rfl (S2.Af λb6 w3 S3 e3=>S3.stC 0 rfl (by show 0<1;decide) λw4 S4 u4=>S4.Af λb7 w5 S5 e5=>S5.stC 0 rfl (by show 0<1;decide) λw6 S6 u6=>?_);have g6:w3.heap[b6]?=some (.cells #[.int .i64 0] 3 (0,0)):=S3.at_ 0 rfl;have g7:w5.heap[b7]?=some (.cells #[.int .i64 0] 3 (0,0)):=S5.at_ 0 rfl;have x3:=x2.trans e3;have F0:FrI w w6 p e lim tp a0 b1 b2 b6 b7 a0 ⟨none,0,0⟩ ab [] [] [] 0:=by
  refine ⟨?_,?_,?_,⟨ab,by simp⟩,Ar.nil _ _ _ _,trivial,(λx hx=>by cases hx),(λx hx=>by cases hx),λk hk=>.inl hk,?_,by simp⟩
  ·have e0:((a0.len:Nat):Int)=((ab.length-([]:Bs).length:Nat):Int):=by simp;omega
   rw [e0] at S6
   exact S6
  ·have t3:=x3.ext_get tx
   have t4:w4.heap[p]?=some (txO e lim tp a0):=u4.get t3 (λhk=>Gs.box g6 (by decide) _ hk _ _ t3)
   have t5:=e5.ext_get t4
   exact u6.get t5 (λhk=>Gs.box g7 (by decide) _ hk _ _ t5)
  ·exact (((own.ext x3).box g6 (by decide) u4).ext e5).box g7 (by decide) u6
  ·exact ((((Old.refl w a0).ty x3 (Ba6 _ _)).ty u4 (Gs.box g6 (by decide))).ty e5 (Ba6 _ _)).ty u6 (Gs.box g7 (by decide))
 clear S1 S2 S3 S4 S5 S6;have tkl:∀i j:Nat,j<=i->(bts e ((put.take i).drop j)).length<=(bts e put).length:=by
  intro i j _
  have:put=put.take i++put.drop i:=(jD i put).symm
  have h2:put.take i=(put.take i).take j++(put.take i).drop j:=(jD j _).symm
  have h3:(bts e put).length=(bts e (put.take i)).length+(bts e (put.drop i)).length:=by conv=>lhs;rw [this];rw [Y2,iE]
  have h4:(bts e (put.take i)).length=(bts e ((put.take i).take j)).length+(bts e ((put.take i).drop j)).length:=by conv=>lhs;rw [h2];rw [Y2,iE]
  omega
 (have abl:∀i,(ab++bts e (put.take i)).length<2^40:=λi=>by have:=tkl i 0 (iW _);rw [iE];simp only [lM] at this;omega);have fit2:∀i j,Fits e ((put.take i).drop j):=λi j x hx=>hfit x (iU (iV hx));have glue:∀i j,Run ((put.take i).drop j)->prs e ((put.take i).take j)++ats e (bts e ((put.take i).drop j))=prs e (put.take i):=λi j hr=>by
  rw [Db6 (fit2 i j) hr];unfold prs;rw [←lG,jD]
 have shut:∀{a ps i j pl M' n} {W:World} {K:Unit->Wp},Run ((put.take i).drop j)->j<=i->FrI w W p e lim tp a0 b1 b2 b6 b7 a ps (ab++bts e (put.take i)) (bts e ((put.take i).drop j)) pl M' n->aOf e M'=prs e ((put.take i).take j)->(∀ps' pl' M'' n' W',FrI w W' p e lim tp a0 b1 b2 b6 b7 a ps' (ab++bts e (put.take i)) [] pl' M'' n'->aOf e M''=prs e (put.take i)->n'<=n->K () W') ->
   Cj Tryz.prog (do let d ←Deferred.ofValue (.func (.func 118) #[] #[.pointer (some (at0 b1)),.pointer (some (at0 b6)),.pointer (some (at0 b2)),.pointer (some (at0 b7))]) #[];invoke d.target d.args:Sem Next) (.tup []) K W:=by
  intro a ps i j pl M' n W K hr hj F hM hK
  exact De2 F (abl i) λps' pl' M'' n' W' F' hM' hn _=>hK ps' pl' M'' n' W' F' (by rw [hM',hM,glue _ _ hr]) hn
 refine Ae (λ_ W=>∃a ps pl M' n j,j<=put.length/\(∀x∈(put.take put.length).drop j,Scalar x)/\FrI w W p e lim tp a0 b1 b2 b6 b7 a ps (ab++bts e (put.take put.length)) (bts e ((put.take put.length).drop j)) pl M' n/\aOf e M'=prs e ((put.take put.length).take j)) ?_ ?_
 ·refine Ba (λx W=>∃a ps pl M' n i j,x=(((i:Nat):Int),())/\i<=put.length/\j<=i/\n<=i/\(∀x∈(put.take i).drop j,Scalar x)/\FrI w W p e lim tp a0 b1 b2 b6 b7 a ps (ab++bts e (put.take i)) (bts e ((put.take i).drop j)) pl M' n/\aOf e M'=prs e ((put.take i).take j)) (λx _=>((put.length:Int)-x.1).toNat) ⟨a0,⟨none,0,0⟩,[],[],0,0,0,rfl,iW _,fJ _,fJ _,(λx hx=>by simp at hx),by simpa [bts] using F0,by simp [aOf,prs]⟩ ?_;rintro _ W ⟨a,ps,pl,M',n,i,j,rfl,hi,hj,hn,hsc,F,hM⟩;refine Ac (λhc=>?_) (λhc=>?_)
  ·simp only [iI] at hc;obtain ⟨v,hv⟩:∃v,put[i]?=some v:=⟨_,jC (by omega)⟩;have hf:=hfit v (eY hv);(have ew:W64 ((i:Int)+1)=((i+1:Nat):Int):=by rw [wrap64 (by omega) (by omega)];omega);dsimp only;rw [ew];refine Ae (λ_ W=>∃a ps pl M' n j,j<=i+1/\n<=i+1/\(∀x∈(put.take (i+1)).drop j,Scalar x)/\FrI w W p e lim tp a0 b1 b2 b6 b7 a ps (ab++bts e (put.take (i+1))) (bts e ((put.take (i+1)).drop j)) pl M' n/\aOf e M'=prs e ((put.take (i+1)).take j)) ?_ ?_
   ·have hsW:Bl W s t 1 (iv put):=hs.upd F.st.upd λk hk hSk=>by
     have:=hsep k hk
     rcases hSk with h|h
     ·exact this.1 h
     ·exact this.2 h
    refine Ew (c:=.int .i64) (xs:=put) hsW (by omega) (x:=v) (by rw [dF];exact hv) λq=>?_;have hsv:=Bn5 hf;obtain ⟨sc,hsc'⟩:∃sc:Bool,sc=decide (0<=v/\(v<55296\/57343<v)):=⟨_,rfl⟩;have hsv:sc=true↔Scalar v:=(by rw [hsc',hsv,iI]);refine Ae (λx W'=>x=(sc,())/\W=W') ?_ ?_;{refine Ac (λh1=>Ac (λh2=>⟨Az ?_,rfl⟩) (λh2=>⟨Az ?_,rfl⟩)) (λh1=>⟨Az ?_,rfl⟩);(all_goals simp only [hsc',iI,iH,kG,jT,lQ,dO,lS] at *);all_goals omega};rintro _ _ ⟨rfl,rfl⟩;refine Ae (λ_ W=>∃ps pl M' n j,j<=i/\n<=i/\(∀x∈(put.take i).drop j,Scalar x)/\(sc=false->j=i)/\FrI w W p e lim tp a0 b1 b2 b6 b7 a ps (ab++bts e (put.take i)) (bts e ((put.take i).drop j)) pl M' n/\aOf e M'=prs e ((put.take i).take j)) ?_ ?_;{refine Ae (λx W'=>x=((!sc||decide (n=128)),())/\W=W') ?_ ?_;{refine Ac (λh1=>⟨Az ?_,rfl⟩) (λh1=>F.st.ld 0 rfl (x:=(n:Int)) rfl ⟨Az ?_,rfl⟩);{have h1:(!sc)=true:=h1;rw [h1];simp};{have h1:(!sc)=false:=h1;rw [h1,bD];simp only [jM,iI];omega}};rintro _ _ ⟨rfl,rfl⟩;have nil_:(put.take i).drop i=[]:=iY (by rw [gI];omega);refine Ac (λ_=>shut (.inl hsc) hj F hM λps' pl' M'' n' W' F' hM' hn'=>⟨ps',pl',M'',n',i,fJ _,by omega,?_,(λ_=>rfl),?_,?_⟩) (λhb=>⟨ps,pl,M',n,j,hj,hn,hsc,(λh=>?_),F,hM⟩);{rw [nil_];intro x hx;cases hx};{rw [nil_];exact F'};{rw [hM',iM,Nat.min_self]};{have hb:(!sc||decide (n=128))=false:=hb;rw [h] at hb;simp at hb}};clear F hM hn hj hsc ps pl M' n j;rintro _ W1 ⟨ps,pl,M',n,j,hj,hn,hsc,hji,F,hM⟩;refine F.st.ld 3 rfl (x:=some (at0 p)) rfl ?_;simp only [Un,addr_add];refine Ce F.tx (x:=e.num) rfl (Cm λb27 W2 e2' n2 hb27 _=>?_);have F2:=F.ext e2';have hbox:Bl W2 ⟨some (at0 b27),1,1⟩ 3 1 [.int .i64 v]:=Bl.Jp n2 (n:=1) (sz:=1) rfl;refine Cg8 (s:=⟨some (at0 b27),1,1⟩) (t:=3) (e:=e) (a:=v) hf hbox λs28 W3 o28 e3'=>?_;have F3:=F2.ext e3';have S3:=F3.st;show drew _ W3;refine S3.drew λW4 S4 e4' _=>?_;have F4:=F3.ext e4';have o28:=o28.ext e4';refine F4.st.ld 3 rfl (x:=some (at0 p)) rfl (F4.st.ld 3 rfl (x:=some (at0 p)) rfl ?_);simp only [Un,addr_add];(have tkv:put.take (i+1)=put.take i++[v]:=by rw [kT,hv];rfl);have ptl:(bts e (put.take i)).length+(pt e v).length<=(bts e put).length:=by
     have:=tkl (i+1) 0 (iW _)
     rw [lM,tkv,Y2,iE] at this
     simpa [bts] using this
    (have s28l:(pt e v).length=s28.len:=by have:=o28.len1;rwa [gW] at this);(have al4:(ab++bts e (put.take i)).length=a.len:=by have:=F4.own.len1;rwa [gW] at this);have al4':=al4;rw [iE] at al4';refine Ce F4.tx (x:=a) rfl (Cv5 F4.own o28.in.x (by omega) (iW _) λa' W5 o5 l5 u5 k5 old5=>?_);have nb5:∀t,t≠5->Gs W4 a.blk t:=λt ht=>Gs.blk F4.own.in (λh=>ht h.symm);have tx5:W5.heap[p]?=some (txO e lim tp a):=u5.get F4.tx λhk=>nb5 106 (by decide) _ hk _ _ F4.tx;have st5:St (λk=>k=p\/a0.blk k) w W5 (Cg2 p b1 b2 b6 b7 ps ((ab++bts e (put.take i)).length-(bts e ((put.take i).drop j)).length) n):=F4.st.fresh u5 (λk hk=>(F4.ablk k hk).imp .inr id) (λx hx hk=>by
     obtain ⟨c,fr,hc'⟩:=F4.own.in.Fv hk
     have hl:=(F4.st.loc x hx).1
     rw [hc'] at hl
     simp only [Cg2,aG,kW,kX] at hx
     rcases hx with rfl|rfl|rfl|rfl<;>cases hl)
    have row5:=F4.row.ty u5 (nb5 111 (by decide));have its5:Its W5 e pl M':=F4.its.to λx hx b hb=>(old5 x.bytes b hb (F4.tops x hx)).1;have tops5:∀x∈pl,∀k,x.bytes.blk k->a'.blk k->top x.bytes<=top a':=λx hx=>by
     obtain ⟨b,hb⟩:=F4.its.by_ x hx
     exact (old5 x.bytes b hb (F4.tops x hx)).2
    have oldT:Old w W5 a0 a':=F4.old.trans old5;refine st5.keep 3 rfl (v:=.pointer (some (at0 p))) rfl ?_;refine Jm tx5 (by show 3<4;decide) λW6 u6 n6 _=>?_;have n6:W6.heap[p]?=some (txO e lim tp a'):=n6;have nt6:∀t,t≠106->Gs W5 (λk=>k=p) t:=λt ht=>Gs.box tx5 (λh=>ht h.symm);have st6:St (λk=>k=p\/a0.blk k) w W6 (Cg2 p b1 b2 b6 b7 ps ((ab++bts e (put.take i)).length-(bts e ((put.take i).drop j)).length) n):=st5.step u6 λk hk=>.inl hk;refine st6.ld 0 rfl (x:=(n:Int)) rfl (st6.stC 0 rfl (by show 0<1;decide) λW7 S7 u7=>?_);have g7':W6.heap[b7]?=some (.cells #[.int .i64 (n:Int)] 3 (0,0)):=st6.at_ 0 rfl;(have ewn:W64 ((n:Int)+1)=((n+1:Nat):Int):=by rw [wrap64 (by omega) (by omega)];omega);rw [ewn] at S7;have cbe:bts e ((put.take (i+1)).drop j)=bts e ((put.take i).drop j)++pt e v:=by
     rw [tkv,jV (by rw [gI];omega),Y2];simp [bts]
    (have abe:ab++bts e (put.take (i+1))=ab++bts e (put.take i)++pt e v:=by rw [tkv,Y2,eG];simp [bts]);have F7:FrI w W7 p e lim tp a0 b1 b2 b6 b7 a' ps (ab++bts e (put.take (i+1))) (bts e ((put.take (i+1)).drop j)) pl M' (n+1):=by
     rw [cbe,abe]
     refine ⟨?_,?_,?_,?_,?_,?_,tops5,F4.pblk,?_,?_,?_⟩
     ·rw [@List.length_append _ (ab++bts e (put.take i)),@List.length_append _ (bts e ((put.take i).drop j)),Nat.add_sub_add_right]
      exact S7
     ·exact u7.get n6 (λhk=>Gs.box g7' (by decide) _ hk _ _ n6)
     ·exact (o5.ty u6 (nt6 _ (by decide))).box g7' (by decide) u7
     ·obtain ⟨x,hx⟩:=F4.suf
      exact ⟨x,by rw [hx,eG]⟩
     ·exact (row5.ty u6 (nt6 _ (by decide))).box g7' (by decide) u7
     ·exact (its5.ty u6 (nt6 _ (by decide))).ty u7 (Gs.box g7' (by decide))
     ·intro k hk
      rcases k5 k hk with h|h
      ·exact F4.ablk k h
      ·have:=F4.st.upd.size;exact .inr (by omega)
     ·exact (oldT.ty u6 (nt6 _ (by decide))).ty u7 (Gs.box g7' (by decide))
     ·have:=F4.cnt
      rw [@List.length_append _ (ab++bts e (put.take i)),@List.length_append _ (bts e ((put.take i).drop j))]
      omega
    (have seg:(put.take (i+1)).drop j=(put.take i).drop j++[v]:=by rw [tkv,jV (by rw [gI];omega)]);(have hM7:aOf e M'=prs e ((put.take (i+1)).take j):=by rw [hM,tkv,jW (by rw [gI];omega)]);refine Ac (λhb=>?_) (λhb=>⟨a',ps,pl,M',n+1,j,by omega,by omega,?_,F7,hM7⟩);{have hb:sc=false:=(by simpa using hb);have hr:Run ((put.take (i+1)).drop j):=.inr ⟨v,by rw [seg,hji hb,iY (by rw [gI];omega)];rfl⟩;have nil_:(put.take (i+1)).drop (i+1)=[]:=iY (by rw [gI];omega);refine shut hr (by omega) F7 hM7 λps' pl' M'' n' W' F' hM' hn'=>⟨a',ps',pl',M'',n',i+1,fJ _,by omega,?_,?_,?_⟩;{rw [nil_];intro x hx;cases hx};{rw [nil_];exact F'};{rw [hM',iM,Nat.min_self]}};{have hb:sc=true:=(by simpa using hb);rw [seg];intro x hx;rcases bV.1 hx with hx|hx;{exact hsc x hx};{rw [iT.1 hx];exact hsv.1 hb}}
   {rintro _ W' ⟨a,ps,pl,M',n,j,hj,hn,hsc,F,hM⟩;exact ⟨⟨a,ps,pl,M',n,i+1,j,rfl,by omega,by omega,hn,hsc,F,hM⟩,by omega⟩}
  {simp only [iH] at hc;have:i=put.length:=(by omega);subst this;exact ⟨a,ps,pl,M',n,j,hj,hsc,F,hM⟩}
 {rintro _ W ⟨a,ps,pl,M',n,j,hj,hsc,F,hM⟩;refine shut (.inl hsc) hj F hM λps' pl' M'' n' W' F' hM' _=>?_;have hcnt:=F'.cnt;rw [jR] at F' hM' hcnt;refine F'.st.ld 2 rfl (x:=ps') rfl (hK ps' a pl' M'' W' F'.tx F'.own F'.row F'.its hM' F'.tops F'.pblk F'.ablk F'.old F'.st.upd ?_);rw [iE] at hcnt;simpa using hcnt}
end
section
variable {w w' W W':World}{S:Nat->Prop}{p:Nat}{e:Enc}{lim na:Nat}{O:Nat->Prop}{M:Parts}{tp:Option Addr}{a0 a:Sl}
def hdA (e:Enc) (M:Parts) (i n:Nat):As:=match M[i]? with|some x=>(ats e x.2).take n|none=>[]
def tlA (e:Enc) (M:Parts) (i n:Nat):As:=match M[i]? with|some x=>(ats e x.2).drop n|none=>[]
theorem Cq9 {e:Enc}{M:Parts}{i n:Nat}{x:Int×Bs}(h:M[i]?=some x):hdA e M i n=(ats e x.2).take n:=by unfold hdA;rw [h]
theorem Be2 {e:Enc}{M:Parts}{i n:Nat}{x:Int×Bs}(h:M[i]?=some x):tlA e M i n=(ats e x.2).drop n:=by unfold tlA;rw [h]
theorem Cr0 {e:Enc}{M:Parts}{i n:Nat}(h:M[i]?=none):hdA e M i n=[]:=by unfold hdA;rw [h]
theorem Cl4 {e:Enc}{M:Parts}{i n:Nat}(h:M[i]?=none):tlA e M i n=[]:=by unfold tlA;rw [h]
theorem Cz5 {e:Enc}{M:Parts}{at_ i n:Nat}(h:Bl4 e M at_ i n):(aOf e M).take at_=aOf e (M.take i)++hdA e M i n:=by rw [As5 h];unfold hdA;cases M[i]?<;>rfl
theorem Ch0 {e:Enc}{M:Parts}{at_ i n:Nat}(h:Bl4 e M at_ i n):(aOf e M).drop at_=tlA e M i n++aOf e (M.drop (i+1)):=by
 rcases h with ⟨rfl,rfl,rfl⟩|⟨x,hx,h1,h2,rfl⟩
 ·cases M with
  |nil=>simp [aOf,tlA]
  |cons x M=>simp [aOf,tlA]
 ·rw [Be2 hx];have hil:=(fG.1 hx).1;have hd:M=M.take i++x::M.drop (i+1):=by
   have:=iZ hil
   have hx':M[i]=x:=by rw [jC hil] at hx;exact kS hx
   rw [hx'] at this
   rw [←this,jD]
  have:aOf e M=aOf e (M.take i)++(ats e x.2++aOf e (M.drop (i+1))):=by
   conv=>lhs;rw [hd]
   rw [He,Ii]
  rw [this,jZ,jV h2]
theorem Cx0 {e:Enc}{M:Parts}{f t i n j m:Nat}(h1:Bl4 e M f i n) (h2:Bl4 e M t j m) (hft:f<=t):i<=j:=by
 have mono:∀a b:Nat,a<=b->(aOf e (M.take a)).length<=(aOf e (M.take b)).length:=by
  intro a b hab
  have:M.take b=M.take a++(M.take b).drop a:=by
   conv=>lhs;rw [←jD a (M.take b)]
   rw [iM,gK hab]
  rw [this,He,iE];omega
 rcases h1 with ⟨_,rfl,_⟩|⟨x,hx,g1,g2,g3⟩;{exact iW _};rcases lT j i with hlt|hge
 ·exfalso;rcases h2 with ⟨h,_,_⟩|⟨y,hy,k1,k2,k3⟩;{omega}
  ·have hjl:=(fG.1 hy).1;have e1:(aOf e (M.take (j+1))).length=(aOf e (M.take j)).length+(ats e y.2).length:=by
    have hy':M[j]=y:=by rw [jC hjl] at hy;exact kS hy
    rw [kT,hy,lU,He,iE]
    simp [aOf]
   have:=mono (j+1) i (by omega);omega
 {exact hge}
theorem Be4 {l:As}(h:Lr l){n:Nat}(hn:n<=l.length):n<=szs (l.take n):=by have:=Wn (h.take n);rw [gI] at this;omega
theorem Cz4 {x:Pc}{y:Int×Bs}{n:Nat}(hp:Ag4 w e x y) (h1:1<=n) (hn:n<=(ats e y.2).length):Ag4 w e (Uu e x y.2 n) (y.1,y.2.take (cutAt e y.2 n)):=by have hcl:=Yt e y.2 n;have hlen:=hp.by_.len;have hcap:=Bl.le hp.by_;have c1:=hp.by_.cut (l:=0) (h:=(cutAt e y.2 n:Int)) (m:=(cutAt e y.2 n:Int)) (by omega) (by omega) (by omega) (by omega) (by omega);have d1:(y.2.drop (0:Int).toNat).take ((cutAt e y.2 n:Int).toNat-(0:Int).toNat)=y.2.take (cutAt e y.2 n):=(by simp);rw [d1] at c1;have hge:n<=cutAt e y.2 n:=Be4 (Gp e y.2) hn;refine ⟨c1,rfl,hp.tag,λhc=>?_,hp.lo,?_⟩;{have:=fC List.length hc;rw [gI,dR] at this;omega};{have:=hp.hi;show y.1+((y.2.take _).length:Int)<=_;rw [gI];omega}
theorem Cx8 {x:Pc}{y:Int×Bs}{n:Nat}(hp:Ag4 w e x y) (hn:n<(ats e y.2).length):Ag4 w e (Ri e x y.2 n) (Es y.1 (cutAt e y.2 n),y.2.drop (cutAt e y.2 n)):=by
 have hcl:=Yt e y.2 n;have hlen:=hp.by_.len;have hcap:=Bl.le hp.by_;have c2:=hp.by_.cut (l:=(cutAt e y.2 n:Int)) (h:=(x.bytes.len:Int)) (m:=(x.bytes.cap:Int)) (by omega) (by omega) (by omega) (by omega) (by omega);have d2:(y.2.drop (cutAt e y.2 n:Int).toNat).take ((x.bytes.len:Int).toNat-(cutAt e y.2 n:Int).toNat)=y.2.drop (cutAt e y.2 n):=by
  rw [dF,dF]
  exact jE (by rw [gJ];omega)
 rw [d2] at c2;have hlt:cutAt e y.2 n<y.2.length:=by
  have h1:=Bq ((ats e y.2).take n) ((ats e y.2).drop n)
  rw [jD,Hz] at h1
  have h2:=Wn ((Gp e y.2).drop n)
  rw [gJ] at h2
  unfold cutAt;omega
 have hlo:=hp.lo;have hhi:=hp.hi;refine ⟨c2,rfl,by show Es x.tag _=Es y.1 _;rw [hp.tag],λhc=>?_,?_,?_⟩;{have:=fC List.length hc;rw [gJ,dR] at this;omega};{show -1<=Es y.1 _;unfold Es;split<;>omega};{show Es y.1 _+((y.2.drop _).length:Int)<=_;rw [gJ];unfold Es;split<;>omega}
theorem Db9 (l:List Pc):∀v∈flat Aj (l.map pcT),Gn v=true:=by intro v hv;unfold flat at hv;obtain ⟨x,hx,hv⟩:=kU.1 hv;obtain ⟨y,_,rfl⟩:=gY.1 hx;exact Aq7 y v (by rw [V9];exact hv)
theorem Az5 (tx:W.heap[p]?=some (txO e lim tp a)){K:Addr->Cells.T Dz->Wp}(hK:K (at0 p) (tp,()) W):nn (some (at0 p)) (λq=>lds Dz (q.add 2) (K q)) W:=by
 refine Am ?_
 rw [addr_add]
 refine Qh tx (x:=(tp,())) (λi v hv=>?_) hK
 match i,hv with
 |0,hv=>exact hv
 |i+1,hv=>cases hv
abbrev Wr (w:World) (O:Nat->Prop) (k:Nat):Prop:=O k/\∀c fr,w.heap[k]?≠some (.cells c 162 fr)
set_option maxHeartbeats 2000000 in
theorem Ar1 {from_ to_:Nat}{s:Sl}{t:TypeId}{put:List Int}(h:Txt w p e lim na O M) (hft:from_<=to_) (hto:to_<=(aOf e M).length) (hs:Bl w s t 1 (iv put)) (hsep:∀k,s.blk k->¬O k) (hfit:Fits e put) (hna:na+(bts e put).length<2^40) (hput:put.length<2^40)
  (hroom:szs ((aOf e M).take from_++prs e put++(aOf e M).drop to_)<=1048576) {K:Unit->Wp}
  (hK:∀O' M' w',Txt w' p e lim (na+(bts e put).length) O' M'->aOf e M'=(aOf e M).take from_++prs e put++(aOf e M).drop to_->Upd (Wr w O) w w'->(∀k,O k->O' k)->(∀k,O' k->O k\/w.heap.size<=k)->K () w') :
  Aa Tryz.prog 27 #[.pointer (some (at0 p)),.int .i64 (from_:Int),.int .i64 (to_:Int),s.v] (.tup []) K w:=by
 refine A27 ?_
 unfold F27
 obtain ⟨tr,a0,ab,tx,ht,hi,own,tops,pO,aO,hla⟩:=h.ex
 have few:=h.few;have lims:=h.lims;have hsz:=h.sz
 have il:=hi.len
 have hf:Fine tr.items:=hi.fine (by omega)
 have fl:=hf.few
 have hal:ab.length=a0.len:=by have:=own.len1;rwa [gW] at this
 refine Wj h (by omega) λi n w1 hs1 hil1 e1=>?_
 refine Wj (h.ext e1) (by omega) λj m w2 hs2 hil2 e2=>?_
 rw [dF] at hs1 hs2
 have x2:=e1.trans e2
 have hij:=Cx0 hs1 hs2 hft
 have pcs:∀{i:Nat} {x:Pc},tr.items[i]?=some x->∃y,M[i]?=some y/\Ag4 w e x y/\y.2.length<=1048576:=by
  intro i x hx
  obtain ⟨y,hy,hp⟩:=hi.get i hx
  refine ⟨y,hy,hp,?_⟩
  have h2:szs (aOf e M)=szs (aOf e (M.take i))+(y.2.length+szs (aOf e (M.drop (i+1)))):=by
   have hil:=(fG.1 hy).1
   have hd:=iZ hil
   have hx':M[i]=y:=by rw [jC hil] at hy;exact kS hy
   rw [hx'] at hd
   conv=>lhs;rw [←jD i M,hd]
   rw [He,Ii,Bq,Bq,Hz]
  omega
 have spn:∀{at_ i n:Nat} {y:Int×Bs},at_<=(aOf e M).length->Bl4 e M at_ i n->M[i]?=some y->n<=(ats e y.2).length/\n<2^30:=by
  intro at_ i n y hle hs hy
  rcases hs with ⟨_,_,rfl⟩|⟨x,hx,h1,h2,h3⟩
  ·exact ⟨iW _,by decide⟩
  ·rw [hy] at hx;cases hx
   exact ⟨h2,by omega⟩
 refine Ae (λx W=>∃plL ML,Ar W w2.heap.size x.1 111 7 (flat Aj (plL.map pcT))/\Its w e plL ML/\aOf e ML=hdA e M i n/\(∀x∈plL,∀k,x.bytes.blk k->O k)/\(∀x∈plL,∀k,x.bytes.blk k->a0.blk k->top x.bytes<=top a0)/\plL.length<=1/\Ext w2 W) ?_ ?_
 ·refine Az5 (x2.ext_get tx) (Ai3 (ht.ext x2) hf (by omega) λw3 e3=>?_)
  refine (St.start w3).Af λb8 w4 S4 e4=>S4.Ad 0 rfl rfl rfl rfl λw5 S5 u5=>?_
  cases hx:tr.items[i]? with
  |none =>
   have hM:M[i]?=none:=kL (by have:=kV.1 hx;omega)
   have e0:atI tr.items i=(Pc.zero,false):=by unfold atI;rw [hx]
   rw [e0,Cr0 hM]
   refine Ae (λx W=>x=(false,())/\w5=W) (Ah ⟨rfl,rfl⟩) ?_
   rintro _ _ ⟨rfl,rfl⟩
   exact Ah ⟨[],[],Ar.nil _ _ _ _,trivial,rfl,(λx hx=>by cases hx),(λx hx=>by cases hx),iW _,e3.trans S5.upd⟩
  | some x =>
   have e0:atI tr.items i=(x,true):=by unfold atI;rw [hx]
   rw [e0] at S5 ⊢
   obtain ⟨y,hy,hp,hyl⟩:=pcs hx
   have hn:=spn (by omega) hs1 hy
   rw [Cq9 hy]
   refine Ae (λx W=>x=(decide (0<n),())/\w5=W) (Bh ⟨Az ?_,rfl⟩) ?_
   ·simp only [iI,kG];omega
   rintro _ _ ⟨rfl,rfl⟩
   refine Ac (λhn0=>?_) (λhn0=>?_)
   ·simp only [iI] at hn0
    have hlo:=hp.lo;have hhi:=hp.hi
    have hE:∀{V:World},Ext w3 V->V.cell? (at0 p)=some (.int .i64 e.num):=λx=>cell_of (x.ext_get ((x2.trans e3).ext_get tx)) rfl
    have byB:By w3 x.bytes y.2:=hp.by_.ext (x2.trans e3)
    have S:=S5
    refine Ae (λs W=>∃b,s.1=at0 b/\W.heap[b]?=some (.cells (Cells.vals Aj (pcT (Uu e x y.2 n))).toArray 111 (0,0))/\Ext w3 W) ?_ ?_
    ·refine S.drew λw9 S e9 _=>S.lds 0 (pcT x) rfl ?_
     simp only [Un]
     refine Ce (S.upd.ext_get ((x2.trans e3).ext_get tx)) (x:=e.num) rfl ?_
     exact ⟨S.Af λb18 wx S ex=>Bg (hE S.upd) (S.keeps 1 rfl (⟨S.Af λb19 wx S ex=>Bg (hE S.upd) (S.keeps 2 rfl (Fj (byB.ext S.upd) (by omega) (by rw [hp.tag];omega) (by omega) λwx ex=>(λS=>S.Ad 1 rfl rfl rfl rfl λwx S ux=>S.Ad 0 rfl rfl rfl rfl λwx S ux=>⟨b18,rfl,S.at_ 1 rfl,S.upd⟩) (S.ext ex))),Fj (byB.ext S.upd) (by omega) (by rw [hp.tag];omega) (by omega) λwx ex=>(λS=>⟨S.Af λb22 wx S ex=>Bg (hE S.upd) (S.keeps 2 rfl (S.Ad 1 rfl rfl rfl rfl λwx S ux=>S.Ad 0 rfl rfl rfl rfl λwx S ux=>⟨b18,rfl,S.at_ 1 rfl,S.upd⟩)),trivial⟩) (S.ext ex)⟩)),⟨S.Af λb23 wx S ex=>Bg (hE S.upd) (S.keeps 1 rfl (⟨S.Af λb24 wx S ex=>Bg (hE S.upd) (S.keeps 2 rfl (Fj (byB.ext S.upd) (by omega) (by rw [hp.tag];omega) (by omega) λwx ex=>(λS=>S.Ad 0 rfl rfl rfl rfl λwx S ux=>S.Ad 1 rfl rfl rfl rfl λwx S ux=>⟨b24,rfl,S.at_ 0 rfl,S.upd⟩) (S.ext ex))),Fj (byB.ext S.upd) (by omega) (by rw [hp.tag];omega) (by omega) λwx ex=>(λS=>⟨S.Af λb27 wx S ex=>Bg (hE S.upd) (S.keeps 2 rfl (S.Ad 0 rfl rfl rfl rfl λwx S ux=>S.Ad 1 rfl rfl rfl rfl λwx S ux=>⟨b27,rfl,S.at_ 0 rfl,S.upd⟩)),trivial⟩) (S.ext ex)⟩)),Fj (byB.ext S.upd) (by omega) (by rw [hp.tag];omega) (by omega) λwx ex=>(λS=>⟨S.Af λb29 wx S ex=>Bg (hE S.upd) (S.keeps 1 rfl (⟨S.Af λb30 wx S ex=>Bg (hE S.upd) (S.keeps 2 rfl (S.Ad 1 rfl rfl rfl rfl λwx S ux=>S.Ad 0 rfl rfl rfl rfl λwx S ux=>⟨b29,rfl,S.at_ 1 rfl,S.upd⟩)),trivial⟩)),⟨S.Af λb31 wx S ex=>Bg (hE S.upd) (S.keeps 1 rfl (⟨S.Af λb32 wx S ex=>Bg (hE S.upd) (S.keeps 2 rfl (S.Ad 0 rfl rfl rfl rfl λwx S ux=>S.Ad 1 rfl rfl rfl rfl λwx S ux=>⟨b32,rfl,S.at_ 0 rfl,S.upd⟩)),trivial⟩)),trivial⟩⟩) (S.ext ex)⟩⟩
    ·rintro ⟨_,_⟩ w9 ⟨b,rfl,hb,e9⟩
     dsimp only
     refine Qh hb (x:=pcT (Uu e x y.2 n)) (λj v hv=>by rw [dU,lV];exact hv) (Cm λb32 w10 e10 n10 _ _=>?_)
     have hbox:SlX w10 ⟨some (at0 b32),1,1⟩ 7 (flat Aj [pcT (Uu e x y.2 n)]):=(Bl.Jp n10 (n:=1) (sz:=7) rfl).x
     have x10:=(e3.trans e9).trans e10
     refine En Uw Uw.ts_ (s:=⟨none,0,0⟩) (x:=⟨some (at0 b32),1,1⟩) (Ar.nil w10 w2.heap.size _ _) hbox (Aq7 _) (by dsimp only;omega) (by have:=x10.size;omega) λps' W4 o4 l4 u4 k4=>?_
     refine ⟨[Uu e x y.2 n],[(y.1,y.2.take (cutAt e y.2 n))],o4,⟨Cz4 hp hn0 hn.1,trivial⟩,?_,?_,?_,fJ _,x10.step u4 λk hk=>?_⟩
     ·show ats e (y.2.take (cutAt e y.2 n))++[]=_
      rw [kM];unfold cutAt
      rw [(Xm e n y.2).1]
     ·intro z hz k hk
      rw [iT.1 hz] at hk
      exact pO x (eY hx) k (Zr hk)
     ·intro z hz k hk hk'
      rw [iT.1 hz] at hk ⊢
      have hcl:=Yt e y.2 n
      have hlen:=hp.by_.len
      exact fK (Bb9 hp.by_ (l:=0) (h:=(cutAt e y.2 n:Int)) (by omega) (by omega) (by omega)) (tops x (eY hx) k (Zr hk) hk')
     ·obtain ⟨q,hq,_⟩:=hk;cases hq
   ·simp only [iH] at hn0
    obtain rfl:n=0:=by omega
    exact ⟨[],[],Ar.nil _ _ _ _,trivial,rfl,(λx hx=>by cases hx),(λx hx=>by cases hx),iW _,e3.trans S5.upd⟩
 rintro ⟨psL,_⟩ w3 ⟨plL,ML,Aq,itsL,hML,oL,topL,lenL,e3⟩
 dsimp only at Aq ⊢
 have x3:=x2.trans e3
 have tk1:=Cz5 hs1
 rw [←hML] at tk1
 have tk2:=Ch0 hs2
 refine Br1 (hs.ext x3) (λk hk=>⟨λhc=>hsep k hk (hc▸h.op),λhc=>hsep k hk (aO k hc)⟩) hfit (x3.ext_get tx) (own.ext x3) (by omega) hput λpsF a plF MF w4 tx4 own4 rowF itsF hMF topF blkF blkA old4 u4 cntF=>?_
 have nt4:∀t,t≠106->t≠5->Gs w3 (λk=>k=p\/a0.blk k) t:=by
  rintro t h1 h2 k (rfl|hk) c fr hc
  ·rw [x3.ext_get tx] at hc;cases hc;exact h1 rfl
  ·obtain ⟨c',fr',hc'⟩:=(own.ext x3).in.Fv hk
   rw [hc] at hc';cases hc';exact h2 rfl
 have rowL4:=Aq.ty u4 (nt4 _ (by decide) (by decide))
 have ht4:tr.In w4:=(ht.ext x3).ty u4 (nt4 _ (by decide) (by decide))
 have o4:Old w w4 a0 a:=λy b hy htp=>old4 y b (hy.ext x3) htp
 have lL:=Ar.Na (cs:=Aj) Aq (by decide)
 have lF:=Ar.Na (cs:=Aj) rowF (by decide)
 rw [gW] at lL lF
 have z2:=e3.size
 have z4:=u4.size
 refine En Uw Uw.ts_ rowL4 rowF.in.x (Db9 _) (by
  show (psL.len+psF.len+(psL.len+psF.len)/4+512)*64<=2^48
  omega) (by omega) λpsA w5 rowA lA u5 kA=>?_
 rw [←Nu,←lG] at rowA
 have nt5:∀t,t≠111->Gs w4 psL.blk t:=λt ht=>Gs.blk rowL4.in (λh=>ht h.symm)
 have tx5:w5.heap[p]?=some (txO e lim tr.ptr a):=u5.get tx4 λhk=>nt5 106 (by decide) _ hk _ _ tx4
 have own5:=own4.ty u5 (nt5 _ (by decide))
 have itsF5:=itsF.ty u5 (nt5 _ (by decide))
 have ht5:tr.In w5:=ht4.ty u5 (nt5 _ (by decide))
 have o5:=o4.ty u5 (nt5 _ (by decide))
 have z5:=u5.size
 refine Ae (λx W=>∃plR MR,Ar W w2.heap.size x.1 111 7 (flat Aj ((plL++plF++plR).map pcT))/\Its w e plR MR/\aOf e MR=tlA e M j m/\(∀x∈plR,∀k,x.bytes.blk k->O k)/\(∀x∈plR,∀k,x.bytes.blk k->a0.blk k->top x.bytes<=top a0)/\Upd psA.blk w5 W) ?_ ?_
 ·refine Az5 tx5 (Ai3 ht5 hf (by omega) λw6 e6=>?_)
  refine (St.start w6).Af λb41 w7 S7 e7=>S7.Ad 0 rfl rfl rfl rfl λw8 S8 u8=>?_
  cases hx:tr.items[j]? with
  |none =>
   have hM:M[j]?=none:=kL (by have:=kV.1 hx;omega)
   have e0:atI tr.items j=(Pc.zero,false):=by unfold atI;rw [hx]
   rw [e0,Cl4 hM]
   refine Ah ⟨[],[],?_,trivial,rfl,(λx hx=>by cases hx),(λx hx=>by cases hx),Upd.Ed (e6.trans S8.upd)⟩
   rw [kM]
   exact rowA.ext (e6.trans S8.upd)
  | some x =>
   have e0:atI tr.items j=(x,true):=by unfold atI;rw [hx]
   rw [e0] at S8 ⊢
   obtain ⟨y,hy,hp,hyl⟩:=pcs hx
   have hn:=spn hto hs2 hy
   rw [Be2 hy]
   refine Bh ?_
   have hlo:=hp.lo;have hhi:=hp.hi
   have tx6:=e6.ext_get tx5
   have hE:∀{V:World},Ext w6 V->V.cell? (at0 p)=some (.int .i64 e.num):=λx=>cell_of (x.ext_get tx6) rfl
   have byB:By w6 x.bytes y.2:=((o5 x.bytes y.2 hp.by_ (tops x (eY hx))).1).ext e6
   have S:=S8
   refine Ae (λs W=>∃b,s.1=at0 b/\W.heap[b]?=some (.cells (Cells.vals Aj (pcT (Ri e x y.2 m))).toArray 111 (0,0))/\Ext w6 W) ?_ ?_
   ·refine S.drew λw9 S e9 _=>S.lds 0 (pcT x) rfl ?_
    simp only [Un]
    refine Ce (S.upd.ext_get tx6) (x:=e.num) rfl ?_
    exact ⟨S.Af λb18 wx S ex=>Bg (hE S.upd) (S.keeps 1 rfl (⟨S.Af λb19 wx S ex=>Bg (hE S.upd) (S.keeps 2 rfl (Fj (byB.ext S.upd) (by omega) (by rw [hp.tag];omega) (by omega) λwx ex=>(λS=>S.Ad 1 rfl rfl rfl rfl λwx S ux=>S.Ad 0 rfl rfl rfl rfl λwx S ux=>⟨b19,rfl,S.at_ 0 rfl,S.upd⟩) (S.ext ex))),Fj (byB.ext S.upd) (by omega) (by rw [hp.tag];omega) (by omega) λwx ex=>(λS=>⟨S.Af λb22 wx S ex=>Bg (hE S.upd) (S.keeps 2 rfl (S.Ad 1 rfl rfl rfl rfl λwx S ux=>S.Ad 0 rfl rfl rfl rfl λwx S ux=>⟨b22,rfl,S.at_ 0 rfl,S.upd⟩)),trivial⟩) (S.ext ex)⟩)),⟨S.Af λb23 wx S ex=>Bg (hE S.upd) (S.keeps 1 rfl (⟨S.Af λb24 wx S ex=>Bg (hE S.upd) (S.keeps 2 rfl (Fj (byB.ext S.upd) (by omega) (by rw [hp.tag];omega) (by omega) λwx ex=>(λS=>S.Ad 0 rfl rfl rfl rfl λwx S ux=>S.Ad 1 rfl rfl rfl rfl λwx S ux=>⟨b23,rfl,S.at_ 1 rfl,S.upd⟩) (S.ext ex))),Fj (byB.ext S.upd) (by omega) (by rw [hp.tag];omega) (by omega) λwx ex=>(λS=>⟨S.Af λb27 wx S ex=>Bg (hE S.upd) (S.keeps 2 rfl (S.Ad 0 rfl rfl rfl rfl λwx S ux=>S.Ad 1 rfl rfl rfl rfl λwx S ux=>⟨b23,rfl,S.at_ 1 rfl,S.upd⟩)),trivial⟩) (S.ext ex)⟩)),Fj (byB.ext S.upd) (by omega) (by rw [hp.tag];omega) (by omega) λwx ex=>(λS=>⟨S.Af λb29 wx S ex=>Bg (hE S.upd) (S.keeps 1 rfl (⟨S.Af λb30 wx S ex=>Bg (hE S.upd) (S.keeps 2 rfl (S.Ad 1 rfl rfl rfl rfl λwx S ux=>S.Ad 0 rfl rfl rfl rfl λwx S ux=>⟨b30,rfl,S.at_ 0 rfl,S.upd⟩)),trivial⟩)),⟨S.Af λb31 wx S ex=>Bg (hE S.upd) (S.keeps 1 rfl (⟨S.Af λb32 wx S ex=>Bg (hE S.upd) (S.keeps 2 rfl (S.Ad 0 rfl rfl rfl rfl λwx S ux=>S.Ad 1 rfl rfl rfl rfl λwx S ux=>⟨b31,rfl,S.at_ 1 rfl,S.upd⟩)),trivial⟩)),trivial⟩⟩) (S.ext ex)⟩⟩
   ·rintro ⟨_,_⟩ w9 ⟨b,rfl,hb,e9⟩
    dsimp only
    simp only [addr_add]
    have hat:(Ri e x y.2 m).sm.atoms=(ats e y.2).length-m:=by
     show (msr (ats e (y.2.drop (cutAt e y.2 m)))).atoms=_
     rw [Ov (Gp e _)]
     unfold cutAt
     rw [(Xm e m y.2).2,gJ]
    refine Ce hb (x:=(((Ri e x y.2 m).sm.atoms:Nat):Int)) rfl (Ac (λh0=>?_) (λh0=>?_))
    ·simp only [iI,kG] at h0
     refine Qh hb (x:=pcT (Ri e x y.2 m)) (λj v hv=>by rw [dU,lV];exact hv) (Cm λb32 w10 e10 n10 _ _=>?_)
     have hbox:SlX w10 ⟨some (at0 b32),1,1⟩ 7 (flat Aj [pcT (Ri e x y.2 m)]):=(Bl.Jp n10 (n:=1) (sz:=7) rfl).x
     have x10:=(e6.trans e9).trans e10
     refine En Uw Uw.ts_ (x:=⟨some (at0 b32),1,1⟩) (rowA.ext x10) hbox (Aq7 _) (by
      show (psA.len+1+(psA.len+1)/4+512)*64<=2^48
      omega) (by have:=x10.size;omega) λps' W4 o4' l4 u4' k4=>?_
     have ef:flat Aj ((plL++plF).map pcT)++flat Aj [pcT (Ri e x y.2 m)]=flat Aj ((plL++plF++[Ri e x y.2 m]).map pcT):=by rw [lG (l₁:=plL++plF),Nu];rfl
     rw [ef] at o4'
     refine ⟨[Ri e x y.2 m],[(Es y.1 (cutAt e y.2 m),y.2.drop (cutAt e y.2 m))],o4',⟨Cx8 hp (by omega),trivial⟩,?_,?_,?_,(Upd.Ed x10).trans u4'⟩
     ·show ats e (y.2.drop (cutAt e y.2 m))++[]=_
      rw [kM];unfold cutAt
      rw [(Xm e m y.2).2]
     ·intro z hz k hk
      rw [iT.1 hz] at hk
      exact pO x (eY hx) k (Zr hk)
     ·intro z hz k hk hk'
      rw [iT.1 hz] at hk ⊢
      have hcl:=Yt e y.2 m
      have hlen:=hp.by_.len
      exact fK (Bb9 hp.by_ (l:=(cutAt e y.2 m:Int)) (h:=(x.bytes.len:Int)) (by omega) (by omega) (by omega)) (tops x (eY hx) k (Zr hk) hk')
    ·simp only [iH,kG] at h0
     refine ⟨[],[],?_,trivial,?_,(λx hx=>by cases hx),(λx hx=>by cases hx),Upd.Ed (e6.trans e9)⟩
     ·rw [kM];exact rowA.ext (e6.trans e9)
     ·show []=(ats e y.2).drop m
      rw [iY (by omega)]
 rintro ⟨psR,_⟩ w6 ⟨plR,MR,rowR,itsR,hMR,oR,topR,u6⟩
 dsimp only at rowR ⊢
 rw [←hMR] at tk2
 have nt6:∀t,t≠111->Gs w5 psA.blk t:=λt ht=>Gs.blk rowA.in (λh=>ht h.symm)
 have tx6:w6.heap[p]?=some (txO e lim tr.ptr a):=u6.get tx5 λhk=>nt6 106 (by decide) _ hk _ _ tx5
 have own6:=own5.ty u6 (nt6 _ (by decide))
 have itsF6:=itsF5.ty u6 (nt6 _ (by decide))
 have ht6:tr.In w6:=ht5.ty u6 (nt6 _ (by decide))
 have o6:=o5.ty u6 (nt6 _ (by decide))
 refine Ci λw7 e7 _=>Az5 (e7.ext_get tx6) (Az5 (e7.ext_get tx6) (H6 (ht6.ext e7) λw8 e8=>?_))
 have x8:=e7.trans e8
 have tx8:=x8.ext_get tx6
 refine Bg ?_ ?_
 ·rw [addr_add]
  refine Gj _ 0 λq v hv=>cell_of tx8 ?_
  match q,hv with
  |0,hv=>exact hv
  |q+1,hv=>cases hv
 have emin:(if ((tr.items.length:Nat):Int)<W64 ((j:Int)+1) then ((tr.items.length:Nat):Int) else W64 ((j:Int)+1))=((min (j+1) tr.items.length:Nat):Int):=by
  rw [wrap64 (by omega) (by omega)]
  split<;>omega
 rw [emin]
 have old_its:∀{l:List Pc} {N:Parts},Its w e l N->(∀x∈l,∀k,x.bytes.blk k->a0.blk k->top x.bytes<=top a0)->Its w6 e l N:=λhl htp=>hl.to λx hx b hb=>(o6 x.bytes b hb (htp x hx)).1
 have its_all:Its w6 e (tr.items.take i++(plL++plF++plR)++tr.items.drop (min (j+1) tr.items.length)) (M.take i++(ML++MF++MR)++M.drop (min (j+1) tr.items.length)) :=
  Its.app (Its.app (old_its (hi.take i) λx hx=>tops x (iU hx)) (Its.app (Its.app (old_its itsL topL) itsF6) (old_its itsR topR))) (old_its (hi.drop _) λx hx=>tops x (iV hx))
 have ed:M.drop (min (j+1) tr.items.length)=M.drop (j+1):=by
  by_cases hc:j+1<=tr.items.length
  ·rw [gK hc]
  ·rw [iY (by omega),iY (by omega)]
 have ea:aOf e (M.take i++(ML++MF++MR)++M.drop (min (j+1) tr.items.length))=(aOf e M).take from_++prs e put++(aOf e M).drop to_:=by
  rw [ed,He,He,He,He,tk1,tk2,hMF]
  simp only [eG]
 have hsA:szs (aOf e (M.take i++(ML++MF++MR)++M.drop (min (j+1) tr.items.length)))<2^59:=by rw [ea];omega
 have hFine:=its_all.fine hsA
 have hjl:min (j+1) tr.items.length<=tr.items.length:=Nat.min_le_right _ _
 have hi_le:i<=min (j+1) tr.items.length:=by
  rcases hs1 with ⟨_,rfl,_⟩|⟨x,hx,_⟩
  ·exact iW _
  ·have:=(fG.1 hx).1;omega
 refine Az2 (t:=tr) (n:=i) (m:=min (j+1) tr.items.length) (l:=plL++plF++plR) (ht6.ext x8) (rowR.in.ext x8) hf hFine.left.right hi_le hjl hFine λt' w9 ht' hti e9=>?_
 have x9:=x8.trans e9
 have tx9:=x9.ext_get tx6
 simp only [Un,addr_add]
 refine Zy tx9 rfl rfl (by show 0+2+1<=4;decide) λw10 u10 n10 _=>?_
 have n10:w10.heap[p]?=some (txO e lim t'.ptr a):=n10
 have nt10:∀t,t≠106->Gs w9 (λk=>k=p) t:=λt ht=>Gs.box tx9 (λh=>ht h.symm)
 have ht10:t'.In w10:=ht'.ty u10 (nt10 _ (by decide))
 have o10:Old w w10 a0 a:=(o6.ty x9 (Ba6 _ _)).ty u10 (nt10 _ (by decide))
 have uA:Upd (Wr w O) w w10:=by
  have hp':Wr w O p:=⟨h.op,Gs.box tx (by decide) p rfl⟩
  have v3:Upd (Wr w O) w w3:=Upd.Ed x3
  have v4:Upd (Wr w O) w w4:=v3.trans (u4.mono λk _ hk=>hk.elim (λh=>h▸hp') λh=>⟨aO k h,Gs.blk own.in (by decide) k h⟩)
  have v5:Upd (Wr w O) w w5:=v4.new u5 λk hk hS=>by have:=rowL4.Fq hS;have:=x2.size;omega
  have v6:Upd (Wr w O) w w6:=v5.new u6 λk hk hS=>by have:=rowA.Fq hS;have:=x2.size;omega
  exact (v6.trans (Upd.Ed x9)).trans (u10.mono λk _ hk=>hk▸hp')
 have hsz10:=uA.size
 have own10:=(own6.ext x9).ty u10 (nt10 _ (by decide))
 have hlA:(ab++bts e put).length=a.len:=by have:=own10.len1;rwa [gW] at this
 rw [iE] at hlA
 refine hK (λk=>O k\/(w.heap.size<=k/\k<w10.heap.size)) (M.take i++(ML++MF++MR)++M.drop (min (j+1) tr.items.length)) w10 ⟨⟨t',a,ab++bts e put,n10,ht10,?_,own10,?_,?_,?_,by omega⟩,lims,by rw [ea];exact hroom,.inl h.op,?_⟩ ea uA (λk hk=>.inl hk) (λk hk=>hk.imp id λh=>h.1)
 ·rw [hti]
  exact (its_all.ext x9).ty u10 (nt10 _ (by decide))
 ·rw [hti]
  have oldT:∀x:Pc,(∃b,By w x.bytes b)->(∀k,x.bytes.blk k->a0.blk k->top x.bytes<=top a0)->∀k,x.bytes.blk k->a.blk k->top x.bytes<=top a:=λx ⟨b,hb⟩ htp=>(o10 x.bytes b hb htp).2
  intro x hx
  rcases bV.1 hx with hx|hx
  ·rcases bV.1 hx with hx|hx
   ·exact oldT x (hi.by_ x (iU hx)) (tops x (iU hx))
   ·rcases bV.1 hx with hx|hx
    ·rcases bV.1 hx with hx|hx
     ·exact oldT x (itsL.by_ x hx) (topL x hx)
     ·exact topF x hx
    ·exact oldT x (itsR.by_ x hx) (topR x hx)
  ·exact oldT x (hi.by_ x (iV hx)) (tops x (iV hx))
 ·rw [hti]
  intro x hx k hk
  have new:w3.heap.size<=k->(∃b,By w10 x.bytes b)->O k\/(w.heap.size<=k/\k<w10.heap.size):=λh1 ⟨b,hb⟩=>.inr ⟨by have:=x3.size;omega,hb.Ph hk⟩
  rcases bV.1 hx with hx|hx
  ·rcases bV.1 hx with hx|hx
   ·exact .inl (pO x (iU hx) k hk)
   ·rcases bV.1 hx with hx|hx
    ·rcases bV.1 hx with hx|hx
     ·exact .inl (oL x hx k hk)
     ·rcases blkF x hx k hk with h1|h1
      ·exact .inl (aO k h1)
      ·exact new h1 (((itsF6.ext x9).ty u10 (nt10 _ (by decide))).by_ x hx)
    ·exact .inl (oR x hx k hk)
  ·exact .inl (pO x (iV hx) k hk)
 ·intro k hk
  rcases blkA k hk with h1|h1
  ·exact .inl (aO k h1)
  ·exact .inr ⟨by have:=x3.size;omega,own10.in.Ph hk⟩
 ·intro k hk
  rcases hk with hk|hk
  ·have:=h.own k hk;omega
  ·exact hk.2
end
section
variable {w w' W W':World}{S:Nat->Prop}{p:Nat}{e:Enc}{lim na:Nat}{O:Nat->Prop}{M:Parts}{tp:Option Addr}{a0 a:Sl}
theorem Txt.Dn5 (h:Txt w p e lim na O M):w.cell? ⟨p,1,none⟩=some (.int .i64 (lim:Int)):=by obtain ⟨t,a,ab,h1,_⟩:=h.ex;exact cell_of h1 rfl
theorem Ay2 (e:Enc) (l:List Int){i:Nat}{v:Int}(hv:l[i]?=some v):szs (prs e (l.take (i+1)))=szs (prs e (l.take i))+sz e v:=by rw [kT,hv];simp [prs,Bq,Jl,Ag8]
theorem Bm6 (e:Enc) (l:List Int) (i:Nat):szs (prs e (l.take i))<=szs (prs e l):=by (have:prs e l=prs e (l.take i)++prs e (l.drop i):=by unfold prs;rw [←lG,jD]);rw [this,Bq];omega
end
namespace Cdc
structure LEd where
 f:Int
 t:Int
 put:List Int
theorem Be5 (e:Enc) (v:Int):sz e v<=4:=by
 cases e with
 |u8=>show sz8 v<=4;unfold sz8;(repeat' split)<;>omega
 |le=>show Iq v<=4;unfold Iq;(repeat' split)<;>omega
 |be=>show Iq v<=4;unfold Iq;(repeat' split)<;>omega
 |l1=>show sz1 v<=4;unfold sz1;(repeat' split)<;>omega
end Cdc
def Iy (n:Int):Int->List LEd->Bool
 |_,[]=>true
 |a,x::r=>decide (a<=x.f/\x.f<=x.t/\x.t<=n)&&Iy n x.t r
def Jf (e:Enc) (es:List LEd):Bool:=es.all λx=>x.put.all λa=>sz e a !=0
def Dn (e:Enc):List LEd->Nat
 |[]=>0
 |x::r=>szs (prs e x.put)+Dn e r
def Jt (A:As):List LEd->Nat
 |[]=>0
 |x::r=>(szs (A.take x.t.toNat)-szs (A.take x.f.toNat))+Jt A r
def Jy (e:Enc) (lim:Nat) (A:As) (es:List LEd):Int :=
 if 70000<es.length then 3 else if Iy A.length 0 es=false then 2 else if Jf e es=false then 11 else if lim+Jt A es<szs A+Dn e es then 50 else 0
def Dq (e:Enc) (A:As):List LEd->As
 |[]=>A
 |x::r=>(Dq e A r).take x.f.toNat++prs e x.put++(Dq e A r).drop x.t.toNat
theorem Ve (e:Enc):∀(l m:List LEd),Dn e (l++m)=Dn e l+Dn e m
 |[],m=>by simp [Dn]
 |x::l,m=>by rw [aW,Dn,Dn,Ve e l m];omega
theorem Ab9 (A:As):∀(l m:List LEd),Jt A (l++m)=Jt A l+Jt A m
 |[],m=>by simp [Jt]
 |x::l,m=>by rw [aW,Jt,Jt,Ab9 A l m];omega
theorem Aw0 (e:Enc) (l m:List LEd):Jf e (l++m)=(Jf e l&&Jf e m):=by unfold Jf;rw [aX]
theorem Sr (A:As){i j:Nat}(h:i<=j):szs (A.take i)<=szs (A.take j):=by
 have:A.take j=A.take i++(A.take j).drop i:=by
  conv=>lhs;rw [←jD i (A.take j)]
  rw [iM,gK h]
 rw [this,Bq];omega
theorem Wq (A:As) (i:Nat):szs (A.take i)<=szs A:=by (conv=>rhs;rw [←jD i A]);rw [Bq];omega
theorem U0 {n:Int}:∀{es:List LEd}{a:Int}{i:Nat}{x:LEd},Iy n a es=true->es[i]?=some x->(if i=0 then a else ((es[i-1]?).map (·.t)).getD 0)<=x.f/\a<=x.f/\x.f<=x.t/\x.t<=n/\Iy n x.t (es.drop (i+1))=true
 |[],a,i,x,_,hx=>by simp at hx
 |y::r,a,0,x,h,hx=>by
  simp at hx;subst hx
  rw [Iy,aV,iI] at h
  exact ⟨h.1.1,h.1.1,h.1.2.1,h.1.2.2,h.2⟩
 | y::r,a,i+1,x,h,hx=>by
  rw [Iy,aV,iI] at h
  have hx':r[i]?=some x:=by simpa using hx
  obtain ⟨g1,g2,g3,g4,g5⟩:=U0 h.2 hx'
  refine ⟨?_,by omega,g3,g4,g5⟩
  rw [aJ (by omega)]
  cases i with
  |zero=>simpa using g1
  |succ i =>
   rw [aJ (by omega)] at g1
   simpa using g1
theorem L9 {e:Enc}{A:As}:∀{es:List LEd}{a:Int},0<=a->a<=A.length->Iy A.length a es=true->a.toNat<=(Dq e A es).length/\(Dq e A es).take a.toNat=A.take a.toNat
 |[],a,h0,h1,_=>⟨by rw [Dq];omega,rfl⟩
 | x::r,a,h0,h1,h=>by
  rw [Iy,aV,iI] at h
  obtain ⟨⟨g1,g2,g3⟩,g4⟩:=h
  obtain ⟨i1,i2⟩:=L9 (e:=e) (A:=A) (a:=x.t) (by omega) g3 g4
  have hB:(Dq e A r).take x.f.toNat=A.take x.f.toNat:=by
   have:=fC (List.take x.f.toNat) i2
   rw [iM,iM,gK (by omega)] at this
   exact this
  rw [Dq,hB]
  have hl:(A.take x.f.toNat).length=x.f.toNat:=by rw [gI];omega
  constructor
  ·rw [iE,iE,hl];omega
  ·rw [eG,jW (by rw [hl];omega),iM,gK (by omega)]
theorem V7 {A:As}:∀{es:List LEd}{a:Int},0<=a->Iy A.length a es=true->Jt A es+szs (A.take a.toNat)<=szs A
 |[],a,_,_=>by rw [Jt];have:=Wq A a.toNat;omega
 |x::r,a,h0,h=>by
  rw [Iy,aV,iI] at h
  obtain ⟨⟨g1,g2,g3⟩,g4⟩:=h
  have ih:=V7 (A:=A) (a:=x.t) (by omega) g4
  have h1:=Sr A (i:=a.toNat) (j:=x.f.toNat) (by omega)
  have h2:=Sr A (i:=x.f.toNat) (j:=x.t.toNat) (by omega)
  rw [Jt];omega
theorem Zx {e:Enc}{A:As}:∀{es:List LEd}{a:Int},0<=a->a<=A.length->Iy A.length a es=true->szs (Dq e A es)+Jt A es=szs A+Dn e es
 |[],a,_,_,_=>by rw [Dq,Jt,Dn]
 | x::r,a,h0,h1,h=>by
  rw [Iy,aV,iI] at h
  obtain ⟨⟨g1,g2,g3⟩,g4⟩:=h
  have ih:=Zx (e:=e) (A:=A) (a:=x.t) (by omega) g3 g4
  obtain ⟨i1,i2⟩:=L9 (e:=e) (A:=A) (a:=x.t) (by omega) g3 g4
  have hB:(Dq e A r).take x.f.toNat=A.take x.f.toNat:=by
   have:=fC (List.take x.f.toNat) i2
   rw [iM,iM,gK (by omega)] at this
   exact this
  have h3:szs (Dq e A r)=szs (A.take x.t.toNat)+szs ((Dq e A r).drop x.t.toNat):=by
   conv=>lhs;rw [←jD x.t.toNat (Dq e A r)]
   rw [Bq,i2]
  have h2:=Sr A (i:=x.f.toNat) (j:=x.t.toNat) (by omega)
  rw [Dq,Bq,Bq,hB,Jt,Dn]
  omega
section
variable {w w' W W':World}{S:Nat->Prop}{p:Nat}{e:Enc}{lim na:Nat}{O:Nat->Prop}{M:Parts}
structure Dh7 (w:World) (s:Sl) (ty:TypeId) (ys:List (Cells.T c65)) (es:List LEd):Prop where
 row:Bl w s ty 3 (flat c65 ys)
 len:ys.length=es.length
 each:∀(i:Nat) y x,ys[i]?=some y->es[i]?=some x->y.1=x.f/\y.2.1=x.t/\(∃t,Bl w y.2.2.1 t 1 (iv x.put))/\x.put.length<=2^44
theorem Az9 (e:Enc):∀(l:List LEd),(∀x∈l,x.put.length<=2^44)->Dn e l<=70368744177664*l.length
 |[],_=>by simp [Dn]
 | x::l,h=>by
  have ih:=Az9 e l λy hy=>h y (aI _ hy)
  have h1:=h x aH
  have h2:∀m:List Int,szs (prs e m)<=4*m.length:=by
   intro m
   induction m with
   |nil=>exact fJ _
   |cons a m ih =>
    show Cdc.szs ((a,sz e a)::prs e m)<=_
    rw [Jl,dB]
    have:=Be5 e a
    show sz e a+_<=_
    omega
  have:=h2 x.put
  rw [Dn,dB];omega
abbrev edO (f t:Int) (s:Sl):Obj:=.cells #[.int .i64 f,.int .i64 t,.slice s.a s.len s.cap] 65 (0,0)
set_option maxHeartbeats 1000000 in
theorem Az4 {s:Sl}{ty:TypeId}{ys:List (Cells.T c65)}{es:List LEd}(h:Txt w p e lim na O M) (hE:Dh7 w s ty ys es){K:Int->Wp}(hK:∀w',Ext w w'->K (Jy e lim (aOf e M) es) w') :
  Aa Tryz.prog 26 #[.pointer (some (at0 p)),s.v] rI K w:=by
 refine A26 ?_;unfold F26;have few:=h.few;have lims:=h.lims;have hsz:=h.sz;have hyl:ys.length=s.len:=Bl.Na (cs:=c65) hE.row (by decide);have hel:=hE.len;obtain ⟨A,hA⟩:∃A,A=aOf e M:=⟨_,rfl⟩;rw [←hA] at few hsz;have small:∀x∈es,x.put.length<=2^44:=λx hx=>by
  obtain ⟨i,hi⟩:=gZ hx
  obtain ⟨y,hy⟩:∃y,ys[i]?=some y:=⟨_,jC (by have:=(fG.1 hi).1;omega)⟩
  exact (hE.each i y x hy hi).2.2.2
 unfold Jy at hK;rw [←hA] at hK;refine Ac (λhc=>?_) (λhc=>?_);{simp only [iI,kG] at hc;have:=hK w (Ext.refl w);rw [aF (by omega)] at this;exact this};simp only [iH,kG] at hc;rw [aJ (by omega)] at hK;have few2:es.length<=70000:=(by omega);have rdE:∀{V:World} {K:Addr->Cells.T c65->Wp} {i:Nat} {y:Cells.T c65},Ext w V->ys[i]?=some y->(∀q,K q y V)->ix s.a s.len (i:Int) (λq=>lds c65 (q.add (scaled (Int.toNat (i:Int)) 3)) (K q)) V:=λx hy hk=>Xe (cs:=c65) (xs:=ys) (hE.row.ext x) (by decide) (by omega) (by rw [dF];exact hy) hk;have get:∀i,i<es.length->∃y x,ys[i]?=some y/\es[i]?=some x:=λi hi=>⟨_,_,jC (by omega),jC hi⟩;(have ewi:∀i:Nat,i<es.length->W64 ((i:Int)+1)=((i+1:Nat):Int):=λi hi=>by rw [wrap64 (by omega) (by omega)];omega);refine Iz h λw1 e1=>?_;have hlA:((aOf e M).length:Int)=(A.length:Int):=(by rw [hA]);rw [hlA];refine Ae (λ_ W=>Iy A.length 0 es=true/\Ext w W) ?_ ?_
 ·refine Ba (λx W=>∃i:Nat,x.2=((i:Int),())/\i<=es.length/\Iy A.length 0 es=Iy A.length x.1 (es.drop i)/\Ext w W) (λx _=>((es.length:Int)-x.2.1).toNat) ⟨0,rfl,iW _,rfl,e1⟩ ?_;rintro ⟨a,_⟩ W ⟨i,rfl,hi,hr,eW⟩;dsimp only at hr ⊢;refine Ac (λhc=>?_) (λhc=>?_)
  ·simp only [iI] at hc;obtain ⟨y,x,hy,hx⟩:=get i (by omega);obtain ⟨y1,y2,_⟩:=hE.each i y x hy hx;rw [ewi i (by omega)];have hd:es.drop i=x::es.drop (i+1):=by
    have hl:=(fG.1 hx).1
    rw [iZ hl]
    rw [jC hl] at hx
    cases hx;rfl
   rw [hd,Iy] at hr;refine rdE eW hy λq=>(St.start W).Af λb8 w2 S2 e2=>S2.Ad 0 rfl rfl rfl rfl λw3 S3 u3=>?_;have S3:St (λ_=>False) W w3 [(b8,edO y.1 y.2.1 y.2.2.1)]:=S3;rw [y1,y2] at S3;refine Ae (λz W'=>z=(!decide (a<=x.f/\x.f<=x.t/\x.t<=(A.length:Int)),())/\w3=W') ?_ ?_;{refine S3.ld 0 rfl (x:=x.f) rfl (Ac (λg1=>⟨Az ?_,rfl⟩) (λg1=>S3.ld 0 rfl (x:=x.t) rfl (S3.ld 0 rfl (x:=x.f) rfl (Ac (λg2=>⟨Az ?_,rfl⟩) (λg2=>S3.ld 0 rfl (x:=x.t) rfl ⟨Az ?_,rfl⟩)))));(all_goals simp only [dX,iI,iH,lQ,kG] at *);all_goals omega};rintro _ _ ⟨rfl,rfl⟩;have x3:=eW.trans S3.upd;refine Ac (λhb=>?_) (λhb=>?_)
   ·have hb:decide (a<=x.f/\x.f<=x.t/\x.t<=(A.length:Int))=false:=by
     cases hd:decide (a<=x.f/\x.f<=x.t/\x.t<=(A.length:Int)) with
     |false=>rfl
     |true=>rw [hd] at hb;exact absurd hb (by decide)
    rw [hb,lW] at hr;have:=hK w3 x3;rw [aF hr] at this;exact this
   {have hb:decide (a<=x.f/\x.f<=x.t/\x.t<=(A.length:Int))=true:=(by simpa using hb);rw [hb,lD] at hr;exact S3.ld 0 rfl (x:=x.t) rfl ⟨⟨i+1,rfl,by omega,hr,x3⟩,by omega⟩}
  {simp only [iH] at hc;refine ⟨?_,eW⟩;rw [hr,iY (by omega)];rfl}
 rintro _ w2 ⟨hr,e2⟩;rw [aJ (by rw [hr];decide)] at hK;refine Aj4 (h.ext e2) λw3 e3=>?_;have x3:=e2.trans e3;have hsA:(szs (aOf e M):Int)=(szs A:Int):=(by rw [hA]);rw [hsA];(have tk1:∀{i:Nat} {x:LEd},es[i]?=some x->es.take (i+1)=es.take i++[x]:=λhx=>by rw [kT,hx];rfl);have pl:∀i,i<=es.length->Dn e (es.take i)<=70368744177664*i:=λi hi=>by
  have:=Az9 e (es.take i) λx hx=>small x (iU hx)
  rw [gI,gK hi] at this;exact this
 refine Ae (λx W=>x=(((szs A+Dn e es:Nat):Int),())/\Jf e es=true/\Ext w W) ?_ ?_
 ·refine Ba (λx W=>∃i:Nat,x=(((szs A+Dn e (es.take i):Nat):Int),(i:Int),())/\i<=es.length/\Jf e (es.take i)=true/\Ext w W) (λx _=>((es.length:Int)-x.2.1).toNat) ⟨0,rfl,iW _,rfl,x3⟩ ?_;rintro _ W ⟨i,rfl,hi,hf,eW⟩;dsimp only;refine Ac (λhc=>?_) (λhc=>?_)
  ·simp only [iI] at hc;obtain ⟨y,x,hy,hx⟩:=get i (by omega);obtain ⟨_,_,⟨tp,hput⟩,hpl⟩:=hE.each i y x hy hx;(have hpl2:x.put.length=y.2.2.1.len:=by have:=hput.len1;rwa [gW] at this);have p1:=pl i hi;rw [ewi i (by omega)];(have hst:Dn e (es.take (i+1))=Dn e (es.take i)+szs (prs e x.put):=by rw [tk1 hx,Ve];simp [Dn]);have hsm:∀j,szs (prs e (x.put.take j))<=70368744177664:=λj=>by
    have h1:=Bm6 e x.put j
    have h2:=Az9 e [x] λz hz=>by rw [iT.1 hz];exact hpl
    simp [Dn] at h2
    omega
   refine Ae (λz W'=>z=(((szs A+Dn e (es.take (i+1)):Nat):Int),())/\Jf e (es.take (i+1))=true/\Ext w W') ?_ (λz W' hz=>⟨⟨i+1,by rw [hz.1],by omega,hz.2.1,hz.2.2⟩,by omega⟩);refine rdE eW hy λq=>(St.start W).Af λb8 w4 S4 e4=>S4.Ad 0 rfl rfl rfl rfl λw5 S5 u5=>S5.ld 0 rfl (x:=y.2.2.1) rfl ?_;refine Ba (λz V=>∃j:Nat,z=(((szs A+Dn e (es.take i)+szs (prs e (x.put.take j)):Nat):Int),(j:Int),())/\j<=x.put.length/\(x.put.take j).all (λa=>sz e a !=0)=true/\Ext w V) (λz _=>((x.put.length:Int)-z.2.1).toNat) ⟨0,by simp [prs,Ag8],iW _,rfl,eW.trans S5.upd⟩ ?_;rintro _ V ⟨j,rfl,hj,hall,eV⟩;dsimp only;refine Ac (λhc=>?_) (λhc=>?_)
   ·simp only [iI] at hc;obtain ⟨v,hv⟩:∃v,x.put[j]?=some v:=⟨_,jC (by omega)⟩;(have ewj:W64 ((j:Int)+1)=((j+1:Nat):Int):=by rw [wrap64 (by omega) (by omega)];omega);have hstep:=Ay2 e x.put hv;have h4:=hsm j;have h5:=Be5 e v;refine Ew (c:=.int .i64) (xs:=x.put) (hput.ext eV) (by omega) (x:=v) (by rw [dF];exact hv) λq2=>(h.ext eV).enc (Cb2 λw6 e6=>?_);refine Ac (λhc=>?_) (λhc=>?_)
    ·simp only [jM] at hc;have hno:Jf e es=false:=by
      unfold Jf
      rw [lX]
      intro hall
      have h1:=aS.1 hall x (eY hx)
      have h2:=aS.1 h1 v (eY hv)
      simp at h2;omega
     have:=hK w6 (eV.trans e6);rw [aF hno] at this;exact this
    {simp only [jO,ne_eq] at hc;(have ewb:W64 (((szs A+Dn e (es.take i)+szs (prs e (x.put.take j)):Nat):Int)+((sz e v:Nat):Int))=((szs A+Dn e (es.take i)+szs (prs e (x.put.take (j+1))):Nat):Int):=by rw [wrap64 (by omega) (by omega)];omega);rw [ewj,ewb];refine ⟨⟨j+1,rfl,by omega,?_,eV.trans e6⟩,by omega⟩;rw [kT,hv,aX,hall];simp;omega}
   {simp only [iH] at hc;have hjl:j=x.put.length:=(by omega);subst hjl;rw [jR] at hall;refine ⟨?_,?_,eV⟩;{rw [jR,hst];congr 2;omega};{rw [tk1 hx,Aw0,hf,lD];unfold Jf;simp only [aY,List.all_nil,dW];exact hall}}
  {simp only [iH] at hc;have:es.take i=es:=jE (by omega);rw [this] at hf ⊢;exact ⟨rfl,hf,eW⟩}
 rintro _ w4 ⟨rfl,hf,e4⟩;rw [aJ (by rw [hf];decide)] at hK;have pa:=pl es.length (fJ _);rw [jR] at pa;have gl:=V7 (A:=A) (es:=es) (a:=0) (dG _) hr;have g_take:∀i,Jt A (es.take i)<=Jt A es:=λi=>by
  conv=>rhs;rw [←jD i es]
  rw [Ab9];omega
 refine Ae (λx W=>x=(((szs A+Dn e es-Jt A es:Nat):Int),())/\Ext w W) ?_ ?_
 ·refine Ba (λx W=>∃i:Nat,x=(((szs A+Dn e es-Jt A (es.take i):Nat):Int),(i:Int),())/\i<=es.length/\Ext w W) (λx _=>((es.length:Int)-x.2.1).toNat) ⟨0,rfl,iW _,e4⟩ ?_;rintro _ W ⟨i,rfl,hi,eW⟩;dsimp only;refine Ac (λhc=>?_) (λhc=>?_)
  ·simp only [iI] at hc;obtain ⟨y,x,hy,hx⟩:=get i (by omega);obtain ⟨y1,y2,_⟩:=hE.each i y x hy hx;obtain ⟨_,r2,r3,r4,_⟩:=U0 hr hx;obtain ⟨f,hf'⟩:∃f:Nat,x.f=(f:Int):=⟨x.f.toNat,by omega⟩;obtain ⟨t,ht'⟩:∃t:Nat,x.t=(t:Int):=⟨x.t.toNat,by omega⟩;have hst:Jt A (es.take (i+1))=Jt A (es.take i)+(szs (A.take t)-szs (A.take f)):=by
    rw [tk1 hx,Ab9]
    simp only [Jt,hf',ht',dF];omega
   have gt:=g_take (i+1);have gt0:=g_take i;have sft:=Sr A (i:=f) (j:=t) (by omega);have sta:=Wq A t;rw [ewi i (by omega)];refine Ae (λz W'=>z=(((szs A+Dn e es-Jt A (es.take (i+1)):Nat):Int),())/\Ext w W') ?_ (λz W' hz=>⟨⟨i+1,by rw [hz.1],by omega,hz.2⟩,by omega⟩);refine rdE eW hy λq=>(St.start W).Af λb8 w5 S5 e5=>S5.Ad 0 rfl rfl rfl rfl λw6 S6 u6=>?_;have S6:St (λ_=>False) W w6 [(b8,edO y.1 y.2.1 y.2.2.1)]:=S6;rw [y1,y2,hf',ht'] at S6;refine S6.ld 0 rfl (x:=(t:Int)) rfl (S6.ld 0 rfl (x:=(f:Int)) rfl ?_);refine Ac (λhc=>?_) (λhc=>?_);{refine S6.drew λw7 S7 e7 _=>S7.ld 0 rfl (x:=(t:Int)) rfl (S7.ld 0 rfl (x:=(f:Int)) rfl ?_);refine N7 (h.ext (eW.trans S7.upd)) (by rw [←hA];omega) λw8 e8=>?_;have S8:=S7.ext e8;refine S8.keep 0 rfl (v:=.int .i64 (f:Int)) rfl (N7 (h.ext (eW.trans S8.upd)) (by rw [←hA];omega) λw9 e9=>?_);rw [←hA];(have q1:(smT (msr (A.take t))).2.1=((szs (A.take t):Nat):Int):=by show (((msr _).bytes:Nat):Int)=_;rw [Kt (by rw [hA];exact (Hu e M).take t)]);(have q2:(smT (msr (A.take f))).2.1=((szs (A.take f):Nat):Int):=by show (((msr _).bytes:Nat):Int)=_;rw [Kt (by rw [hA];exact (Hu e M).take f)]);rw [q1,q2];refine ⟨?_,eW.trans (S8.ext e9).upd⟩;rw [wrap64 (a:=((szs (A.take t):Nat):Int)-((szs (A.take f):Nat):Int)) (by omega) (by omega),wrap64 (by omega) (by omega)];congr 1;omega};{simp only [iH,kG] at hc;have:f=t:=(by omega);subst this;refine ⟨?_,eW.trans S6.upd⟩;congr 2;omega}
  {simp only [iH] at hc;have:es.take i=es:=jE (by omega);rw [this];exact ⟨rfl,eW⟩}
 rintro _ w5 ⟨rfl,e5⟩;simp only [Un,addr_add];refine F5 (x:=(lim:Int)) (h.ext e5).Dn5 (Ac (λhc=>?_) (λhc=>?_));{simp only [iI,kG] at hc;have:=hK w5 e5;rw [aF (by omega)] at this;exact this};{simp only [iH,kG] at hc;have:=hK w5 e5;rw [aJ (by omega)] at this;exact this}
set_option maxHeartbeats 1000000 in
theorem Bc3 {s:Sl}{ty:TypeId}{ys:List (Cells.T c65)}{es:List LEd}(h:Txt w p e lim na O M) (hE:Dh7 w s ty ys es) (hs1:szs (aOf e M)<=lim) (hsep:∀k,s.blk k->¬O k) (hsp:∀(i:Nat) y,ys[i]?=some y->∀k,y.2.2.1.blk k->¬O k) (hna:na+200000<2^40){K:Int->Wp}
  (hno:∀c w',c≠0->Jy e lim (aOf e M) es=c->Ext w w'->K c w')
  (hyes:Jy e lim (aOf e M) es=0->∀O' M' w',Txt w' p e lim (na+Dn e es) O' M'->aOf e M'=Dq e (aOf e M) es->szs (aOf e M')<=lim->Upd (Wr w O) w w'->(∀k,O k->O' k)->(∀k,O' k->O k\/w.heap.size<=k)->K 0 w') :
  Aa Tryz.prog 14 #[.pointer (some (at0 p)),s.v] rI K w:=by
 refine A14 ?_;unfold F14;have lims:=h.lims;have hsz:=h.sz;have hyl:ys.length=s.len:=Bl.Na (cs:=c65) hE.row (by decide);have hel:=hE.len;refine Az4 h hE λw1 e1=>?_;refine Ac (λhc=>hno _ w1 (by simpa using hc) rfl e1) (λhc=>?_);have h0:Jy e lim (aOf e M) es=0:=(by simpa using hc);have yes:=hyes h0;obtain ⟨A,hA⟩:∃A,A=aOf e M:=⟨_,rfl⟩;rw [←hA] at h0 yes hs1;unfold Jy at h0;split at h0;{cases h0};rename_i few2;split at h0;{cases h0};rename_i hr;split at h0;{cases h0};rename_i hf;split at h0;{cases h0};rename_i hroom;have hr:Iy A.length 0 es=true:=(by simpa using hr);have hf:Jf e es=true:=(by simpa using hf);have gl:=V7 (A:=A) (es:=es) (a:=0) (dG _) hr;have fin:=Zx (e:=e) (A:=A) (es:=es) (a:=0) (dG _) (by omega) hr;have pd:∀m,Dn e (es.drop m)<=Dn e es:=λm=>by
  conv=>rhs;rw [←jD m es]
  rw [Ve];omega
 (have ew0:W64 ((s.len:Int)-1)=(es.length:Int)-1:=by rw [wrap64 (by omega) (by omega)];omega);rw [ew0];have hlow:=h.own;refine Ae (λ_ W=>∃O' M',Txt W p e lim (na+Dn e es) O' M'/\aOf e M'=Dq e A es/\Upd (Wr w O) w W/\(∀k,O k->O' k)/\(∀k,O' k->O k\/w.heap.size<=k)) ?_ (λ_ W ⟨O',M',g1,g2,g3,g4,g5⟩=>yes O' M' W g1 g2 (by rw [g2];omega) g3 g4 g5);refine Ba (λx W=>∃j:Nat,x=((j:Int)-1,())/\j<=es.length/\∃O' M',Txt W p e lim (na+Dn e (es.drop j)) O' M'/\aOf e M'=Dq e A (es.drop j)/\Upd (Wr w O) w W/\(∀k,O k->O' k)/\(∀k,O' k->O k\/w.heap.size<=k)) (λx _=>(x.1+1).toNat) ⟨es.length,rfl,fJ _,O,M,by rw [lY];exact h.ext e1,by rw [lY,Dq,hA],Upd.Ed e1,λk hk=>hk,λk hk=>.inl hk⟩ ?_;rintro _ W ⟨j,rfl,hj,O',M',tx,ha,u,o1,o2⟩;dsimp only;refine Ac (λhc=>?_) (λhc=>?_)
 ·simp only [iI,jT] at hc;obtain ⟨m,rfl⟩:∃m,j=m+1:=⟨j-1,by omega⟩;obtain ⟨x,hx⟩:∃x,es[m]?=some x:=⟨_,jC (by omega)⟩;obtain ⟨y,hy⟩:∃y,ys[m]?=some y:=⟨_,jC (by omega)⟩;obtain ⟨y1,y2,⟨tp,hput⟩,hpl⟩:=hE.each m y x hy hx;obtain ⟨_,r2,r3,r4,r5⟩:=U0 hr hx;obtain ⟨f,hf'⟩:∃f:Nat,x.f=(f:Int):=⟨x.f.toNat,by omega⟩;obtain ⟨t,ht'⟩:∃t:Nat,x.t=(t:Int):=⟨x.t.toNat,by omega⟩;(have hpl2:x.put.length=y.2.2.1.len:=by have:=hput.len1;rwa [gW] at this);have hd:es.drop m=x::es.drop (m+1):=by
   have hl:=(fG.1 hx).1
   rw [iZ hl]
   rw [jC hl] at hx
   cases hx;rfl
  have rm:Iy A.length x.f (es.drop m)=true:=by
   rw [hd,Iy,aV,iI]
   exact ⟨⟨dG _,r3,r4⟩,r5⟩
  have ap:=Zx (e:=e) (A:=A) (es:=es.drop m) (a:=x.f) (by omega) (by omega) rm;have hd1:=L9 (e:=e) (A:=A) (es:=es.drop (m+1)) (a:=x.t) (by omega) r4 r5;have ape:Dq e A (es.drop m)=(Dq e A (es.drop (m+1))).take f++prs e x.put++(Dq e A (es.drop (m+1))).drop t:=by
   rw [hd,Dq,hf',ht',dF,dF]
  (have pe:Dn e (es.drop m)=Dn e (es.drop (m+1))+szs (prs e x.put):=by rw [hd,Dn];omega);have p1:=pd m;have p2:=pd (m+1);have fit:Fits e x.put:=λa ha=>by
   have h1:=aS.1 hf x (eY hx)
   have h2:=aS.1 h1 a ha
   simpa using h2
  have hbl:=By8 fit;have hput2:x.put.length<=szs (prs e x.put):=by
   have:(prs e x.put).length<=szs (prs e x.put):=Wn λz hz=>by
    obtain ⟨a,ha,rfl⟩:=gY.1 hz
    have:=fit a ha
    show 1<=sz e a
    omega
   unfold prs at this ⊢
   rwa [gW] at this
  have em:((m+1:Nat):Int)-1=(m:Int):=(by omega);rw [em];have ewm:W64 ((m:Int)-1)=(m:Int)-1:=(by rw [wrap64 (by omega) (by omega)]);rw [ewm];have rowW:=hE.row.upd u λk hk hq=>hsep k hk hq.1;have putW:=hput.upd u λk hk hq=>hsp m y hy k hk hq.1;refine Ae (λ_ W'=>∃O' M',Txt W' p e lim (na+Dn e (es.drop m)) O' M'/\aOf e M'=Dq e A (es.drop m)/\Upd (Wr w O) w W'/\(∀k,O k->O' k)/\(∀k,O' k->O k\/w.heap.size<=k)) ?_ (λ_ W' hW=>⟨⟨m,rfl,by omega,hW⟩,by omega⟩);refine Xe (cs:=c65) (xs:=ys) rowW (by decide) (by omega) (x:=y) (by rw [dF];exact hy) λq=>(St.start W).Af λb8 w2 S2 e2=>S2.Ad 0 rfl rfl rfl rfl λw3 S3 u3=>?_;have S3:St (λ_=>False) W w3 [(b8,edO y.1 y.2.1 y.2.2.1)]:=S3;rw [y1,y2,hf',ht'] at S3;refine Ae (λz W'=>z=(decide (f<t\/0<x.put.length),())/\w3=W') ?_ ?_;{refine S3.ld 0 rfl (x:=(f:Int)) rfl (S3.ld 0 rfl (x:=(t:Int)) rfl (Ac (λhc=>⟨Az ?_,rfl⟩) (λhc=>S3.ld 0 rfl (x:=y.2.2.1) rfl ⟨Az ?_,rfl⟩)));(all_goals simp only [iI,iH,lQ,kG] at *);all_goals omega};rintro _ _ ⟨rfl,rfl⟩;have x3:=S3.upd;have u3':=u.trans (Upd.Ed x3);refine Ac (λhc=>?_) (λhc=>?_);{refine S3.ld 0 rfl (x:=(f:Int)) rfl (S3.ld 0 rfl (x:=(t:Int)) rfl (S3.ld 0 rfl (x:=y.2.2.1) rfl ?_));refine Ar1 (tx.ext x3) (by omega) (by rw [ha];omega) (putW.ext x3) (λk hk hO=>?_) fit (by omega) (by omega) (by rw [ha,←ape];omega) λO2 M2 w4 tx4 ea u4 g1 g2=>?_;{rcases o2 k hO with hh|hh;{exact hsp m y hy k hk hh};{have:=hput.Ph hk;omega}};{refine ⟨O2,M2,?_,by rw [ea,ha,ape],?_,λk hk=>g1 k (o1 k hk),λk hk=>?_⟩;{rw [pe,←hbl,←Nat.add_assoc];exact tx4};{refine Upd.new u3' u4 λk hk hq=>⟨(o2 k hq.1).elim id λhh=>by omega,λc fr hn=>?_⟩;exact hq.2 c fr (u3'.get hn λhw=>hw.2 c fr hn)};{rcases g2 k hk with hh|hh;{exact o2 k hh};{have:=u3'.size;exact .inr (by omega)}}}};{simp only [iH,not_or] at hc;obtain rfl:f=t:=(by omega);have hp0:x.put=[]:=bF.1 (by omega);refine ⟨O',M',?_,?_,u3',o1,o2⟩;{rw [pe,hp0];exact tx.ext x3};{rw [ha,ape,hp0];simp [prs]}}
 {simp only [iH,jT] at hc;obtain rfl:j=0:=(by omega);exact ⟨O',M',tx,ha,u,o1,o2⟩}
end
end
end Go.Proofs.YtolhlldgnfbemaaGreatDoor
namespace Go.Vx
open Go Go.ChangeShapes
theorem cell_spot {w:World}{a:Addr}{v:Value}(h:w.cell? a=some v):a.spot=none/\∃c t fr,w.heap[a.block]?=some (.cells c t fr)/\c[a.off]?=some v:=by unfold World.cell? at h;split at h;{rename_i c t fr hh;split at h;{cases h};{rename_i hs;exact ⟨by cases hsp:a.spot with|none=>rfl|some _=>rw [hsp] at hs;exact absurd rfl hs,c,t,fr,hh,h⟩}};{cases h}
theorem Bl3 (a:Addr) (n:Nat) (h:a.spot=none):a.add n=⟨a.block,a.off+n,none⟩:=by obtain ⟨b,o,s⟩:=a;simp only at h;subst h;exact addr_add b o n
theorem Vw {w:World}{base:Nat}{a:Addr}{n:Nat}{r:List Value}(h:w.cells? base a n=some r):r.length=n/\∀j,j<n->w.cell? (a.add j)=r[j]?:=by unfold World.cells? at h;split at h;{have hl:=mapM_some_length h;rw [lZ] at hl;refine ⟨hl,λj hj=>?_⟩;exact mapM_some_get h j j (by simp [hj])};{cases h}
section
variable {H:Type}{enc:TypeId×Value->H}{P:Program}{W:World}{base fuel:Nat}{held:Bool}
theorem Ad4 {e:TypeId}{d:DataW H}{n:Nat}(hn:n∈d.weights P e):∀l:List (DataW H),d∈l->n∈DataW.weightsAll P e l
 |[],h=>by cases h
 |x::r,h=>by
  simp only [DataW.weightsAll,bV]
  rcases aG.1 h with rfl|h
  ·exact .inl hn
  ·exact .inr (Ad4 hn r h)
theorem Al9 {t e:TypeId} {sz:Nat} {cs:List Value} {x:DataW H×List MemPlace} (ht:P.underlying t=some (.slice e)) (hsz:P.cellsOf e=sz) (hpos:0<sz)
  (h:DataW.trod enc P W base (λ_=>true) held fuel t cs=some x) (hw:∀n∈x.1.weights P t,n<=reachBytes) :
  ∃(s:Sl) (rows:List (List Value)),cs=[.slice s.a s.len s.cap]/\SlX W s sz rows.flatten/\rows.length=s.len/\s.len*P.bytesOf e<=reachBytes/\(s.len=0\/∃els rst,x.1=.slice els rst/\els.length=s.len) /\
   ∀r∈rows,r.length=sz/\∃n y,DataW.trod enc P W base (λ_=>true) held n e r=some y/\(∀k∈y.1.weights P e,k<=reachBytes)/\∃els rst,x.1=.slice els rst/\y.1∈els:=by
 rcases DataW.trod_slice ht h with ⟨rfl,rfl⟩|⟨a,len,cap,elems,rest,n,_,rfl,rfl,hb,hl,hm,hlen,hel,hsp,_⟩;{exact ⟨⟨none,0,0⟩,[],rfl,⟨.inl ⟨rfl,rfl⟩⟩,rfl,by simp,.inl rfl,λr hr=>by cases hr⟩};obtain ⟨hrl,hre⟩:=hsp rfl;subst hsz;have each:∀i,i<len->∃r y,W.cells? base (a.add (i*P.cellsOf e)) (P.cellsOf e)=some r/\elems[i]?=some y/\DataW.trod enc P W base (λ_=>true) held n e r=some y:=by
  intro i hi
  have h1:=hel i hi
  rw [jC (by omega)] at h1
  obtain ⟨r,h2,h3⟩:=mD.1 h1
  exact ⟨r,_,h2,jC (by omega),h3⟩
 have wn:(elems.length+rest.length)*P.bytesOf e<=reachBytes:=by
  have:=hw ((elems.length+rest.length)*P.bytesOf e) (by simp [DataW.weights,ht])
  exact this
 refine ⟨⟨some a,len,cap⟩,(List.range len).map λi=>(W.cells? base (a.add (i*P.cellsOf e)) (P.cellsOf e)).getD [],rfl,?_,by simp,?_,.inr ⟨_,_,rfl,by simp [hlen]⟩,?_⟩
 ·by_cases h0:len=0;{subst h0;exact ⟨.inl ⟨rfl,rfl⟩⟩};have last:∃v,W.cell? ((a.add ((cap-1)*P.cellsOf e)).add (P.cellsOf e-1))=some v:=by
   have fin:∀r,W.cells? base (a.add ((cap-1)*P.cellsOf e)) (P.cellsOf e)=some r->∃v,W.cell? ((a.add ((cap-1)*P.cellsOf e)).add (P.cellsOf e-1))=some v:=by
    intro r hr
    obtain ⟨g1,g2⟩:=Vw hr
    rw [g2 _ (by omega)]
    exact ⟨_,jC (by omega)⟩
   by_cases hcl:cap-1<len
   ·obtain ⟨r,_,h1,_⟩:=each (cap-1) hcl
    exact fin r h1
   ·have h1:=hre (cap-1-len) (by omega)
    rw [show len+(cap-1-len)=cap-1 by omega] at h1
    rw [jC (by omega)] at h1
    obtain ⟨r,h2,_⟩:=mD.1 h1
    exact fin r h2
  obtain ⟨v,hv⟩:=last;have hspot:a.spot=none:=by
   obtain ⟨r,_,h1,_⟩:=each 0 (by omega)
   obtain ⟨g1,g2⟩:=Vw h1
   have h2:=g2 0 (by omega)
   rw [fQ,jC (by omega)] at h2
   exact (cell_spot h2).1
  rw [Bl3 a _ hspot,addr_add] at hv;obtain ⟨_,c,tt,fr,hh,hc⟩:=cell_spot hv;simp only at hh hc;have hlast:=(aT.1 hc).1;(have hcap:(cap-1)*P.cellsOf e+P.cellsOf e=cap*P.cellsOf e:=by rw [←iF];congr 1;omega);have rowlen:∀i,i<len->((W.cells? base (a.add (i*P.cellsOf e)) (P.cellsOf e)).getD []).length=P.cellsOf e:=by
   intro i hi
   obtain ⟨r,_,h1,_⟩:=each i hi
   rw [h1];exact (Vw h1).1
  refine ⟨.inr ⟨tt,?_,hl,.inr ⟨a.block,a.off,c,fr,?_,hh,by simp only;omega,?_⟩⟩⟩
  ·have key:∀(k:Nat),k<=len->(((List.range k).map λi=>(W.cells? base (a.add (i*P.cellsOf e)) (P.cellsOf e)).getD []).flatten).length=k*P.cellsOf e:=by
    intro k
    induction k with
    |zero=>intro _;simp
    |succ k ih=>intro hk;rw [mF,lG,mG,iE,ih (by omega),iF];simp [rowlen k (by omega)]
   exact key len (fJ _)
  {obtain ⟨b,o,s⟩:=a;simp only at hspot;subst hspot;rfl}
  ·have key:∀(k:Nat),k<=len->∀i v,(((List.range k).map λi=>(W.cells? base (a.add (i*P.cellsOf e)) (P.cellsOf e)).getD []).flatten)[i]?=some v->c[a.off+i]?=some v:=by
    intro k
    induction k with
    |zero=>intro _ i v hi;simp at hi
    | succ k ih =>
     intro hk i v hi;have hkl:(((List.range k).map λi=>(W.cells? base (a.add (i*P.cellsOf e)) (P.cellsOf e)).getD []).flatten).length=k*P.cellsOf e:=by
      have key2:∀(k:Nat),k<=len->(((List.range k).map λi=>(W.cells? base (a.add (i*P.cellsOf e)) (P.cellsOf e)).getD []).flatten).length=k*P.cellsOf e:=by
       intro k
       induction k with
       |zero=>intro _;simp
       |succ k ih =>
        intro hk
        rw [mF,lG,mG,iE,ih (by omega),iF]
        simp [rowlen k (by omega)]
      exact key2 k (by omega)
     rw [mF,lG,mG] at hi;by_cases hik:i<k*P.cellsOf e;{rw [fZ (by omega)] at hi;exact ih (by omega) i v hi};{rw [gB (by omega),hkl] at hi;simp only [dQ,mJ,mM,List.flatten_nil,kM] at hi;obtain ⟨r,_,h1,_⟩:=each k (by omega);rw [h1] at hi;simp only [bJ] at hi;obtain ⟨g1,g2⟩:=Vw h1;have hj:=(fG.1 hi).1;have:=g2 (i-k*P.cellsOf e) (by omega);rw [hi,Bl3 a _ hspot,addr_add] at this;obtain ⟨_,c',t',fr',hh',hc'⟩:=cell_spot this;simp only at hh' hc';rw [hh] at hh';cases hh';rw [show a.off+i=a.off+k*P.cellsOf e+(i-k*P.cellsOf e) by omega];exact hc'}
   exact key len (fJ _)
 {have:len*P.bytesOf e<=(elems.length+rest.length)*P.bytesOf e:=fV _ (by omega);exact fK this wn};{intro r hr;obtain ⟨i,hi,rfl⟩:=gY.1 hr;have hi:=bH.1 hi;obtain ⟨r,y,h1,h2,h3⟩:=each i hi;rw [h1];refine ⟨(Vw h1).1,n,y,h3,λk hk=>hw k ?_,_,_,rfl,gY.2 ⟨y,eY h2,rfl⟩⟩;simp only [DataW.weights,ht,aG,bV];exact .inr (.inl (Ad4 hk _ (gY.2 ⟨y,eY h2,rfl⟩)))}
theorem Cd9 {t e:TypeId}{sz:Nat}{cs:List Value}{x:DataW H×List MemPlace}(ht:P.underlying t=some (.slice e)) (hsz:P.cellsOf e=sz) (hpos:0<sz)
  (h:DataW.trod enc P W base (λ_=>true) held fuel t cs=some x) (hw:∀n∈x.1.weights P t,n<=reachBytes) :
  ∃(s:Sl) (rows:List (List Value)),cs=[.slice s.a s.len s.cap]/\SlX W s sz rows.flatten/\rows.length=s.len/\s.len*P.bytesOf e<=reachBytes /\
   ∀r∈rows,r.length=sz/\∃n y,DataW.trod enc P W base (λ_=>true) held n e r=some y/\∀k∈y.1.weights P e,k<=reachBytes:=by obtain ⟨s,rows,h1,h2,h3,h4,_,h5⟩:=Al9 ht hsz hpos h hw;exact ⟨s,rows,h1,h2,h3,h4,λr hr=>by obtain ⟨a,n,y,b,c,_⟩:=h5 r hr;exact ⟨a,n,y,b,c⟩⟩
theorem Lc {t:TypeId}{cs:List Value}{x:DataW H×List MemPlace}(ht:P.underlying t=some (.int .i64)) (h:DataW.trod enc P W base (λ_=>true) held fuel t cs=some x):∃n,cs=[.int .i64 n]/\(Lit.int .i64 n).wf=true:=by
 cases fuel with
 |zero=>simp [DataW.trod] at h
 |succ m=>unfold DataW.trod at h;rw [ht] at h;split at h<;>simp_all
theorem Bv2 {cs:List Cell}{Q:Cells.T cs->Prop}:∀(rows:List (List Value)),(∀r∈rows,∃x,r=Cells.vals cs x/\Q x)->∃xs:List (Cells.T cs),rows.flatten=flat cs xs/\xs.length=rows.length/\∀x∈xs,Q x
 |[],_=>⟨[],rfl,rfl,λx hx=>by cases hx⟩
 | r::rs,h=>by
  obtain ⟨x,hx,hq⟩:=h r aH
  obtain ⟨xs,h1,h2,h3⟩:=Bv2 rs λr' hr'=>h r' (aI _ hr')
  refine ⟨x::xs,?_,by simp [h2],λy hy=>?_⟩
  ·rw [mM,h1,hx];rfl
  ·rcases aG.1 hy with rfl|hy
   ·exact hq
   ·exact h3 y hy
end
end Go.Vx
namespace Go.Vx
open Go Go.ChangeShapes Go.RowKit
section
variable {H:Type}{enc:TypeId×Value->H}{P:Program}{W W':World}
theorem Ext.below (e:Ext W W'):Below W.heap.size W W':=⟨e.os,e.tape,e.output,e.size,λk hk=>e.at_ k hk id⟩
theorem At1 (hl:laidOutB P=true){sp:Nat->Bool}:∀{ts:List TypeId}{vs:List Value}{ds:List (DataW H)}{ps:List MemPlace},(∀t∈ts,P.readableRec t=true/\t<P.types.size) ->
  DataW.TrodAll enc P W 0 (λ_=>true) true ts vs ds ps->(∀p∈ps,W.sameAt W' p)->(∀p∈ps,sp p.block=true)->DataW.TrodAll enc P W' 0 sp true ts vs ds ps
 |[],[],[],_,_,h,_,_=>h
 | t::ts,v::vs,d::ds,ps,hr,⟨p,q,h1,h2,e⟩,hs,hsp=>by
  subst e
  exact ⟨p,q,WideElems.Trod_stays hl (hr t aH).1 (hr t aH).2 h1 (λx hx=>hs x (bQ _ hx)) (λx hx=>hsp x (bQ _ hx)),
   At1 hl (λt' ht'=>hr t' (aI _ ht')) h2 (λx hx=>hs x (bY _ hx)) (λx hx=>hsp x (bY _ hx)),rfl⟩
 |[],_::_,_,_,_,h,_,_=>h.elim
 |[],[],_::_,_,_,h,_,_=>h.elim
 |_::_,[],_,_,_,h,_,_=>h.elim
 |_::_,_::_,[],_,_,h,_,_=>h.elim
theorem Cd1 {f:Func}{s:ChangeSpec}{apart fresh handsOn again:Bool}{args:Array Value}{ds gs:List (DataW H)}{before:List MemPlace}{tb:TypeId}
  (hW:DataW.Whole enc P f.params.toList s.vars apart W args.toList ds gs before) (hv:s.vars=[]) (hr:f.resultTypes=#[tb]) (hb:P.underlying tb=some .bool)
  (hs:s.fn H (ds++gs)={ results:=[.lit (.bool true)],args:=ds }) (hl:laidOutB P=true) (hrd:∀t∈f.params.toList,P.readableRec t=true/\t<P.types.size)
  (e:Ext W W'):s.post enc P f apart fresh handsOn again W args (.bool true) W':=by
 have hlt:=hW.lt;have hW0:=hW;obtain ⟨pa,pv,hA,hV,rfl,hz,hn⟩:=hW;have hBl:=e.below;have hsame:∀p∈pa++pv,W.sameAt W' p:=λp hp=>hBl.same (hlt p hp);have hold:∀p∈pa++pv,(λb=>decide (b<W.heap.size)) p.block=true:=λp hp=>(by simpa using hlt p hp);have hres:∀(b:Nat) (sp:Nat->Bool) (hd:Bool),DataW.TrodAll enc P W' b sp hd f.resultTypes.toList ((Value.bool true).resultList f.resultTypes.size) (s.fn H (ds++gs)).results []:=by
  intro b sp hd
  rw [hs,hr]
  exact trodAll_mk1 ⟨1,by simp [DataW.trod,hb,Value.cells]⟩
 have hargs:∀sp:Nat->Bool,(∀p∈pa,sp p.block=true)->DataW.TrodAll enc P W' 0 sp true f.params.toList args.toList (s.fn H (ds++gs)).args pa:=by
  intro sp hsp
  rw [hs]
  exact At1 hl hrd hA (λp hp=>hsame p (bQ _ hp)) hsp
 have hgs:gs=[]/\pv=[]:=by
  rw [hv] at hV
  exact trodVars_none hV
 obtain ⟨rfl,rfl⟩:=hgs;have hvars:∀sp:Nat->Bool,DataW.TrodVars enc P W' sp s.vars (s.fn H (ds++[])).vars []:=by
  intro sp
  rw [hs,hv]
  exact rfl
 have hall:∀p∈([]++pa)++[],p∈pa++[]:=λp hp=>(by simpa using hp);refine ⟨ds,[],pa++[],[],pa,[],hW0,hres _ _ _,hargs _ (λp hp=>hold p (bQ _ hp)),hvars _,hBl.frame _,λ_=>⟨ok_one hr rfl (okWide_bool_mk hb true),[.lit (.bool true)]++ds,[],([]++pa)++[],?_,λp hp _=>hall p hp⟩⟩;have h1:=trodAll_append (hargs (λ_=>true) (λ_ _=>rfl)) (hres 0 (λ_=>true) true);rw [hs] at h1;have h2:=hvars (λ_=>true);rw [hs] at h2;refine ⟨[]++pa,[],h1,h2,rfl,?_,λha=>?_⟩;{intro b off hp;have hp':=hall _ hp;have hb':=hlt _ hp';rw [hBl.frozen (p:=⟨b,off,none⟩) hb'];exact hz b off hp'};{have:=hn ha;simpa using this}
end
end Go.Vx
namespace Go.Proofs.YtolhlldgnfbemaaGreatDoor
section
open Go Go.Vx Go.ChangeShapes Go.WideShapes Go.RowKit Cdc
theorem Tryz.own:ownKnob Tryz.prog.godebug=none:=by kernel_rfl
theorem Tryz.laidOut:laidOutB Tryz.prog=true:=by kernel_rfl
theorem ui:Tryz.prog.underlying 3=some (.int .i64):=C3.und
theorem ub:Tryz.prog.underlying 5=some (.int .u8):=C5.und
theorem u4:Tryz.prog.underlying 4=some .bool:=C4.und
theorem Dh8:Tryz.prog.underlying 43=some (.slice 3):=C43.und
theorem Dd7:Tryz.prog.underlying 22=some (.slice 5):=C22.und
theorem Dd6:Tryz.prog.underlying 39=some (.slice 65):=by kernel_rfl
theorem Cw6:Tryz.prog.underlying 23=some (.slice 39):=by kernel_rfl
theorem Dh9:Tryz.prog.underlying 24=some (.slice 50):=by kernel_rfl
theorem ci:Tryz.prog.cellsOf 3=1:=by kernel_rfl
theorem cby:Tryz.prog.cellsOf 5=1:=by kernel_rfl
theorem bby:Tryz.prog.bytesOf 5=1:=by kernel_rfl
theorem cbo:Tryz.prog.cellsOf 4=1:=by kernel_rfl
theorem cbs:Tryz.prog.cellsOf 22=1:=by kernel_rfl
theorem cis:Tryz.prog.cellsOf 43=1:=by kernel_rfl
theorem ced:Tryz.prog.cellsOf 65=3:=by kernel_rfl
theorem Ea4:Tryz.prog.cellsOf 39=1:=by kernel_rfl
theorem Ea3:Tryz.prog.cellsOf 23=1:=by kernel_rfl
theorem cas:Tryz.prog.cellsOf 24=1:=by kernel_rfl
theorem Ea5:Tryz.prog.cellsOf 50=7:=by kernel_rfl
theorem cmv:Tryz.prog.cellsOf 48=3:=by kernel_rfl
theorem Dk8:Tryz.prog.cellsOf 26=4:=by kernel_rfl
theorem Di7:∃fs:Array Field,Tryz.prog.underlying 65=some (.struct fs)/\fs.toList.map (λf=>(f.type,f.offset))=[(3,0),(3,1),(43,2)]:=⟨_,C65.und,rfl⟩
theorem Di6:∃fs:Array Field,Tryz.prog.underlying 48=some (.struct fs)/\fs.toList.map (λf=>(f.type,f.offset))=[(3,0),(3,1),(3,2)]:=⟨_,C48.und,rfl⟩
theorem Dn2:∃fs:Array Field,Tryz.prog.underlying 50=some (.struct fs)/\fs.toList.map (λf=>(f.type,f.offset))=[(3,0),(3,1),(3,2),(48,3),(4,6)]:=⟨_,C50.und,rfl⟩
theorem Dc3:∃fs:Array Field,Tryz.prog.underlying 26=some (.struct fs)/\fs.toList.map (λf=>(f.type,f.offset))=[(3,0),(22,1),(23,2),(24,3)]:=⟨_,C26.und,rfl⟩
theorem Xz {cs:List Cell}{β:Type}{Q:Cells.T cs->β->Prop}:∀(rows:List (List Value)),(∀r∈rows,∃x y,r=Cells.vals cs x/\Q x y)->∃(xs:List (Cells.T cs)) (ys:List β),rows.flatten=flat cs xs/\xs.length=rows.length/\xs.length=ys.length/\∀(i:Nat) x y,xs[i]?=some x->ys[i]?=some y->Q x y
 |[],_=>⟨[],[],rfl,rfl,rfl,λi x y hx=>by simp at hx⟩
 | r::rs,h=>by
  obtain ⟨x,y,hx,hq⟩:=h r aH
  obtain ⟨xs,ys,h1,h2,h3,h4⟩:=Xz rs λr' hr'=>h r' (aI _ hr')
  refine ⟨x::xs,y::ys,?_,by simp [h2],by simp [h3],λi x' y' hx' hy'=>?_⟩
  ·rw [mM,h1,hx];rfl
  ·match i with
   |0=>cases hx';cases hy';exact hq
   |i+1=>exact h4 i x' y' (by simpa using hx') (by simpa using hy')
abbrev In64 (x:Int):Prop:=-(2^63)<=x/\x<2^63
theorem wf64 {n:Int}(h:(Lit.int .i64 n).wf=true):In64 n:=by have h1:IntKind.min .i64=-9223372036854775808:=rfl;have h2:IntKind.max .i64=9223372036854775807:=rfl;simp [Lit.wf,h1,h2] at h;unfold In64;omega
section
variable {H:Type}{enc:TypeId×Value->H}{W:World}{base fuel:Nat}{held:Bool}
abbrev bulk (d:DataW H):Nat:=Rows.uptoBulk d
theorem Ct6 (d:DataW H):1<=bulk d:=by
 unfold bulk;cases d with
 |lit l=>cases l<;>simp [Rows.uptoBulk]
 |nil=>simp [Rows.uptoBulk]
 |ptr d=>simp [Rows.uptoBulk]
 |slice elems spare=>simp [Rows.uptoBulk]
 |agg parts=>simp [Rows.uptoBulk]
 |iface t d=>simp [Rows.uptoBulk]
 |map entries=>simp [Rows.uptoBulk]
 |held h=>simp [Rows.uptoBulk]
theorem Aw6 {d:DataW H}{l:List (DataW H)}(h:d∈l):bulk d<=Rows.uptoBulkAll l:=by
 induction l with
 |nil=>cases h
 |cons x r ih =>
  simp only [Rows.uptoBulkAll];cases aG.1 h with
  |inl e=>subst e;show Rows.uptoBulk d<=_;omega
  |inr e=>have:=ih e;show Rows.uptoBulk d<=_;have:Rows.uptoBulk d<=Rows.uptoBulkAll r:=this;omega
theorem Ct7 (l:List (DataW H)):l.length<=Rows.uptoBulkAll l:=by
 induction l with
 |nil=>simp [Rows.uptoBulkAll]
 |cons x r ih=>have:=Ct6 x;unfold bulk at this;simp only [Rows.uptoBulkAll,dB];omega
theorem Xb {t e:TypeId}{sz:Nat}{cs:List Value}{x:DataW H×List MemPlace}(ht:Tryz.prog.underlying t=some (.slice e)) (hsz:Tryz.prog.cellsOf e=sz) (hpos:0<sz)
  (h:DataW.trod enc Tryz.prog W base (λ_=>true) held fuel t cs=some x) (hw:∀n∈x.1.weights Tryz.prog t,n<=reachBytes) :
  ∃(s:Sl) (rows:List (List Value)),cs=[.slice s.a s.len s.cap]/\SlX W s sz rows.flatten/\rows.length=s.len/\s.len<=bulk x.1 /\
   ∀r∈rows,r.length=sz/\∃n y,DataW.trod enc Tryz.prog W base (λ_=>true) held n e r=some y/\(∀k∈y.1.weights Tryz.prog e,k<=reachBytes)/\bulk y.1<=bulk x.1:=by obtain ⟨s,rows,h1,h2,h3,h4,h6,h5⟩:=Al9 ht hsz hpos h hw;refine ⟨s,rows,h1,h2,h3,?_,λr hr=>?_⟩;{rcases h6 with h6|⟨els,rst,hx,hl⟩;{omega};{have:=Ct7 els;rw [hx];show _<=Rows.uptoBulk (.slice els rst);simp only [Rows.uptoBulk];omega}};{obtain ⟨a,n,y,b,c,els,rst,hx,hm⟩:=h5 r hr;refine ⟨a,n,y,b,c,?_⟩;have:=Aw6 hm;rw [hx];show _<=Rows.uptoBulk (.slice els rst);simp only [Rows.uptoBulk];omega}
theorem Tn {t:TypeId}{fs:Array Field}{L:List (TypeId×Nat)}{cs:List Value}{x:DataW H×List MemPlace}(hu:Tryz.prog.underlying t=some (.struct fs)) (hfs:fs.toList.map (λf=>(f.type,f.offset))=L)
  (h:DataW.trod enc Tryz.prog W base (λ_=>true) held fuel t cs=some x) (hw:∀n∈x.1.weights Tryz.prog t,n<=reachBytes) :
  ∃n,∀(i:Nat) (t' o:Nat),L[i]?=some (t',o)->∃y,DataW.trod enc Tryz.prog W base (λ_=>true) held n t' ((cs.drop o).take (Tryz.prog.cellsOf t'))=some y/\(∀k∈y.1.weights Tryz.prog t',k<=reachBytes)/\bulk y.1<=bulk x.1:=by obtain ⟨xs,n,_,rfl,_,hxl,hall⟩:=DataW.trod_struct hu h;refine ⟨n,λi t' o hi=>?_⟩;rw [←hfs,gX] at hi;obtain ⟨f,hf,he⟩:=mP.1 hi;cases he;have hf':fs[i]?=some f:=(by simpa using hf);have h1:=hall i f hf';(have hil:i<xs.length:=by rw [hxl];exact (aT.1 hf').1);rw [jC hil] at h1;refine ⟨xs[i],h1,λk hk=>hw k ?_,?_⟩;{simp only [DataW.weights,hu];exact mQ (j:=i) (t:=f.type) (d:=xs[i].1) (by rw [gX,hf];rfl) (by rw [gX,jC hil];rfl) k hk};{have hm:xs[i].1∈xs.map (·.1):=gY.2 ⟨xs[i],jA hil,rfl⟩;have:=Aw6 hm;show _<=Rows.uptoBulk (.agg (xs.map (·.1)));simp only [Rows.uptoBulk];omega}
theorem Cy1 {cs:List Value}{x:DataW H×List MemPlace}(h:DataW.trod enc Tryz.prog W base (λ_=>true) held fuel 5 cs=some x):∃b:UInt8,cs=[.int .u8 (b.toNat:Int)]:=by
 have:∃n,cs=[.int .u8 n]/\(Lit.int .u8 n).wf=true:=by
  cases fuel with
  |zero=>simp [DataW.trod] at h
  |succ m=>unfold DataW.trod at h;rw [ub] at h;split at h<;>simp_all
 obtain ⟨n,rfl,hn⟩:=this;have hr:0<=n/\n<256:=by
  have h1:IntKind.min .u8=0:=rfl
  have h2:IntKind.max .u8=255:=rfl
  simp [Lit.wf,h1,h2] at hn
  omega
 refine ⟨UInt8.ofNat n.toNat,?_⟩;have:(UInt8.ofNat n.toNat).toNat=n.toNat:=by
  rw [kN]
  exact Nat.mod_eq_of_lt (by omega)
 rw [this];congr 2;omega
theorem open_ints {cs:List Value}{x:DataW H×List MemPlace}(h:DataW.trod enc Tryz.prog W base (λ_=>true) held fuel 43 cs=some x) (hw:∀n∈x.1.weights Tryz.prog 43,n<=reachBytes) :
  ∃(s:Sl) (l:List Int),cs=[.slice s.a s.len s.cap]/\SlX W s 1 (iv l)/\l.length<=bulk x.1/\∀n∈l,In64 n:=by
 obtain ⟨s,rows,rfl,hs,hl,hby,hr⟩:=Xb Dh8 ci (by decide) h hw;obtain ⟨xs,h1,h2,h3⟩:=Bv2 (cs:=[.int .i64]) (Q:=λx=>(Lit.int .i64 x.1).wf=true) rows (λr hr'=>by
  obtain ⟨_,n,y,hy,_⟩:=hr r hr'
  obtain ⟨k,rfl,hk⟩:=Lc ui hy
  exact ⟨(k,()),rfl,hk⟩)
 refine ⟨s,xs.map (·.1),rfl,?_,by rw [gW,h2,hl];exact hby,?_⟩
 ·rw [h1] at hs;have e:flat [.int .i64] xs=(xs.map (·.1)).map (Value.int .i64):=by
   simp only [flat,jL,List.flatMap_def]
   clear h1 h2 h3 hs
   induction xs with
   |nil=>rfl
   |cons x r ih=>simp only [dQ,mM,ih];rfl
  rw [e] at hs;exact hs
 {intro n hn;obtain ⟨x,hx,rfl⟩:=gY.1 hn;exact wf64 (h3 x hx)}
theorem open_bytes {cs:List Value}{x:DataW H×List MemPlace}(h:DataW.trod enc Tryz.prog W base (λ_=>true) held fuel 22 cs=some x) (hw:∀n∈x.1.weights Tryz.prog 22,n<=reachBytes) :
  ∃(s:Sl) (l:List UInt8),cs=[.slice s.a s.len s.cap]/\SlX W s 1 (bv l)/\l.length<=2^47:=by
 obtain ⟨s,rows,rfl,hs,hl,hby,hr⟩:=Cd9 Dd7 cby (by decide) h hw;obtain ⟨xs,ls,h1,h2,h3,h4⟩:=Xz (cs:=[.int .u8]) (β:=UInt8) (Q:=λx y=>x.1=(y.toNat:Int)) rows (λr hr'=>by
  obtain ⟨_,n,y,hy,_⟩:=hr r hr'
  obtain ⟨b,rfl⟩:=Cy1 hy
  exact ⟨((b.toNat:Int),()),b,rfl,rfl⟩)
 refine ⟨s,ls,rfl,?_,?_⟩
 ·rw [h1] at hs;have e:flat [.int .u8] xs=bv ls:=by
   clear h1 h2 hs
   induction xs generalizing ls with
   |nil =>
    cases ls with
    |nil=>rfl
    |cons y r=>simp at h3
   |cons x r ih =>
    cases ls with
    |nil=>simp at h3
    |cons y q=>have h0:=h4 0 x y rfl rfl;have:=ih q (by simpa using h3) λi x' y' hx hy=>h4 (i+1) x' y' (by simpa using hx) (by simpa using hy);simp only [flat,iD] at this ⊢;rw [this];obtain ⟨n,⟨⟩⟩:=x;dsimp only at h0;subst h0;rfl
  rw [e] at hs;exact hs
 {rw [←h3,h2,hl];rw [bby] at hby;unfold reachBytes at hby;omega}
theorem open_bool {cs:List Value}{x:DataW H×List MemPlace}(h:DataW.trod enc Tryz.prog W base (λ_=>true) held fuel 4 cs=some x):∃b,cs=[.bool b]:=by
 cases fuel with
 |zero=>simp [DataW.trod] at h
 |succ m=>unfold DataW.trod at h;rw [u4] at h;split at h<;>simp_all
structure EdX (w:World) (s:Sl) (es:List LEd):Prop where
 ex:∃ys:List (Cells.T c65),SlX w s 3 (flat c65 ys)/\ys.length=es.length/\∀(i:Nat) y x,ys[i]?=some y->es[i]?=some x->y.1=x.f/\y.2.1=x.t/\SlX w y.2.2.1 1 (iv x.put)/\x.put.length<=1048576
 few:es.length<=1048576
structure Dl7 (w:World) (s:Sl) (L:List (List LEd)):Prop where
 ex:∃ys:List Sl,SlX w s 1 (ys.map λy=>.slice y.a y.len y.cap)/\ys.length=L.length/\∀(i:Nat) y es,ys[i]?=some y->L[i]?=some es->EdX w y es
 few:L.length<=1048576
structure Va where
 kind:Int
 at_:Int
 b:Int
 mkd:Int
 count:Int
 arg:Int
 past:Bool
abbrev Xv (a:Va):Cells.T c50:=(a.kind,a.at_,a.b,a.mkd,a.count,a.arg,a.past,())
structure Dd3 (w:World) (s:Sl) (L:List Va):Prop where
 row:SlX w s 7 (flat c50 (L.map Xv))
 few:L.length<=1048576
 i64:∀a∈L,In64 a.kind/\In64 a.at_/\In64 a.b/\In64 a.mkd/\In64 a.count/\In64 a.arg
structure Cv9 (w:World) (y:Cells.T c26) (enc:Int) (l:List UInt8) (L:List (List LEd)) (al:List Va):Prop where
 e:y.1=enc
 i64:In64 enc
 bytes:SlX w y.2.1 1 (bv l)
 blen:l.length<=2^47
 edits:Dl7 w y.2.2.1 L
 asks:Dd3 w y.2.2.2.1 al
theorem Ce1 {cs:List Value}{x:DataW H×List MemPlace}(hl:cs.length=3) (h:DataW.trod enc Tryz.prog W base (λ_=>true) held fuel 65 cs=some x) (hw:∀n∈x.1.weights Tryz.prog 65,n<=reachBytes) (hb:bulk x.1<=1048576) :
  ∃(y:Cells.T c65) (o:LEd),cs=Cells.vals c65 y/\(y.1=o.f/\y.2.1=o.t/\SlX W y.2.2.1 1 (iv o.put)/\o.put.length<=1048576):=by
 obtain ⟨fs,hu,hfs⟩:=Di7;obtain ⟨n,hall⟩:=Tn hu hfs h hw;obtain ⟨v0,v1,v2,rfl⟩:∃v0 v1 v2,cs=[v0,v1,v2]:=by
  match cs,hl with
  |[v0,v1,v2],_=>exact ⟨v0,v1,v2,rfl⟩
 obtain ⟨y0,h0,_⟩:=hall 0 _ _ rfl;obtain ⟨y1,h1,_⟩:=hall 1 _ _ rfl;obtain ⟨y2,h2,hw2,hb2⟩:=hall 2 _ _ rfl;rw [ci] at h0 h1;rw [cis] at h2;obtain ⟨n0,e0,i0⟩:=Lc ui h0;obtain ⟨n1,e1,i1⟩:=Lc ui h1;obtain ⟨s2,l2,e2,g2,k2,_⟩:=open_ints h2 hw2;simp at e0 e1 e2;subst e0 e1 e2;exact ⟨(n0,n1,s2,()),⟨n0,n1,l2⟩,rfl,rfl,rfl,g2,by dsimp only;omega⟩
theorem Bp2 {cs:List Value}{x:DataW H×List MemPlace}(h:DataW.trod enc Tryz.prog W base (λ_=>true) held fuel 39 cs=some x) (hw:∀n∈x.1.weights Tryz.prog 39,n<=reachBytes) (hb:bulk x.1<=1048576) :
  ∃(s:Sl) (es:List LEd),cs=[.slice s.a s.len s.cap]/\EdX W s es:=by
 obtain ⟨s,rows,rfl,hs,hl,hby,hr⟩:=Xb Dd6 ced (by decide) h hw;obtain ⟨xs,ls,h1,h2,h3,h4⟩:=Xz (cs:=c65) (β:=LEd) (Q:=λy o=>y.1=o.f/\y.2.1=o.t/\SlX W y.2.2.1 1 (iv o.put)/\o.put.length<=1048576) rows (λr hr'=>by
  obtain ⟨hrl,n,y,hy,hwy,hby⟩:=hr r hr'
  exact Ce1 hrl hy hwy (by omega))
 rw [h1] at hs;exact ⟨s,ls,rfl,⟨xs,hs,h3,h4⟩,by omega⟩
theorem Bg2 {cs:List Value}{x:DataW H×List MemPlace}(h:DataW.trod enc Tryz.prog W base (λ_=>true) held fuel 23 cs=some x) (hw:∀n∈x.1.weights Tryz.prog 23,n<=reachBytes) (hb:bulk x.1<=1048576) :
  ∃(s:Sl) (L:List (List LEd)),cs=[.slice s.a s.len s.cap]/\Dl7 W s L:=by
 obtain ⟨s,rows,rfl,hs,hl,hby,hr⟩:=Xb Cw6 Ea4 (by decide) h hw;obtain ⟨xs,ls,h1,h2,h3,h4⟩:=Xz (cs:=[.sl]) (β:=List LEd) (Q:=λy o=>EdX W y.1 o) rows (λr hr'=>by
  obtain ⟨hrl,n,y,hy,hwy,hby⟩:=hr r hr'
  obtain ⟨s',es,rfl,he⟩:=Bp2 hy hwy (by omega)
  exact ⟨(s',()),es,rfl,he⟩)
 rw [h1] at hs;have e:flat [.sl] xs=(xs.map (·.1)).map λy=>.slice y.a y.len y.cap:=by
  simp only [flat,jL,List.flatMap_def]
  clear h1 h2 h3 h4 hs
  induction xs with
  |nil=>rfl
  |cons x r ih=>simp only [dQ,mM,ih];rfl
 rw [e] at hs;refine ⟨s,ls,rfl,⟨xs.map (·.1),hs,by rw [gW];exact h3,λi y es hy he=>?_⟩,by omega⟩;rw [gX] at hy;obtain ⟨z,hz,rfl⟩:=mP.1 hy;exact h4 i z es hz he
theorem Co3 {cs:List Value}{x:DataW H×List MemPlace}(hl:cs.length=7) (h:DataW.trod enc Tryz.prog W base (λ_=>true) held fuel 50 cs=some x) (hw:∀n∈x.1.weights Tryz.prog 50,n<=reachBytes) :
  ∃(y:Cells.T c50) (o:Va),cs=Cells.vals c50 y/\(y=Xv o/\In64 o.kind/\In64 o.at_/\In64 o.b/\In64 o.mkd/\In64 o.count/\In64 o.arg):=by
 obtain ⟨fs,hu,hfs⟩:=Dn2;obtain ⟨n,hall⟩:=Tn hu hfs h hw;obtain ⟨v0,v1,v2,v3,v4,v5,v6,rfl⟩:∃v0 v1 v2 v3 v4 v5 v6,cs=[v0,v1,v2,v3,v4,v5,v6]:=by
  match cs,hl with
  |[v0,v1,v2,v3,v4,v5,v6],_=>exact ⟨v0,v1,v2,v3,v4,v5,v6,rfl⟩
 obtain ⟨y0,h0,_⟩:=hall 0 _ _ rfl;obtain ⟨y1,h1,_⟩:=hall 1 _ _ rfl;obtain ⟨y2,h2,_⟩:=hall 2 _ _ rfl;obtain ⟨y3,h3,hw3,_⟩:=hall 3 _ _ rfl;obtain ⟨y4,h4,_⟩:=hall 4 _ _ rfl;rw [ci] at h0 h1 h2;rw [cmv] at h3;rw [cbo] at h4;obtain ⟨fs',hu',hfs'⟩:=Di6;obtain ⟨n',hall'⟩:=Tn hu' hfs' h3 hw3;obtain ⟨z0,k0,_⟩:=hall' 0 _ _ rfl;obtain ⟨z1,k1,_⟩:=hall' 1 _ _ rfl;obtain ⟨z2,k2,_⟩:=hall' 2 _ _ rfl;rw [ci] at k0 k1 k2;obtain ⟨n0,e0,i0⟩:=Lc ui h0;obtain ⟨n1,e1,i1⟩:=Lc ui h1;obtain ⟨n2,e2,i2⟩:=Lc ui h2;obtain ⟨n3,e3,i3⟩:=Lc ui k0;obtain ⟨n4,e4,i4⟩:=Lc ui k1;obtain ⟨n5,e5,i5⟩:=Lc ui k2;obtain ⟨b6,e6⟩:=open_bool h4;simp at e0 e1 e2 e3 e4 e5 e6;subst e0 e1 e2 e3 e4 e5 e6;exact ⟨_,⟨n0,n1,n2,n3,n4,n5,b6⟩,rfl,rfl,wf64 i0,wf64 i1,wf64 i2,wf64 i3,wf64 i4,wf64 i5⟩
theorem Ce2 {cs:List Value}{x:DataW H×List MemPlace}(h:DataW.trod enc Tryz.prog W base (λ_=>true) held fuel 24 cs=some x) (hw:∀n∈x.1.weights Tryz.prog 24,n<=reachBytes) (hb:bulk x.1<=1048576) :
  ∃(s:Sl) (L:List Va),cs=[.slice s.a s.len s.cap]/\Dd3 W s L:=by
 obtain ⟨s,rows,rfl,hs,hl,hby,hr⟩:=Xb Dh9 Ea5 (by decide) h hw;obtain ⟨xs,ls,h1,h2,h3,h4⟩:=Xz (cs:=c50) (β:=Va) (Q:=λy o=>y=Xv o/\In64 o.kind/\In64 o.at_/\In64 o.b/\In64 o.mkd/\In64 o.count/\In64 o.arg) rows (λr hr'=>by
  obtain ⟨hrl,n,y,hy,hwy,hby⟩:=hr r hr'
  exact Co3 hrl hy hwy)
 have e:xs=ls.map Xv:=by
  refine iC λi=>?_
  rw [gX]
  rcases lT i xs.length with u|u
  ·have a1:xs[i]?=some xs[i]:=jC u
   have a2:ls[i]?=some ls[i]:=jC (by omega)
   rw [a1,a2,(h4 i _ _ a1 a2).1];rfl
  ·rw [kL u,kL (by omega)];rfl
 rw [h1,e] at hs;refine ⟨s,ls,rfl,hs,by omega,λa ha=>?_⟩;obtain ⟨i,hi⟩:=gZ ha;have hil:=(fG.1 hi).1;exact (h4 i _ _ (jC (by omega)) hi).2
theorem Ce0 {cs:List Value}{x:DataW H×List MemPlace}(hl:cs.length=4) (h:DataW.trod enc Tryz.prog W base (λ_=>true) held fuel 26 cs=some x) (hw:∀n∈x.1.weights Tryz.prog 26,n<=reachBytes) (hb:bulk x.1<=1048576) :
  ∃(y:Cells.T c26) (c:Int) (l:List UInt8) (L:List (List LEd)) (al:List Va),cs=Cells.vals c26 y/\Cv9 W y c l L al:=by
 obtain ⟨fs,hu,hfs⟩:=Dc3;obtain ⟨n,hall⟩:=Tn hu hfs h hw;obtain ⟨v0,v1,v2,v3,rfl⟩:∃v0 v1 v2 v3,cs=[v0,v1,v2,v3]:=by
  match cs,hl with
  |[v0,v1,v2,v3],_=>exact ⟨v0,v1,v2,v3,rfl⟩
 obtain ⟨y0,h0,_⟩:=hall 0 _ _ rfl;obtain ⟨y1,h1,hw1,hb1⟩:=hall 1 _ _ rfl;obtain ⟨y2,h2,hw2,hb2⟩:=hall 2 _ _ rfl;obtain ⟨y3,h3,hw3,hb3⟩:=hall 3 _ _ rfl;rw [ci] at h0;rw [cbs] at h1;rw [Ea3] at h2;rw [cas] at h3;obtain ⟨n0,e0,i0⟩:=Lc ui h0;obtain ⟨s1,l1,e1,g1,k1⟩:=open_bytes h1 hw1;obtain ⟨s2,L2,e2,g2⟩:=Bg2 h2 hw2 (by omega);obtain ⟨s3,L3,e3,g3⟩:=Ce2 h3 hw3 (by omega);simp at e0 e1 e2 e3;subst e0 e1 e2 e3;exact ⟨(n0,s1,s2,s3,()),n0,l1,L2,L3,rfl,⟨rfl,wf64 i0,g1,k1,g2,g3⟩⟩
end
theorem Ad6 {H:Type}{enc:TypeId×Value->H}{P:Program}{w:World}{base:Nat}{spare:Nat->Bool}{held:Bool}:∀{ts:List TypeId}{vs:List Value}{ds:List (DataW H)}{ps:List MemPlace},DataW.TrodAll enc P w base spare held ts vs ds ps ->
  vs.length=ts.length/\ds.length=ts.length/\∀(j:Nat) t v d,ts[j]?=some t->vs[j]?=some v->ds[j]?=some d->∃p,DataW.Trod enc P w base spare held t v d p
 |[],[],[],_,_=>⟨rfl,rfl,λj t v d h=>by simp at h⟩
 |t::ts,v::vs,d::ds,ps,⟨p,q,h1,h2,e⟩=>by
  obtain ⟨a,b,c⟩:=Ad6 h2
  refine ⟨by simp [a],by simp [b],λj t' v' d' ht hv hd=>?_⟩
  match j with
  |0=>cases ht;cases hv;cases hd;exact ⟨p,h1⟩
  |j+1=>exact c j t' v' d' (by simpa using ht) (by simpa using hv) (by simpa using hd)
 |[],_::_,_,_,h=>h.elim
 |[],[],_::_,_,h=>h.elim
 |_::_,[],_,_,h=>h.elim
 |_::_,_::_,[],_,h=>h.elim
theorem Cp8 {α:Type}(l:List α) (h:l.length=1):∃v0,l=[v0]:=by
 match l,h with
 |[v0],_=>exact ⟨v0,rfl⟩
theorem weigh {H:Type}{ts:List TypeId}{ds:List (DataW H)}(h:(DataW.weightsEach Tryz.prog ts ds).all (·<=reachBytes)=true) (j:Nat){t:TypeId}{d:DataW H}(ht:ts[j]?=some t) (hd:ds[j]?=some d):∀n∈d.weights Tryz.prog t,n<=reachBytes:=by intro n hn;have:=aS.1 h _ (mQ ht hd n hn);simpa using this
section
variable {H:Type}{enc:TypeId×Value->H}{W:World}{base:Nat}
theorem Cv4 {v:Value}{d:DataW H}{p:List MemPlace}(hv:Value.okWide Tryz.prog W .any base 26 v) (h:DataW.Trod enc Tryz.prog W 0 (λ_=>true) true 26 v d p) (hw:∀n∈d.weights Tryz.prog 26,n<=reachBytes) (hb:bulk d<=1048576) :
  ∃(y:Cells.T c26) (c:Int) (l:List UInt8) (L:List (List LEd)) (al:List Va),v=.agg (Cells.vals c26 y).toArray/\Cv9 W y c l L al:=by obtain ⟨fs,hu,_⟩:=Dc3;obtain ⟨cs,rfl,hsz⟩:=okWide_struct hu hv;obtain ⟨n,hn⟩:=h;rw [Dk8] at hsz;obtain ⟨y,c,l,L,al,e,h1⟩:=Ce0 (cs:=cs.toList) (by simpa using hsz) (by simpa [Value.cells] using hn) hw hb;exact ⟨y,c,l,L,al,by rw [←e],h1⟩
end
theorem Di0:150<=Tryz.prog.types.size:=cO (by kernel_rfl)
theorem Cy0:Tryz.prog.readableRec 26=true:=by kernel_rfl
theorem recs {t:TypeId}(h:t=26):Tryz.prog.readableRec t=true/\t<Tryz.prog.types.size:=by have:=Di0;subst h;exact ⟨Cy0,fM (by decide) this⟩
end
section
open Go Go.Vx Cdc
section
variable {w w':World}
theorem Xk {s:Sl}{l:Bs}{ty:TypeId}(h:Bl w s ty 1 (bv l)):l.length=s.len:=by have:=h.len1;rwa [gW] at this
theorem Rq {s:Sl}{l:Bs}{ty:TypeId}{n:Int}{K:Addr->Int->Wp}(h:Bl w s ty 1 (bv l)) (h0:0<=n){b:UInt8}(hb:l[n.toNat]?=some b) (hK:∀p,K p (b.toNat:Int) w) :
  ix s.a s.len n (λp=>ld (.int .u8) (p.add (scaled (Int.toNat n) 1)) (K p)) w:=by (have h':Bl w s ty 1 ((l.map λb=>(b.toNat:Int)).map (Cell.int .u8).val):=by rw [←Ct5];exact h);exact Ew h' h0 (x:=(b.toNat:Int)) (by rw [gX,hb];rfl) hK
theorem Cx1 {s:Sl}{l:Bs}{ty:TypeId}{a b m:Int}{K:Sl->Wp}(hs:Bl w s ty 1 (bv l)) (h0:0<=a) (h1:a<=b) (h2:b<=s.len) (h3:b<=m) (h4:m<=s.cap)
  (hK:∀s',Bl w s' ty 1 (bv ((l.drop a.toNat).take (b.toNat-a.toNat)))->s'.len=b.toNat-a.toNat->(∀k,s'.blk k->s.blk k)->K s' w):slc s.a a b m s.cap 1 K w :=
 Be8 hs h0 h1 h2 h3 h4 λs' hs' hl _ hb=>hK s' (by
  rw [dS,dS,By7,By6] at hs';exact hs') hl hb
theorem Bq2 {e:Enc}{K:Bool->Wp}(hK:K true w):Aa Tryz.prog 57 #[.int .i64 e.num] rB K w:=by refine A57 ?_;unfold F57;cases e<;>exact Ac (λ_=>hK) (λh=>by cases h)
theorem Q5 {a:Int}{K:Bool->Wp}(h1:Scalar a->K true w) (h2:¬Scalar a->K false w):Aa Tryz.prog 122 #[.int .i64 a] rB K w:=by refine Eo3 ?_;unfold F122;unfold Scalar at h1 h2;refine Ac (λh=>Ac (λh'=>?_) (λh'=>Ac (λh''=>?_) (λh''=>?_))) (λh=>Ac (λh''=>?_) (λh''=>?_));(all_goals simp only [iI,iH,kG,jT] at *);{exact h1 (by omega)};{by_cases hc:a<=1114111;{rw [jP hc];exact h1 (by omega)};{rw [jQ hc];exact h2 (by omega)}};{exact h2 (by omega)};{by_cases hc:a<=1114111;{rw [jP hc];exact h1 (by omega)};{rw [jQ hc];exact h2 (by omega)}};{exact h2 (by omega)}
def unI (be:Bool):Bs->Int
 |a::b::_=>((un be a b:Nat):Int)
 |_=>-1
theorem Ak5 {s:Sl}{l:Bs}{n:Nat}{be:Bool}{ty:TypeId}(hB:Bl w s ty 1 (bv l)) (hn:n<2^60) (hl:l.length<2^60){K:Int->Wp}(hK:∀w',Ext w w'->K (unI be (l.drop n)) w') :
  Aa Tryz.prog 112 #[.int .i64 (if be then 3 else 2),s.v,.int .i64 (n:Int)] rI K w:=by
 refine Ep1 ?_
 unfold F112
 have hlen:=Xk hB
 have e2:W64 ((n:Int)+2)=(n:Int)+2:=wrap64 (by omega) (by omega)
 have e1:W64 ((n:Int)+1)=((n+1:Nat):Int):=by rw [wrap64 (by omega) (by omega)];omega
 rw [e2,e1]
 refine Ac (λh=>?_) (λh=>?_)
 ·simp only [iI,kG] at h
  have:=hK w (Ext.refl w)
  have hd:(l.drop n).length<2:=by rw [gJ];omega
  match hdd:l.drop n,hd with
  |[],_=>rw [hdd] at this;exact this
  |[_],_=>rw [hdd] at this;exact this
  |_::_::_,hd=>simp at hd;omega
 ·simp only [iH,kG] at h
  have h0:n<l.length:=by omega
  have h1:n+1<l.length:=by omega
  have hd:l.drop n=l[n]::l[n+1]::l.drop (n+2):=by
   rw [iZ h0,iZ h1]
  have ha:=l[n].toNat_lt
  have hb:=l[n+1].toNat_lt
  rw [hd] at hK
  have g0:l[(n:Int).toNat]?=some l[n]:=by rw [dF];simp [h0]
  have g1:l[((n+1:Nat):Int).toNat]?=some l[n+1]:=by rw [dF];simp [h1]
  cases be with
  | false =>
   refine Ac (λ_=>Ci λw1 e3 _=>?_) (λh=>by cases h)
   have hB1:Bl w1 s ty 1 (bv l):=hB.ext e3
   refine Rq hB1 (by omega) g0 λp=>Rq hB1 (by omega) g1 λp=>?_
   rw [wrap64 (a:=(l[n].toNat:Int)) (by omega) (by omega),wrap64 (a:=(l[n+1].toNat:Int)) (by omega) (by omega),wrap64 (a:=256*(l[n+1].toNat:Int)) (by omega) (by omega),wrap64 (by omega) (by omega)]
   have:(l[n].toNat:Int)+256*(l[n+1].toNat:Int)=unI false (l[n]::l[n+1]::l.drop (n+2)):=by
    show _=((l[n].toNat+l[n+1].toNat*256:Nat):Int);omega
   rw [this];exact hK w1 e3
  | true =>
   refine Ac (λh=>by cases h) (λ_=>Ci λw1 e3 _=>?_)
   have hB1:Bl w1 s ty 1 (bv l):=hB.ext e3
   refine Rq hB1 (by omega) g0 λp=>Rq hB1 (by omega) g1 λp=>?_
   rw [wrap64 (a:=(l[n].toNat:Int)) (by omega) (by omega),wrap64 (a:=(l[n+1].toNat:Int)) (by omega) (by omega),wrap64 (a:=256*(l[n].toNat:Int)) (by omega) (by omega),wrap64 (by omega) (by omega)]
   have:256*(l[n].toNat:Int)+(l[n+1].toNat:Int)=unI true (l[n]::l[n+1]::l.drop (n+2)):=by
    show _=((l[n+1].toNat+l[n].toNat*256:Nat):Int);omega
   rw [this];exact hK w1 e3
end
end
section
namespace Cdc
theorem ofNat_toNat (b:UInt8):UInt8.ofNat b.toNat=b:=by apply UInt8.toNat_inj.1;rw [kN];have:=b.toNat_lt;omega
theorem byte_of {n:Nat}{b:UInt8}(h:n=b.toNat):UInt8.ofNat n=b:=by rw [h,ofNat_toNat]
theorem Qj {n:Nat}(h:Scalar (n:Int)):sz8 (n:Int)=if n<128 then 1 else if n<2048 then 2 else if n<65536 then 3 else 4:=by unfold sz8;rw [aJ (by rcases h with h|h<;>omega)];(repeat' split);all_goals first|rfl|omega
theorem Bw0 {n:Nat}(h:n<128):pt8 (n:Int)=[UInt8.ofNat n]:=by have hs:sz8 (n:Int)=1:=(by rw [Qj (.inl (by omega)),aF h]);unfold pt8;rw [aJ (by omega),aF hs,dF]
theorem Bv9 {n:Nat}(h0:128<=n) (h:n<2048):pt8 (n:Int)=[UInt8.ofNat (192+n/64),UInt8.ofNat (128+n%64)]:=by have hs:sz8 (n:Int)=2:=(by rw [Qj (.inl (by omega)),aJ (by omega),aF h]);unfold pt8;rw [aJ (by omega),hs,aJ (by decide),dF];show [UInt8.ofNat (192+n/64),UInt8.ofNat (128+n/1%64)]=_;rw [mV]
theorem Bv8 {n:Nat}(hs:Scalar (n:Int)) (h0:2048<=n) (h:n<65536):pt8 (n:Int)=[UInt8.ofNat (224+n/4096),UInt8.ofNat (128+n/64%64),UInt8.ofNat (128+n%64)]:=by have hs:sz8 (n:Int)=3:=(by rw [Qj hs,aJ (by omega),aJ (by omega),aF h]);unfold pt8;rw [aJ (by omega),hs,aJ (by decide),dF];show [UInt8.ofNat (224+n/4096),UInt8.ofNat (128+n/64%64),UInt8.ofNat (128+n/1%64)]=_;rw [mV]
theorem Bv7 {n:Nat}(h0:65536<=n) (h:n<1114112):pt8 (n:Int)=[UInt8.ofNat (240+n/262144),UInt8.ofNat (128+n/4096%64),UInt8.ofNat (128+n/64%64),UInt8.ofNat (128+n%64)]:=by have hs:sz8 (n:Int)=4:=(by rw [Qj (.inr (by omega)),aJ (by omega),aJ (by omega),aJ (by omega)]);unfold pt8;rw [aJ (by omega),hs,aJ (by decide),dF];show [UInt8.ofNat (240+n/262144),UInt8.ofNat (128+n/4096%64),UInt8.ofNat (128+n/64%64),UInt8.ofNat (128+n/1%64)]=_;rw [mV]
theorem Ao8 (c:UInt8):cont c=true↔128<=c.toNat/\c.toNat<192:=by unfold cont;simp;omega
theorem Bg4 {b:UInt8}{r:Bs}(h:0<=(nx8 (b::r)).1):Scalar (nx8 (b::r)).1/\pt8 (nx8 (b::r)).1=(b::r).take (nx8 (b::r)).2/\sz8 (nx8 (b::r)).1=(nx8 (b::r)).2:=by
 have hb:=b.toNat_lt;have h2:=Oo b r;simp only [nx8] at h ⊢;by_cases hc:(rowOf (b::r)).2=0\/(rowOf (b::r)).1<(rowOf (b::r)).2;{rw [aF hc] at h;have:(0:Int)<=-1-(b.toNat:Int):=h;omega};rw [aJ hc] at h ⊢;obtain ⟨hn0,hle⟩:¬(rowOf (b::r)).2=0/\¬(rowOf (b::r)).1<(rowOf (b::r)).2:=⟨λh=>hc (.inl h),λh=>hc (.inr h)⟩;clear hc;have two:∀{lo hi k:Nat},Fz b.toNat=(k+2,lo,hi)->∃c r',r=c::r'/\lo<=c.toNat/\c.toNat<=hi/\k<=more k r'/\(rowOf (b::r)).2=k+2:=by
  intro lo hi k hk
  rw [h2,hk] at hle
  cases r with
  |nil=>(have e:rowOf [b]=(1,k+2):=by simp only [rowOf,hk];rw [aJ (by omega)]);rw [e] at hle;simp at hle
  |cons c r'=>(have e:rowOf (b::c::r')=if c.toNat<lo\/hi<c.toNat then (1,k+2) else (2+more k r',k+2):=by simp only [rowOf,hk];rw [aJ (by omega)];rfl);rw [e] at hle;dsimp only at hle;by_cases hcc:c.toNat<lo\/hi<c.toNat;{rw [aF hcc] at hle;simp at hle};{rw [aJ hcc] at hle;simp only at hle;exact ⟨c,r',rfl,by omega,by omega,by omega,by rw [h2,hk]⟩}
 have more1:∀{r:Bs},1<=more 1 r->∃d r',r=d::r'/\128<=d.toNat/\d.toNat<192:=by
  intro r hr
  cases r with
  |nil=>simp [more] at hr
  |cons d r'=>by_cases hd:cont d=true;{exact ⟨d,r',rfl,(Ao8 d).1 hd⟩};{simp [more,hd] at hr}
 have more2:∀{r:Bs},2<=more 2 r->∃d e r',r=d::e::r'/\128<=d.toNat/\d.toNat<192/\128<=e.toNat/\e.toNat<192:=by
  intro r hr
  cases r with
  |nil=>simp [more] at hr
  | cons d r' =>
   by_cases hd:cont d=true
   ·have hr':1<=more 1 r':=by
     have e2:more 2 (d::r')=more 1 r'+1:=by show (if cont d then more 1 r'+1 else 0)=_;rw [aF hd]
     omega
    obtain ⟨e,r'',rfl,h1⟩:=more1 hr';exact ⟨d,e,r'',rfl,((Ao8 d).1 hd).1,((Ao8 d).1 hd).2,h1⟩
   {simp [more,hd] at hr}
 have fin2:∀{lo hi:Nat},Fz b.toNat=(2,lo,hi)->194<=b.toNat->b.toNat<224->128<=lo->hi<=191 ->
   Scalar ((rest (lead (rowOf (b::r)).2 b.toNat) (r.take ((rowOf (b::r)).2-1)):Nat):Int)/\pt8 ((rest (lead (rowOf (b::r)).2 b.toNat) (r.take ((rowOf (b::r)).2-1)):Nat):Int)=(b::r).take (rowOf (b::r)).2/\sz8 ((rest (lead (rowOf (b::r)).2 b.toNat) (r.take ((rowOf (b::r)).2-1)):Nat):Int)=(rowOf (b::r)).2:=by
  intro lo hi hk g1 g2 g3 g4
  obtain ⟨c,r',rfl,c1,c2,_,hn⟩:=two (k:=0) hk
  rw [hn]
  show Scalar (((b.toNat%32*64+c.toNat%64:Nat)):Int)/\pt8 (((b.toNat%32*64+c.toNat%64:Nat)):Int)=[b,c]/\sz8 (((b.toNat%32*64+c.toNat%64:Nat)):Int)=2
  have hS:Scalar (((b.toNat%32*64+c.toNat%64:Nat)):Int):=.inl (by omega)
  refine ⟨hS,?_,?_⟩
  ·rw [Bv9 (by omega) (by omega),byte_of (b:=b) (by omega),byte_of (b:=c) (by omega)]
  ·rw [Qj hS,aJ (by omega),aF (by omega)]
 have fin3:∀{lo hi:Nat},Fz b.toNat=(3,lo,hi)->224<=b.toNat->b.toNat<240->128<=lo->hi<=191->(b.toNat=224->160<=lo)->(b.toNat=237->hi<=159) ->
   Scalar ((rest (lead (rowOf (b::r)).2 b.toNat) (r.take ((rowOf (b::r)).2-1)):Nat):Int)/\pt8 ((rest (lead (rowOf (b::r)).2 b.toNat) (r.take ((rowOf (b::r)).2-1)):Nat):Int)=(b::r).take (rowOf (b::r)).2/\sz8 ((rest (lead (rowOf (b::r)).2 b.toNat) (r.take ((rowOf (b::r)).2-1)):Nat):Int)=(rowOf (b::r)).2:=by
  intro lo hi hk g1 g2 g3 g4 g5 g6
  obtain ⟨c,r',rfl,c1,c2,hm,hn⟩:=two (k:=1) hk
  obtain ⟨d,r'',rfl,d1,d2⟩:=more1 hm
  rw [hn]
  show Scalar ((((b.toNat%16*64+c.toNat%64)*64+d.toNat%64:Nat)):Int)/\pt8 ((((b.toNat%16*64+c.toNat%64)*64+d.toNat%64:Nat)):Int)=[b,c,d]/\sz8 ((((b.toNat%16*64+c.toNat%64)*64+d.toNat%64:Nat)):Int)=3
  have hS:Scalar ((((b.toNat%16*64+c.toNat%64)*64+d.toNat%64:Nat)):Int):=by
   unfold Scalar
   by_cases h7:b.toNat=237
   ·have:=g6 h7;omega
   ·omega
  have hlow:2048<=(b.toNat%16*64+c.toNat%64)*64+d.toNat%64:=by
   by_cases h4:b.toNat=224
   ·have:=g5 h4;omega
   ·omega
  refine ⟨hS,?_,?_⟩
  ·rw [Bv8 hS hlow (by omega),byte_of (b:=b) (by omega),byte_of (b:=c) (by omega),byte_of (b:=d) (by omega)]
  ·rw [Qj hS,aJ (by omega),aJ (by omega),aF (by omega)]
 have fin4:∀{lo hi:Nat},Fz b.toNat=(4,lo,hi)->240<=b.toNat->b.toNat<245->128<=lo->hi<=191->(b.toNat=240->144<=lo)->(b.toNat=244->hi<=143) ->
   Scalar ((rest (lead (rowOf (b::r)).2 b.toNat) (r.take ((rowOf (b::r)).2-1)):Nat):Int)/\pt8 ((rest (lead (rowOf (b::r)).2 b.toNat) (r.take ((rowOf (b::r)).2-1)):Nat):Int)=(b::r).take (rowOf (b::r)).2/\sz8 ((rest (lead (rowOf (b::r)).2 b.toNat) (r.take ((rowOf (b::r)).2-1)):Nat):Int)=(rowOf (b::r)).2:=by
  intro lo hi hk g1 g2 g3 g4 g5 g6
  obtain ⟨c,r',rfl,c1,c2,hm,hn⟩:=two (k:=2) hk
  obtain ⟨d,e,r'',rfl,d1,d2,e1,e2⟩:=more2 hm
  rw [hn]
  show Scalar (((((b.toNat%8*64+c.toNat%64)*64+d.toNat%64)*64+e.toNat%64:Nat)):Int)/\pt8 (((((b.toNat%8*64+c.toNat%64)*64+d.toNat%64)*64+e.toNat%64:Nat)):Int)=[b,c,d,e]/\sz8 (((((b.toNat%8*64+c.toNat%64)*64+d.toNat%64)*64+e.toNat%64:Nat)):Int)=4
  have hlow:65536<=((b.toNat%8*64+c.toNat%64)*64+d.toNat%64)*64+e.toNat%64:=by
   by_cases h4:b.toNat=240
   ·have:=g5 h4;omega
   ·omega
  have hhigh:((b.toNat%8*64+c.toNat%64)*64+d.toNat%64)*64+e.toNat%64<1114112:=by
   by_cases h4:b.toNat=244
   ·have:=g6 h4;omega
   ·omega
  have hS:Scalar (((((b.toNat%8*64+c.toNat%64)*64+d.toNat%64)*64+e.toNat%64:Nat)):Int):=.inr (by omega)
  refine ⟨hS,?_,?_⟩
  ·rw [Bv7 hlow hhigh,byte_of (b:=b) (by omega),byte_of (b:=c) (by omega),byte_of (b:=d) (by omega),byte_of (b:=e) (by omega)]
  ·rw [Qj hS,aJ (by omega),aJ (by omega),aJ (by omega)]
 by_cases k1:b.toNat<128;{(have hk:Fz b.toNat=(1,0,0):=by unfold Fz;rw [aF k1]);have hn:(rowOf (b::r)).2=1:=(by rw [h2,hk]);rw [hn];show Scalar ((b.toNat:Nat):Int)/\pt8 ((b.toNat:Nat):Int)=[b]/\sz8 ((b.toNat:Nat):Int)=1;have hS:Scalar ((b.toNat:Nat):Int):=.inl (by omega);exact ⟨hS,by rw [Bw0 k1,ofNat_toNat],by rw [Qj hS,aF k1]⟩};by_cases k2:b.toNat<194;{exact absurd (by rw [h2];unfold Fz;rw [aJ k1,aF k2]) hn0};by_cases k3:b.toNat<224;{exact fin2 (lo:=128) (hi:=191) (by unfold Fz;rw [aJ k1,aJ k2,aF k3]) (by omega) k3 (by omega) (by omega)};by_cases k4:b.toNat=224;{exact fin3 (lo:=160) (hi:=191) (by unfold Fz;rw [aJ k1,aJ k2,aJ k3,aF k4]) (by omega) (by omega) (by omega) (by omega) (λ_=>by omega) (λh=>by omega)};by_cases k5:b.toNat=237;{exact fin3 (lo:=128) (hi:=159) (by unfold Fz;rw [aJ k1,aJ k2,aJ k3,aJ k4,aF k5]) (by omega) (by omega) (by omega) (by omega) (λh=>by omega) (λ_=>by omega)};by_cases k6:b.toNat<240;{exact fin3 (lo:=128) (hi:=191) (by unfold Fz;rw [aJ k1,aJ k2,aJ k3,aJ k4,aJ k5,aF k6]) (by omega) (by omega) (by omega) (by omega) (λh=>by omega) (λh=>by omega)};by_cases k7:b.toNat=240;{exact fin4 (lo:=144) (hi:=191) (by unfold Fz;rw [aJ k1,aJ k2,aJ k3,aJ k4,aJ k5,aJ k6,aF k7]) (by omega) (by omega) (by omega) (by omega) (λ_=>by omega) (λh=>by omega)};by_cases k8:b.toNat<244;{exact fin4 (lo:=128) (hi:=191) (by unfold Fz;rw [aJ k1,aJ k2,aJ k3,aJ k4,aJ k5,aJ k6,aJ k7,aF k8]) (by omega) (by omega) (by omega) (by omega) (λh=>by omega) (λh=>by omega)};by_cases k9:b.toNat=244;{exact fin4 (lo:=128) (hi:=143) (by unfold Fz;rw [aJ k1,aJ k2,aJ k3,aJ k4,aJ k5,aJ k6,aJ k7,aJ k8,aF k9]) (by omega) (by omega) (by omega) (by omega) (λh=>by omega) (λ_=>by omega)};{exact absurd (by rw [h2];unfold Fz;rw [aJ k1,aJ k2,aJ k3,aJ k4,aJ k5,aJ k6,aJ k7,aJ k8,aJ k9]) hn0}
def Ub (n:Nat):Int:=if n=2 then 192 else if n=3 then 224 else if n=4 then 240 else 0
def Ac0 (a:Int) (l:Bs):Int:=l.foldl (λa c=>a*64+(c.toNat:Int)-128) a
def Ie (n:Nat):Bs->Int
 |[]=>0
 |b::r=>Ac0 ((b.toNat:Int)-Ub n) (r.take (n-1))
theorem Cp2 {a:Int}(h:Scalar a) (r:Bs):Ie (sz8 a) (pt8 a++r)=a:=by obtain ⟨n,rfl⟩:∃n:Nat,a=(n:Int):=kR (by rcases h with h|h<;>omega);have hs:=Qj h;by_cases k1:n<128;{rw [aF k1] at hs;rw [hs,Bw0 k1];show Ac0 (((UInt8.ofNat n).toNat:Int)-0) []=_;rw [Di (by omega)];show ((n:Int)-0)=n;omega};by_cases k2:n<2048;{rw [aJ k1,aF k2] at hs;rw [hs,Bv9 (by omega) k2];show (((UInt8.ofNat (192+n/64)).toNat:Int)-192)*64+((UInt8.ofNat (128+n%64)).toNat:Int)-128=_;rw [Di (by omega),Di (by omega)];omega};by_cases k3:n<65536;{rw [aJ k1,aJ k2,aF k3] at hs;rw [hs,Bv8 h (by omega) k3];show ((((UInt8.ofNat (224+n/4096)).toNat:Int)-224)*64+((UInt8.ofNat (128+n/64%64)).toNat:Int)-128)*64+((UInt8.ofNat (128+n%64)).toNat:Int)-128=_;rw [Di (by omega),Di (by omega),Di (by omega)];omega};{rw [aJ k1,aJ k2,aJ k3] at hs;have h':n<1114112:=(by rcases h with h|h<;>omega);rw [hs,Bv7 (by omega) h'];show (((((UInt8.ofNat (240+n/262144)).toNat:Int)-240)*64+((UInt8.ofNat (128+n/4096%64)).toNat:Int)-128)*64+((UInt8.ofNat (128+n/64%64)).toNat:Int)-128)*64+((UInt8.ofNat (128+n%64)).toNat:Int)-128=_;rw [Di (by omega),Di (by omega),Di (by omega),Di (by omega)];omega}
def Hit (r:Bs) (n:Nat):Prop:=Scalar (Ie n r)/\r.take (pt8 (Ie n r)).length=pt8 (Ie n r)/\(pt8 (Ie n r)).length=n
theorem Dg4 {r:Bs}{n:Nat}(h:Hit r n):nx8 r=(Ie n r,n):=by
 obtain ⟨h1,h2,h3⟩:=h;have e:r=pt8 (Ie n r)++r.drop (pt8 (Ie n r)).length:=by
  conv=>lhs;rw [←jD (pt8 (Ie n r)).length r,h2]
 have:=Co7 h1 (r.drop (pt8 (Ie n r)).length);rw [←e] at this;have hl:(pt8 (Ie n r)).length=sz8 (Ie n r):=Aa4 .u8 _ (λh0=>by
  have h4:sz8 (Ie n r)≠0:=by
   unfold sz8
   rw [aJ (by rcases h1 with h|h<;>omega)]
   repeat' split
   all_goals decide
  exact h4 h0)
 rw [this,←hl,h3]
theorem Df3 {b:UInt8}{r:Bs}(h:0<=(nx8 (b::r)).1):Hit (b::r) (nx8 (b::r)).2/\Ie (nx8 (b::r)).2 (b::r)=(nx8 (b::r)).1:=by
 obtain ⟨h1,h2,h3⟩:=Bg4 h;have hsz:=Am0 b r;(have hl:(pt8 (nx8 (b::r)).1).length=(nx8 (b::r)).2:=by rw [h2,gI];omega);have hm:Ie (nx8 (b::r)).2 (b::r)=(nx8 (b::r)).1:=by
  have:=Cp2 h1 ((b::r).drop (nx8 (b::r)).2)
  rw [h2,jD,h3] at this
  exact this
 refine ⟨⟨?_,?_,?_⟩,hm⟩;{rw [hm];exact h1};{rw [hm,hl];exact h2.symm};{rw [hm,hl]}
theorem Co5 {b:UInt8}{r:Bs}(h:¬0<=(nx8 (b::r)).1):nx8 (b::r)=(-1-(b.toNat:Int),1):=by simp only [nx8] at h ⊢;split at h;{rename_i hc;rw [aF hc]};{exact absurd (kQ _) h}
end Cdc
end
section
open Go Go.Vx Cdc Trx
section
variable {w w':World}
theorem Bc6 {b:Nat}{c:Array Value}{l:Bs}(h:w.heap[b]?=some (.cells c 5 (0,0))) (hc:c.toList=bv l):By w ⟨some (at0 b),l.length,l.length⟩ l:=by (have hs:c.size=l.length*1:=by rw [←fE,hc,gW];omega);have:=Bl.Jp h (n:=l.length) (sz:=1) hs;rw [hc] at this;exact this
theorem Lj {n:Int}{m:Nat}(hm:m<256) (h:n=(m:Int)):Value.int .u8 (IntKind.wrap .u8 n)=Value.int .u8 ((UInt8.ofNat m).toNat:Int):=by rw [h,Di hm,D5 (by omega) (by omega)]
theorem Ao5 {a:Int}(ha:Scalar a){K:Sl->Wp}(hK:∀s w',By w' s (pt8 a)->Ext w w'->K s w'):Aa Tryz.prog 123 #[.int .i64 a] rS K w:=by
 refine Eo2 ?_;unfold F123;obtain ⟨n,rfl⟩:∃n:Nat,a=(n:Int):=kR (by rcases ha with h|h<;>omega);(have td:∀m:Nat,Int.tdiv (n:Int) ((m:Nat):Int)=((n/m:Nat):Int):=λm=>by rw [kF (by omega)];rfl);(have tm:∀k m:Nat,Int.tmod (k:Int) ((m:Nat):Int)=((k%m:Nat):Int):=λk m=>by rw [mW (by omega)];rfl);have d64:=td 64;have d4096:=td 4096;have d262144:=td 262144;have hn:n<1114112:=(by rcases ha with h|h<;>omega);refine Ac (λh=>?_) (λh=>Ac (λh2=>?_) (λh2=>Ac (λh3=>?_) (λh3=>?_)));{simp only [iI] at h;refine Cm λb w1 e1 n1 _ _=>hK _ w1 ?_ e1;have:=Bc6 (l:=pt8 (n:Int)) n1 (by rw [Bw0 (by omega)];show [_]=[_];rw [Lj (m:=n) (by omega) rfl]);rw [Bw0 (by omega)] at this ⊢;exact this}
 ·simp only [iI,iH] at h h2;refine Dc (by decide) (Dc (by decide) (Cm λb w1 e1 n1 _ _=>hK _ w1 ?_ e1));have:=Bc6 (l:=pt8 (n:Int)) n1 (by
   rw [Bv9 (by omega) (by omega)]
   show [_,_]=[_,_]
   have e1:=td 64;have e2:=tm n 64
   simp only [mX] at e1 e2
   rw [e1,e2,wrap64 (a:=((n/64:Nat):Int)) (by omega) (by omega),wrap64 (by omega) (by omega),wrap64 (by omega) (by omega),Lj (m:=192+n/64) (by omega) (by omega),Lj (m:=128+n%64) (by omega) (by omega)])
  rw [Bv9 (by omega) (by omega)] at this ⊢;exact this
 ·simp only [iI,iH] at h h2 h3;refine Dc (by decide) (Dc (by decide) (Dc (by decide) (Dc (by decide) (Cm λb w1 e1 n1 _ _=>hK _ w1 ?_ e1))));have:=Bc6 (l:=pt8 (n:Int)) n1 (by
   rw [Bv8 ha (by omega) (by omega)]
   show [_,_,_]=[_,_,_]
   have e1:=td 64;have e2:=tm n 64;have e3:=td 4096;have e4:=tm (n/64) 64
   simp only [mX] at e1 e2 e3 e4
   rw [e1,e2,e3,wrap64 (a:=((n/64:Nat):Int)) (by omega) (by omega),wrap64 (a:=((n/4096:Nat):Int)) (by omega) (by omega),e4,wrap64 (by omega) (by omega),wrap64 (by omega) (by omega),wrap64 (by omega) (by omega),Lj (m:=224+n/4096) (by omega) (by omega),Lj (m:=128+n/64%64) (by omega) (by omega),Lj (m:=128+n%64) (by omega) (by omega)])
  rw [Bv8 ha (by omega) (by omega)] at this ⊢;exact this
 ·simp only [iH] at h h2 h3;refine Dc (by decide) (Dc (by decide) (Dc (by decide) (Dc (by decide) (Dc (by decide) (Dc (by decide) (Cm λb w1 e1 n1 _ _=>hK _ w1 ?_ e1))))));have:=Bc6 (l:=pt8 (n:Int)) n1 (by
   rw [Bv7 (by omega) (by omega)]
   show [_,_,_,_]=[_,_,_,_]
   have e1:=td 64;have e2:=tm n 64;have e3:=td 4096;have e4:=tm (n/64) 64;have e5:=td 262144;have e6:=tm (n/4096) 64
   simp only [mX] at e1 e2 e3 e4 e5 e6
   rw [e1,e2,e3,e5,wrap64 (a:=((n/64:Nat):Int)) (by omega) (by omega),wrap64 (a:=((n/4096:Nat):Int)) (by omega) (by omega),wrap64 (a:=((n/262144:Nat):Int)) (by omega) (by omega),e4,e6,wrap64 (by omega) (by omega),wrap64 (by omega) (by omega),wrap64 (by omega) (by omega),wrap64 (by omega) (by omega),
    Lj (m:=240+n/262144) (by omega) (by omega),Lj (m:=128+n/4096%64) (by omega) (by omega),Lj (m:=128+n/64%64) (by omega) (by omega),Lj (m:=128+n%64) (by omega) (by omega)])
  rw [Bv7 (by omega) (by omega)] at this ⊢;exact this
theorem Bk8 {s t:Sl}{l m:Bs}{n:Nat}{ty:TypeId}(hs:Bl w s ty 1 (bv l)) (ht:By w t m) (hn:n<=l.length) (hl:l.length<2^60) (hm:m.length<2^60){K:Bool->Wp}(hK:∀w',Ext w w'->K (decide ((l.drop n).take m.length=m)) w') :
  Aa Tryz.prog 169 #[s.v,.int .i64 (n:Int),t.v] rB K w:=by
 refine Ej5 ?_
 unfold F169
 have h1:=Xk hs;have h2:=Xk ht
 rw [wrap64 (by omega) (by omega)]
 refine Ac (λh=>?_) (λh=>?_)
 ·simp only [iI,kG] at h
  have:=hK w (Ext.refl w)
  rw [jQ] at this
  ·exact this
  ·intro hc
   have:=fC List.length hc
   rw [gI,gJ] at this;omega
 simp only [iH,kG] at h
 refine Ae (λ_ w'=>Ext w w'/\(l.drop n).take m.length=m) ?_ ?_
 ·refine Ba (λx w'=>∃i:Nat,i<=m.length/\x=((i:Int),())/\Ext w w'/\(l.drop n).take i=m.take i) (λx _=>((m.length:Int)-x.1).toNat) ⟨0,iW _,rfl,Ext.refl w,by simp⟩ ?_
  rintro _ w1 ⟨i,hi,rfl,e1,heq⟩
  refine Ac (λhc=>?_) (λhc=>?_)
  ·simp only [iI] at hc
   have him:i<m.length:=by omega
   have hil:n+i<l.length:=by omega
   have ew:W64 ((n:Int)+(i:Int))=((n+i:Nat):Int):=by rw [wrap64 (by omega) (by omega)];omega
   rw [ew]
   refine Ci λw2 e2 _=>Rq (hs.ext (e1.trans e2)) (by omega) (b:=l[n+i]) (by rw [dF];simp [hil]) λp=>Rq (ht.ext (e1.trans e2)) (by omega) (b:=m[i]) (by rw [dF];simp [him]) λq=>?_
   have g1:(l.drop n)[i]?=some l[n+i]:=by rw [gU];simp [hil]
   refine Ac (λhne=>?_) (λhne=>?_)
   ·simp only [mY] at hne
    have:=hK w2 (e1.trans e2)
    rw [jQ] at this
    ·exact this
    ·intro hc2
     have h5:((l.drop n).take m.length)[i]?=m[i]?:=by rw [hc2]
     rw [gQ,aF him,g1,jC him] at h5
     exact hne (by rw [kS h5])
   ·have hne':((l[n+i].toNat:Int) !=(m[i].toNat:Int))=false:=hne
    simp only [mZ] at hne'
    have hbe:l[n+i]=m[i]:=UInt8.toNat_inj.1 (by omega)
    have ew2:W64 ((i:Int)+1)=((i+1:Nat):Int):=by rw [wrap64 (by omega) (by omega)];omega
    refine ⟨⟨i+1,by omega,by rw [ew2],e1.trans e2,?_⟩,?_⟩
    ·rw [kT,kT,heq,g1,jC him,hbe]
    ·dsimp only
     rw [ew2];omega
  ·simp only [iH] at hc
   have:i=m.length:=by omega
   subst this
   exact ⟨e1,by rw [heq,jR]⟩
 ·rintro _ w1 ⟨e1,heq⟩
  have:=hK w1 e1
  rwa [jP heq] at this
theorem Br0:∀(l:Bs) (a:Int),l.length<=3->-1000<=a->a<=1000->-1000000000<=Ac0 a l/\Ac0 a l<=1000000000:=by
 intro l a hl h0 h1
 match l,hl with
 |[],_=>exact ⟨by show -1000000000<=a;omega,by show a<=1000000000;omega⟩
 |[x],_=>have:=x.toNat_lt;exact ⟨by show _<=a*64+(x.toNat:Int)-128;omega,by show a*64+(x.toNat:Int)-128<=_;omega⟩
 |[x,y],_=>have:=x.toNat_lt;have:=y.toNat_lt;exact ⟨by show _<=(a*64+(x.toNat:Int)-128)*64+(y.toNat:Int)-128;omega,by show (a*64+(x.toNat:Int)-128)*64+(y.toNat:Int)-128<=_;omega⟩
 |[x,y,z],_=>have:=x.toNat_lt;have:=y.toNat_lt;have:=z.toNat_lt;exact ⟨by show _<=((a*64+(x.toNat:Int)-128)*64+(y.toNat:Int)-128)*64+(z.toNat:Int)-128;omega,by show ((a*64+(x.toNat:Int)-128)*64+(y.toNat:Int)-128)*64+(z.toNat:Int)-128<=_;omega⟩
theorem Cf8 (a:Int) (l:Bs) (x:UInt8):Ac0 a (l++[x])=Ac0 a l*64+(x.toNat:Int)-128:=by simp [Ac0]
theorem Bp7 {s:Sl}{b:UInt8}{l r:Bs}{n m:Nat}{ty:TypeId}(hs:Bl w s ty 1 (bv l)) (hl:l.length<2^60) (hr:l.drop n=b::r) (hm0:1<=m) (hm4:m<=4) (hm:n+m<=l.length){K:Int->Wp}(hK:∀w',Ext w w'->K (Ie m (b::r)) w') :
  Aa Tryz.prog 168 #[s.v,.int .i64 (n:Int),.int .i64 (m:Int)] rI K w:=by
 refine Ej6 ?_;unfold F168;have h1:=Xk hs;have hb:=b.toNat_lt;have hnl:n<l.length:=(by omega);have hrl:r.length=l.length-n-1:=by
  have:=fC List.length hr
  rw [gJ,dB] at this;omega
 have g0:l[n]?=some b:=by
  have:=fC (λx=>x[0]?) hr
  simp only [gU,nC,Nat.add_zero] at this
  exact this
 have gi:∀i,l[n+(i+1)]?=r[i]?:=λi=>by
  have:=fC (λx=>x[i+1]?) hr
  simp only [gU,nD] at this
  exact this
 refine (St.start w).Fp rfl rfl rfl λb1 w1 S1 e1=>S1.drew λw2 S2 e2 _=>Rq (hs.ext S2.upd) (by omega) (b:=b) (by rw [dF];exact g0) λp=>Dc (by omega) ?_;rw [addr_add,Ei,dF];have hlead:(#[(.int .i64 (0:Int)),(.int .i64 (0:Int)),(.int .i64 (192:Int)),(.int .i64 (224:Int)),(.int .i64 (240:Int))]:Array Value)[0+m*1]?=some (.int .i64 (Ub m)):=by
  match m,hm0,hm4 with
  |1,_,_=>rfl
  |2,_,_=>rfl
  |3,_,_=>rfl
  |4,_,_=>rfl
 (have hlb:0<=Ub m/\Ub m<=240:=by unfold Ub;(repeat' split)<;>omega);refine Ce (S2.at_ 0 rfl) (x:=Ub m) hlead ?_;rw [wrap64 (a:=(b.toNat:Int)) (by omega) (by omega),wrap64 (a:=(b.toNat:Int)-Ub m) (by omega) (by omega)];refine Ae (λx w'=>x=(Ie m (b::r),())/\Ext w w') ?_ ?_
 ·refine Ba (λx w'=>∃i:Nat,1<=i/\i<=m/\x=(Ac0 ((b.toNat:Int)-Ub m) (r.take (i-1)),(i:Int),())/\Ext w w') (λx _=>((m:Int)-x.2.1).toNat) ⟨1,by omega,by omega,rfl,S2.upd⟩ ?_;rintro _ w3 ⟨i,hi1,him,rfl,e3⟩;refine Ac (λhc=>?_) (λhc=>?_)
  ·simp only [iI] at hc;(have ew:W64 ((n:Int)+(i:Int))=((n+i:Nat):Int):=by rw [wrap64 (by omega) (by omega)];omega);rw [ew];have hil:n+i<l.length:=(by omega);refine Rq (hs.ext e3) (by omega) (b:=l[n+i]) (by rw [dF];simp [hil]) λq=>?_;have hxb:=l[n+i].toNat_lt;have hg:r[i-1]?=some l[n+i]:=by
    rw [←gi (i-1),show n+(i-1+1)=n+i by omega];simp [hil]
   have hbd:=Br0 (r.take (i-1)) ((b.toNat:Int)-Ub m) (by rw [gI];omega) (by omega) (by omega);have hsn:Ac0 ((b.toNat:Int)-Ub m) (r.take (i+1-1))=Ac0 ((b.toNat:Int)-Ub m) (r.take (i-1))*64+(l[n+i].toNat:Int)-128:=by
    rw [show i+1-1=(i-1)+1 by omega,kT,hg]
    exact Cf8 _ _ _
   (have ew2:W64 ((i:Int)+1)=((i+1:Nat):Int):=by rw [wrap64 (by omega) (by omega)];omega);rw [wrap64 (a:=Ac0 ((b.toNat:Int)-Ub m) (r.take (i-1))*64) (by omega) (by omega),wrap64 (a:=(l[n+i].toNat:Int)) (by omega) (by omega),wrap64 (a:=Ac0 ((b.toNat:Int)-Ub m) (r.take (i-1))*64+(l[n+i].toNat:Int)) (by omega) (by omega),wrap64 (a:=Ac0 ((b.toNat:Int)-Ub m) (r.take (i-1))*64+(l[n+i].toNat:Int)-128) (by omega) (by omega),ew2];refine ⟨⟨i+1,by omega,by omega,?_,e3⟩,?_⟩;{rw [hsn]};{dsimp only;omega}
  {simp only [iH] at hc;have:i=m:=(by omega);subst this;exact ⟨rfl,e3⟩}
 {rintro _ w3 ⟨rfl,e3⟩;exact hK w3 e3}
theorem Bb7 {s:Sl}{l:Bs}{n:Nat}{ty:TypeId}(hs:Bl w s ty 1 (bv l)) (hl:l.length<2^60) (hn:n<l.length){K:Int×Int×Unit->Wp}(hK:∀w',Ext w w'->K ((nx8 (l.drop n)).1,((nx8 (l.drop n)).2:Nat),()) w') :
  Aa Tryz.prog 111 #[s.v,.int .i64 (n:Int)] (.tup [(.one (.int .i64)),(.one (.int .i64))]) K w:=by
 refine Ep2 ?_;unfold F111;have h1:=Xk hs;obtain ⟨b,r,hr⟩:∃b r,l.drop n=b::r:=⟨_,_,iZ hn⟩;have hb:=b.toNat_lt;have hrl:r.length=l.length-n-1:=by
  have:=fC List.length hr
  rw [gJ,dB] at this;omega
 have g0:l[n]?=some b:=by
  have:=fC (λx=>x[0]?) hr
  simp only [gU,nC,Nat.add_zero] at this
  exact this
 rw [hr] at hK;have hsz:=Am0 b r;refine Ae (λ_ w'=>Ext w w'/\¬0<=(nx8 (b::r)).1) ?_ ?_
 ·refine Ba (λx w'=>∃i:Nat,1<=i/\i<=5/\x=((i:Int),())/\Ext w w'/\(0<=(nx8 (b::r)).1->i<=(nx8 (b::r)).2)) (λx _=>((5:Int)-x.1).toNat) ⟨1,by omega,by omega,rfl,Ext.refl w,λ_=>hsz.1⟩ ?_;rintro _ w1 ⟨i,hi1,hi5,rfl,e1,hno⟩;refine Ae (λx w'=>x=(decide (i<=4/\n+i<=l.length),())/\w1=w') ?_ ?_;{refine Ac (λh=>⟨Az ?_,rfl⟩) (λh=>⟨Az ?_,rfl⟩);{simp only [iI] at h ⊢;rw [wrap64 (by omega) (by omega)];omega};{simp only [iH,iI] at h ⊢;exact ⟨(λh=>by cases h),λh=>by omega⟩}};rintro _ w2 ⟨rfl,rfl⟩;refine Ac (λh=>?_) (λh=>?_)
  ·simp only [iI] at h;(have ew:W64 ((i:Int)+1)=((i+1:Nat):Int):=by rw [wrap64 (by omega) (by omega)];omega);refine Ae (λ_ w'=>Ext w w'/\¬Hit (b::r) i) ?_ ?_
   ·refine Bp7 (hs.ext e1) hl hr hi1 h.1 h.2 λw3 e3=>?_;refine Q5 (λhS=>Ac (λh=>by cases h) (λ_=>?_)) (λhS=>Ac (λ_=>⟨e1.trans e3,λhh=>hS hh.1⟩) (λh=>by cases h));refine Ao5 hS λt w4 ht e4=>?_;have hpl:(pt8 (Ie i (b::r))).length<=4:=by
     have hne:sz8 (Ie i (b::r))≠0/\sz8 (Ie i (b::r))<=4:=by
      unfold sz8
      rw [aJ (by rcases hS with h|h<;>omega)]
      repeat' split
      all_goals decide
     have:=Aa4 .u8 _ hne.1
     show (pt .u8 _).length<=4
     rw [this];exact hne.2
    refine Bk8 (hs.ext ((e1.trans e3).trans e4)) ht (by omega) hl (by omega) λw5 e5=>?_;rw [hr];have htl:=Xk ht;have e15:=((e1.trans e3).trans e4).trans e5;refine Ae (λx w'=>(x.1=true↔Hit (b::r) i)/\w5=w') ?_ ?_;{refine Ac (λh=>⟨?_,rfl⟩) (λh=>⟨?_,rfl⟩);{simp only [jM] at h;simp only [iI];exact ⟨λhh=>⟨hS,hh,by omega⟩,λhh=>hh.2.1⟩};{simp only [jO] at h;exact ⟨(λh=>by cases h),λhh=>by have:=hh.2.2;omega⟩}};rintro ⟨x,_⟩ w6 ⟨hx,rfl⟩;refine Ac (λhh=>?_) (λhh=>⟨e15,λhit=>by have h1:=hx.2 hit;have h2:x=false:=hh;rw [h2] at h1;cases h1⟩);have hit:=hx.1 hh;have:=hK w5 e15;rw [Dg4 hit] at this;exact this
   {rintro _ w3 ⟨e3,hno2⟩;refine ⟨⟨i+1,by omega,by omega,by rw [ew],e3,λh0=>?_⟩,?_⟩;{have:=hno h0;rcases lT i (nx8 (b::r)).2 with h2|h2;{omega};{have:i=(nx8 (b::r)).2:=(by omega);subst this;exact absurd (Df3 h0).1 hno2}};{dsimp only;rw [ew];omega}}
  {simp only [iH] at h;refine ⟨e1,λh0=>h ?_⟩;have h2:=hno h0;have h3:=hsz.2.1;rw [dB] at h3;omega}
 {rintro _ w1 ⟨e1,hneg⟩;refine Rq (hs.ext e1) (by omega) (b:=b) (by rw [dF];exact g0) λp=>?_;have:=hK w1 e1;rw [Co5 hneg] at this;rw [wrap64 (a:=(b.toNat:Int)) (by omega) (by omega),wrap64 (by omega) (by omega)];exact this}
theorem Cm8 {e:Enc} {s:Sl} {l:Bs} {n:Nat} {ty:TypeId} (hs:Bl w s ty 1 (bv l)) (hl:l.length<2^59) (hn:n<l.length) {K:Int×Int×Unit->Wp} (hK:∀w',Ext w w'->K ((nx e (l.drop n)).1,((nx e (l.drop n)).2:Nat),()) w') :
  Aa Tryz.prog 58 #[.int .i64 e.num,s.v,.int .i64 (n:Int)] (.tup [(.one (.int .i64)),(.one (.int .i64))]) K w:=by
 refine A58 ?_;unfold F58;have h1:=Xk hs;obtain ⟨b,r,hr⟩:∃b r,l.drop n=b::r:=⟨_,_,iZ hn⟩;have hb:=b.toNat_lt;have g0:l[n]?=some b:=by
  have:=fC (λx=>x[0]?) hr
  simp only [gU,nC,Nat.add_zero] at this
  exact this
 have six:∀be:Bool,e.num=(if be then 3 else 2)->nx e=Jq be ->
   Aa Tryz.prog 112 #[.int .i64 e.num,s.v,.int .i64 (n:Int)] rI (λ(x4:Int)=>sif (decide (x4<(0:Int))) (
    ix s.a s.len (n:Int) λp5 =>
    ld (.int .u8) (p5.add (scaled (Int.toNat (n:Int)) 1)) λ(x6:Int) =>
    K ((W64 ((-1:Int)-(W64 x6))),(1:Int),())) (
    Aa Tryz.prog 112 #[(.int .i64 e.num),s.v,(.int .i64 (W64 ((n:Int)+(2:Int))))] rI λ(x7:Int) =>
    join (S:=Bool×Unit) (λJ8 =>
     sif (decide (x4>=(55296:Int))) (
      sif (decide (x4<(56320:Int))) (
       sif (decide (x7>=(56320:Int))) (
        J8 ((decide (x7<(57344:Int))),())) (
        J8 (false,()))) (
       J8 (false,()))) (
      J8 (false,()))) λ(s9:Bool×Unit) =>
    sif s9.1 (
     K ((W64 ((W64 ((W64 ((65536:Int)+(W64 ((W64 (x4-(55296:Int)))*(1024:Int)))))+x7))-(56320:Int))),(4:Int),())) (
     K (x4,(2:Int),())))) w:=by
  intro be hbe hnx
  rw [hbe]
  rw [hnx] at hK
  refine Ak5 hs (by omega) (by omega) λw1 e1=>?_
  rw [hr] at hK ⊢
  have e2:W64 ((n:Int)+2)=((n+2:Nat):Int):=by rw [wrap64 (by omega) (by omega)];omega
  rw [e2]
  cases r with
  |nil=>refine Ac (λ_=>?_) (λh=>by cases h);refine Rq (hs.ext e1) (by omega) (b:=b) (by rw [dF];exact g0) λp=>?_;rw [wrap64 (a:=(b.toNat:Int)) (by omega) (by omega),wrap64 (by omega) (by omega)];exact hK w1 e1
  | cons c r' =>
   have hc:=c.toNat_lt;(have hu:un be b c<65536:=by unfold un;split<;>omega);have hx4:unI be (b::c::r')=((un be b c:Nat):Int):=rfl;refine Ac (λh=>by simp only [iI] at h;omega) (λ_=>?_);refine Ak5 (hs.ext e1) (by omega) (by omega) λw2 e3=>?_;have e12:=e1.trans e3;have hd2:l.drop (n+2)=r':=by
    have:=fC (List.drop 2) hr
    rw [iR] at this
    simpa using this
   rw [hd2];refine Ae (λx w'=>(x.1=true↔(un be b c/1024=54/\∃d f r'',r'=d::f::r''/\un be d f/1024=55))/\w2=w') ?_ ?_
   ·have key:∀x7,x7=unI be r'->((56320<=x7/\x7<57344)↔∃d f r'',r'=d::f::r''/\un be d f/1024=55):=by
     rintro x7 rfl
     match r' with
     |[]=>exact ⟨λh=>by have h':(56320:Int)<=-1:=h.1;omega,by rintro ⟨d,f,r'',h,_⟩;cases h⟩
     |[d]=>exact ⟨λh=>by have h':(56320:Int)<=-1:=h.1;omega,by rintro ⟨d,f,r'',h,_⟩;cases h⟩
     |d::f::r''=>show ((56320:Int)<=((un be d f:Nat):Int)/\((un be d f:Nat):Int)<57344)↔_;constructor;{intro h;exact ⟨d,f,r'',rfl,by omega⟩};{rintro ⟨d',f',r3,h,hu⟩;cases h;omega}
    have key':=key _ rfl;refine Ac (λh=>Ac (λh2=>Ac (λh3=>⟨?_,rfl⟩) (λh3=>⟨?_,rfl⟩)) (λh2=>⟨?_,rfl⟩)) (λh=>⟨?_,rfl⟩);(all_goals (try simp only [iI,iH,jT] at h));(all_goals (try simp only [iI,iH,jT] at h2));(all_goals (try simp only [iI,iH,jT] at h3));(all_goals (try simp only [iI]));(all_goals have hx4:unI be (b::c::r')=((un be b c:Nat):Int):=rfl);{rw [←key'];constructor;{intro h4;exact ⟨by clear key key';omega,h3,h4⟩};{intro h4;exact h4.2.2}};{rw [←key'];exact ⟨(λh=>by cases h),λh4=>absurd h4.2.1 h3⟩};{exact ⟨(λh=>by cases h),λh4=>by have:=h4.1;clear key key' h4;omega⟩};{exact ⟨(λh=>by cases h),λh4=>by have:=h4.1;clear key key' h4;omega⟩}
   rintro ⟨x,_⟩ w3 ⟨hx,rfl⟩;refine Ac (λh=>?_) (λh=>?_)
   ·obtain ⟨h54,d,f,r'',rfl,h55⟩:=hx.1 h;have hd:=d.toNat_lt;have hf:=f.toNat_lt;(have hv:un be d f<65536:=by unfold un;split<;>omega);have:=hK w2 e12;show K ((W64 ((W64 ((W64 ((65536:Int)+(W64 ((W64 (((un be b c:Nat):Int)-(55296:Int)))*(1024:Int)))))+((un be d f:Nat):Int)))-(56320:Int))),(4:Int),()) w2;rw [wrap64 (a:=((un be b c:Nat):Int)-55296) (by omega) (by omega),wrap64 (a:=(((un be b c:Nat):Int)-55296)*1024) (by omega) (by omega),wrap64 (a:=(65536:Int)+_) (by omega) (by omega),wrap64 (a:=(65536:Int)+_+_) (by omega) (by omega),wrap64 (by omega) (by omega)];have e4:Jq be (b::c::d::f::r'')=(65536+((un be b c%1024*1024+un be d f%1024:Nat):Int),4):=by
     simp only [Jq];rw [aF h54,aF h55]
    rw [e4] at this;have e5:(65536:Int)+(((un be b c:Nat):Int)-55296)*1024+((un be d f:Nat):Int)-56320=65536+((un be b c%1024*1024+un be d f%1024:Nat):Int):=(by omega);rw [e5];exact this
   ·(have h:¬(un be b c/1024=54/\∃d f r'',r'=d::f::r''/\un be d f/1024=55):=λhh=>by have h1:=hx.2 hh;have h2:x=false:=h;rw [h2] at h1;cases h1);have:=hK w2 e12;have e4:Jq be (b::c::r')=(((un be b c:Nat):Int),2):=by
     simp only [Jq]
     split
     ·rename_i h54
      split
      ·rename_i d f r''
       rw [aJ (λh55=>h ⟨h54,_,_,_,rfl,h55⟩)]
      ·rfl
     ·rfl
    rw [e4] at this;exact this
 cases e with
 |u8=>refine Ac (λ_=>?_) (λh=>by cases h);exact Bb7 hs (by omega) hn λw1 e1=>hK w1 e1
 |le=>exact Ac (λh=>by cases h) (λ_=>Ac (λh=>by cases h) (λ_=>six false rfl rfl))
 |be=>exact Ac (λh=>by cases h) (λ_=>Ac (λh=>by cases h) (λ_=>six true rfl rfl))
 |l1=>refine Ac (λh=>by cases h) (λ_=>Ac (λ_=>?_) (λh=>by cases h));refine Rq hs (by omega) (b:=b) (by rw [dF];exact g0) λp=>?_;rw [wrap64 (a:=(b.toNat:Int)) (by omega) (by omega)];have:=hK w (Ext.refl w);rw [hr] at this;exact this
end
namespace Cdc
theorem Df4 (b:UInt8) (r:Bs):(nx8 (b::r)).2=sz8 (nx8 (b::r)).1:=by
 by_cases h:0<=(nx8 (b::r)).1;{exact (Bg4 h).2.2.symm}
 ·have hb:=b.toNat_lt;have h128:128<=b.toNat:=by
   rcases lT b.toNat 128 with u|u
   ·exfalso
    apply h
    have hr:(rowOf (b::r))=(1,1):=by
     have:Fz b.toNat=(1,0,0)\/(Fz b.toNat).1=1:=by
      right
      unfold Fz
      rw [aF (by omega)]
     have h1:(Fz b.toNat).1=1:=by rcases this with h|h;rw [h];exact h
     unfold rowOf
     dsimp only
     rw [h1,aF (by decide)]
    unfold nx8
    dsimp only
    rw [hr,aJ (by decide)]
    exact kQ _
   ·exact u
  rw [Co5 h];show 1=sz8 _;unfold sz8;rw [aJ (by omega),aF (by omega)]
theorem Bw3 (be:Bool) (b:UInt8) (r:Bs):(Jq be (b::r)).2=Iq (Jq be (b::r)).1:=by
 have hb:=b.toNat_lt;cases r with
 |nil=>show 1=Iq (-1-(b.toNat:Int));unfold Iq;rw [aJ (by omega),aF (by omega)]
 | cons c r =>
  have hc:=c.toNat_lt;(have hu:un be b c<65536:=by unfold un;split<;>omega);have two:2=Iq ((un be b c:Nat):Int):=by
   unfold Iq
   rw [aJ (by omega),aJ (by omega),aF (by omega)]
  unfold Jq;dsimp only;by_cases h1:un be b c/1024=54
  ·rw [aF h1];cases r with
   |nil=>exact two
   |cons d r =>
    cases r with
    |nil=>exact two
    |cons e r=>dsimp only;by_cases h2:un be d e/1024=55;{rw [aF h2];show 4=Iq _;unfold Iq;rw [aJ (by omega),aJ (by omega),aJ (by omega)]};{rw [aJ h2];exact two}
  {rw [aJ h1];exact two}
theorem Dj3 (e:Enc){l:Bs}(h:l≠[]):(nx e l).2=sz e (nx e l).1:=by
 obtain ⟨b,r,rfl⟩:∃b r,l=b::r:=by
  cases l with
  |nil=>exact absurd rfl h
  |cons b r=>exact ⟨b,r,rfl⟩
 cases e with
 |u8=>exact Df4 b r
 |le=>exact Bw3 false b r
 |be=>exact Bw3 true b r
 |l1=>have hb:=b.toNat_lt;show 1=sz1 ((b.toNat:Nat):Int);unfold sz1;rw [aJ (by omega)]
def OkA (e:Enc) (A:As):Prop:=∀x∈A,x.2=sz e x.1
theorem OkA.prs {e:Enc}{A:As}(h:OkA e A):A=prs e (atoms A):=by
 induction A with
 |nil=>rfl
 |cons x A ih=>show x::A=(x.1,sz e x.1)::_;rw [←h x aH];congr 1;exact ih λy hy=>h y (aI _ hy)
theorem Bo4 (e:Enc) (l:List Int):OkA e (prs e l):=by intro x hx;obtain ⟨a,_,rfl⟩:=gY.1 hx;rfl
theorem Bt7 (e:Enc):∀(n:Nat) (l:Bs),l.length<=n->OkA e (ats e l)
 |0,l,h=>by
  have:l=[]:=bF.1 (by omega)
  subst this
  rw [Kv]
  intro x hx;cases hx
 | n+1,l,h=>by
  by_cases hl:l=[]
  ·subst hl
   rw [Kv]
   intro x hx;cases hx
  ·rw [Og e hl]
   have h1:=Xd e hl
   intro x hx
   rcases aG.1 hx with rfl|hx
   ·exact Dj3 e hl
   ·exact Bt7 e n _ (by rw [gJ];omega) x hx
theorem Aq3 {e:Enc}{A:As}(h:OkA e A):∀es:List LEd,OkA e (Dq e A es)
 |[]=>h
 |x::r=>by
  have ih:=Aq3 h r
  intro y hy
  rw [Dq,bV,bV] at hy
  rcases hy with (hy|hy)|hy
  ·exact ih y (iU hy)
  ·exact Bo4 e _ y hy
  ·exact ih y (iV hy)
end Cdc
section
variable {w w':World}
theorem Bn8 {e:Enc}{s:Sl}{l:Bs}{n:Nat}{ty:TypeId}(hs:Bl w s ty 1 (bv l)) (hl:l.length<2^59) (hn:n<l.length){K:Int×Int×Unit->Wp}(hK:∀w',Ext w w'->K ((nx e (l.drop n)).1,((nx e (l.drop n)).2:Nat),()) w') :
  Aa Tryz.prog 21 #[.int .i64 e.num,s.v,.int .i64 (n:Int)] (.tup [(.one (.int .i64)),(.one (.int .i64))]) K w:=by
 refine A21 ?_;unfold F21;have h1:=hs.len1;rw [gW] at h1;have hcap:=hs.le;refine Bq2 (e:=e) ?_;refine Ae (λx W=>x=(false,())/\w=W) (Ah (Ac (λhc=>by simp only [iI] at hc;omega) (λ_=>⟨Az ?_,rfl⟩))) ?_;{simp only [iI,jT,dO,iff_false];omega};rintro _ _ ⟨rfl,rfl⟩;refine Ah (Cx1 hs (by omega) (by omega) (by omega) (by omega) (by omega) λs' hs' hl' _=>?_);have e1:(l.drop ((n:Int)).toNat).take (((s.len:Nat):Int).toNat-((n:Int)).toNat)=l.drop n:=by
  rw [dF,dF,jE (by rw [gJ];omega)]
 rw [e1] at hs';refine Cm8 (n:=0) hs' (by rw [gJ];omega) (by rw [gJ];omega) λw1 x1=>?_;rw [lM];exact hK w1 x1
theorem Al1 {e:Enc}{a:Int}{K:Bool->Wp}(hK:K (sz e a !=0) w):Aa Tryz.prog 73 #[.int .i64 e.num,.int .i64 a] rB K w:=by
 refine A73 ?_;unfold F73;have key:∀b:Bool,(b=true↔sz e a≠0)->K b w:=λb hb=>by
  have:b=(sz e a !=0):=by rw [gV,mY];exact hb
  rw [this];exact hK
 cases e with
 | u8 =>
  have k8:sz .u8 a≠0↔Scalar a\/(a<=-129/\-256<=a):=by
   show sz8 a≠0↔_
   unfold sz8 Scalar
   split
   ·constructor
    ·intro h;exact absurd rfl h
    ·intro h;omega
   ·constructor
    ·intro _;omega
    ·intro _;split<;>(try split)<;>(try split)<;>omega
  refine Bh (Q5 (λhs=>Bh (key _ ?_)) (λhs=>Ah (Ac (λh1=>key _ ?_) (λh1=>key _ ?_))));{rw [k8];exact ⟨λ_=>.inl hs,λ_=>rfl⟩};{simp only [iI] at h1;rw [k8];simp only [iI,jT];exact ⟨λh=>.inr ⟨h1,h⟩,λh=>by rcases h with h|h;exact absurd h hs;exact h.2⟩};{simp only [iH] at h1;rw [k8];simp only [dO,lS];intro h;rcases h with h|h;{exact hs h};{exact h1 h.1}}
 | le =>
  have k16:sz .le a≠0↔-256<=a/\a<=1114111:=by
   show Iq a≠0↔_
   unfold Iq;(repeat' split)<;>omega
  refine Ah (Ae (λx W=>x=(true,())/\w=W) (Bh ⟨rfl,rfl⟩) ?_);rintro _ _ ⟨rfl,rfl⟩;refine Bh (Ac (λh1=>key _ ?_) (λh1=>key _ ?_));{simp only [iI,jT] at h1;rw [k16,iI];exact ⟨λh=>⟨h1,h⟩,λh=>h.2⟩};{simp only [iH,jT] at h1;rw [k16];simp only [dO,lS];exact λh=>h1 h.1}
 | be =>
  have k16:sz .be a≠0↔-256<=a/\a<=1114111:=by
   show Iq a≠0↔_
   unfold Iq;(repeat' split)<;>omega
  refine Ah (Ae (λx W=>x=(true,())/\w=W) (Ah ⟨rfl,rfl⟩) ?_);rintro _ _ ⟨rfl,rfl⟩;refine Bh (Ac (λh1=>key _ ?_) (λh1=>key _ ?_));{simp only [iI,jT] at h1;rw [k16,iI];exact ⟨λh=>⟨h1,h⟩,λh=>h.2⟩};{simp only [iH,jT] at h1;rw [k16];simp only [dO,lS];exact λh=>h1 h.1}
 | l1 =>
  have k1:sz .l1 a≠0↔0<=a/\a<=255:=by
   show sz1 a≠0↔_
   unfold sz1;(repeat' split)<;>omega
  refine Ah (Ae (λx W=>x=(false,())/\w=W) (Ah ⟨rfl,rfl⟩) ?_);rintro _ _ ⟨rfl,rfl⟩;refine Ah (Bh (Ac (λh1=>key _ ?_) (λh1=>key _ ?_)));{simp only [iI,jT] at h1;rw [k1,iI];exact ⟨λh=>⟨h1,h⟩,λh=>h.2⟩};{simp only [iH,jT] at h1;rw [k1];simp only [dO,lS];exact λh=>h1 h.1}
theorem two_bytes {b:Nat}{x y:Int}{w:World}(h:w.heap[b]?=some (.cells #[.int .u8 (IntKind.wrap .u8 x),.int .u8 (IntKind.wrap .u8 y)] 5 (0,0))):Bl w ⟨some (at0 b),2,2⟩ 5 1 ([IntKind.wrap .u8 x,IntKind.wrap .u8 y].map (Cell.int .u8).val):=Bl.Jp h (n:=2) (sz:=1) rfl
theorem H9 {e:Int}{u:Int}{K:Sl->Wp}(hK:∀s x y w',s.len=2->Bl w' s 5 1 ([x,y].map (Cell.int .u8).val)->Ext w w'->K s w'):Aa Tryz.prog 124 #[.int .i64 e,.int .i64 u] rS K w:=by refine Eo1 ?_;unfold F124;refine Ac (λ_=>Dc (by decide) (Dc (by decide) (Cm λb w1 e1 n1 _ _=>hK _ _ _ w1 rfl (two_bytes n1) e1))) (λ_=>Dc (by decide) (Dc (by decide) (Cm λb w1 e1 n1 _ _=>hK _ _ _ w1 rfl (two_bytes n1) e1)))
theorem Ak6 {e:Enc}{a:Int}{K:Int->Wp}(hK:∀w',Ext w w'->K (sz e a:Int) w'):Aa Tryz.prog 29 #[.int .i64 e.num,.int .i64 a] rI K w:=by
 refine A29 ?_;unfold F29;refine Al1 ?_;by_cases h0:sz e a=0;{rw [h0];refine Bh ?_;have:=hK w (Ext.refl w);rw [h0] at this;exact this};(have hne:(sz e a !=0)=true:=by rw [mY];exact h0);rw [hne];refine Ah ?_;refine A74 ?_;unfold F74;(have fin:∀(s:Sl) (w1:World),s.len=sz e a->Ext w w1->K ((s.len:Nat):Int) w1:=λs w1 hl x=>by rw [hl];exact hK w1 x);refine Ac (λh=>Cm λb w1 e1 n1 _ _=>fin _ w1 ?_ e1) (λh=>?_)
 ·simp only [iI] at h;show 1=_;cases e with
  |u8=>show 1=sz8 a;have h0:sz8 a≠0:=h0;unfold sz8 at h0 ⊢;split at h0;exact absurd rfl h0;rename_i hh;rw [aJ hh,aF (by omega)]
  |le=>show 1=Iq a;have h0:Iq a≠0:=h0;unfold Iq at h0 ⊢;split at h0;exact absurd rfl h0;rename_i hh;rw [aJ hh,aF (by omega)]
  |be=>show 1=Iq a;have h0:Iq a≠0:=h0;unfold Iq at h0 ⊢;split at h0;exact absurd rfl h0;rename_i hh;rw [aJ hh,aF (by omega)]
  |l1=>have h0:sz1 a≠0:=h0;unfold sz1 at h0;rw [aF (by omega)] at h0;exact absurd rfl h0
 simp only [iH] at h;have six:∀be:Bool,sz e a=Iq a ->
   sif (decide (a>=(65536:Int))) (
     chk ((1024:Int)≠0) <|
     Aa Tryz.prog 124 #[(.int .i64 e.num),(.int .i64 (W64 ((55296:Int)+(W64 (Int.tdiv (W64 (a-(65536:Int))) (1024:Int))))))] rS λ(x4:Sl) =>
     chk ((1024:Int)≠0) <|
     Aa Tryz.prog 124 #[(.int .i64 e.num),(.int .i64 (W64 ((56320:Int)+(Int.tmod a (1024:Int)))))] rS λ(x5:Sl) =>
     drew <|
     ix x4.a x4.len (0:Int) λp6 =>
     ld (.int .u8) (p6.add (scaled (Int.toNat (0:Int)) 1)) λ(x7:Int) =>
     ix x4.a x4.len (1:Int) λp8 =>
     ld (.int .u8) (p8.add (scaled (Int.toNat (1:Int)) 1)) λ(x9:Int) =>
     ix x5.a x5.len (0:Int) λp10 =>
     ld (.int .u8) (p10.add (scaled (Int.toNat (0:Int)) 1)) λ(x11:Int) =>
     ix x5.a x5.len (1:Int) λp12 =>
     ld (.int .u8) (p12.add (scaled (Int.toNat (1:Int)) 1)) λ(x13:Int) =>
     Af (.cells #[(.int .u8 x7),(.int .u8 x9),(.int .u8 x11),(.int .u8 x13)] 5) λb14 =>
     K (((⟨(some (at0 b14)),4,4⟩:Sl).len:Nat):Int)) (
     Aa Tryz.prog 124 #[(.int .i64 e.num),(.int .i64 a)] rS λ(x15:Sl) =>
     K ((x15.len:Nat):Int)) w:=by
  intro be hsz
  have h6:Iq a≠0:=by rw [←hsz];exact h0
  refine Ac (λhc=>?_) (λhc=>H9 λs x y w1 hl _ e1=>fin s w1 ?_ e1)
  ·simp only [iI,jT] at hc
   refine Dc (by decide) (H9 λs4 x4 y4 w1 hl4 h4 e1=>Dc (by decide) (H9 λs5 x5 y5 w2 hl5 h5 e2=>Ci λw3 e3 _=>?_))
   have h4':=(h4.ext e2).ext e3
   have h5':=h5.ext e3
   refine Ew (c:=.int .u8) (xs:=[x4,y4]) h4' (dG 0) rfl λp6=>Ew (c:=.int .u8) (xs:=[x4,y4]) h4' (by decide) rfl λp8=>Ew (c:=.int .u8) (xs:=[x5,y5]) h5' (dG 0) rfl λp10=>Ew (c:=.int .u8) (xs:=[x5,y5]) h5' (by decide) rfl λp12=>Cm λb w4 e4 n4 _ _=>fin ⟨some (at0 b),4,4⟩ w4 ?_ (((e1.trans e2).trans e3).trans e4)
   show 4=_
   rw [hsz]
   unfold Iq at h6 ⊢
   split at h6
   ·exact absurd rfl h6
   ·rename_i hh;rw [aJ hh,aJ (by omega),aJ (by omega)]
  ·simp only [iH,jT] at hc
   rw [hl,hsz]
   unfold Iq at h6 ⊢
   split at h6
   ·exact absurd rfl h6
   ·rename_i hh;rw [aJ hh,aJ (by omega),aF (by omega)]
 cases e with
 | u8 =>
  have h8:sz8 a≠0:=h0;have hsc:Scalar a:=by
   unfold sz8 at h8
   split at h8
   ·exact absurd rfl h8
   ·unfold Scalar;omega
  refine Bh (Ao5 hsc λs w1 hs e1=>fin s w1 ?_ e1);have:=hs.len1;rw [gW] at this;rw [←this];exact Aa4 .u8 a h0
 |le=>exact Ah (Ah (six false rfl))
 |be=>exact Ah (Ah (six true rfl))
 |l1=>refine Ah (Bh (Cm λb w1 e1 n1 _ _=>fin _ w1 ?_ e1));show 1=sz1 a;have h1:sz1 a≠0:=h0;unfold sz1 at h1 ⊢;split at h1;{exact absurd rfl h1};{rename_i hh;rw [aJ hh]}
end
section
variable {w w':World}
theorem push {r:Sl}{l:List Int}{v:Int}{b N:Nat}{K:Sl->Wp}(hr:Ar w N r 3 1 (iv l)) (hb:w.heap[b]?=some (.cells #[.int .i64 v] 3 (0,0))) (hl:l.length<2^40) (hN:N<=w.heap.size)
  (hK:∀r' w',Ar w' N r' 3 1 (iv (l++[v]))->Upd r.blk w w'->K r' w') :
  Du Tryz.prog (.one (.one .sl)) (Builtin.append_ #[43,43] 43 #[.slice r.a r.len r.cap,.slice (some (at0 b)) 1 1]) K w:=by
 have hrl:=hr.len1;rw [gW] at hrl;refine En Qi Qi.ts_ (x:=⟨some (at0 b),1,1⟩) hr (Ab6 hb) (λv hv=>by rw [iT.1 hv];rfl) (by
  show (r.len+1+(r.len+1)/4+512)*8<=2^48
  omega) hN λr' w' o l' u k=>hK r' w' ?_ u
 have:iv (l++[v])=iv l++[.int .i64 v]:=(by simp);rw [this];exact o
end
end
end Go.Proofs.YtolhlldgnfbemaaGreatDoor
