/- The law holds for every input: it returns true, and each argument reads behind the call as it did. Conditions: those of the form alone. -/
import Derived.Test.YtmooldhpiopcgaaGreatDoorSAg6
set_option linter.unusedVariables false
set_option linter.unusedSimpArgs false
set_option linter.unusedSectionVars false
noncomputable section
set_option maxRecDepth 100000
namespace Go.Proofs.YtmooldhpiopcgaaGreatDoor
open Go Go.Vx Cdc Trx
section
variable {w w' W W':World}{S:Nat->Prop}{p:Nat}{e:Enc}{lim na:Nat}{O:Nat->Prop}{M:Parts}
theorem Pm {a:Addr}{K:Addr->Wp}:nn (some a) K=K a:=funext λ_=>propext Tj
abbrev txO (e:Enc) (lim:Nat) (tp:Option Addr) (a:Sl):Obj:=.cells #[.int .i64 e.num,.int .i64 (lim:Int),.pointer tp,.slice a.a a.len a.cap] 141 (0,0)
abbrev Bi7 (p b1 b2 b6 b7:Nat) (ps:Sl) (f n:Nat):List (Nat×Obj):=[(b7,.cells #[.int .i64 (n:Int)] 3 (0,0)),(b6,.cells #[.int .i64 (f:Int)] 3 (0,0)),(b2,.cells #[.slice ps.a ps.len ps.cap] 165 (0,0)),(b1,.cells #[.pointer (some (at0 p))] 51 (0,0))]
structure FrI (w W:World) (p:Nat) (e:Enc) (lim:Nat) (tp:Option Addr) (a0:Sl) (b1 b2 b6 b7:Nat) (a ps:Sl) (ab cb:Bs) (pl:List Pc) (M':Parts) (n:Nat):Prop where
 st:St (λk=>k=p\/a0.blk k) w W (Bi7 p b1 b2 b6 b7 ps (ab.length-cb.length) n)
 tx:W.heap[p]?=some (txO e lim tp a)
 own:Au W 0 a 5 1 (bv ab)
 suf:∃x,ab=x++cb
 row:Au W w.heap.size ps 146 7 (flat c146 (pl.map pcT))
 its:Its W e pl M'
 tops:∀x∈pl,∀k,x.bytes.blk k->a.blk k->top x.bytes<=top a
 pblk:∀x∈pl,∀k,x.bytes.blk k->a0.blk k\/w.heap.size<=k
 ablk:∀k,a.blk k->a0.blk k\/w.heap.size<=k
 old:Old w W a0 a
 cnt:pl.length+cb.length<=ab.length
variable {tp:Option Addr}{a0 a ps:Sl}{b1 b2 b6 b7 n:Nat}{ab cb:Bs}{pl:List Pc}{M':Parts}
theorem FrI.ext (h:FrI w W p e lim tp a0 b1 b2 b6 b7 a ps ab cb pl M' n) (x:Ext W W'):FrI w W' p e lim tp a0 b1 b2 b6 b7 a ps ab cb pl M' n :=
 ⟨h.st.ext x,x.ext_get h.tx,h.own.ext x,h.suf,h.row.ext x,h.its.ext x,h.tops,h.pblk,h.ablk,h.old.ty x (Aj5 _ _),h.cnt⟩
set_option maxHeartbeats 1000000 in
theorem Ce2 {K:Unit->Wp}(h:FrI w W p e lim tp a0 b1 b2 b6 b7 a ps ab cb pl M' n) (hab:ab.length<2^40)
  (hK:∀ps' pl' M'' n' W',FrI w W' p e lim tp a0 b1 b2 b6 b7 a ps' ab [] pl' M'' n'->aOf e M''=aOf e M'++ats e cb->n'<=n->W.heap.size<=W'.heap.size->K () W') :
  Bg Tryz.prog (do let d ←Deferred.ofValue (.func (.func 154) #[] #[.pointer (some (at0 b1)),.pointer (some (at0 b6)),.pointer (some (at0 b2)),.pointer (some (at0 b7))]) #[];invoke d.target d.args:Sem Next) (.tup []) K W:=by
 refine func_x (caps:=#[.pointer (some (at0 b1)),.pointer (some (at0 b6)),.pointer (some (at0 b2)),.pointer (some (at0 b7))]) (by kernel_rfl) ?_
 refine Cs6 ?_
 unfold F154
 have hlen:ab.length=a.len:=by have:=h.own.len1;rwa [List.length_map] at this
 have hcl:cb.length<=ab.length:=by obtain ⟨x,hx⟩:=h.suf;rw [hx];simp
 have S0:=h.st
 refine S0.ld 3 rfl (x:=some (at0 p)) rfl ?_
 simp only [Pm,addr_add]
 refine Ah h.tx (x:=a) rfl (S0.ld 1 rfl (x:=((ab.length-cb.length:Nat):Int)) rfl (Ac (λhc=>?_) (λhc=>?_)))
 ·simp only [decide_eq_true_eq,gt_iff_lt] at hc
  have hcb:0<cb.length:=by omega
  refine S0.drew λW1 S1 e1 _=>?_
  have h1:=h.ext e1
  refine S1.ld 2 rfl (x:=ps) rfl (S1.ld 3 rfl (x:=some (at0 p)) rfl ?_)
  simp only [Pm,addr_add]
  refine Ah h1.tx (x:=e.num) rfl (S1.ld 3 rfl (x:=some (at0 p)) rfl ?_)
  simp only [Pm,addr_add]
  refine Ah h1.tx (x:=a) rfl (S1.ld 1 rfl (x:=((ab.length-cb.length:Nat):Int)) rfl ?_)
  have hcap:=h.own.in.le
  refine Gf (by omega) ?_
  have hB1:By W1 a ab:=h1.own.in
  have c1:=hB1.cut (l:=((ab.length-cb.length:Nat):Int)) (h:=(a.len:Int)) (m:=(a.len:Int)) (by omega) (by omega) (by omega) (by omega) (by omega)
  have d1:(ab.drop ((ab.length-cb.length:Nat):Int).toNat).take ((a.len:Int).toNat-((ab.length-cb.length:Nat):Int).toNat)=cb:=by
   obtain ⟨x,hx⟩:=h.suf
   rw [Int.toNat_natCast,Int.toNat_natCast,List.take_of_length_le (by rw [List.length_drop];omega)]
   have:ab.length-cb.length=x.length:=by rw [hx];simp
   rw [this,hx,List.drop_left]
  rw [d1] at c1
  have ct:=Ak9 hB1 (l:=((ab.length-cb.length:Nat):Int)) (h:=(a.len:Int)) (m:=(a.len:Int)) (by omega) (by omega) (by omega)
  have cbk:=λk=>Um (s:=a) (l:=((ab.length-cb.length:Nat):Int)) (h:=(a.len:Int)) (m:=(a.len:Int)) (k:=k)
  generalize Sl.cut a.a ((ab.length-cb.length:Nat):Int) (a.len:Int) (a.len:Int) 1=y at *
  refine Ns c1 (by omega) λW2 e2=>?_
  have h2:=h1.ext e2
  have S2:=h2.st
  refine S2.keep 2 rfl (v:=.slice ps.a ps.len ps.cap) rfl ?_
  refine Aq λb15 W3 e3 n3 hb15 hz3=>?_
  have h3:=h2.ext e3
  have S3:=h3.st
  refine S3.keep 2 rfl (v:=.slice ps.a ps.len ps.cap) rfl ?_
  have hbox:SlX W3 ⟨some (at0 b15),1,1⟩ 7 (flat c146 [pcT (Vk e y (-1) cb)]):=(Cj.Jq n3 (n:=1) (sz:=7) rfl).x
  have hrl:=Au.Oi (cs:=c146) h3.row (by decide)
  rw [List.length_map] at hrl
  have hcnt:=h.cnt
  refine Fg Pq Pq.ts_ (x:=⟨some (at0 b15),1,1⟩) h3.row hbox (Aa6 _) (by
   show (ps.len+1+(ps.len+1)/4+512)*64<=2^48
   omega) (by have:=S3.upd.size;omega) λps' W4 o4 l4 u4 k4=>?_
  have nb4:Cc W3 ps.blk 5:=Cc.blk h3.row.in (by decide)
  have nt4:Cc W3 ps.blk 141:=Cc.blk h3.row.in (by decide)
  have e4:flat c146 (pl.map pcT)++flat c146 [pcT (Vk e y (-1) cb)]=flat c146 ((pl++[Vk e y (-1) cb]).map pcT):=by rw [List.map_append,Nb];rfl
  rw [e4] at o4
  have tx4:W4.heap[p]?=some (txO e lim tp a):=u4.get h3.tx λhk=>nt4 _ hk _ _ h3.tx
  have own4:=h3.own.ty u4 nb4
  have st4:St (λk=>k=p\/a0.blk k) w W4 (Bi7 p b1 b2 b6 b7 ps (ab.length-cb.length) n):=S3.fresh u4 (λk hk=>.inr (h3.row.Ew hk)) (λx hx hk=>by
   obtain ⟨c,fr,hc'⟩:=h3.row.in.Bc hk
   have hl:=(S3.loc x hx).1
   rw [hc'] at hl
   simp only [Bi7,List.mem_cons,List.not_mem_nil,or_false] at hx
   rcases hx with rfl|rfl|rfl|rfl<;>cases hl)
  have its4:Its W4 e (pl++[Vk e y (-1) cb]) (M'++[(-1,cb)]):=by
   refine Its.app (h3.its.ty u4 nb4) ⟨⟨?_,rfl,rfl,?_,Int.le_refl _,?_⟩,trivial⟩
   ·exact ((c1.ext e2).ext e3).ty u4 nb4
   ·intro hn
    replace hn:cb=[]:=hn
    rw [hn] at hcb;simp at hcb
   ·show (-1:Int)+(cb.length:Int)<=2^40;omega
  have old4:=h3.old.ty u4 nb4
  refine st4.stC 2 rfl (by show 0<1;decide) λW5 S5 u5=>S5.stC 1 rfl (by show 0<1;decide) λW6 S6 u6=>S6.stC 0 rfl (by show 0<1;decide) λW7 S7 u7=>?_
  have g2:W4.heap[b2]?=some (.cells #[.slice ps.a ps.len ps.cap] 165 (0,0)):=st4.at_ 2 rfl
  have g6:W5.heap[b6]?=some (.cells #[.int .i64 ((ab.length-cb.length:Nat):Int)] 3 (0,0)):=S5.at_ 1 rfl
  have g7:W6.heap[b7]?=some (.cells #[.int .i64 (n:Int)] 3 (0,0)):=S6.at_ 0 rfl
  have tx5:W5.heap[p]?=some (txO e lim tp a):=u5.get tx4 (λhk=>Cc.box g2 (by decide) _ hk _ _ tx4)
  have tx6:W6.heap[p]?=some (txO e lim tp a):=u6.get tx5 (λhk=>Cc.box g6 (by decide) _ hk _ _ tx5)
  have tx7:W7.heap[p]?=some (txO e lim tp a):=u7.get tx6 (λhk=>Cc.box g7 (by decide) _ hk _ _ tx6)
  have hts:∀x∈pl++[Vk e y (-1) cb],∀k,x.bytes.blk k->a.blk k->top x.bytes<=top a:=by
   intro x hx
   rcases List.mem_append.1 hx with hx|hx
   ·exact h.tops x hx
   ·rw [List.mem_singleton.1 hx];intro k _ _;exact ct
  have hpb:∀x∈pl++[Vk e y (-1) cb],∀k,x.bytes.blk k->a0.blk k\/w.heap.size<=k:=by
   intro x hx
   rcases List.mem_append.1 hx with hx|hx
   ·exact h.pblk x hx
   ·rw [List.mem_singleton.1 hx];intro k hk;exact h.ablk k (cbk k hk)
  refine hK ps' (pl++[Vk e y (-1) cb]) (M'++[(-1,cb)]) 0 W7 ⟨?_,tx7,?_,⟨ab,by simp⟩,?_,?_,hts,hpb,h.ablk,?_,?_⟩ ?_ (Nat.zero_le _) ?_
  ·have e0:((a.len:Nat):Int)=((ab.length-([]:Bs).length:Nat):Int):=by simp;omega
   rw [e0] at S7
   exact S7
  ·exact ((own4.box g2 (by decide) u5).box g6 (by decide) u6).box g7 (by decide) u7
  ·exact ((o4.box g2 (by decide) u5).box g6 (by decide) u6).box g7 (by decide) u7
  ·exact ((its4.ty u5 (Cc.box g2 (by decide))).ty u6 (Cc.box g6 (by decide))).ty u7 (Cc.box g7 (by decide))
  ·exact ((old4.ty u5 (Cc.box g2 (by decide))).ty u6 (Cc.box g6 (by decide))).ty u7 (Cc.box g7 (by decide))
  ·simp;omega
  ·rw [Jo];simp [aOf]
  ·have:=e1.size;have:=e2.size;have:=e3.size;have:=u4.size;have:=u5.size;have:=u6.size;have:=u7.size;omega
 ·simp only [decide_eq_false_iff_not,gt_iff_lt] at hc
  have hcb:cb=[]:=List.length_eq_zero_iff.1 (by omega)
  subst hcb
  exact hK ps pl M' n W h (by rw [Lu,List.append_nil]) (Nat.le_refl _) (Nat.le_refl _)
theorem Old.trans {w W W':World}{a0 a a':Sl}(h:Old w W a0 a) (h':Old W W' a a'):Old w W' a0 a':=λy b hy ht=>h' y b (h y b hy ht).1 (h y b hy ht).2
set_option maxHeartbeats 1000000 in
theorem Rh {s:Sl}{t:TypeId}{put:List Int}(hs:Cj w s t 1 (iv put)) (hsep:∀k,s.blk k->k≠p/\¬a0.blk k) (hfit:Fits e put) (tx:w.heap[p]?=some (txO e lim tp a0)) (own:Au w 0 a0 5 1 (bv ab)) (hab:ab.length+(bts e put).length<2^40) (hput:put.length<2^40){K:Sl->Wp}
  (hK:∀ps a pl M' W,W.heap[p]?=some (txO e lim tp a)->Au W 0 a 5 1 (bv (ab++bts e put))->Au W w.heap.size ps 146 7 (flat c146 (pl.map pcT))->Its W e pl M'->aOf e M'=prs e put->(∀x∈pl,∀k,x.bytes.blk k->a.blk k->top x.bytes<=top a) ->
   (∀x∈pl,∀k,x.bytes.blk k->a0.blk k\/w.heap.size<=k)->(∀k,a.blk k->a0.blk k\/w.heap.size<=k)->Old w W a0 a->Upd (λk=>k=p\/a0.blk k) w W->pl.length<=ab.length+(bts e put).length->K ps W) :
  Aa Tryz.prog 123 #[.pointer (some (at0 p)),s.v] rS K w:=by
 refine j123 ?_
 unfold F123
 have hlen:put.length=s.len:=by have:=hs.len1;rwa [List.length_map] at this
 have hal:ab.length=a0.len:=by have:=own.len1;rwa [List.length_map] at this
 have hpw:=lt_of_heap tx
 refine (St.Au3 (λk=>k=p\/a0.blk k) w (λk hk=>hk.elim (λh=>h▸hpw) λh=>own.in.Em h)).Ad λb1 w1 S1 e1=>S1.Ad λb2 w2 S2 e2=>S2.ld 1 rfl (x:=some (at0 p)) rfl ?_
 simp only [Pm,addr_add]
 have x2:=e1.trans e2
 refine Ah (x2.ext_get tx) (x:=a0) rfl (S2.Ad λb6 w3 S3 e3=>S3.stC 0 rfl (by show 0<1;decide) λw4 S4 u4=>S4.Ad λb7 w5 S5 e5=>S5.stC 0 rfl (by show 0<1;decide) λw6 S6 u6=>?_)
 have g6:w3.heap[b6]?=some (.cells #[.int .i64 0] 3 (0,0)):=S3.at_ 0 rfl
 have g7:w5.heap[b7]?=some (.cells #[.int .i64 0] 3 (0,0)):=S5.at_ 0 rfl
 have x3:=x2.trans e3
 have F0:FrI w w6 p e lim tp a0 b1 b2 b6 b7 a0 ⟨none,0,0⟩ ab [] [] [] 0:=by
  refine ⟨?_,?_,?_,⟨ab,by simp⟩,Au.nil _ _ _ _,trivial,(λx hx=>by cases hx),(λx hx=>by cases hx),λk hk=>.inl hk,?_,by simp⟩
  ·have e0:((a0.len:Nat):Int)=((ab.length-([]:Bs).length:Nat):Int):=by simp;omega
   rw [e0] at S6
   exact S6
  ·have t3:=x3.ext_get tx
   have t4:w4.heap[p]?=some (txO e lim tp a0):=u4.get t3 (λhk=>Cc.box g6 (by decide) _ hk _ _ t3)
   have t5:=e5.ext_get t4
   exact u6.get t5 (λhk=>Cc.box g7 (by decide) _ hk _ _ t5)
  ·exact (((own.ext x3).box g6 (by decide) u4).ext e5).box g7 (by decide) u6
  ·exact ((((Old.refl w a0).ty x3 (Aj5 _ _)).ty u4 (Cc.box g6 (by decide))).ty e5 (Aj5 _ _)).ty u6 (Cc.box g7 (by decide))
 clear S1 S2 S3 S4 S5 S6
 have tkl:∀i j:Nat,j<=i->(bts e ((put.take i).drop j)).length<=(bts e put).length:=by
  intro i j _
  have:put=put.take i++put.drop i:=(List.take_append_drop i put).symm
  have h2:put.take i=(put.take i).take j++(put.take i).drop j:=(List.take_append_drop j _).symm
  have h3:(bts e put).length=(bts e (put.take i)).length+(bts e (put.drop i)).length:=by conv=>lhs;rw [this];rw [Xh,List.length_append]
  have h4:(bts e (put.take i)).length=(bts e ((put.take i).take j)).length+(bts e ((put.take i).drop j)).length:=by conv=>lhs;rw [h2];rw [Xh,List.length_append]
  omega
 have abl:∀i,(ab++bts e (put.take i)).length<2^40:=λi=>by have:=tkl i 0 (Nat.zero_le _);rw [List.length_append];simp only [List.drop_zero] at this;omega
 have fit2:∀i j,Fits e ((put.take i).drop j):=λi j x hx=>hfit x (List.mem_of_mem_take (List.mem_of_mem_drop hx))
 have glue:∀i j,Run ((put.take i).drop j)->prs e ((put.take i).take j)++ats e (bts e ((put.take i).drop j))=prs e (put.take i):=λi j hr=>by
  rw [Cb2 (fit2 i j) hr];unfold prs;rw [←List.map_append,List.take_append_drop]
 have shut:∀{a ps i j pl M' n} {W:World} {K:Unit->Wp},Run ((put.take i).drop j)->j<=i->FrI w W p e lim tp a0 b1 b2 b6 b7 a ps (ab++bts e (put.take i)) (bts e ((put.take i).drop j)) pl M' n->aOf e M'=prs e ((put.take i).take j)->(∀ps' pl' M'' n' W',FrI w W' p e lim tp a0 b1 b2 b6 b7 a ps' (ab++bts e (put.take i)) [] pl' M'' n'->aOf e M''=prs e (put.take i)->n'<=n->K () W') ->
   Bg Tryz.prog (do let d ←Deferred.ofValue (.func (.func 154) #[] #[.pointer (some (at0 b1)),.pointer (some (at0 b6)),.pointer (some (at0 b2)),.pointer (some (at0 b7))]) #[];invoke d.target d.args:Sem Next) (.tup []) K W:=by
  intro a ps i j pl M' n W K hr hj F hM hK
  exact Ce2 F (abl i) λps' pl' M'' n' W' F' hM' hn _=>hK ps' pl' M'' n' W' F' (by rw [hM',hM,glue _ _ hr]) hn
 refine Ag (λ_ W=>∃a ps pl M' n j,j<=put.length/\(∀x∈(put.take put.length).drop j,Scalar x)/\FrI w W p e lim tp a0 b1 b2 b6 b7 a ps (ab++bts e (put.take put.length)) (bts e ((put.take put.length).drop j)) pl M' n/\aOf e M'=prs e ((put.take put.length).take j)) ?_ ?_
 ·refine Bz (λx W=>∃a ps pl M' n i j,x=(((i:Nat):Int),())/\i<=put.length/\j<=i/\n<=i/\(∀x∈(put.take i).drop j,Scalar x)/\FrI w W p e lim tp a0 b1 b2 b6 b7 a ps (ab++bts e (put.take i)) (bts e ((put.take i).drop j)) pl M' n/\aOf e M'=prs e ((put.take i).take j)) (λx _=>((put.length:Int)-x.1).toNat) ⟨a0,⟨none,0,0⟩,[],[],0,0,0,rfl,Nat.zero_le _,Nat.le_refl _,Nat.le_refl _,(λx hx=>by simp at hx),by simpa [bts] using F0,by simp [aOf,prs]⟩ ?_
  rintro _ W ⟨a,ps,pl,M',n,i,j,rfl,hi,hj,hn,hsc,F,hM⟩
  refine Ac (λhc=>?_) (λhc=>?_)
  ·simp only [decide_eq_true_eq] at hc
   obtain ⟨v,hv⟩:∃v,put[i]?=some v:=⟨_,List.getElem?_eq_getElem (by omega)⟩
   have hf:=hfit v (List.mem_of_getElem? hv)
   have ew:IntKind.wrap .i64 ((i:Int)+1)=((i+1:Nat):Int):=by rw [wrap64 (by omega) (by omega)];omega
   dsimp only
   rw [ew]
   refine Ag (λ_ W=>∃a ps pl M' n j,j<=i+1/\n<=i+1/\(∀x∈(put.take (i+1)).drop j,Scalar x)/\FrI w W p e lim tp a0 b1 b2 b6 b7 a ps (ab++bts e (put.take (i+1))) (bts e ((put.take (i+1)).drop j)) pl M' n/\aOf e M'=prs e ((put.take (i+1)).take j)) ?_ ?_
   ·have hsW:Cj W s t 1 (iv put):=hs.upd F.st.upd λk hk hSk=>by
     have:=hsep k hk
     rcases hSk with h|h
     ·exact this.1 h
     ·exact this.2 h
    refine Zg (c:=.int .i64) (xs:=put) hsW (by omega) (x:=v) (by rw [Int.toNat_natCast];exact hv) λq=>?_
    have hsv:=Av3 hf
    obtain ⟨sc,hsc'⟩:∃sc:Bool,sc=decide (0<=v/\(v<55296\/57343<v)):=⟨_,rfl⟩
    have hsv:sc=true↔Scalar v:=by rw [hsc',hsv,decide_eq_true_eq]
    refine Ag (λx W'=>x=(sc,())/\W=W') ?_ ?_
    ·refine Ac (λh1=>Ac (λh2=>⟨Dx ?_,rfl⟩) (λh2=>⟨Dx ?_,rfl⟩)) (λh1=>⟨Dx ?_,rfl⟩)
     all_goals simp only [hsc',decide_eq_true_eq,decide_eq_false_iff_not,gt_iff_lt,ge_iff_le,true_iff,Bool.false_eq_true,false_iff] at *
     all_goals omega
    rintro _ _ ⟨rfl,rfl⟩
    refine Ag (λ_ W=>∃ps pl M' n j,j<=i/\n<=i/\(∀x∈(put.take i).drop j,Scalar x)/\(sc=false->j=i)/\FrI w W p e lim tp a0 b1 b2 b6 b7 a ps (ab++bts e (put.take i)) (bts e ((put.take i).drop j)) pl M' n/\aOf e M'=prs e ((put.take i).take j)) ?_ ?_
    ·refine Ag (λx W'=>x=((!sc||decide (n=128)),())/\W=W') ?_ ?_
     ·refine Ac (λh1=>⟨Dx ?_,rfl⟩) (λh1=>F.st.ld 0 rfl (x:=(n:Int)) rfl ⟨Dx ?_,rfl⟩)
      ·have h1:(!sc)=true:=h1
       rw [h1];simp
      ·have h1:(!sc)=false:=h1
       rw [h1,Bool.false_or]
       simp only [beq_iff_eq,decide_eq_true_eq];omega
     rintro _ _ ⟨rfl,rfl⟩
     have nil_:(put.take i).drop i=[]:=List.drop_eq_nil_of_le (by rw [List.length_take];omega)
     refine Ac (λ_=>shut (.inl hsc) hj F hM λps' pl' M'' n' W' F' hM' hn'=>⟨ps',pl',M'',n',i,Nat.le_refl _,by omega,?_,(λ_=>rfl),?_,?_⟩) (λhb=>⟨ps,pl,M',n,j,hj,hn,hsc,(λh=>?_),F,hM⟩)
     ·rw [nil_];intro x hx;cases hx
     ·rw [nil_];exact F'
     ·rw [hM',List.take_take,Nat.min_self]
     ·have hb:(!sc||decide (n=128))=false:=hb
      rw [h] at hb;simp at hb
    clear F hM hn hj hsc ps pl M' n j
    rintro _ W1 ⟨ps,pl,M',n,j,hj,hn,hsc,hji,F,hM⟩
    refine F.st.ld 3 rfl (x:=some (at0 p)) rfl ?_
    simp only [Pm,addr_add]
    refine Ah F.tx (x:=e.num) rfl (Aq λb27 W2 e2' n2 hb27 _=>?_)
    have F2:=F.ext e2'
    have hbox:Cj W2 ⟨some (at0 b27),1,1⟩ 3 1 [.int .i64 v]:=Cj.Jq n2 (n:=1) (sz:=1) rfl
    refine Bj4 (s:=⟨some (at0 b27),1,1⟩) (t:=3) (e:=e) (a:=v) hf hbox λs28 W3 o28 e3'=>?_
    have F3:=F2.ext e3'
    have S3:=F3.st
    show drew _ W3
    refine S3.drew λW4 S4 e4' _=>?_
    have F4:=F3.ext e4'
    have o28:=o28.ext e4'
    refine F4.st.ld 3 rfl (x:=some (at0 p)) rfl (F4.st.ld 3 rfl (x:=some (at0 p)) rfl ?_)
    simp only [Pm,addr_add]
    have tkv:put.take (i+1)=put.take i++[v]:=by rw [List.take_add_one,hv];rfl
    have ptl:(bts e (put.take i)).length+(pt e v).length<=(bts e put).length:=by
     have:=tkl (i+1) 0 (Nat.zero_le _)
     rw [List.drop_zero,tkv,Xh,List.length_append] at this
     simpa [bts] using this
    have s28l:(pt e v).length=s28.len:=by have:=o28.len1;rwa [List.length_map] at this
    have al4:(ab++bts e (put.take i)).length=a.len:=by have:=F4.own.len1;rwa [List.length_map] at this
    have al4':=al4
    rw [List.length_append] at al4'
    refine Ah F4.tx (x:=a) rfl (Ci3 F4.own o28.in.x (by omega) (Nat.zero_le _) λa' W5 o5 l5 u5 k5 old5=>?_)
    have nb5:∀t,t≠5->Cc W4 a.blk t:=λt ht=>Cc.blk F4.own.in (λh=>ht h.symm)
    have tx5:W5.heap[p]?=some (txO e lim tp a):=u5.get F4.tx λhk=>nb5 141 (by decide) _ hk _ _ F4.tx
    have st5:St (λk=>k=p\/a0.blk k) w W5 (Bi7 p b1 b2 b6 b7 ps ((ab++bts e (put.take i)).length-(bts e ((put.take i).drop j)).length) n):=F4.st.fresh u5 (λk hk=>(F4.ablk k hk).imp .inr id) (λx hx hk=>by
     obtain ⟨c,fr,hc'⟩:=F4.own.in.Bc hk
     have hl:=(F4.st.loc x hx).1
     rw [hc'] at hl
     simp only [Bi7,List.mem_cons,List.not_mem_nil,or_false] at hx
     rcases hx with rfl|rfl|rfl|rfl<;>cases hl)
    have row5:=F4.row.ty u5 (nb5 146 (by decide))
    have its5:Its W5 e pl M':=F4.its.to λx hx b hb=>(old5 x.bytes b hb (F4.tops x hx)).1
    have tops5:∀x∈pl,∀k,x.bytes.blk k->a'.blk k->top x.bytes<=top a':=λx hx=>by
     obtain ⟨b,hb⟩:=F4.its.by_ x hx
     exact (old5 x.bytes b hb (F4.tops x hx)).2
    have oldT:Old w W5 a0 a':=F4.old.trans old5
    refine st5.keep 3 rfl (v:=.pointer (some (at0 p))) rfl ?_
    refine Ei tx5 (by show 3<4;decide) λW6 u6 n6 _=>?_
    have n6:W6.heap[p]?=some (txO e lim tp a'):=n6
    have nt6:∀t,t≠141->Cc W5 (λk=>k=p) t:=λt ht=>Cc.box tx5 (λh=>ht h.symm)
    have st6:St (λk=>k=p\/a0.blk k) w W6 (Bi7 p b1 b2 b6 b7 ps ((ab++bts e (put.take i)).length-(bts e ((put.take i).drop j)).length) n):=st5.step u6 λk hk=>.inl hk
    refine st6.ld 0 rfl (x:=(n:Int)) rfl (st6.stC 0 rfl (by show 0<1;decide) λW7 S7 u7=>?_)
    have g7':W6.heap[b7]?=some (.cells #[.int .i64 (n:Int)] 3 (0,0)):=st6.at_ 0 rfl
    have ewn:IntKind.wrap .i64 ((n:Int)+1)=((n+1:Nat):Int):=by rw [wrap64 (by omega) (by omega)];omega
    rw [ewn] at S7
    have cbe:bts e ((put.take (i+1)).drop j)=bts e ((put.take i).drop j)++pt e v:=by
     rw [tkv,List.drop_append_of_le_length (by rw [List.length_take];omega),Xh];simp [bts]
    have abe:ab++bts e (put.take (i+1))=ab++bts e (put.take i)++pt e v:=by rw [tkv,Xh,List.append_assoc];simp [bts]
    have F7:FrI w W7 p e lim tp a0 b1 b2 b6 b7 a' ps (ab++bts e (put.take (i+1))) (bts e ((put.take (i+1)).drop j)) pl M' (n+1):=by
     rw [cbe,abe]
     refine ⟨?_,?_,?_,?_,?_,?_,tops5,F4.pblk,?_,?_,?_⟩
     ·rw [@List.length_append _ (ab++bts e (put.take i)),@List.length_append _ (bts e ((put.take i).drop j)),Nat.add_sub_add_right]
      exact S7
     ·exact u7.get n6 (λhk=>Cc.box g7' (by decide) _ hk _ _ n6)
     ·exact (o5.ty u6 (nt6 _ (by decide))).box g7' (by decide) u7
     ·obtain ⟨x,hx⟩:=F4.suf
      exact ⟨x,by rw [hx,List.append_assoc]⟩
     ·exact (row5.ty u6 (nt6 _ (by decide))).box g7' (by decide) u7
     ·exact (its5.ty u6 (nt6 _ (by decide))).ty u7 (Cc.box g7' (by decide))
     ·intro k hk
      rcases k5 k hk with h|h
      ·exact F4.ablk k h
      ·have:=F4.st.upd.size;exact .inr (by omega)
     ·exact (oldT.ty u6 (nt6 _ (by decide))).ty u7 (Cc.box g7' (by decide))
     ·have:=F4.cnt
      rw [@List.length_append _ (ab++bts e (put.take i)),@List.length_append _ (bts e ((put.take i).drop j))]
      omega
    have seg:(put.take (i+1)).drop j=(put.take i).drop j++[v]:=by rw [tkv,List.drop_append_of_le_length (by rw [List.length_take];omega)]
    have hM7:aOf e M'=prs e ((put.take (i+1)).take j):=by rw [hM,tkv,List.take_append_of_le_length (by rw [List.length_take];omega)]
    refine Ac (λhb=>?_) (λhb=>⟨a',ps,pl,M',n+1,j,by omega,by omega,?_,F7,hM7⟩)
    ·have hb:sc=false:=by simpa using hb
     have hr:Run ((put.take (i+1)).drop j):=.inr ⟨v,by rw [seg,hji hb,List.drop_eq_nil_of_le (by rw [List.length_take];omega)];rfl⟩
     have nil_:(put.take (i+1)).drop (i+1)=[]:=List.drop_eq_nil_of_le (by rw [List.length_take];omega)
     refine shut hr (by omega) F7 hM7 λps' pl' M'' n' W' F' hM' hn'=>⟨a',ps',pl',M'',n',i+1,Nat.le_refl _,by omega,?_,?_,?_⟩
     ·rw [nil_];intro x hx;cases hx
     ·rw [nil_];exact F'
     ·rw [hM',List.take_take,Nat.min_self]
    ·have hb:sc=true:=by simpa using hb
     rw [seg]
     intro x hx
     rcases List.mem_append.1 hx with hx|hx
     ·exact hsc x hx
     ·rw [List.mem_singleton.1 hx];exact hsv.1 hb
   ·rintro _ W' ⟨a,ps,pl,M',n,j,hj,hn,hsc,F,hM⟩
    exact ⟨⟨a,ps,pl,M',n,i+1,j,rfl,by omega,by omega,hn,hsc,F,hM⟩,by omega⟩
  ·simp only [decide_eq_false_iff_not] at hc
   have:i=put.length:=by omega
   subst this
   exact ⟨a,ps,pl,M',n,j,hj,hsc,F,hM⟩
 ·rintro _ W ⟨a,ps,pl,M',n,j,hj,hsc,F,hM⟩
  refine shut (.inl hsc) hj F hM λps' pl' M'' n' W' F' hM' _=>?_
  have hcnt:=F'.cnt
  rw [List.take_length] at F' hM' hcnt
  refine F'.st.ld 2 rfl (x:=ps') rfl (hK ps' a pl' M'' W' F'.tx F'.own F'.row F'.its hM' F'.tops F'.pblk F'.ablk F'.old F'.st.upd ?_)
  rw [List.length_append] at hcnt
  simpa using hcnt
end
section
variable {w w' W W':World}{S:Nat->Prop}{p:Nat}{e:Enc}{lim na:Nat}{O:Nat->Prop}{M:Parts}{tp:Option Addr}{a0 a:Sl}
def hdA (e:Enc) (M:Parts) (i n:Nat):As:=match M[i]? with|some x=>(ats e x.2).take n|none=>[]
def tlA (e:Enc) (M:Parts) (i n:Nat):As:=match M[i]? with|some x=>(ats e x.2).drop n|none=>[]
theorem Bs3 {e:Enc}{M:Parts}{i n:Nat}{x:Int×Bs}(h:M[i]?=some x):hdA e M i n=(ats e x.2).take n:=by unfold hdA;rw [h]
theorem An0 {e:Enc}{M:Parts}{i n:Nat}{x:Int×Bs}(h:M[i]?=some x):tlA e M i n=(ats e x.2).drop n:=by unfold tlA;rw [h]
theorem Bs4 {e:Enc}{M:Parts}{i n:Nat}(h:M[i]?=none):hdA e M i n=[]:=by unfold hdA;rw [h]
theorem Bm6 {e:Enc}{M:Parts}{i n:Nat}(h:M[i]?=none):tlA e M i n=[]:=by unfold tlA;rw [h]
theorem Bz8 {e:Enc}{M:Parts}{at_ i n:Nat}(h:At9 e M at_ i n):(aOf e M).take at_=aOf e (M.take i)++hdA e M i n:=by rw [Ac7 h];unfold hdA;cases M[i]?<;>rfl
theorem Bj5 {e:Enc}{M:Parts}{at_ i n:Nat}(h:At9 e M at_ i n):(aOf e M).drop at_=tlA e M i n++aOf e (M.drop (i+1)):=by
 rcases h with ⟨rfl,rfl,rfl⟩|⟨x,hx,h1,h2,rfl⟩
 ·cases M with
  |nil=>simp [aOf,tlA]
  |cons x M=>simp [aOf,tlA]
 ·rw [An0 hx]
  have hil:=(List.getElem?_eq_some_iff.1 hx).1
  have hd:M=M.take i++x::M.drop (i+1):=by
   have:=List.drop_eq_getElem_cons hil
   have hx':M[i]=x:=by rw [List.getElem?_eq_getElem hil] at hx;exact Option.some.inj hx
   rw [hx'] at this
   rw [←this,List.take_append_drop]
  have:aOf e M=aOf e (M.take i)++(ats e x.2++aOf e (M.drop (i+1))):=by
   conv=>lhs;rw [hd]
   rw [Jo,Iu]
  rw [this,List.drop_length_add_append,List.drop_append_of_le_length h2]
theorem Bv8 {e:Enc}{M:Parts}{f t i n j m:Nat}(h1:At9 e M f i n) (h2:At9 e M t j m) (hft:f<=t):i<=j:=by
 have mono:∀a b:Nat,a<=b->(aOf e (M.take a)).length<=(aOf e (M.take b)).length:=by
  intro a b hab
  have:M.take b=M.take a++(M.take b).drop a:=by
   conv=>lhs;rw [←List.take_append_drop a (M.take b)]
   rw [List.take_take,Nat.min_eq_left hab]
  rw [this,Jo,List.length_append];omega
 rcases h1 with ⟨_,rfl,_⟩|⟨x,hx,g1,g2,g3⟩
 ·exact Nat.zero_le _
 rcases Nat.lt_or_ge j i with hlt|hge
 ·exfalso
  rcases h2 with ⟨h,_,_⟩|⟨y,hy,k1,k2,k3⟩
  ·omega
  ·have hjl:=(List.getElem?_eq_some_iff.1 hy).1
   have e1:(aOf e (M.take (j+1))).length=(aOf e (M.take j)).length+(ats e y.2).length:=by
    have hy':M[j]=y:=by rw [List.getElem?_eq_getElem hjl] at hy;exact Option.some.inj hy
    rw [List.take_add_one,hy,Option.toList_some,Jo,List.length_append]
    simp [aOf]
   have:=mono (j+1) i (by omega)
   omega
 ·exact hge
theorem An2 {l:As}(h:Pv l){n:Nat}(hn:n<=l.length):n<=szs (l.take n):=by
 have:=Xn (h.take n)
 rw [List.length_take] at this;omega
theorem Bz7 {x:Pc}{y:Int×Bs}{n:Nat}(hp:Zw w e x y) (h1:1<=n) (hn:n<=(ats e y.2).length):Zw w e (Po e x y.2 n) (y.1,y.2.take (cutAt e y.2 n)):=by
 have hcl:=Tv e y.2 n
 have hlen:=hp.by_.len
 have hcap:=Cj.le hp.by_
 have c1:=hp.by_.cut (l:=0) (h:=(cutAt e y.2 n:Int)) (m:=(cutAt e y.2 n:Int)) (by omega) (by omega) (by omega) (by omega) (by omega)
 have d1:(y.2.drop (0:Int).toNat).take ((cutAt e y.2 n:Int).toNat-(0:Int).toNat)=y.2.take (cutAt e y.2 n):=by simp
 rw [d1] at c1
 have hge:n<=cutAt e y.2 n:=An2 (Ho e y.2) hn
 refine ⟨c1,rfl,hp.tag,λhc=>?_,hp.lo,?_⟩
 ·have:=congrArg List.length hc
  rw [List.length_take,List.length_nil] at this
  omega
 ·have:=hp.hi
  show y.1+((y.2.take _).length:Int)<=_
  rw [List.length_take];omega
theorem Bw7 {x:Pc}{y:Int×Bs}{n:Nat}(hp:Zw w e x y) (hn:n<(ats e y.2).length):Zw w e (Oe e x y.2 n) (Kq y.1 (cutAt e y.2 n),y.2.drop (cutAt e y.2 n)):=by
 have hcl:=Tv e y.2 n
 have hlen:=hp.by_.len
 have hcap:=Cj.le hp.by_
 have c2:=hp.by_.cut (l:=(cutAt e y.2 n:Int)) (h:=(x.bytes.len:Int)) (m:=(x.bytes.cap:Int)) (by omega) (by omega) (by omega) (by omega) (by omega)
 have d2:(y.2.drop (cutAt e y.2 n:Int).toNat).take ((x.bytes.len:Int).toNat-(cutAt e y.2 n:Int).toNat)=y.2.drop (cutAt e y.2 n):=by
  rw [Int.toNat_natCast,Int.toNat_natCast]
  exact List.take_of_length_le (by rw [List.length_drop];omega)
 rw [d2] at c2
 have hlt:cutAt e y.2 n<y.2.length:=by
  have h1:=Dl ((ats e y.2).take n) ((ats e y.2).drop n)
  rw [List.take_append_drop,Jj] at h1
  have h2:=Xn ((Ho e y.2).drop n)
  rw [List.length_drop] at h2
  unfold cutAt;omega
 have hlo:=hp.lo;have hhi:=hp.hi
 refine ⟨c2,rfl,by show Kq x.tag _=Kq y.1 _;rw [hp.tag],λhc=>?_,?_,?_⟩
 ·have:=congrArg List.length hc
  rw [List.length_drop,List.length_nil] at this
  omega
 ·show -1<=Kq y.1 _
  unfold Kq;split<;>omega
 ·show Kq y.1 _+((y.2.drop _).length:Int)<=_
  rw [List.length_drop]
  unfold Kq;split<;>omega
theorem Cb6 (l:List Pc):∀v∈flat c146 (l.map pcT),Du v=true:=by
 intro v hv
 unfold flat at hv
 obtain ⟨x,hx,hv⟩:=List.mem_flatMap.1 hv
 obtain ⟨y,_,rfl⟩:=List.mem_map.1 hx
 exact Aa6 y v (by rw [Ar4];exact hv)
theorem Ai7 (tx:W.heap[p]?=some (txO e lim tp a)){K:Addr->Cells.T c139->Wp}(hK:K (at0 p) (tp,()) W):nn (some (at0 p)) (λq=>lds c139 (q.add 2) (K q)) W:=by
 refine Af ?_
 rw [addr_add]
 refine Gi tx (x:=(tp,())) (λi v hv=>?_) hK
 match i,hv with
 |0,hv=>exact hv
 |i+1,hv=>cases hv
abbrev Wr (w:World) (O:Nat->Prop) (k:Nat):Prop:=O k/\∀c fr,w.heap[k]?≠some (.cells c 186 fr)
set_option maxHeartbeats 2000000 in
theorem Aa8 {from_ to_:Nat}{s:Sl}{t:TypeId}{put:List Int}(h:Txt w p e lim na O M) (hft:from_<=to_) (hto:to_<=(aOf e M).length) (hs:Cj w s t 1 (iv put)) (hsep:∀k,s.blk k->¬O k) (hfit:Fits e put) (hna:na+(bts e put).length<2^40) (hput:put.length<2^40)
  (hroom:szs ((aOf e M).take from_++prs e put++(aOf e M).drop to_)<=1048576) {K:Unit->Wp}
  (hK:∀O' M' w',Txt w' p e lim (na+(bts e put).length) O' M'->aOf e M'=(aOf e M).take from_++prs e put++(aOf e M).drop to_->Upd (Wr w O) w w'->(∀k,O k->O' k)->(∀k,O' k->O k\/w.heap.size<=k)->K () w') :
  Aa Tryz.prog 82 #[.pointer (some (at0 p)),.int .i64 (from_:Int),.int .i64 (to_:Int),s.v] (.tup []) K w:=by
 refine j82 ?_
 unfold F82
 obtain ⟨tr,a0,ab,tx,ht,hi,own,tops,pO,aO,hla⟩:=h.ex
 have few:=h.few;have lims:=h.lims;have hsz:=h.sz
 have il:=hi.len
 have hf:Fine tr.items:=hi.fine (by omega)
 have fl:=hf.few
 have hal:ab.length=a0.len:=by have:=own.len1;rwa [List.length_map] at this
 refine Vg h (by omega) λi n w1 hs1 hil1 e1=>?_
 refine Vg (h.ext e1) (by omega) λj m w2 hs2 hil2 e2=>?_
 rw [Int.toNat_natCast] at hs1 hs2
 have x2:=e1.trans e2
 have hij:=Bv8 hs1 hs2 hft
 have pcs:∀{i:Nat} {x:Pc},tr.items[i]?=some x->∃y,M[i]?=some y/\Zw w e x y/\y.2.length<=1048576:=by
  intro i x hx
  obtain ⟨y,hy,hp⟩:=hi.get i hx
  refine ⟨y,hy,hp,?_⟩
  have h2:szs (aOf e M)=szs (aOf e (M.take i))+(y.2.length+szs (aOf e (M.drop (i+1)))):=by
   have hil:=(List.getElem?_eq_some_iff.1 hy).1
   have hd:=List.drop_eq_getElem_cons hil
   have hx':M[i]=y:=by rw [List.getElem?_eq_getElem hil] at hy;exact Option.some.inj hy
   rw [hx'] at hd
   conv=>lhs;rw [←List.take_append_drop i M,hd]
   rw [Jo,Iu,Dl,Dl,Jj]
  omega
 have spn:∀{at_ i n:Nat} {y:Int×Bs},at_<=(aOf e M).length->At9 e M at_ i n->M[i]?=some y->n<=(ats e y.2).length/\n<2^30:=by
  intro at_ i n y hle hs hy
  rcases hs with ⟨_,_,rfl⟩|⟨x,hx,h1,h2,h3⟩
  ·exact ⟨Nat.zero_le _,by decide⟩
  ·rw [hy] at hx;cases hx
   exact ⟨h2,by omega⟩
 refine Ag (λx W=>∃plL ML,Au W w2.heap.size x.1 146 7 (flat c146 (plL.map pcT))/\Its w e plL ML/\aOf e ML=hdA e M i n/\(∀x∈plL,∀k,x.bytes.blk k->O k)/\(∀x∈plL,∀k,x.bytes.blk k->a0.blk k->top x.bytes<=top a0)/\plL.length<=1/\Ext w2 W) ?_ ?_
 ·refine Ai7 (x2.ext_get tx) (Al6 (ht.ext x2) hf (by omega) λw3 e3=>?_)
  refine (St.start w3).Ad λb8 w4 S4 e4=>S4.Ae 0 rfl rfl rfl rfl λw5 S5 u5=>?_
  cases hx:tr.items[i]? with
  |none =>
   have hM:M[i]?=none:=List.getElem?_eq_none (by have:=List.getElem?_eq_none_iff.1 hx;omega)
   have e0:atI tr.items i=(Pc.zero,false):=by unfold atI;rw [hx]
   rw [e0,Bs4 hM]
   refine Ag (λx W=>x=(false,())/\w5=W) (Ap ⟨rfl,rfl⟩) ?_
   rintro _ _ ⟨rfl,rfl⟩
   exact Ap ⟨[],[],Au.nil _ _ _ _,trivial,rfl,(λx hx=>by cases hx),(λx hx=>by cases hx),Nat.zero_le _,e3.trans S5.upd⟩
  | some x =>
   have e0:atI tr.items i=(x,true):=by unfold atI;rw [hx]
   rw [e0] at S5 ⊢
   obtain ⟨y,hy,hp,hyl⟩:=pcs hx
   have hn:=spn (by omega) hs1 hy
   rw [Bs3 hy]
   refine Ag (λx W=>x=(decide (0<n),())/\w5=W) (Di ⟨Dx ?_,rfl⟩) ?_
   ·simp only [decide_eq_true_eq,gt_iff_lt];omega
   rintro _ _ ⟨rfl,rfl⟩
   refine Ac (λhn0=>?_) (λhn0=>?_)
   ·simp only [decide_eq_true_eq] at hn0
    have hlo:=hp.lo;have hhi:=hp.hi
    have hE:∀{V:World},Ext w3 V->V.cell? (at0 p)=some (.int .i64 e.num):=λx=>cell_of (x.ext_get ((x2.trans e3).ext_get tx)) rfl
    have byB:By w3 x.bytes y.2:=hp.by_.ext (x2.trans e3)
    have S:=S5
    refine Ag (λs W=>∃b,s.1=at0 b/\W.heap[b]?=some (.cells (Cells.vals c146 (pcT (Po e x y.2 n))).toArray 146 (0,0))/\Ext w3 W) ?_ ?_
    ·refine S.drew λw9 S e9 _=>S.lds 0 (pcT x) rfl ?_
     simp only [Pm]
     refine Ah (S.upd.ext_get ((x2.trans e3).ext_get tx)) (x:=e.num) rfl ?_
     exact ⟨S.Ad λb18 wx S ex=>Ar (hE S.upd) (S.keeps 1 rfl (⟨S.Ad λb19 wx S ex=>Ar (hE S.upd) (S.keeps 2 rfl (Fq (byB.ext S.upd) (by omega) (by rw [hp.tag];omega) (by omega) λwx ex=>(λS=>S.Ae 1 rfl rfl rfl rfl λwx S ux=>S.Ae 0 rfl rfl rfl rfl λwx S ux=>⟨b18,rfl,S.at_ 1 rfl,S.upd⟩) (S.ext ex))),Fq (byB.ext S.upd) (by omega) (by rw [hp.tag];omega) (by omega) λwx ex=>(λS=>⟨S.Ad λb22 wx S ex=>Ar (hE S.upd) (S.keeps 2 rfl (S.Ae 1 rfl rfl rfl rfl λwx S ux=>S.Ae 0 rfl rfl rfl rfl λwx S ux=>⟨b18,rfl,S.at_ 1 rfl,S.upd⟩)),trivial⟩) (S.ext ex)⟩)),⟨S.Ad λb23 wx S ex=>Ar (hE S.upd) (S.keeps 1 rfl (⟨S.Ad λb24 wx S ex=>Ar (hE S.upd) (S.keeps 2 rfl (Fq (byB.ext S.upd) (by omega) (by rw [hp.tag];omega) (by omega) λwx ex=>(λS=>S.Ae 0 rfl rfl rfl rfl λwx S ux=>S.Ae 1 rfl rfl rfl rfl λwx S ux=>⟨b24,rfl,S.at_ 0 rfl,S.upd⟩) (S.ext ex))),Fq (byB.ext S.upd) (by omega) (by rw [hp.tag];omega) (by omega) λwx ex=>(λS=>⟨S.Ad λb27 wx S ex=>Ar (hE S.upd) (S.keeps 2 rfl (S.Ae 0 rfl rfl rfl rfl λwx S ux=>S.Ae 1 rfl rfl rfl rfl λwx S ux=>⟨b27,rfl,S.at_ 0 rfl,S.upd⟩)),trivial⟩) (S.ext ex)⟩)),Fq (byB.ext S.upd) (by omega) (by rw [hp.tag];omega) (by omega) λwx ex=>(λS=>⟨S.Ad λb29 wx S ex=>Ar (hE S.upd) (S.keeps 1 rfl (⟨S.Ad λb30 wx S ex=>Ar (hE S.upd) (S.keeps 2 rfl (S.Ae 1 rfl rfl rfl rfl λwx S ux=>S.Ae 0 rfl rfl rfl rfl λwx S ux=>⟨b29,rfl,S.at_ 1 rfl,S.upd⟩)),trivial⟩)),⟨S.Ad λb31 wx S ex=>Ar (hE S.upd) (S.keeps 1 rfl (⟨S.Ad λb32 wx S ex=>Ar (hE S.upd) (S.keeps 2 rfl (S.Ae 0 rfl rfl rfl rfl λwx S ux=>S.Ae 1 rfl rfl rfl rfl λwx S ux=>⟨b32,rfl,S.at_ 0 rfl,S.upd⟩)),trivial⟩)),trivial⟩⟩) (S.ext ex)⟩⟩
    ·rintro ⟨_,_⟩ w9 ⟨b,rfl,hb,e9⟩
     dsimp only
     refine Gi hb (x:=pcT (Po e x y.2 n)) (λj v hv=>by rw [Nat.zero_add,List.getElem?_toArray];exact hv) (Aq λb32 w10 e10 n10 _ _=>?_)
     have hbox:SlX w10 ⟨some (at0 b32),1,1⟩ 7 (flat c146 [pcT (Po e x y.2 n)]):=(Cj.Jq n10 (n:=1) (sz:=7) rfl).x
     have x10:=(e3.trans e9).trans e10
     refine Fg Pq Pq.ts_ (s:=⟨none,0,0⟩) (x:=⟨some (at0 b32),1,1⟩) (Au.nil w10 w2.heap.size _ _) hbox (Aa6 _) (by dsimp only;omega) (by have:=x10.size;omega) λps' W4 o4 l4 u4 k4=>?_
     refine ⟨[Po e x y.2 n],[(y.1,y.2.take (cutAt e y.2 n))],o4,⟨Bz7 hp hn0 hn.1,trivial⟩,?_,?_,?_,Nat.le_refl _,x10.step u4 λk hk=>?_⟩
     ·show ats e (y.2.take (cutAt e y.2 n))++[]=_
      rw [List.append_nil];unfold cutAt
      rw [(Ro e n y.2).1]
     ·intro z hz k hk
      rw [List.mem_singleton.1 hz] at hk
      exact pO x (List.mem_of_getElem? hx) k (Um hk)
     ·intro z hz k hk hk'
      rw [List.mem_singleton.1 hz] at hk ⊢
      have hcl:=Tv e y.2 n
      have hlen:=hp.by_.len
      exact Nat.le_trans (Ak9 hp.by_ (l:=0) (h:=(cutAt e y.2 n:Int)) (by omega) (by omega) (by omega)) (tops x (List.mem_of_getElem? hx) k (Um hk) hk')
     ·obtain ⟨q,hq,_⟩:=hk;cases hq
   ·simp only [decide_eq_false_iff_not] at hn0
    obtain rfl:n=0:=by omega
    exact ⟨[],[],Au.nil _ _ _ _,trivial,rfl,(λx hx=>by cases hx),(λx hx=>by cases hx),Nat.zero_le _,e3.trans S5.upd⟩
 rintro ⟨psL,_⟩ w3 ⟨plL,ML,rowL,itsL,hML,oL,topL,lenL,e3⟩
 dsimp only at rowL ⊢
 have x3:=x2.trans e3
 have tk1:=Bz8 hs1
 rw [←hML] at tk1
 have tk2:=Bj5 hs2
 refine Rh (hs.ext x3) (λk hk=>⟨λhc=>hsep k hk (hc▸h.op),λhc=>hsep k hk (aO k hc)⟩) hfit (x3.ext_get tx) (own.ext x3) (by omega) hput λpsF a plF MF w4 tx4 own4 rowF itsF hMF topF blkF blkA old4 u4 cntF=>?_
 have nt4:∀t,t≠141->t≠5->Cc w3 (λk=>k=p\/a0.blk k) t:=by
  rintro t h1 h2 k (rfl|hk) c fr hc
  ·rw [x3.ext_get tx] at hc;cases hc;exact h1 rfl
  ·obtain ⟨c',fr',hc'⟩:=(own.ext x3).in.Bc hk
   rw [hc] at hc';cases hc';exact h2 rfl
 have rowL4:=rowL.ty u4 (nt4 _ (by decide) (by decide))
 have ht4:tr.In w4:=(ht.ext x3).ty u4 (nt4 _ (by decide) (by decide))
 have o4:Old w w4 a0 a:=λy b hy htp=>old4 y b (hy.ext x3) htp
 have lL:=Au.Oi (cs:=c146) rowL (by decide)
 have lF:=Au.Oi (cs:=c146) rowF (by decide)
 rw [List.length_map] at lL lF
 have z2:=e3.size
 have z4:=u4.size
 refine Fg Pq Pq.ts_ rowL4 rowF.in.x (Cb6 _) (by
  show (psL.len+psF.len+(psL.len+psF.len)/4+512)*64<=2^48
  omega) (by omega) λpsA w5 rowA lA u5 kA=>?_
 rw [←Nb,←List.map_append] at rowA
 have nt5:∀t,t≠146->Cc w4 psL.blk t:=λt ht=>Cc.blk rowL4.in (λh=>ht h.symm)
 have tx5:w5.heap[p]?=some (txO e lim tr.ptr a):=u5.get tx4 λhk=>nt5 141 (by decide) _ hk _ _ tx4
 have own5:=own4.ty u5 (nt5 _ (by decide))
 have itsF5:=itsF.ty u5 (nt5 _ (by decide))
 have ht5:tr.In w5:=ht4.ty u5 (nt5 _ (by decide))
 have o5:=o4.ty u5 (nt5 _ (by decide))
 have z5:=u5.size
 refine Ag (λx W=>∃plR MR,Au W w2.heap.size x.1 146 7 (flat c146 ((plL++plF++plR).map pcT))/\Its w e plR MR/\aOf e MR=tlA e M j m/\(∀x∈plR,∀k,x.bytes.blk k->O k)/\(∀x∈plR,∀k,x.bytes.blk k->a0.blk k->top x.bytes<=top a0)/\Upd psA.blk w5 W) ?_ ?_
 ·refine Ai7 tx5 (Al6 ht5 hf (by omega) λw6 e6=>?_)
  refine (St.start w6).Ad λb41 w7 S7 e7=>S7.Ae 0 rfl rfl rfl rfl λw8 S8 u8=>?_
  cases hx:tr.items[j]? with
  |none =>
   have hM:M[j]?=none:=List.getElem?_eq_none (by have:=List.getElem?_eq_none_iff.1 hx;omega)
   have e0:atI tr.items j=(Pc.zero,false):=by unfold atI;rw [hx]
   rw [e0,Bm6 hM]
   refine Ap ⟨[],[],?_,trivial,rfl,(λx hx=>by cases hx),(λx hx=>by cases hx),Upd.Aj (e6.trans S8.upd)⟩
   rw [List.append_nil]
   exact rowA.ext (e6.trans S8.upd)
  | some x =>
   have e0:atI tr.items j=(x,true):=by unfold atI;rw [hx]
   rw [e0] at S8 ⊢
   obtain ⟨y,hy,hp,hyl⟩:=pcs hx
   have hn:=spn hto hs2 hy
   rw [An0 hy]
   refine Di ?_
   have hlo:=hp.lo;have hhi:=hp.hi
   have tx6:=e6.ext_get tx5
   have hE:∀{V:World},Ext w6 V->V.cell? (at0 p)=some (.int .i64 e.num):=λx=>cell_of (x.ext_get tx6) rfl
   have byB:By w6 x.bytes y.2:=((o5 x.bytes y.2 hp.by_ (tops x (List.mem_of_getElem? hx))).1).ext e6
   have S:=S8
   refine Ag (λs W=>∃b,s.1=at0 b/\W.heap[b]?=some (.cells (Cells.vals c146 (pcT (Oe e x y.2 m))).toArray 146 (0,0))/\Ext w6 W) ?_ ?_
   ·refine S.drew λw9 S e9 _=>S.lds 0 (pcT x) rfl ?_
    simp only [Pm]
    refine Ah (S.upd.ext_get tx6) (x:=e.num) rfl ?_
    exact ⟨S.Ad λb18 wx S ex=>Ar (hE S.upd) (S.keeps 1 rfl (⟨S.Ad λb19 wx S ex=>Ar (hE S.upd) (S.keeps 2 rfl (Fq (byB.ext S.upd) (by omega) (by rw [hp.tag];omega) (by omega) λwx ex=>(λS=>S.Ae 1 rfl rfl rfl rfl λwx S ux=>S.Ae 0 rfl rfl rfl rfl λwx S ux=>⟨b19,rfl,S.at_ 0 rfl,S.upd⟩) (S.ext ex))),Fq (byB.ext S.upd) (by omega) (by rw [hp.tag];omega) (by omega) λwx ex=>(λS=>⟨S.Ad λb22 wx S ex=>Ar (hE S.upd) (S.keeps 2 rfl (S.Ae 1 rfl rfl rfl rfl λwx S ux=>S.Ae 0 rfl rfl rfl rfl λwx S ux=>⟨b22,rfl,S.at_ 0 rfl,S.upd⟩)),trivial⟩) (S.ext ex)⟩)),⟨S.Ad λb23 wx S ex=>Ar (hE S.upd) (S.keeps 1 rfl (⟨S.Ad λb24 wx S ex=>Ar (hE S.upd) (S.keeps 2 rfl (Fq (byB.ext S.upd) (by omega) (by rw [hp.tag];omega) (by omega) λwx ex=>(λS=>S.Ae 0 rfl rfl rfl rfl λwx S ux=>S.Ae 1 rfl rfl rfl rfl λwx S ux=>⟨b23,rfl,S.at_ 1 rfl,S.upd⟩) (S.ext ex))),Fq (byB.ext S.upd) (by omega) (by rw [hp.tag];omega) (by omega) λwx ex=>(λS=>⟨S.Ad λb27 wx S ex=>Ar (hE S.upd) (S.keeps 2 rfl (S.Ae 0 rfl rfl rfl rfl λwx S ux=>S.Ae 1 rfl rfl rfl rfl λwx S ux=>⟨b23,rfl,S.at_ 1 rfl,S.upd⟩)),trivial⟩) (S.ext ex)⟩)),Fq (byB.ext S.upd) (by omega) (by rw [hp.tag];omega) (by omega) λwx ex=>(λS=>⟨S.Ad λb29 wx S ex=>Ar (hE S.upd) (S.keeps 1 rfl (⟨S.Ad λb30 wx S ex=>Ar (hE S.upd) (S.keeps 2 rfl (S.Ae 1 rfl rfl rfl rfl λwx S ux=>S.Ae 0 rfl rfl rfl rfl λwx S ux=>⟨b30,rfl,S.at_ 0 rfl,S.upd⟩)),trivial⟩)),⟨S.Ad λb31 wx S ex=>Ar (hE S.upd) (S.keeps 1 rfl (⟨S.Ad λb32 wx S ex=>Ar (hE S.upd) (S.keeps 2 rfl (S.Ae 0 rfl rfl rfl rfl λwx S ux=>S.Ae 1 rfl rfl rfl rfl λwx S ux=>⟨b31,rfl,S.at_ 1 rfl,S.upd⟩)),trivial⟩)),trivial⟩⟩) (S.ext ex)⟩⟩
   ·rintro ⟨_,_⟩ w9 ⟨b,rfl,hb,e9⟩
    dsimp only
    simp only [addr_add]
    have hat:(Oe e x y.2 m).sm.atoms=(ats e y.2).length-m:=by
     show (msr (ats e (y.2.drop (cutAt e y.2 m)))).atoms=_
     rw [Uk (Ho e _)]
     unfold cutAt
     rw [(Ro e m y.2).2,List.length_drop]
    refine Ah hb (x:=(((Oe e x y.2 m).sm.atoms:Nat):Int)) rfl (Ac (λh0=>?_) (λh0=>?_))
    ·simp only [decide_eq_true_eq,gt_iff_lt] at h0
     refine Gi hb (x:=pcT (Oe e x y.2 m)) (λj v hv=>by rw [Nat.zero_add,List.getElem?_toArray];exact hv) (Aq λb32 w10 e10 n10 _ _=>?_)
     have hbox:SlX w10 ⟨some (at0 b32),1,1⟩ 7 (flat c146 [pcT (Oe e x y.2 m)]):=(Cj.Jq n10 (n:=1) (sz:=7) rfl).x
     have x10:=(e6.trans e9).trans e10
     refine Fg Pq Pq.ts_ (x:=⟨some (at0 b32),1,1⟩) (rowA.ext x10) hbox (Aa6 _) (by
      show (psA.len+1+(psA.len+1)/4+512)*64<=2^48
      omega) (by have:=x10.size;omega) λps' W4 o4' l4 u4' k4=>?_
     have ef:flat c146 ((plL++plF).map pcT)++flat c146 [pcT (Oe e x y.2 m)]=flat c146 ((plL++plF++[Oe e x y.2 m]).map pcT):=by rw [List.map_append (l₁:=plL++plF),Nb];rfl
     rw [ef] at o4'
     refine ⟨[Oe e x y.2 m],[(Kq y.1 (cutAt e y.2 m),y.2.drop (cutAt e y.2 m))],o4',⟨Bw7 hp (by omega),trivial⟩,?_,?_,?_,(Upd.Aj x10).trans u4'⟩
     ·show ats e (y.2.drop (cutAt e y.2 m))++[]=_
      rw [List.append_nil];unfold cutAt
      rw [(Ro e m y.2).2]
     ·intro z hz k hk
      rw [List.mem_singleton.1 hz] at hk
      exact pO x (List.mem_of_getElem? hx) k (Um hk)
     ·intro z hz k hk hk'
      rw [List.mem_singleton.1 hz] at hk ⊢
      have hcl:=Tv e y.2 m
      have hlen:=hp.by_.len
      exact Nat.le_trans (Ak9 hp.by_ (l:=(cutAt e y.2 m:Int)) (h:=(x.bytes.len:Int)) (by omega) (by omega) (by omega)) (tops x (List.mem_of_getElem? hx) k (Um hk) hk')
    ·simp only [decide_eq_false_iff_not,gt_iff_lt] at h0
     refine ⟨[],[],?_,trivial,?_,(λx hx=>by cases hx),(λx hx=>by cases hx),Upd.Aj (e6.trans e9)⟩
     ·rw [List.append_nil];exact rowA.ext (e6.trans e9)
     ·show []=(ats e y.2).drop m
      rw [List.drop_eq_nil_of_le (by omega)]
 rintro ⟨psR,_⟩ w6 ⟨plR,MR,rowR,itsR,hMR,oR,topR,u6⟩
 dsimp only at rowR ⊢
 rw [←hMR] at tk2
 have nt6:∀t,t≠146->Cc w5 psA.blk t:=λt ht=>Cc.blk rowA.in (λh=>ht h.symm)
 have tx6:w6.heap[p]?=some (txO e lim tr.ptr a):=u6.get tx5 λhk=>nt6 141 (by decide) _ hk _ _ tx5
 have own6:=own5.ty u6 (nt6 _ (by decide))
 have itsF6:=itsF5.ty u6 (nt6 _ (by decide))
 have ht6:tr.In w6:=ht5.ty u6 (nt6 _ (by decide))
 have o6:=o5.ty u6 (nt6 _ (by decide))
 refine Dh λw7 e7 _=>Ai7 (e7.ext_get tx6) (Ai7 (e7.ext_get tx6) (Vf (ht6.ext e7) λw8 e8=>?_))
 have x8:=e7.trans e8
 have tx8:=x8.ext_get tx6
 refine Ar ?_ ?_
 ·rw [addr_add]
  refine Fz _ 0 λq v hv=>cell_of tx8 ?_
  match q,hv with
  |0,hv=>exact hv
  |q+1,hv=>cases hv
 have emin:(if ((tr.items.length:Nat):Int)<IntKind.wrap .i64 ((j:Int)+1) then ((tr.items.length:Nat):Int) else IntKind.wrap .i64 ((j:Int)+1))=((min (j+1) tr.items.length:Nat):Int):=by
  rw [wrap64 (by omega) (by omega)]
  split<;>omega
 rw [emin]
 have old_its:∀{l:List Pc} {N:Parts},Its w e l N->(∀x∈l,∀k,x.bytes.blk k->a0.blk k->top x.bytes<=top a0)->Its w6 e l N:=λhl htp=>hl.to λx hx b hb=>(o6 x.bytes b hb (htp x hx)).1
 have its_all:Its w6 e (tr.items.take i++(plL++plF++plR)++tr.items.drop (min (j+1) tr.items.length)) (M.take i++(ML++MF++MR)++M.drop (min (j+1) tr.items.length)) :=
  Its.app (Its.app (old_its (hi.take i) λx hx=>tops x (List.mem_of_mem_take hx)) (Its.app (Its.app (old_its itsL topL) itsF6) (old_its itsR topR))) (old_its (hi.drop _) λx hx=>tops x (List.mem_of_mem_drop hx))
 have ed:M.drop (min (j+1) tr.items.length)=M.drop (j+1):=by
  by_cases hc:j+1<=tr.items.length
  ·rw [Nat.min_eq_left hc]
  ·rw [List.drop_eq_nil_of_le (by omega),List.drop_eq_nil_of_le (by omega)]
 have ea:aOf e (M.take i++(ML++MF++MR)++M.drop (min (j+1) tr.items.length))=(aOf e M).take from_++prs e put++(aOf e M).drop to_:=by
  rw [ed,Jo,Jo,Jo,Jo,tk1,tk2,hMF]
  simp only [List.append_assoc]
 have hsA:szs (aOf e (M.take i++(ML++MF++MR)++M.drop (min (j+1) tr.items.length)))<2^59:=by rw [ea];omega
 have hFine:=its_all.fine hsA
 have hjl:min (j+1) tr.items.length<=tr.items.length:=Nat.min_le_right _ _
 have hi_le:i<=min (j+1) tr.items.length:=by
  rcases hs1 with ⟨_,rfl,_⟩|⟨x,hx,_⟩
  ·exact Nat.zero_le _
  ·have:=(List.getElem?_eq_some_iff.1 hx).1;omega
 refine Qs (t:=tr) (n:=i) (m:=min (j+1) tr.items.length) (l:=plL++plF++plR) (ht6.ext x8) (rowR.in.ext x8) hf hFine.left.right hi_le hjl hFine λt' w9 ht' hti e9=>?_
 have x9:=x8.trans e9
 have tx9:=x9.ext_get tx6
 simp only [Pm,addr_add]
 refine Fb tx9 rfl rfl (by show 0+2+1<=4;decide) λw10 u10 n10 _=>?_
 have n10:w10.heap[p]?=some (txO e lim t'.ptr a):=n10
 have nt10:∀t,t≠141->Cc w9 (λk=>k=p) t:=λt ht=>Cc.box tx9 (λh=>ht h.symm)
 have ht10:t'.In w10:=ht'.ty u10 (nt10 _ (by decide))
 have o10:Old w w10 a0 a:=(o6.ty x9 (Aj5 _ _)).ty u10 (nt10 _ (by decide))
 have uA:Upd (Wr w O) w w10:=by
  have hp':Wr w O p:=⟨h.op,Cc.box tx (by decide) p rfl⟩
  have v3:Upd (Wr w O) w w3:=Upd.Aj x3
  have v4:Upd (Wr w O) w w4:=v3.trans (u4.mono λk _ hk=>hk.elim (λh=>h▸hp') λh=>⟨aO k h,Cc.blk own.in (by decide) k h⟩)
  have v5:Upd (Wr w O) w w5:=v4.new u5 λk hk hS=>by have:=rowL4.Ew hS;have:=x2.size;omega
  have v6:Upd (Wr w O) w w6:=v5.new u6 λk hk hS=>by have:=rowA.Ew hS;have:=x2.size;omega
  exact (v6.trans (Upd.Aj x9)).trans (u10.mono λk _ hk=>hk▸hp')
 have hsz10:=uA.size
 have own10:=(own6.ext x9).ty u10 (nt10 _ (by decide))
 have hlA:(ab++bts e put).length=a.len:=by have:=own10.len1;rwa [List.length_map] at this
 rw [List.length_append] at hlA
 refine hK (λk=>O k\/(w.heap.size<=k/\k<w10.heap.size)) (M.take i++(ML++MF++MR)++M.drop (min (j+1) tr.items.length)) w10 ⟨⟨t',a,ab++bts e put,n10,ht10,?_,own10,?_,?_,?_,by omega⟩,lims,by rw [ea];exact hroom,.inl h.op,?_⟩ ea uA (λk hk=>.inl hk) (λk hk=>hk.imp id λh=>h.1)
 ·rw [hti]
  exact (its_all.ext x9).ty u10 (nt10 _ (by decide))
 ·rw [hti]
  have oldT:∀x:Pc,(∃b,By w x.bytes b)->(∀k,x.bytes.blk k->a0.blk k->top x.bytes<=top a0)->∀k,x.bytes.blk k->a.blk k->top x.bytes<=top a:=λx ⟨b,hb⟩ htp=>(o10 x.bytes b hb htp).2
  intro x hx
  rcases List.mem_append.1 hx with hx|hx
  ·rcases List.mem_append.1 hx with hx|hx
   ·exact oldT x (hi.by_ x (List.mem_of_mem_take hx)) (tops x (List.mem_of_mem_take hx))
   ·rcases List.mem_append.1 hx with hx|hx
    ·rcases List.mem_append.1 hx with hx|hx
     ·exact oldT x (itsL.by_ x hx) (topL x hx)
     ·exact topF x hx
    ·exact oldT x (itsR.by_ x hx) (topR x hx)
  ·exact oldT x (hi.by_ x (List.mem_of_mem_drop hx)) (tops x (List.mem_of_mem_drop hx))
 ·rw [hti]
  intro x hx k hk
  have new:w3.heap.size<=k->(∃b,By w10 x.bytes b)->O k\/(w.heap.size<=k/\k<w10.heap.size):=λh1 ⟨b,hb⟩=>.inr ⟨by have:=x3.size;omega,hb.Em hk⟩
  rcases List.mem_append.1 hx with hx|hx
  ·rcases List.mem_append.1 hx with hx|hx
   ·exact .inl (pO x (List.mem_of_mem_take hx) k hk)
   ·rcases List.mem_append.1 hx with hx|hx
    ·rcases List.mem_append.1 hx with hx|hx
     ·exact .inl (oL x hx k hk)
     ·rcases blkF x hx k hk with h1|h1
      ·exact .inl (aO k h1)
      ·exact new h1 (((itsF6.ext x9).ty u10 (nt10 _ (by decide))).by_ x hx)
    ·exact .inl (oR x hx k hk)
  ·exact .inl (pO x (List.mem_of_mem_drop hx) k hk)
 ·intro k hk
  rcases blkA k hk with h1|h1
  ·exact .inl (aO k h1)
  ·exact .inr ⟨by have:=x3.size;omega,own10.in.Em hk⟩
 ·intro k hk
  rcases hk with hk|hk
  ·have:=h.own k hk;omega
  ·exact hk.2
end
section
variable {w w' W W':World}{S:Nat->Prop}{p:Nat}{e:Enc}{lim na:Nat}{O:Nat->Prop}{M:Parts}{tp:Option Addr}{a0 a:Sl}
abbrev edT (f t:Nat) (s:Sl):Cells.T c89:=((f:Int),(t:Int),s,())
theorem Txt.Cp2 (h:Txt w p e lim na O M):w.cell? ⟨p,1,none⟩=some (.int .i64 (lim:Int)):=by
 obtain ⟨t,a,ab,h1,_⟩:=h.ex
 exact cell_of h1 rfl
theorem Ah6 (e:Enc) (l:List Int){i:Nat}{v:Int}(hv:l[i]?=some v):szs (prs e (l.take (i+1)))=szs (prs e (l.take i))+sz e v:=by
 rw [List.take_add_one,hv]
 simp [prs,Dl,Md,Ah7]
theorem Au1 (e:Enc) (l:List Int) (i:Nat):szs (prs e (l.take i))<=szs (prs e l):=by
 have:prs e l=prs e (l.take i)++prs e (l.drop i):=by unfold prs;rw [←List.map_append,List.take_append_drop]
 rw [this,Dl];omega
theorem Ao7 {f t:Nat}{s sp:Sl}{ty ty':TypeId}{put:List Int}(h:Txt w p e lim na O M) (hft:f<=t) (hto:t<=(aOf e M).length) (hs:Cj w s ty 3 (flat c89 [edT f t sp])) (hp:Cj w sp ty' 1 (iv put)) (hfit:Fits e put) (hput:put.length<2^40) (hb:(bts e put).length<2^40)
  (hroom:szs ((aOf e M).take f++prs e put++(aOf e M).drop t)<=lim) {K:Int->Wp} (hK:∀w',Ext w w'->K 0 w') :
  Aa Tryz.prog 81 #[.pointer (some (at0 p)),s.v] rI K w:=by
 refine j81 ?_
 unfold F81
 have few:=h.few;have lims:=h.lims;have hsz:=h.sz
 have hl1:1=s.len:=by have:=Cj.Oi (cs:=c89) (xs:=[edT f t sp]) hs (by decide);simpa using this
 have hpl:put.length=sp.len:=by have:=hp.len1;rwa [List.length_map] at this
 have ht13:szs (aOf e M)=szs ((aOf e M).take t)+szs ((aOf e M).drop t):=by conv=>lhs;rw [←List.take_append_drop t (aOf e M)];rw [Dl]
 have htf:szs ((aOf e M).take f)<=szs ((aOf e M).take t):=by
  have h2:(aOf e M).take t=(aOf e M).take f++((aOf e M).take t).drop f:=by
   conv=>lhs;rw [←List.take_append_drop f ((aOf e M).take t)]
   rw [List.take_take,Nat.min_eq_left hft]
  rw [h2,Dl];omega
 rw [Dl,Dl] at hroom
 have hbl:=Al4 hfit
 refine Ac (λhc=>?_) (λ_=>?_)
 ·simp only [decide_eq_true_eq,gt_iff_lt] at hc;omega
 have rdE:∀{V:World} {K:Addr->Cells.T c89->Wp},Ext w V->(∀q,K q (edT f t sp) V)->ix s.a s.len ((0:Nat):Int) (λq=>lds c89 (q.add (scaled (Int.toNat ((0:Nat):Int)) 3)) (K q)) V:=λx hk=>Ay1 (cs:=c89) (xs:=[edT f t sp]) (hs.ext x) (by decide) (by decide) rfl hk
 have ew1:IntKind.wrap .i64 (((0:Nat):Int)+1)=((1:Nat):Int):=by decide
 refine Aq5 h λw1 e1=>?_
 refine Ag (λ_ W=>Ext w W) ?_ ?_
 ·refine Bz (λx W=>((x=(0,((0:Nat):Int),()))\/x.2.1=((1:Nat):Int))/\Ext w W) (λx _=>(1-x.2.1).toNat) ⟨.inl rfl,e1⟩ ?_
  rintro x W ⟨rfl|hx,eW⟩
  ·refine Ac (λ_=>?_) (λhc=>?_)
   ·refine rdE eW λq=>(St.start W).Ad λb8 w2 S2 e2=>S2.Ae 0 rfl rfl rfl rfl λw3 S3 u3=>?_
    refine Ag (λx W'=>x=(false,())/\w3=W') ?_ ?_
    ·refine S3.ld 0 rfl (x:=(f:Int)) rfl (Ac (λhc=>?_) (λ_=>S3.ld 0 rfl (x:=(t:Int)) rfl (S3.ld 0 rfl (x:=(f:Int)) rfl (Ac (λhc=>?_) (λ_=>S3.ld 0 rfl (x:=(t:Int)) rfl ⟨Dx ?_,rfl⟩)))))
     ·simp only [decide_eq_true_eq] at hc;omega
     ·simp only [decide_eq_true_eq] at hc;omega
     ·simp only [decide_eq_true_eq,gt_iff_lt,Bool.false_eq_true,iff_false];omega
    rintro _ _ ⟨rfl,rfl⟩
    refine Ap (S3.ld 0 rfl (x:=(t:Int)) rfl ⟨⟨.inr ?_,eW.trans S3.upd⟩,?_⟩)
    ·exact ew1
    ·show (1-IntKind.wrap .i64 (((0:Nat):Int)+1)).toNat<(1-((0:Nat):Int)).toNat
     rw [ew1];decide
   ·exact eW
  ·refine Ac (λhc=>?_) (λ_=>eW)
   simp only [decide_eq_true_eq] at hc;omega
 rintro _ w2 e2
 refine N9 (h.ext e2) λw3 e3=>?_
 have x3:=e2.trans e3
 obtain ⟨B0,hB0⟩:∃B0,B0=szs (aOf e M):=⟨_,rfl⟩
 rw [←hB0]
 refine Ag (λx W=>x=(((B0+(bts e put).length:Nat):Int),())/\Ext w W) ?_ ?_
 ·refine Bz (λx W=>((x=((B0:Int),((0:Nat):Int),()))\/x=(((B0+(bts e put).length:Nat):Int),((1:Nat):Int),()))/\Ext w W) (λx _=>(1-x.2.1).toNat) ⟨.inl rfl,x3⟩ ?_
  rintro _ W ⟨rfl|rfl,eW⟩
  ·refine Ac (λ_=>?_) (λhc=>?_)
   ·refine Ag (λx W=>x=(((B0+(bts e put).length:Nat):Int),())/\Ext w W) ?_ ?_
    ·refine rdE eW λq=>(St.start W).Ad λb8 w4 S4 e4=>S4.Ae 0 rfl rfl rfl rfl λw5 S5 u5=>S5.ld 0 rfl (x:=sp) rfl ?_
     refine Bz (λx V=>(∃i:Nat,i<=put.length/\x=(((B0+szs (prs e (put.take i)):Nat):Int),(i:Int),()))/\Ext w V) (λx _=>((put.length:Int)-x.2.1).toNat) ⟨⟨0,Nat.zero_le _,by simp [prs,Ah7]⟩,eW.trans S5.upd⟩ ?_
     rintro _ V ⟨⟨i,hi,rfl⟩,eV⟩
     refine Ac (λhc=>?_) (λhc=>?_)
     ·simp only [decide_eq_true_eq] at hc
      obtain ⟨v,hv⟩:∃v,put[i]?=some v:=⟨_,List.getElem?_eq_getElem (by omega)⟩
      have hf:=hfit v (List.mem_of_getElem? hv)
      dsimp only
      refine Zg (c:=.int .i64) (xs:=put) (hp.ext eV) (by omega) (x:=v) (by rw [Int.toNat_natCast];exact hv) λq2=>(h.ext eV).enc (Bf7 λw6 e6=>?_)
      refine Ac (λhc=>?_) (λ_=>?_)
      ·simp only [beq_iff_eq] at hc;exact absurd (show sz e v=0 by omega) hf
      have hstep:=Ah6 e put hv
      have hle:=Au1 e put (i+1)
      have ewi:IntKind.wrap .i64 ((i:Int)+1)=((i+1:Nat):Int):=by rw [wrap64 (by omega) (by omega)];omega
      have ewb:IntKind.wrap .i64 (((B0+szs (prs e (put.take i)):Nat):Int)+((sz e v:Nat):Int))=((B0+szs (prs e (put.take (i+1))):Nat):Int):=by rw [wrap64 (by omega) (by omega)];omega
      rw [ewi,ewb]
      exact ⟨⟨⟨i+1,by omega,rfl⟩,eV.trans e6⟩,by omega⟩
     ·simp only [decide_eq_false_iff_not] at hc
      have:i=put.length:=by omega
      subst this
      rw [List.take_length,←hbl]
      exact ⟨rfl,eV⟩
    rintro _ V ⟨rfl,eV⟩
    refine ⟨⟨.inr ?_,eV⟩,?_⟩
    ·rw [ew1]
    ·show (1-IntKind.wrap .i64 (((0:Nat):Int)+1)).toNat<(1-((0:Nat):Int)).toNat
     rw [ew1];decide
   ·simp only [decide_eq_false_iff_not] at hc;omega
  ·refine Ac (λhc=>?_) (λ_=>⟨rfl,eW⟩)
   simp only [decide_eq_true_eq] at hc;omega
 rintro _ w4 ⟨rfl,e4⟩
 obtain ⟨T,hT⟩:∃T,T=szs ((aOf e M).take f)+(bts e put).length+szs ((aOf e M).drop t):=⟨_,rfl⟩
 refine Ag (λx W=>x=((T:Int),())/\Ext w W) ?_ ?_
 ·refine Bz (λx W=>((x=(((B0+(bts e put).length:Nat):Int),((0:Nat):Int),()))\/x=((T:Int),((1:Nat):Int),()))/\Ext w W) (λx _=>(1-x.2.1).toNat) ⟨.inl rfl,e4⟩ ?_
  rintro _ W ⟨rfl|rfl,eW⟩
  ·refine Ac (λ_=>?_) (λhc=>?_)
   ·refine Ag (λx W=>x=((T:Int),())/\Ext w W) ?_ ?_
    ·refine rdE eW λq=>(St.start W).Ad λb8 w5 S5 e5=>S5.Ae 0 rfl rfl rfl rfl λw6 S6 u6=>S6.ld 0 rfl (x:=(t:Int)) rfl (S6.ld 0 rfl (x:=(f:Int)) rfl ?_)
     refine Ac (λhc=>?_) (λhc=>?_)
     ·refine S6.drew λw7 S7 e7 _=>S7.ld 0 rfl (x:=(t:Int)) rfl (S7.ld 0 rfl (x:=(f:Int)) rfl ?_)
      refine Aa3 (h.ext (eW.trans S7.upd)) hto λw8 e8=>?_
      have S8:=S7.ext e8
      refine S8.keep 0 rfl (v:=.int .i64 (f:Int)) rfl (Aa3 (h.ext (eW.trans S8.upd)) (by omega) λw9 e9=>?_)
      have q1:(smT (msr ((aOf e M).take t))).2.1=((szs ((aOf e M).take t):Nat):Int):=by show (((msr _).bytes:Nat):Int)=_;rw [Jy ((Ji e M).take t)]
      have q2:(smT (msr ((aOf e M).take f))).2.1=((szs ((aOf e M).take f):Nat):Int):=by show (((msr _).bytes:Nat):Int)=_;rw [Jy ((Ji e M).take f)]
      rw [q1,q2]
      refine ⟨?_,eW.trans (S8.ext e9).upd⟩
      dsimp only
      rw [wrap64 (a:=((szs ((aOf e M).take t):Nat):Int)-((szs ((aOf e M).take f):Nat):Int)) (by omega) (by omega),wrap64 (by omega) (by omega)]
      congr 1;omega
     ·simp only [decide_eq_false_iff_not,gt_iff_lt] at hc
      have:f=t:=by omega
      subst this
      refine ⟨?_,eW.trans S6.upd⟩
      dsimp only
      congr 1;omega
    rintro _ V ⟨rfl,eV⟩
    refine ⟨⟨.inr ?_,eV⟩,?_⟩
    ·rw [ew1]
    ·show (1-IntKind.wrap .i64 (((0:Nat):Int)+1)).toNat<(1-((0:Nat):Int)).toNat
     rw [ew1];decide
   ·simp only [decide_eq_false_iff_not] at hc;omega
  ·refine Ac (λhc=>?_) (λ_=>⟨rfl,eW⟩)
   simp only [decide_eq_true_eq] at hc;omega
 rintro _ w5 ⟨rfl,e5⟩
 simp only [Pm,addr_add]
 refine Af0 (x:=(lim:Int)) (h.ext e5).Cp2 (Ac (λhc=>?_) (λ_=>hK w5 e5))
 simp only [decide_eq_true_eq,gt_iff_lt] at hc;omega
theorem As7 {f t:Nat}{s sp:Sl}{ty ty':TypeId}{put:List Int}(h:Txt w p e lim na O M) (hft:f<=t) (hto:t<=(aOf e M).length) (hs:Cj w s ty 3 (flat c89 [edT f t sp])) (hsep:∀k,s.blk k->¬O k) (hp:Cj w sp ty' 1 (iv put)) (hsp:∀k,sp.blk k->¬O k) (hfit:Fits e put) (hput:put.length<2^40) (hna:na+(bts e put).length<2^40)
  (hroom:szs ((aOf e M).take f++prs e put++(aOf e M).drop t)<=lim) {K:Int->Wp}
  (hK:∀O' M' w',Txt w' p e lim (na+(bts e put).length) O' M'->aOf e M'=(aOf e M).take f++prs e put++(aOf e M).drop t->Upd (Wr w O) w w'->(∀k,O k->O' k)->(∀k,O' k->O k\/w.heap.size<=k)->K 0 w') :
  Aa Tryz.prog 46 #[.pointer (some (at0 p)),s.v] rI K w:=by
 refine j46 ?_
 unfold F46
 have hl1:1=s.len:=by have:=Cj.Oi (cs:=c89) (xs:=[edT f t sp]) hs (by decide);simpa using this
 have hpl:put.length=sp.len:=by have:=hp.len1;rwa [List.length_map] at this
 refine Ao7 h hft hto hs hp hfit hput (by omega) hroom λw1 e1=>Ap ?_
 have ew0:IntKind.wrap .i64 (((s.len:Nat):Int)-1)=0:=by rw [←hl1];decide
 rw [ew0]
 refine Ag (λ_ W=>∃O' M',Txt W p e lim (na+(bts e put).length) O' M'/\aOf e M'=(aOf e M).take f++prs e put++(aOf e M).drop t/\Upd (Wr w O) w W/\(∀k,O k->O' k)/\(∀k,O' k->O k\/w.heap.size<=k)) ?_ (λ_ W ⟨O',M',g1,g2,g3,g4,g5⟩=>hK O' M' W g1 g2 g3 g4 g5)
 refine Bz (λx W=>(x=(((0:Nat):Int),())/\Ext w W)\/(x=(-1,())/\∃O' M',Txt W p e lim (na+(bts e put).length) O' M'/\aOf e M'=(aOf e M).take f++prs e put++(aOf e M).drop t/\Upd (Wr w O) w W/\(∀k,O k->O' k)/\(∀k,O' k->O k\/w.heap.size<=k))) (λx _=>(x.1+1).toNat) (.inl ⟨rfl,e1⟩) ?_
 rintro _ W (⟨rfl,eW⟩|⟨rfl,hR⟩)
 ·refine Ac (λ_=>?_) (λhc=>?_)
  ·refine Ag (λ_ W=>∃O' M',Txt W p e lim (na+(bts e put).length) O' M'/\aOf e M'=(aOf e M).take f++prs e put++(aOf e M).drop t/\Upd (Wr w O) w W/\(∀k,O k->O' k)/\(∀k,O' k->O k\/w.heap.size<=k)) ?_ ?_
   ·refine Ay1 (cs:=c89) (xs:=[edT f t sp]) (hs.ext eW) (by decide) (by decide) (x:=edT f t sp) rfl λq=>(St.start W).Ad λb8 w2 S2 e2=>S2.Ae 0 rfl rfl rfl rfl λw3 S3 u3=>?_
    refine Ag (λx W'=>x=(decide (f<t\/0<put.length),())/\w3=W') ?_ ?_
    ·refine S3.ld 0 rfl (x:=(f:Int)) rfl (S3.ld 0 rfl (x:=(t:Int)) rfl (Ac (λhc=>⟨Dx ?_,rfl⟩) (λhc=>S3.ld 0 rfl (x:=sp) rfl ⟨Dx ?_,rfl⟩)))
     all_goals simp only [decide_eq_true_eq,decide_eq_false_iff_not,true_iff,gt_iff_lt] at *
     all_goals omega
    rintro _ _ ⟨rfl,rfl⟩
    have x3:=eW.trans S3.upd
    refine Ac (λhc=>?_) (λhc=>?_)
    ·refine S3.ld 0 rfl (x:=(f:Int)) rfl (S3.ld 0 rfl (x:=(t:Int)) rfl (S3.ld 0 rfl (x:=sp) rfl ?_))
     refine Aa8 (h.ext x3) hft hto (hp.ext x3) hsp hfit hna hput (Nat.le_trans hroom (Nat.le_trans h.lims (by decide))) λO' M' w4 tx4 ea u4 o1 o2=>?_
     exact ⟨O',M',tx4,ea,Upd.new (Upd.Aj x3) u4 (λk hk hq=>⟨hq.1,λc fr hc=>hq.2 c fr (x3.ext_get hc)⟩),o1,λk hk=>(o2 k hk).imp id λh=>by have:=x3.size;omega⟩
    ·simp only [decide_eq_false_iff_not,not_or] at hc
     obtain rfl:f=t:=by omega
     obtain rfl:put=[]:=List.length_eq_zero_iff.1 (by omega)
     exact ⟨O,M,h.ext x3,by simp [prs],Upd.Aj x3,λk hk=>hk,λk hk=>.inl hk⟩
   ·rintro _ W' hR
    exact ⟨.inr ⟨rfl,hR⟩,by show (IntKind.wrap .i64 (((0:Nat):Int)-1)+1).toNat<(((0:Nat):Int)+1).toNat;decide⟩
  ·simp only [decide_eq_false_iff_not] at hc;omega
 ·exact Ap hR
end
end Go.Proofs.YtmooldhpiopcgaaGreatDoor
namespace Go.Proofs.YtmooldhpiopcgaaGreatDoor
namespace Dq
open Go Go.Vx Dsk Cdc Trx Flp
section
variable {w w':World}{S P F F':Nat->Prop}{d:Nat}{D:Dk}{N:Nat}{fs:Fls}{n:Nm}{V:Vw}{b:List UInt8}
section
variable {st f:Nat}{X:Fil}{sm sd so:Sl}{new was:Bool}{dat old:List UInt8}{B:Nat}{enc:Int}
theorem Stg.far (h:Stg w st d f F D N X sm sd so enc new was dat old B) (u:Upd S w w') (h0:¬S 0) (h1:¬S st) (h2:∀k,F k->¬S k) (h3:¬S f) (h4:∀k,sm.blk k->¬S k) (h5:∀k,so.blk k->¬S k) (h6:∀k,sd.blk k->¬S k):Stg w' st d f F D N X sm sd so enc new was dat old B :=
 ⟨u.get h.box h1,h.disk.frame u h2,⟨h.file.at_.upd u h3 h4,h.file.nf,h.file.nm,h.file.laid.upd u h0,h.file.small,h.file.name,h.file.nz⟩,h.old.upd u λk _ hk=>h5 k hk,h.dat.upd u λk _ hk=>h6 k hk,h.oF,h.dF,h.nst,h.lst,h.lf,h.lF⟩
set_option maxHeartbeats 1000000 in
theorem Ag5 {w3:World}{x:Cells.T c39}{rows:List (Cells.T c65)}{data T:List UInt8}{b1:Nat}(hst:Stg w st d f F D N X sm sd so enc new was dat old B) (sol:Sol D (Ec (Az fs) x.2.1 (some T))) (hN:N+100<=2^30) (e3:Ext w3 w) (h3:Scn w3 x rows fs data) (n3:w3.heap[b1]?=some (.cells (Ko x) 39 (0,0))) (hB:w3.heap.size=B)
  (hs:Sj fs x.2.1 x.2.2.1 data=true) (hm2:X.mark.length<=old.length) (hold:old.length<=60000) (hT:old.take X.mark.length++data=T) {J:Bool×Unit->Wp} (hJ:∀F' w' k,Stg w' st d f F' { D with steps:=k } (N+40) X sm sd so enc new was dat old B->Upd F w w'->(∀k,F' k->F k\/w.heap.size<=k)->J (false,()) w') :
  (drew <|
   nn (some (at0 st)) λp51 =>
   ld (.ptr) p51 λ(x52:Option Addr) =>
   ld (.str) (⟨b1,1,none⟩:Addr) λ(x53:ByteArray) =>
   ld (.sl) (⟨b1,3,none⟩:Addr) λ(x54:Sl) =>
   Aa Tryz.prog 23 #[(.pointer (some (at0 st))),x54.v] rS λ(x55:Sl) =>
   keep (λw=>w.cell? (⟨b1,1,none⟩:Addr)=some (Cell.val (.str) x53)) <|
   keep (λw=>w.cell? p51=some (Cell.val (.ptr) x52)) <|
   Aa Tryz.prog 28 #[(.pointer x52),(.string x53),x55.v] rB λ(x56:Bool) =>
   sif (!x56) (
    J (true,())) (
    lds c39 (at0 b1) λ(x57:(Sl×ByteArray×Int×Sl×Unit)) =>
    Aa Tryz.prog 29 #[(.pointer (some (at0 st))),(.agg (Cells.vals c39 x57).toArray),(.bool true)] rB λ(x58:Bool) =>
    J ((!x58),()))) w:=by
 obtain ⟨hu,he,hdl,hfl,hfs⟩:=Xo hs
 obtain ⟨hn,hsn⟩:=Jl hu
 refine Dh λw1 e1 _=>Af ?_
 have s1:=hst.ext e1
 have e31:=e3.trans e1
 refine Ah s1.box (off:=0) (x:=some (at0 d)) rfl (Ah (e31.ext_get n3) (off:=1) (x:=x.2.1) rfl (Ah (e31.ext_get n3) (off:=3) (x:=x.2.2.2.1) rfl ?_))
 refine I5 s1 hm2 (by omega) (h3.ext e31).data (by omega) λw2 s2 o2 e2=>Ar (cell_of (off:=1) (e2.ext_get (e31.ext_get n3)) rfl) (Ar (cell_of (off:=0) (e2.ext_get s1.box) rfl) ?_)
 rw [hT] at o2
 have st2:=s1.ext e2
 have hTl:T.length<=120000:=by rw [←hT,List.length_append,List.length_take];omega
 refine Vp st2.disk (by omega) o2.in.x (by omega) (.inr λk hk hh=>by have:=o2.Ew hk;have:=s1.disk.lt k hh;omega) λF3 w3' A3 u3 hF3=>?_
 rw [Ao8 sol hn Vt] at A3 ⊢
 rw [decide_eq_true (show (0:Int)=0/\T=T from ⟨rfl,rfl⟩)]
 have st3:=st2.turn A3 u3 hF3
 have e33:Ext w3 w3':=(e31.trans e2).step u3 λk hk=>by have:=hst.lF k hk;omega
 have z12:=(e1.trans e2).size
 refine Ac (λh=>by cases h) λ_=>Gi (x:=x) (e33.ext_get n3) (λi v hv=>by rw [Nat.zero_add,←Array.getElem?_toList];exact hv) ?_
 refine Yw (w0:=w3) st3 (sol.st _) h3.files e33 hB (λf hf=>(hfs f hf).1) (by omega) (by omega) Cc2 Cc1 (λ_=>by rw [Vt];simp) λF4 w4 k4 st4 u4 hF4=>?_
 have z3:=u3.size
 refine hJ F4 w4 k4 (st4.mono (by omega)) (((Upd.Aj (e1.trans e2)).trans u3).new u4 λk hk hh=>(hF3 k hh).resolve_right (by omega)) λk hk=>(hF4 k hk).elim (λhh=>(hF3 k hh).imp id λh=>by omega) λh=>.inr (by omega)
end
set_option maxHeartbeats 4000000 in
theorem Ba8 (hl:Kw w){x:Cells.T c39}{rows:List (Cells.T c65)}{data:List UInt8}(h:Scn w x rows fs data){sr:Sl}{rrows:List (Cells.T c86)}{rs:List (List UInt8×List (Int×Bq))}(hr:Ag8 w sr rrows rs)
  {c:Cells.T c72} {bytes:List Int} (hc:SlX w c.2.1 1 (iv bytes)) (hcl:bytes.length<=2^44) {K:Bool->Wp} (hK:∀w',Ext w w'->K true w') :
  Aa Tryz.prog 13 #[.agg (Ko x),sr.v,.agg (Cells.vals c72 c).toArray] rB K w:=by
 refine j13 (a0:=x) (a1:=sr) (a2:=c) ?_
 unfold F13
 have hrl:rrows.length=sr.len:=hr.row.Oi (cs:=c86) (by decide)
 have hrl2:=hr.len
 refine Aq λb1 w0 e0 n0 hb1 hz1=>Aq λb2 w1 e1' m1 hb2 hz2=>?_
 have n1:w1.heap[b1]?=some (.cells (Ko x) 39 (0,0)):=e1'.ext_get n0
 have m1:w1.heap[b2]?=some (.cells (Cells.vals c72 c).toArray 72 (0,0)):=m1
 have e1:=e0.trans e1'
 clear n0
 refine Bk7 (hl.ext e1) λw2 e2=>Ac (λh=>by cases h) λ_=>?_
 have sl:∀{W:World},W.heap[b1]?=some (.cells (Ko x) 39 (0,0))->∀{K:Cells.T c39->Wp},K x W->lds c39 (at0 b1) K W:=λhb _ hk =>
  Gi (x:=x) hb (λi v hv=>by rw [Nat.zero_add,←Array.getElem?_toList];exact hv) hk
 refine sl (e2.ext_get n1) (Au8 ((h.ext e1).ext e2) λw3 e3=>Ac (λ_=>hK _ ((e1.trans e2).trans e3)) λhs=>?_)
 have hs:Sj fs x.2.1 x.2.2.1 data=true:=by simpa using hs
 obtain ⟨hu,he,hdl,hfl2,hfs⟩:=Xo hs
 obtain ⟨hn,hsn⟩:=Jl hu
 have e13:=e2.trans e3
 have h3:=(h.ext e1).ext e13
 have n3:=e13.ext_get n1
 have m3:=e13.ext_get m1
 have e03:=e1.trans e13
 have fin:∀{W:World},Ext w3 W->Ext w W:=λe=>e03.trans e
 clear e2 e3
 refine sl n3 (Bn8 ((hl.ext e1).ext e13) h3 hs λw4 st d f F D X sm sd so lod e4 hst hS=>Ac (λh=>by cases h) λ_=>?_)
 obtain ⟨hm1,hm2⟩:=hS.By9
 have hm3:=hS.Ck7
 have hold:=Cf6 (λf hf=>(hfs f hf).2) x.2.1
 have hXn:=hS.name
 have hvb:∀m b,Az fs m=some b->b.length<=60003:=λm b hb=>by
  have:=Py (P:=λ_ b=>b.length<=60000) (λf hf=>(hfs f hf).2) m b hb;omega
 have hvs:=Be7 (λf hf=>(hfs f hf).1) x.2.1
 obtain ⟨L,hLd⟩:∃L,L=x.2.1::fs.map (·.1):=⟨_,rfl⟩
 have hL:L.length<=15:=by rw [hLd];simp only [List.length_cons,List.length_map];omega
 have hVL:∀m,Az fs m≠none->m∈L:=by rw [hLd];exact Ao1 fs x.2.1
 have hnL:x.2.1∈L:=by rw [hLd];exact List.mem_cons_self
 have hfirst:Rp D X (Az fs):=Rp.first hS.sol hst.disk.ok hS.space (by rw [hXn];exact hvs) hvb (by rw [hXn];exact hS.known)
 refine Ag (λ_ W=>∃F' D' X',Stg W st d f F' D' 121000 X' sm sd so lod.enc lod.new (Az fs x.2.1).isSome lod.data ((Az fs x.2.1).getD []) w3.heap.size/\Rp D' X' (Az fs)/\X'.mark=X.mark/\X'.name=x.2.1/\Ext w3 W) ?_ ?_
 ·refine Bz (λs W=>∃(i:Nat) (F':Nat->Prop) (D':Dk) (X':Fil),s=((i:Int),())/\i<=rs.length/\i<=20/\Stg W st d f F' D' (40+6000*i) X' sm sd so lod.enc lod.new (Az fs x.2.1).isSome lod.data ((Az fs x.2.1).getD []) w3.heap.size/\Rp D' X' (Az fs)/\X'.mark=X.mark/\X'.name=x.2.1/\Ext w3 W) (λs _=>rs.length-s.1.toNat)
   ⟨0,F,D,X,rfl,Nat.zero_le _,Nat.zero_le _,hst.mono (by omega),hfirst,rfl,hXn,e4⟩ ?_
  rintro _ W ⟨i,F1,D1,X1,rfl,hi,hi20,st1,hrp,hmk,hnm,e3W⟩
  dsimp only
  refine Bj (decide (i<rs.length/\i<20),()) (Ac (λh1=>⟨Dx ?_,rfl⟩) λh1=>⟨Dx ?_,rfl⟩) (Ac (λhlt=>?_) λ_=>⟨F1,D1,X1,st1.mono (by omega),hrp,hmk,hnm,e3W⟩)
  ·have h1:(i:Int)<((sr.len:Nat):Int):=of_decide_eq_true h1
   rw [decide_eq_true_eq,decide_eq_true_eq];omega
  ·have h1:¬(i:Int)<((sr.len:Nat):Int):=of_decide_eq_false h1
   rw [decide_eq_true_eq]
   constructor
   ·intro hh;cases hh
   ·intro hh;omega
  obtain ⟨hlt,hlt20⟩:i<rs.length/\i<20:=of_decide_eq_true hlt
  rw [wrap64 (by omega) (by omega)]
  have hrW:=hr.ext (fin e3W)
  obtain ⟨t,tW⟩:=SlX.Af2 hrW.row (by omega)
  obtain ⟨r,hr1⟩:∃r,rrows[i]?=some r:=⟨_,List.getElem?_eq_getElem (by omega)⟩
  obtain ⟨g,hg1⟩:∃g,rs[i]?=some g:=⟨_,List.getElem?_eq_getElem hlt⟩
  have hr':rrows[Int.toNat (i:Int)]?=some r:=by rw [Int.toNat_natCast];exact hr1
  obtain ⟨q1,⟨frows,q2⟩,q3⟩:=hrW.at_ i r g hr1 hg1
  have q1l:=Ic q1
  refine Ag (λ_ W'=>∃F' D' X',Stg W' st d f F' D' (40+6000*(i+1)) X' sm sd so lod.enc lod.new (Az fs x.2.1).isSome lod.data ((Az fs x.2.1).getD []) w3.heap.size/\Rp D' X' (Az fs)/\X'.mark=X.mark/\X'.name=x.2.1/\Ext w3 W') ?_ ?_
  ·refine D8 (c:=.sl) (cs:=c86) (y:=r.1) tW (by omega) hr' rfl λ_=>Ac (λ_=>⟨F1,D1,X1,st1.mono (by omega),hrp,hmk,hnm,e3W⟩) λhle=>?_
   have hle:g.1.length<=60000:=by have hle:¬((r.1.len:Nat):Int)>60000:=of_decide_eq_false hle;omega
   refine D8 (c:=.sl) (cs:=c86) (y:=r.1) tW (by omega) hr' rfl λ_=>Ac6 st1 hS.rng q1 (by omega) λw5 p e O M hT hM e5 hO=>Dh λw6 e6 _=>Af ?_
   have e56:=e5.trans e6
   have st6:=st1.ext e56
   have z5:=e5.size
   have t6:Xl w6 p e O M F1 f g.1:=Xl.ext ⟨hT,hM,λk hk=>by
    have h1:=hO k hk
    exact ⟨λhh=>by have:=st1.disk.lt k hh;omega,λhh=>by have:=lt_of_heap st1.file.at_.box;omega⟩⟩ e6
   have tW6:=tW.ext e56
   refine Ah st6.box (off:=0) (x:=some (at0 d)) rfl (Vm (c:=.sl) (cs:=c86) (j:=1) (y:=r.2.1) tW6 (by omega) hr' rfl λ_=>?_)
   have q26:=Fe.ext (B:=0) q2 e56
   refine Ae9 q26 q3 λsq rows' w7 hq e7=>Ar (cell_of (off:=0) (e7.ext_get st6.box) rfl) ?_
   have st7:=st6.ext e7
   have t7:=t6.ext e7
   have hml:=Ap9 g.2
   refine Ck3 st7.disk (hq.in.mono λk hk=>⟨hk.2,λhh=>by have:=st6.disk.lt k hh;omega⟩) (by omega) λF8 w8 A8 u8 hF8=>Ac (λh=>by cases h) λ_=>Af ?_
   have st8:=st7.turn A8 u8 hF8
   have t8:=t7.turn st7.disk u8 hF8
   have e38:Ext w3 w8:=((e3W.trans e56).trans e7).step u8 λk hk=>st7.lF k hk
   rw [addr_add]
   refine Ah st8.box (off:=0+1) (x:=some (at0 f)) rfl (Cc0 st8 t8 (by omega) λF9 w9 st9 t9 u9 hF9=>?_)
   obtain ⟨rd1,rd2⟩:=hrp.round (b:=g.1) (by rw [hnm];exact hu) hvb (by rw [hnm];exact hvs) hL hVL (by rw [hnm];exact hnL) (by rw [hmk,List.length_append];omega) g.2
   have e39:Ext w3 w9:=e38.step u9 λk hk=>hk.elim (st8.lF k) λhh=>by rw [hh];exact st8.lf
   have hr9:=hr.ext (fin e39)
   obtain ⟨tq,tW9⟩:=SlX.Af2 hr9.row (by omega)
   obtain ⟨q19,⟨frows9,q29⟩,q39⟩:=hr9.at_ i r g hr1 hg1
   obtain ⟨er,her⟩:∃er,er=(Eo (plan D1 (Hw g.2)) X1 g.1 false).2.1:=⟨_,rfl⟩
   rw [←her] at rd1 ⊢
   obtain ⟨sm1,sm2⟩:=Ky (D:=plan D1 (Hw g.2)) (X:=X1) (b:=g.1) (force:=false)
   refine Ag (λy W'=>y=(false,())/\Ext w9 W') ?_ ?_
   ·refine Dh λw10 e10 _=>Bz4 (c:=.sl) (cs:=c86) (y:=r.1) (tW9.ext e10) hr1 rfl λp hp=>Aa1 (t9.ext e10).txt λs11 w11 by_ e11=>Ar (hp w11 e11) ?_
    rw [t9.is] at by_
    refine Ad5 by_.x ((q19.ext e10).ext e11) (by omega) λw12 e12=>?_
    rw [decide_eq_true (show g.1=g.1 from rfl)]
    have e912:=(e10.trans e11).trans e12
    refine Ac (λh=>by cases h) λ_=>Vm (c:=.sl) (cs:=c86) (j:=1) (y:=r.2.1) (tW9.ext e912) (by omega) (by rw [Int.toNat_natCast];exact hr1) rfl λ_=>Ae9 (Fe.ext (B:=0) q29 e912) q39 λs13 rows13 w13 h13 e13'=>?_
    have hl13:(Hw g.2).length=s13.len:=by rw [←h13.len];exact h13.row.Oi (cs:=Gj) (by decide)
    refine Ac (λh0=>?_) λ_=>⟨rfl,e912.trans e13'⟩
    have h0:Hw g.2=[]:=List.length_eq_zero_iff.1 (by have:((s13.len:Nat):Int)=0:=(by simpa using h0);omega)
    rw [rd1 h0]
    exact ⟨rfl,e912.trans e13'⟩
   rintro _ w10 ⟨rfl,e10⟩
   exact Ap ⟨F9,_,_,(st9.ext e10).mono (by omega),rd2,sm1.trans hmk,sm2.trans hnm,e39.trans e10⟩
  ·rintro _ W2 ⟨F2,D2,X2,st2,hrp2,hmk2,hnm2,e3W2⟩
   refine ⟨⟨i+1,F2,D2,X2,by rw [show ((i:Int)+1)=((i+1:Nat):Int) by omega],by omega,by omega,st2,hrp2,hmk2,hnm2,e3W2⟩,?_⟩
   show rs.length-((i:Int)+1).toNat<rs.length-(i:Int).toNat
   omega
 rintro _ w5 ⟨F5,D5,X5,st5,hrp5,hmk5,hnm5,e35⟩
 have n5:=e35.ext_get n3
 refine Ah n5 (off:=3) (x:=x.2.2.2.1) rfl (Ac6 st5 hS.rng (h3.ext e35).data (by omega) λw6 p e O M hT hM e6 hO=>Af ?_)
 have st6:=st5.ext e6
 have t6:Xl w6 p e O M F5 f data:=⟨hT,hM,λk hk=>by
  have h1:=hO k hk
  exact ⟨λhh=>by have:=st5.disk.lt k hh;omega,λhh=>by have:=lt_of_heap st5.file.at_.box;omega⟩⟩
 refine Ah st6.box (off:=0) (x:=some (at0 d)) rfl (Ck4 st6.disk λF7 w7 A7 u7 hF7=>?_)
 have st7:=st6.turn A7 u7 hF7
 have t7:=t6.turn st6.disk u7 hF7
 have e37:Ext w3 w7:=(e35.trans e6).step u7 λk hk=>st6.lF k hk
 obtain ⟨l1,l2,l3⟩:=hrp5.last (b:=data) (by rw [hnm5];exact hu) hvb (by rw [hnm5];exact hvs) hL hVL (by rw [hnm5];exact hnL) (by rw [hmk5,List.length_append];omega)
 obtain ⟨sm1,sm2⟩:=Ky (D:=plan D5 []) (X:=X5) (b:=data) (force:=false)
 obtain ⟨r,hrr⟩:∃r,r=Eo (plan D5 []) X5 data false:=⟨_,rfl⟩
 rw [hnm5,hmk5] at l2
 rw [hmk5] at sm1
 rw [hnm5] at sm2
 obtain ⟨T,hTd⟩:∃T,T=X.mark++data:=⟨_,rfl⟩
 rw [←hTd] at l2
 have hTl:T.length<=60003:=by rw [hTd,List.length_append];omega
 rw [←hrr] at l1 l2 l3 sm1 sm2
 have hTT:∀{Y:Fil},Y.mark=X.mark->((Az fs x.2.1).getD []).take Y.mark.length++data=T:=λ{Y} hY=>by rw [hY,←hm1,hTd]
 refine Ag (λy W=>y=(false,())/\∃F',Stg W st d f F' r.1 130000 r.2.2 sm sd so lod.enc lod.new (Az fs x.2.1).isSome lod.data ((Az fs x.2.1).getD []) w3.heap.size/\Xl W p e O M F' f data/\Ext w3 W) ?_ ?_
 ·refine Ac (λh=>by cases h) λ_=>Af ?_
  rw [addr_add]
  refine Ah st7.box (off:=0+1) (x:=some (at0 f)) rfl (Cc0 st7 t7 (by omega) λF8 w8 st8 t8 u8 hF8=>?_)
  rw [←hrr] at st8 ⊢
  refine ⟨?_,F8,st8.mono (by omega),t8,e37.step u8 λk hk=>hk.elim (st7.lF k) λhh=>by rw [hh];exact st7.lf⟩
  rw [l1];rfl
 rintro _ w8 ⟨rfl,F8,st8,t8,e38⟩
 refine Ap ?_
 obtain ⟨J,hJ⟩:∃J:Bool×Unit->World->Prop,J=λy W=>y=(false,())/\∃F' k,Stg W st d f F' { r.1 with steps:=k } 140000 r.2.2 sm sd so lod.enc lod.new (Az fs x.2.1).isSome lod.data ((Az fs x.2.1).getD []) w3.heap.size/\Xl W p e O M F' f data/\Ext w3 W:=⟨_,rfl⟩
 refine Ag J (Ag5 st8 l2 (by omega) e38 h3 n3 rfl hs (by rw [sm1];exact hm2) hold (hTT sm1) λF9 w9 k9 st9 u9 hF9=>by rw [hJ];exact ⟨rfl,F9,k9,st9.mono (by omega),t8.turn st8.disk u9 hF9,e38.step u9 λk hk=>st8.lF k hk⟩) ?_
 rw [hJ]
 clear hJ J
 rintro _ w9 ⟨rfl,F9,k9,st9,t9,e39⟩
 refine Ap (Dh λw10 e10 _=>Af (Ah ((st9.ext e10).box) (off:=0) (x:=some (at0 d)) rfl ?_))
 have st10:=st9.ext e10
 have e3a:=e39.trans e10
 refine Gi (x:=c) (e3a.ext_get m3) (λi v hv=>by rw [Nat.zero_add,←Array.getElem?_toList];exact hv) ?_
 refine Bi1 (hc.ext (fin e3a)) hcl λs12 w12 hs12 e12=>Ar (cell_of (off:=0) (e12.ext_get st10.box) rfl) ?_
 have st12:=st10.ext e12
 have t12:=(t9.ext e10).ext e12
 refine Cg9 (c:=(c.1,s12,())) st12.disk (by omega) hs12.in.x (.inr λk hk hh=>by have:=hs12.Ew hk;have:=st10.disk.lt k hh;omega) λF13 w13 A13 u13 hF13=>Af ?_
 have st13:=st12.turn A13 u13 hF13
 have t13:=t12.turn st12.disk u13 hF13
 obtain ⟨v1,v2,_,_⟩:=Sol.loss (l2.st k9) st12.disk.ok c.1 bytes
 refine Ah st13.box (off:=0) (x:=some (at0 d)) rfl (Bo2 st13.disk λF14 w14 A14 u14 hF14=>?_)
 have st14:=st13.turn A14 u14 hF14
 have t14:=t13.turn st13.disk u14 hF14
 have e3e:Ext w3 w14:=((e3a.trans e12).step u13 λk hk=>st12.lF k hk).step u14 λk hk=>st13.lF k hk
 obtain ⟨E,hE⟩:∃E,E=restart (Dsk.crash { r.1 with steps:=k9 } c.1 bytes):=⟨_,rfl⟩
 rw [←hE] at st14 v1 v2
 have v2:E.space=1048576:=v2.trans l3
 obtain ⟨J,hJ⟩:∃J:Bool×Unit->World->Prop,J=λy W=>y=(false,())/\∃F' k,Stg W st d f F' { E with steps:=k } 150000 r.2.2 sm sd so lod.enc lod.new (Az fs x.2.1).isSome lod.data ((Az fs x.2.1).getD []) w3.heap.size/\Xl W p e O M F' f data/\Ext w3 W:=⟨_,rfl⟩
 refine Ag J (Ag5 st14 v1 (by omega) e3e h3 n3 rfl hs (by rw [sm1];exact hm2) hold (hTT sm1) λF9 w9 k9 st9 u9 hF9=>by rw [hJ];exact ⟨rfl,F9,k9,st9.mono (by omega),t14.turn st14.disk u9 hF9,e3e.step u9 λk hk=>st14.lF k hk⟩) ?_
 rw [hJ]
 clear hJ J
 rintro _ w15 ⟨rfl,F15,k15,st15,t15,e3f⟩
 have solE:Sol { E with steps:=k15 } (Ec (Az fs) x.2.1 (some T)):=v1.st k15
 have spE:({ E with steps:=k15 }:Dk).space=1048576:=v2
 obtain ⟨E',hE'⟩:∃E',E'=({ E with steps:=k15 }:Dk):=⟨_,rfl⟩
 rw [←hE'] at st15 solE spE
 clear hE' hE
 refine Ap ?_
 have low:∀k,O k->w5.heap.size<=k:=hO
 have p5:=st5.disk.pos
 have lst:=lt_of_heap st5.box
 refine Ag (λy W=>y=(false,())/\∃F' X' E2 O' M' na',Stg W st d f F' E2 160000 X' sm sd so lod.enc lod.new (Az fs x.2.1).isSome lod.data ((Az fs x.2.1).getD []) w3.heap.size/\X'.mark=X.mark/\Txt W p e 65536 na' O' M'/\Sol E2 (Ec (Az fs) x.2.1 (some (X.mark++bOf M')))/\(bOf M').length<=60010/\Ext w3 W) ?_ ?_
 ·refine Aq5 t15.txt λw16 e16=>Aq λb80 w17 e17 n17 hb80 hz80=>Aq λb81 w18 e18 n18 hb81 hz81=>?_
  have hmin:(if (((aOf e M).length:Nat):Int)<1 then (((aOf e M).length:Nat):Int) else 1)=((min 1 (aOf e M).length:Nat):Int):=by split<;>omega
  rw [hmin] at n18
  have eA:=(e16.trans e17).trans e18
  have st18:=st15.ext eA
  have t18:=t15.ext eA
  have hfit:_root_.Go.Proofs.YtmooldhpiopcgaaGreatDoor.Fits e [98]:=λa ha=>by
   have:a=98:=by simpa using ha
   subst this;cases e<;>decide
  have hpr:szs (prs e [98])<=4:=by cases e<;>decide
  have hbl:=Al4 hfit
  have hbo:=Xj e M
  have hlen:(bOf M).length=data.length:=by rw [t15.is]
  have hdr:szs ((aOf e M).drop (min 1 (aOf e M).length))<=szs (aOf e M):=by
   have:szs (aOf e M)=szs ((aOf e M).take (min 1 (aOf e M).length))+szs ((aOf e M).drop (min 1 (aOf e M).length)):=by
    conv=>lhs;rw [←List.take_append_drop (min 1 (aOf e M).length) (aOf e M)]
    rw [Dl]
   omega
  have hsz:szs ((aOf e M).take 0++prs e [98]++(aOf e M).drop (min 1 (aOf e M).length))<=60004:=by
   rw [List.take_zero,List.nil_append,Dl];omega
  have z16:=e16.size
  have own:=t15.txt.own
  refine As7 (f:=0) (t:=min 1 (aOf e M).length) (s:=⟨some (at0 b81),1,1⟩) (sp:=⟨some (at0 b80),1,1⟩) (put:=[98]) (ty':=3) t18.txt (Nat.zero_le _) (by omega) (show Cj w18 ⟨some (at0 b81),1,1⟩ 89 3 (flat c89 [edT 0 (min 1 (aOf e M).length) ⟨some (at0 b80),1,1⟩]) from Cj.Jq (n:=1) (sz:=3) n18 rfl) (λk hk hq=>?_) (Cj.Jq (n:=1) (sz:=1) (e18.ext_get n17) rfl) (λk hk hq=>?_) hfit (by decide) (by omega) (by omega) λO' M' w19 tx19 ea u19 g1 g2=>?_
  ·obtain ⟨q,hq',rfl⟩:=hk
   cases hq'
   have:b81<w15.heap.size:=own _ hq
   omega
  ·obtain ⟨q,hq',rfl⟩:=hk
   cases hq'
   have:b80<w15.heap.size:=own _ hq
   omega
  have u19':Upd O w18 w19:=u19.mono λk _ hk=>hk.1
  have st19:Stg w19 st d f F15 E' 150000 r.2.2 sm sd so lod.enc lod.new (Az fs x.2.1).isSome lod.data ((Az fs x.2.1).getD []) w3.heap.size :=
   st18.far u19' (λhh=>by have:=low _ hh;omega) (λhh=>by have:=low _ hh;omega) (λk hk hh=>(t18.no k hh).1 hk) (λhh=>(t18.no _ hh).2 rfl) (λk hk hh=>by have:=low _ hh;have:=st5.file.at_.mkr.Em hk;omega) (λk hk hh=>by have:=low _ hh;have:=st5.old.in.Em hk;omega) (λk hk hh=>by have:=low _ hh;have:=st5.dat.in.Em hk;omega)
  have no19:∀k,O' k->¬F15 k/\k≠f:=λk hk=>(g2 k hk).elim (t18.no k) λhl=>⟨λhh=>by have:=st18.disk.lt k hh;omega,λhh=>by have:=lt_of_heap st18.file.at_.box;omega⟩
  have hb19:(bOf M').length<=60010:=by rw [Xj e M',ea];omega
  refine Ac (λh=>by cases h) λ_=>Af ?_
  rw [addr_add]
  have hVb:∀m b,Ec (Az fs) x.2.1 (some T) m=some b->b.length<=60003:=λm b hb=>by
   unfold Ec at hb;split at hb
   ·cases hb;exact hTl
   ·exact hvb m b hb
  have hVs2:Ec (Az fs) x.2.1 (some T) (side x.2.1)=none:=by unfold Ec;rw [if_neg (Qr _)];exact hvs
  have hVL2:∀m,Ec (Az fs) x.2.1 (some T) m≠none->m∈L:=λm hm=>by
   unfold Ec at hm;split at hm
   ·rename_i hmn;rw [hmn];exact hnL
   ·exact hVL m hm
  have hn15:=Bv9 solE st19.disk.ok hL hVL2
  obtain ⟨cc,z1,z2,z3,z4,_⟩:=Bn4 (X:=r.2.2) (b:=bOf M') (force:=true) solE st19.disk.ok spE (.inr ⟨by rw [sm2,Vt];simp,hn15⟩) (by rw [sm2];exact hu) hVb (by rw [sm2];exact hVs2) (by rw [sm1];exact hm3) (by omega) (.inl rfl)
  rw [sm2,sm1,Bl7] at z3
  refine Ah st19.box (off:=0+1) (x:=some (at0 f)) rfl (Xq st19.disk (by omega) tx19 no19 st19.file λF20 w20 A20 X20 T20 hO20 u20 hF20=>?_)
  have st20:=st19.next A20 X20 Ky.1 u20 hF20
  have hmm:(Eo E' r.2.2 (bOf M') true).2.2.mark=X.mark:=Ky.1.trans sm1
  have e3g:Ext w3 w19:=(e3f.trans eA).step u19' λk hk=>by have:=low k hk;have:=e35.size;omega
  refine ⟨?_,F20,_,_,O',M',_,st20.mono (by omega),hmm,T20,z3,hb19,e3g.step u20 λk hk=>hk.elim (st19.lF k) λhh=>by rw [hh];exact st19.lf⟩
  rw [z1];rfl
 rintro _ w16 ⟨rfl,F16,X16,E2,O',M',na',st16,hmk16,tx16,sol16,hb16,e3h⟩
 refine Ap (Dh λw17 e17 _=>Af ?_)
 have st17:=st16.ext e17
 have e3i:=e3h.trans e17
 refine Ah st17.box (off:=0) (x:=some (at0 d)) rfl (Ah (e3i.ext_get n3) (off:=1) (x:=x.2.1) rfl (Aa1 (tx16.ext e17) λs18 w18 by18 e18=>?_))
 have e3j:=e3i.trans e18
 have st18:=st17.ext e18
 refine Ar (cell_of (off:=1) (e3j.ext_get n3) rfl) (Ar (cell_of (off:=0) st18.box rfl) ?_)
 refine I5 st18 (by rw [hmk16];exact hm2) (by omega) by18.x (by omega) λw19 s19 o19 e19=>Ar (cell_of (off:=1) ((e3j.trans e19).ext_get n3) rfl) (Ar (cell_of (off:=0) (e19.ext_get st18.box) rfl) ?_)
 rw [hmk16,←hm1] at o19
 have st19:=st18.ext e19
 have e3k:=e3j.trans e19
 refine Vp st19.disk (by omega) o19.in.x (by rw [List.length_append];omega) (.inr λk hk hh=>by have:=o19.Ew hk;have:=st18.disk.lt k hh;omega) λF20 w20 A20 u20 hF20=>?_
 rw [Ao8 sol16 hn Vt] at A20 ⊢
 rw [decide_eq_true (show (0:Int)=0/\X.mark++bOf M'=X.mark++bOf M' from ⟨rfl,rfl⟩)]
 have st20:=st19.turn A20 u20 hF20
 have e3l:Ext w3 w20:=e3k.step u20 λk hk=>st19.lF k hk
 refine Ac (λ_=>sl (e3l.ext_get n3) ?_) λh=>by cases h
 exact Yw (w0:=w3) st20 (sol16.st _) h3.files e3l rfl (λf hf=>(hfs f hf).1) (by omega) (by omega) Cc2 Cc1 (λ_=>by rw [Vt];simp) λF21 w21 k21 st21 u21 hF21=>hK _ (fin (e3l.step u21 λk hk=>st20.lF k hk))
end
end Dq
end Go.Proofs.YtmooldhpiopcgaaGreatDoor
namespace Go.Vx
open Go Go.ChangeShapes
theorem cell_spot {w:World}{a:Addr}{v:Value}(h:w.cell? a=some v):a.spot=none/\∃c t fr,w.heap[a.block]?=some (.cells c t fr)/\c[a.off]?=some v:=by
 unfold World.cell? at h
 split at h
 ·rename_i c t fr hh
  split at h
  ·cases h
  ·rename_i hs
   exact ⟨by cases hsp:a.spot with|none=>rfl|some _=>rw [hsp] at hs;exact absurd rfl hs,c,t,fr,hh,h⟩
 ·cases h
theorem At8 (a:Addr) (n:Nat) (h:a.spot=none):a.add n=⟨a.block,a.off+n,none⟩:=by
 obtain ⟨b,o,s⟩:=a
 simp only at h
 subst h
 exact addr_add b o n
theorem Qj {w:World}{base:Nat}{a:Addr}{n:Nat}{r:List Value}(h:w.cells? base a n=some r):r.length=n/\∀j,j<n->w.cell? (a.add j)=r[j]?:=by
 unfold World.cells? at h
 split at h
 ·have hl:=mapM_some_length h
  rw [List.length_range] at hl
  refine ⟨hl,λj hj=>?_⟩
  exact mapM_some_get h j j (by simp [hj])
 ·cases h
section
variable {H:Type}{enc:TypeId×Value->H}{P:Program}{W:World}{base fuel:Nat}{held:Bool}
theorem Yl {e:TypeId}{d:DataW H}{n:Nat}(hn:n∈d.weights P e):∀l:List (DataW H),d∈l->n∈DataW.weightsAll P e l
 |[],h=>by cases h
 |x::r,h=>by
  simp only [DataW.weightsAll,List.mem_append]
  rcases List.mem_cons.1 h with rfl|h
  ·exact .inl hn
  ·exact .inr (Yl hn r h)
theorem Q5 {t e:TypeId} {sz:Nat} {cs:List Value} {x:DataW H×List MemPlace} (ht:P.underlying t=some (.slice e)) (hsz:P.cellsOf e=sz) (hpos:0<sz)
  (h:DataW.trod enc P W base (λ_=>true) held fuel t cs=some x) (hw:∀n∈x.1.weights P t,n<=reachBytes) :
  ∃(s:Sl) (rows:List (List Value)),cs=[.slice s.a s.len s.cap]/\SlX W s sz rows.flatten/\rows.length=s.len/\s.len*P.bytesOf e<=reachBytes/\(s.len=0\/∃els rst,x.1=.slice els rst/\els.length=s.len) /\
   ∀r∈rows,r.length=sz/\∃n y,DataW.trod enc P W base (λ_=>true) held n e r=some y/\(∀k∈y.1.weights P e,k<=reachBytes)/\∃els rst,x.1=.slice els rst/\y.1∈els:=by
 rcases DataW.trod_slice ht h with ⟨rfl,rfl⟩|⟨a,len,cap,elems,rest,n,_,rfl,rfl,hb,hl,hm,hlen,hel,hsp,_⟩
 ·exact ⟨⟨none,0,0⟩,[],rfl,⟨.inl ⟨rfl,rfl⟩⟩,rfl,by simp,.inl rfl,λr hr=>by cases hr⟩
 obtain ⟨hrl,hre⟩:=hsp rfl
 subst hsz
 have each:∀i,i<len->∃r y,W.cells? base (a.add (i*P.cellsOf e)) (P.cellsOf e)=some r/\elems[i]?=some y/\DataW.trod enc P W base (λ_=>true) held n e r=some y:=by
  intro i hi
  have h1:=hel i hi
  rw [List.getElem?_eq_getElem (by omega)] at h1
  obtain ⟨r,h2,h3⟩:=Option.bind_eq_some_iff.1 h1
  exact ⟨r,_,h2,List.getElem?_eq_getElem (by omega),h3⟩
 have wn:(elems.length+rest.length)*P.bytesOf e<=reachBytes:=by
  have:=hw ((elems.length+rest.length)*P.bytesOf e) (by simp [DataW.weights,ht])
  exact this
 refine ⟨⟨some a,len,cap⟩,(List.range len).map λi=>(W.cells? base (a.add (i*P.cellsOf e)) (P.cellsOf e)).getD [],rfl,?_,by simp,?_,.inr ⟨_,_,rfl,by simp [hlen]⟩,?_⟩
 ·by_cases h0:len=0
  ·subst h0;exact ⟨.inl ⟨rfl,rfl⟩⟩
  have last:∃v,W.cell? ((a.add ((cap-1)*P.cellsOf e)).add (P.cellsOf e-1))=some v:=by
   have fin:∀r,W.cells? base (a.add ((cap-1)*P.cellsOf e)) (P.cellsOf e)=some r->∃v,W.cell? ((a.add ((cap-1)*P.cellsOf e)).add (P.cellsOf e-1))=some v:=by
    intro r hr
    obtain ⟨g1,g2⟩:=Qj hr
    rw [g2 _ (by omega)]
    exact ⟨_,List.getElem?_eq_getElem (by omega)⟩
   by_cases hcl:cap-1<len
   ·obtain ⟨r,_,h1,_⟩:=each (cap-1) hcl
    exact fin r h1
   ·have h1:=hre (cap-1-len) (by omega)
    rw [show len+(cap-1-len)=cap-1 by omega] at h1
    rw [List.getElem?_eq_getElem (by omega)] at h1
    obtain ⟨r,h2,_⟩:=Option.bind_eq_some_iff.1 h1
    exact fin r h2
  obtain ⟨v,hv⟩:=last
  have hspot:a.spot=none:=by
   obtain ⟨r,_,h1,_⟩:=each 0 (by omega)
   obtain ⟨g1,g2⟩:=Qj h1
   have h2:=g2 0 (by omega)
   rw [Nat.zero_mul,List.getElem?_eq_getElem (by omega)] at h2
   exact (cell_spot h2).1
  rw [At8 a _ hspot,addr_add] at hv
  obtain ⟨_,c,tt,fr,hh,hc⟩:=cell_spot hv
  simp only at hh hc
  have hlast:=(Array.getElem?_eq_some_iff.1 hc).1
  have hcap:(cap-1)*P.cellsOf e+P.cellsOf e=cap*P.cellsOf e:=by rw [←Nat.succ_mul];congr 1;omega
  have rowlen:∀i,i<len->((W.cells? base (a.add (i*P.cellsOf e)) (P.cellsOf e)).getD []).length=P.cellsOf e:=by
   intro i hi
   obtain ⟨r,_,h1,_⟩:=each i hi
   rw [h1];exact (Qj h1).1
  refine ⟨.inr ⟨tt,?_,hl,.inr ⟨a.block,a.off,c,fr,?_,hh,by simp only;omega,?_⟩⟩⟩
  ·have key:∀(k:Nat),k<=len->(((List.range k).map λi=>(W.cells? base (a.add (i*P.cellsOf e)) (P.cellsOf e)).getD []).flatten).length=k*P.cellsOf e:=by
    intro k
    induction k with
    |zero=>intro _;simp
    |succ k ih =>
     intro hk
     rw [List.range_succ,List.map_append,List.flatten_append,List.length_append,ih (by omega),Nat.succ_mul]
     simp [rowlen k (by omega)]
   exact key len (Nat.le_refl _)
  ·obtain ⟨b,o,s⟩:=a
   simp only at hspot
   subst hspot
   rfl
  ·have key:∀(k:Nat),k<=len->∀i v,(((List.range k).map λi=>(W.cells? base (a.add (i*P.cellsOf e)) (P.cellsOf e)).getD []).flatten)[i]?=some v->c[a.off+i]?=some v:=by
    intro k
    induction k with
    |zero=>intro _ i v hi;simp at hi
    | succ k ih =>
     intro hk i v hi
     have hkl:(((List.range k).map λi=>(W.cells? base (a.add (i*P.cellsOf e)) (P.cellsOf e)).getD []).flatten).length=k*P.cellsOf e:=by
      have key2:∀(k:Nat),k<=len->(((List.range k).map λi=>(W.cells? base (a.add (i*P.cellsOf e)) (P.cellsOf e)).getD []).flatten).length=k*P.cellsOf e:=by
       intro k
       induction k with
       |zero=>intro _;simp
       |succ k ih =>
        intro hk
        rw [List.range_succ,List.map_append,List.flatten_append,List.length_append,ih (by omega),Nat.succ_mul]
        simp [rowlen k (by omega)]
      exact key2 k (by omega)
     rw [List.range_succ,List.map_append,List.flatten_append] at hi
     by_cases hik:i<k*P.cellsOf e
     ·rw [List.getElem?_append_left (by omega)] at hi
      exact ih (by omega) i v hi
     ·rw [List.getElem?_append_right (by omega),hkl] at hi
      simp only [List.map_cons,List.map_nil,List.flatten_cons,List.flatten_nil,List.append_nil] at hi
      obtain ⟨r,_,h1,_⟩:=each k (by omega)
      rw [h1] at hi
      simp only [Option.getD_some] at hi
      obtain ⟨g1,g2⟩:=Qj h1
      have hj:=(List.getElem?_eq_some_iff.1 hi).1
      have:=g2 (i-k*P.cellsOf e) (by omega)
      rw [hi,At8 a _ hspot,addr_add] at this
      obtain ⟨_,c',t',fr',hh',hc'⟩:=cell_spot this
      simp only at hh' hc'
      rw [hh] at hh'
      cases hh'
      rw [show a.off+i=a.off+k*P.cellsOf e+(i-k*P.cellsOf e) by omega]
      exact hc'
   exact key len (Nat.le_refl _)
 ·have:len*P.bytesOf e<=(elems.length+rest.length)*P.bytesOf e:=Nat.mul_le_mul_right _ (by omega)
  exact Nat.le_trans this wn
 ·intro r hr
  obtain ⟨i,hi,rfl⟩:=List.mem_map.1 hr
  have hi:=List.mem_range.1 hi
  obtain ⟨r,y,h1,h2,h3⟩:=each i hi
  rw [h1]
  refine ⟨(Qj h1).1,n,y,h3,λk hk=>hw k ?_,_,_,rfl,List.mem_map.2 ⟨y,List.mem_of_getElem? h2,rfl⟩⟩
  simp only [DataW.weights,ht,List.mem_cons,List.mem_append]
  exact .inr (.inl (Yl hk _ (List.mem_map.2 ⟨y,List.mem_of_getElem? h2,rfl⟩)))
theorem Ae1 {t e:TypeId}{sz:Nat}{cs:List Value}{x:DataW H×List MemPlace}(ht:P.underlying t=some (.slice e)) (hsz:P.cellsOf e=sz) (hpos:0<sz)
  (h:DataW.trod enc P W base (λ_=>true) held fuel t cs=some x) (hw:∀n∈x.1.weights P t,n<=reachBytes) :
  ∃(s:Sl) (rows:List (List Value)),cs=[.slice s.a s.len s.cap]/\SlX W s sz rows.flatten/\rows.length=s.len/\s.len*P.bytesOf e<=reachBytes /\
   ∀r∈rows,r.length=sz/\∃n y,DataW.trod enc P W base (λ_=>true) held n e r=some y/\∀k∈y.1.weights P e,k<=reachBytes:=by
 obtain ⟨s,rows,h1,h2,h3,h4,_,h5⟩:=Q5 ht hsz hpos h hw
 exact ⟨s,rows,h1,h2,h3,h4,λr hr=>by obtain ⟨a,n,y,b,c,_⟩:=h5 r hr;exact ⟨a,n,y,b,c⟩⟩
theorem Qd {t:TypeId}{cs:List Value}{x:DataW H×List MemPlace}(ht:P.underlying t=some (.int .i64)) (h:DataW.trod enc P W base (λ_=>true) held fuel t cs=some x):∃n,cs=[.int .i64 n]/\(Lit.int .i64 n).wf=true:=by
 cases fuel with
 |zero=>simp [DataW.trod] at h
 |succ m =>
  unfold DataW.trod at h
  rw [ht] at h
  split at h<;>simp_all
theorem Bb9 {cs:List Cell}{Q:Cells.T cs->Prop}:∀(rows:List (List Value)),(∀r∈rows,∃x,r=Cells.vals cs x/\Q x)->∃xs:List (Cells.T cs),rows.flatten=flat cs xs/\xs.length=rows.length/\∀x∈xs,Q x
 |[],_=>⟨[],rfl,rfl,λx hx=>by cases hx⟩
 | r::rs,h=>by
  obtain ⟨x,hx,hq⟩:=h r List.mem_cons_self
  obtain ⟨xs,h1,h2,h3⟩:=Bb9 rs λr' hr'=>h r' (List.mem_cons_of_mem _ hr')
  refine ⟨x::xs,?_,by simp [h2],λy hy=>?_⟩
  ·rw [List.flatten_cons,h1,hx];rfl
  ·rcases List.mem_cons.1 hy with rfl|hy
   ·exact hq
   ·exact h3 y hy
theorem Bh4 {t e:TypeId}{cs:List Value}{x:DataW H×List MemPlace}(ht:P.underlying t=some (.slice e)) (he:P.underlying e=some (.int .i64)) (hc:P.cellsOf e=1) (hb:P.bytesOf e=8)
  (h:DataW.trod enc P W base (λ_=>true) held fuel t cs=some x) (hw:∀n∈x.1.weights P t,n<=reachBytes) :
  ∃(s:Sl) (l:List Int),cs=[.slice s.a s.len s.cap]/\SlX W s 1 (l.map (Value.int .i64))/\l.length<=2^44-512/\∀n∈l,(Lit.int .i64 n).wf=true:=by
 obtain ⟨s,rows,rfl,hs,hl,hby,hr⟩:=Ae1 ht hc (by decide) h hw
 obtain ⟨xs,h1,h2,h3⟩:=Bb9 (cs:=[.int .i64]) (Q:=λx=>(Lit.int .i64 x.1).wf=true) rows (λr hr'=>by
  obtain ⟨_,n,y,hy,_⟩:=hr r hr'
  obtain ⟨k,rfl,hk⟩:=Qd he hy
  exact ⟨(k,()),rfl,hk⟩)
 refine ⟨s,xs.map (·.1),rfl,?_,?_,?_⟩
 ·rw [h1] at hs
  have e:flat [.int .i64] xs=(xs.map (·.1)).map (Value.int .i64):=by
   simp only [flat,List.map_map,List.flatMap_def]
   clear h1 h2 h3 hs
   induction xs with
   |nil=>rfl
   |cons x r ih=>simp only [List.map_cons,List.flatten_cons,ih];rfl
  rw [e] at hs;exact hs
 ·rw [List.length_map,h2,hl]
  rw [hb] at hby
  unfold reachBytes at hby
  omega
 ·intro n hn
  obtain ⟨x,hx,rfl⟩:=List.mem_map.1 hn
  exact h3 x hx
end
end Go.Vx
namespace Go.Vx
open Go Go.ChangeShapes Go.RowKit
section
variable {H:Type}{enc:TypeId×Value->H}{P:Program}{W W':World}
theorem Ext.below (e:Ext W W'):Below W.heap.size W W':=⟨e.os,e.tape,e.output,e.size,λk hk=>e.at_ k hk id⟩
theorem Ad2 (hl:laidOutB P=true){sp:Nat->Bool}:∀{ts:List TypeId}{vs:List Value}{ds:List (DataW H)}{ps:List MemPlace},(∀t∈ts,P.readableRec t=true/\t<P.types.size) ->
  DataW.TrodAll enc P W 0 (λ_=>true) true ts vs ds ps->(∀p∈ps,W.sameAt W' p)->(∀p∈ps,sp p.block=true)->DataW.TrodAll enc P W' 0 sp true ts vs ds ps
 |[],[],[],_,_,h,_,_=>h
 | t::ts,v::vs,d::ds,ps,hr,⟨p,q,h1,h2,e⟩,hs,hsp=>by
  subst e
  exact ⟨p,q,WideElems.Trod_stays hl (hr t List.mem_cons_self).1 (hr t List.mem_cons_self).2 h1 (λx hx=>hs x (List.mem_append_left _ hx)) (λx hx=>hsp x (List.mem_append_left _ hx)),
   Ad2 hl (λt' ht'=>hr t' (List.mem_cons_of_mem _ ht')) h2 (λx hx=>hs x (List.mem_append_right _ hx)) (λx hx=>hsp x (List.mem_append_right _ hx)),rfl⟩
 |[],_::_,_,_,_,h,_,_=>h.elim
 |[],[],_::_,_,_,h,_,_=>h.elim
 |_::_,[],_,_,_,h,_,_=>h.elim
 |_::_,_::_,[],_,_,h,_,_=>h.elim
theorem Bh2 {f:Func}{s:ChangeSpec}{apart fresh handsOn again:Bool}{args:Array Value}{ds gs:List (DataW H)}{before:List MemPlace}{tb:TypeId}
  (hW:DataW.Whole enc P f.params.toList s.vars apart W args.toList ds gs before) (hv:s.vars=[]) (hr:f.resultTypes=#[tb]) (hb:P.underlying tb=some .bool)
  (hs:s.fn H (ds++gs)={ results:=[.lit (.bool true)],args:=ds }) (hl:laidOutB P=true) (hrd:∀t∈f.params.toList,P.readableRec t=true/\t<P.types.size)
  (e:Ext W W'):s.post enc P f apart fresh handsOn again W args (.bool true) W':=by
 have hlt:=hW.lt
 have hW0:=hW
 obtain ⟨pa,pv,hA,hV,rfl,hz,hn⟩:=hW
 have hBl:=e.below
 have hsame:∀p∈pa++pv,W.sameAt W' p:=λp hp=>hBl.same (hlt p hp)
 have hold:∀p∈pa++pv,(λb=>decide (b<W.heap.size)) p.block=true:=λp hp=>by simpa using hlt p hp
 have hres:∀(b:Nat) (sp:Nat->Bool) (hd:Bool),DataW.TrodAll enc P W' b sp hd f.resultTypes.toList ((Value.bool true).resultList f.resultTypes.size) (s.fn H (ds++gs)).results []:=by
  intro b sp hd
  rw [hs,hr]
  exact trodAll_mk1 ⟨1,by simp [DataW.trod,hb,Value.cells]⟩
 have hargs:∀sp:Nat->Bool,(∀p∈pa,sp p.block=true)->DataW.TrodAll enc P W' 0 sp true f.params.toList args.toList (s.fn H (ds++gs)).args pa:=by
  intro sp hsp
  rw [hs]
  exact Ad2 hl hrd hA (λp hp=>hsame p (List.mem_append_left _ hp)) hsp
 have hgs:gs=[]/\pv=[]:=by
  rw [hv] at hV
  exact trodVars_none hV
 obtain ⟨rfl,rfl⟩:=hgs
 have hvars:∀sp:Nat->Bool,DataW.TrodVars enc P W' sp s.vars (s.fn H (ds++[])).vars []:=by
  intro sp
  rw [hs,hv]
  exact rfl
 have hall:∀p∈([]++pa)++[],p∈pa++[]:=λp hp=>by simpa using hp
 refine ⟨ds,[],pa++[],[],pa,[],hW0,hres _ _ _,hargs _ (λp hp=>hold p (List.mem_append_left _ hp)),hvars _,hBl.frame _,λ_=>⟨ok_one hr rfl (okWide_bool_mk hb true),[.lit (.bool true)]++ds,[],([]++pa)++[],?_,λp hp _=>hall p hp⟩⟩
 have h1:=trodAll_append (hargs (λ_=>true) (λ_ _=>rfl)) (hres 0 (λ_=>true) true)
 rw [hs] at h1
 have h2:=hvars (λ_=>true)
 rw [hs] at h2
 refine ⟨[]++pa,[],h1,h2,rfl,?_,λha=>?_⟩
 ·intro b off hp
  have hp':=hall _ hp
  have hb':=hlt _ hp'
  rw [hBl.frozen (p:=⟨b,off,none⟩) hb']
  exact hz b off hp'
 ·have:=hn ha
  simpa using this
end
end Go.Vx
namespace Go.Proofs.YtmooldhpiopcgaaGreatDoor
namespace Dq
open Go Go.Vx Go.ChangeShapes Go.WideShapes Go.RowKit Dsk
theorem own:ownKnob Tryz.prog.godebug=none:=by kernel_rfl
theorem laidOut:laidOutB Tryz.prog=true:=by kernel_rfl
theorem u4:Tryz.prog.underlying 4=some .bool:=C4.und
theorem Co8:Tryz.prog.underlying 9=some .string:=C9.und
theorem Cz0:Tryz.prog.globalNamed "errors.errorType" = some 0:=by kernel_rfl
theorem tRt:(Tryz.prog.cutTypes.find? (·.1 == "internal/reflectlite.rtype")).map (·.2)=some 211:=by kernel_rfl
theorem Ah5:Tryz.prog.types.size=363:=by kernel_rfl
theorem oneRow:((List.range 363).filter λt=>Tryz.prog.rowNamed t [101,114,114,111,114])=[26]:=by kernel_rfl
theorem Ct1:typeHandle Tryz.prog 26=hdl 26:=by kernel_rfl
abbrev Af1:List (String×DataW Unit):=[("errors.errorType",Rows.laid_errors_errorType)]
theorem Bk3 {W:World}(h:laidMetH Tryz.prog Af1 W):W.cell? ⟨0,0,none⟩=some (rty 26):=by
 have h':laidMet Tryz.prog [] W/\handlesMet Tryz.prog Af1 W:=h
 obtain ⟨name,u,ty,e1,e2,e3,e4,e5⟩:=h'.2 _ (List.mem_singleton.2 rfl)
 have en:name=[101,114,114,111,114]:=(Option.some.inj e1).symm
 subst en
 obtain rfl:=Option.some.inj (tRt.symm.trans e2)
 have hm:ty∈(List.range 363).filter λt=>Tryz.prog.rowNamed t [101,114,114,111,114]:=List.mem_filter.2 ⟨List.mem_range.2 (by rw [←Ah5];exact e3),e4⟩
 rw [oneRow] at hm
 obtain rfl:=List.mem_singleton.1 hm
 rw [Ct1] at e5
 simpa using World.var?_cell Cz0 e5 0
theorem Bz1 {W:World}(h:laidMetH Tryz.prog Af1 W):Kw W:=by
 have h:=Bk3 h
 unfold World.cell? at h
 split at h
 ·rename_i cs t fr hb
  exact ⟨cs,t,fr,hb,h⟩
 all_goals simp_all
def laidWorld (os:Os):World :=
 let w0:=World.holding Tryz.prog os ⟨#[],#[],[]⟩
 { w0 with heap:=w0.heap.modify 0 λ
  |.cells _ t frozen=>.cells #[.iface 211 (.agg #[.pointer (some ⟨2,26,none⟩)])] t frozen
  |o=>o }
theorem laid_met (os:Os) (args:Array Value):laidMetH Tryz.prog Af1 ((laidWorld os).forCall (λ_ _=>0) ⟨#[],args,[]⟩).memory :=
 laidMetH_of_parts (laidMet_nil _ _) (by kernel_rfl)
theorem Yo {H:Type}{enc:TypeId×Value->H}{P:Program}{w:World}{base:Nat}{spare:Nat->Bool}{held:Bool}:∀{ts:List TypeId}{vs:List Value}{ds:List (DataW H)}{ps:List MemPlace},DataW.TrodAll enc P w base spare held ts vs ds ps ->
  vs.length=ts.length/\ds.length=ts.length/\∀(j:Nat) t v d,ts[j]?=some t->vs[j]?=some v->ds[j]?=some d->∃p,DataW.Trod enc P w base spare held t v d p
 |[],[],[],_,_=>⟨rfl,rfl,λj t v d h=>by simp at h⟩
 |t::ts,v::vs,d::ds,ps,⟨p,q,h1,h2,e⟩=>by
  obtain ⟨a,b,c⟩:=Yo h2
  refine ⟨by simp [a],by simp [b],λj t' v' d' ht hv hd=>?_⟩
  match j with
  |0=>cases ht;cases hv;cases hd;exact ⟨p,h1⟩
  |j+1=>exact c j t' v' d' (by simpa using ht) (by simpa using hv) (by simpa using hd)
 |[],_::_,_,_,h=>h.elim
 |[],[],_::_,_,h=>h.elim
 |_::_,[],_,_,h=>h.elim
 |_::_,_::_,[],_,h=>h.elim
theorem weigh {H:Type}{ts:List TypeId}{ds:List (DataW H)}(h:(DataW.weightsEach Tryz.prog ts ds).all (·<=reachBytes)=true) (j:Nat){t:TypeId}{d:DataW H}(ht:ts[j]?=some t) (hd:ds[j]?=some d):∀n∈d.weights Tryz.prog t,n<=reachBytes:=by
 intro n hn
 have:=List.all_eq_true.1 h _ (DataW.weights_mem_each ht hd n hn)
 simpa using this
end Dq
end Go.Proofs.YtmooldhpiopcgaaGreatDoor
namespace Go.Proofs.YtmooldhpiopcgaaGreatDoor
open Go Go.Vx Cdc Trx
namespace Cdc
structure LEd where
 f:Int
 t:Int
 put:List Int
end Cdc
section
variable {w w' W W':World}{S:Nat->Prop}{p:Nat}{e:Enc}{lim na:Nat}{O:Nat->Prop}{M:Parts}
end
end Go.Proofs.YtmooldhpiopcgaaGreatDoor
namespace Go.Proofs.YtmooldhpiopcgaaGreatDoor
open Go Go.Vx Go.ChangeShapes Go.WideShapes Go.RowKit Cdc
theorem ui:Tryz.prog.underlying 3=some (.int .i64):=C3.und
theorem ub:Tryz.prog.underlying 5=some (.int .u8):=C5.und
theorem Cj3:Tryz.prog.underlying 70=some (.slice 3):=C70.und
theorem Bm3:Tryz.prog.underlying 30=some (.slice 5):=C30.und
theorem ci:Tryz.prog.cellsOf 3=1:=by kernel_rfl
theorem bi:Tryz.prog.bytesOf 3=8:=by kernel_rfl
theorem cby:Tryz.prog.cellsOf 5=1:=by kernel_rfl
theorem bby:Tryz.prog.bytesOf 5=1:=by kernel_rfl
theorem cbs:Tryz.prog.cellsOf 30=1:=by kernel_rfl
theorem cis:Tryz.prog.cellsOf 70=1:=by kernel_rfl
theorem Sv {cs:List Cell}{β:Type}{Q:Cells.T cs->β->Prop}:∀(rows:List (List Value)),(∀r∈rows,∃x y,r=Cells.vals cs x/\Q x y)->∃(xs:List (Cells.T cs)) (ys:List β),rows.flatten=flat cs xs/\xs.length=rows.length/\xs.length=ys.length/\∀(i:Nat) x y,xs[i]?=some x->ys[i]?=some y->Q x y
 |[],_=>⟨[],[],rfl,rfl,rfl,λi x y hx=>by simp at hx⟩
 | r::rs,h=>by
  obtain ⟨x,y,hx,hq⟩:=h r List.mem_cons_self
  obtain ⟨xs,ys,h1,h2,h3,h4⟩:=Sv rs λr' hr'=>h r' (List.mem_cons_of_mem _ hr')
  refine ⟨x::xs,y::ys,?_,by simp [h2],by simp [h3],λi x' y' hx' hy'=>?_⟩
  ·rw [List.flatten_cons,h1,hx];rfl
  ·match i with
   |0=>cases hx';cases hy';exact hq
   |i+1=>exact h4 i x' y' (by simpa using hx') (by simpa using hy')
section
variable {H:Type}{enc:TypeId×Value->H}{W:World}{base fuel:Nat}{held:Bool}
abbrev bulk (d:DataW H):Nat:=Rows.uptoBulk d
theorem Bt6 (d:DataW H):1<=bulk d:=by
 unfold bulk
 cases d with
 |lit l=>cases l<;>simp [Rows.uptoBulk]
 |nil=>simp [Rows.uptoBulk]
 |ptr d=>simp [Rows.uptoBulk]
 |slice elems spare=>simp [Rows.uptoBulk]
 |agg parts=>simp [Rows.uptoBulk]
 |iface t d=>simp [Rows.uptoBulk]
 |map entries=>simp [Rows.uptoBulk]
 |held h=>simp [Rows.uptoBulk]
theorem Ag3 {d:DataW H}{l:List (DataW H)}(h:d∈l):bulk d<=Rows.uptoBulkAll l:=by
 induction l with
 |nil=>cases h
 |cons x r ih =>
  simp only [Rows.uptoBulkAll]
  cases List.mem_cons.1 h with
  |inl e=>subst e;show Rows.uptoBulk d<=_;omega
  |inr e=>have:=ih e;show Rows.uptoBulk d<=_;have:Rows.uptoBulk d<=Rows.uptoBulkAll r:=this;omega
theorem Bt7 (l:List (DataW H)):l.length<=Rows.uptoBulkAll l:=by
 induction l with
 |nil=>simp [Rows.uptoBulkAll]
 |cons x r ih=>have:=Bt6 x;unfold bulk at this;simp only [Rows.uptoBulkAll,List.length_cons];omega
theorem Qu {t e:TypeId}{sz:Nat}{cs:List Value}{x:DataW H×List MemPlace}(ht:Tryz.prog.underlying t=some (.slice e)) (hsz:Tryz.prog.cellsOf e=sz) (hpos:0<sz)
  (h:DataW.trod enc Tryz.prog W base (λ_=>true) held fuel t cs=some x) (hw:∀n∈x.1.weights Tryz.prog t,n<=reachBytes) :
  ∃(s:Sl) (rows:List (List Value)),cs=[.slice s.a s.len s.cap]/\SlX W s sz rows.flatten/\rows.length=s.len/\s.len<=bulk x.1 /\
   ∀r∈rows,r.length=sz/\∃n y,DataW.trod enc Tryz.prog W base (λ_=>true) held n e r=some y/\(∀k∈y.1.weights Tryz.prog e,k<=reachBytes)/\bulk y.1<=bulk x.1:=by
 obtain ⟨s,rows,h1,h2,h3,h4,h6,h5⟩:=Q5 ht hsz hpos h hw
 refine ⟨s,rows,h1,h2,h3,?_,λr hr=>?_⟩
 ·rcases h6 with h6|⟨els,rst,hx,hl⟩
  ·omega
  ·have:=Bt7 els
   rw [hx]
   show _<=Rows.uptoBulk (.slice els rst)
   simp only [Rows.uptoBulk];omega
 ·obtain ⟨a,n,y,b,c,els,rst,hx,hm⟩:=h5 r hr
  refine ⟨a,n,y,b,c,?_⟩
  have:=Ag3 hm
  rw [hx]
  show _<=Rows.uptoBulk (.slice els rst)
  simp only [Rows.uptoBulk];omega
theorem Me {t:TypeId}{fs:Array Field}{L:List (TypeId×Nat)}{cs:List Value}{x:DataW H×List MemPlace}(hu:Tryz.prog.underlying t=some (.struct fs)) (hfs:fs.toList.map (λf=>(f.type,f.offset))=L)
  (h:DataW.trod enc Tryz.prog W base (λ_=>true) held fuel t cs=some x) (hw:∀n∈x.1.weights Tryz.prog t,n<=reachBytes) :
  ∃n,∀(i:Nat) (t' o:Nat),L[i]?=some (t',o)->∃y,DataW.trod enc Tryz.prog W base (λ_=>true) held n t' ((cs.drop o).take (Tryz.prog.cellsOf t'))=some y/\(∀k∈y.1.weights Tryz.prog t',k<=reachBytes)/\bulk y.1<=bulk x.1:=by
 obtain ⟨xs,n,_,rfl,_,hxl,hall⟩:=DataW.trod_struct hu h
 refine ⟨n,λi t' o hi=>?_⟩
 rw [←hfs,List.getElem?_map] at hi
 obtain ⟨f,hf,he⟩:=Option.map_eq_some_iff.1 hi
 cases he
 have hf':fs[i]?=some f:=by simpa using hf
 have h1:=hall i f hf'
 have hil:i<xs.length:=by rw [hxl];exact (Array.getElem?_eq_some_iff.1 hf').1
 rw [List.getElem?_eq_getElem hil] at h1
 refine ⟨xs[i],h1,λk hk=>hw k ?_,?_⟩
 ·simp only [DataW.weights,hu]
  exact DataW.weights_mem_each (j:=i) (t:=f.type) (d:=xs[i].1) (by rw [List.getElem?_map,hf];rfl) (by rw [List.getElem?_map,List.getElem?_eq_getElem hil];rfl) k hk
 ·have hm:xs[i].1∈xs.map (·.1):=List.mem_map.2 ⟨xs[i],List.getElem_mem hil,rfl⟩
  have:=Ag3 hm
  show _<=Rows.uptoBulk (.agg (xs.map (·.1)))
  simp only [Rows.uptoBulk];omega
theorem By2 {cs:List Value}{x:DataW H×List MemPlace}(h:DataW.trod enc Tryz.prog W base (λ_=>true) held fuel 5 cs=some x):∃b:UInt8,cs=[.int .u8 (b.toNat:Int)]:=by
 have:∃n,cs=[.int .u8 n]/\(Lit.int .u8 n).wf=true:=by
  cases fuel with
  |zero=>simp [DataW.trod] at h
  |succ m =>
   unfold DataW.trod at h
   rw [ub] at h
   split at h<;>simp_all
 obtain ⟨n,rfl,hn⟩:=this
 have hr:0<=n/\n<256:=by
  have h1:IntKind.min .u8=0:=rfl
  have h2:IntKind.max .u8=255:=rfl
  simp [Lit.wf,h1,h2] at hn
  omega
 refine ⟨UInt8.ofNat n.toNat,?_⟩
 have:(UInt8.ofNat n.toNat).toNat=n.toNat:=by
  rw [UInt8.toNat_ofNat']
  exact Nat.mod_eq_of_lt (by omega)
 rw [this]
 congr 2
 omega
theorem open_bytes {cs:List Value}{x:DataW H×List MemPlace}(h:DataW.trod enc Tryz.prog W base (λ_=>true) held fuel 30 cs=some x) (hw:∀n∈x.1.weights Tryz.prog 30,n<=reachBytes) :
  ∃(s:Sl) (l:List UInt8),cs=[.slice s.a s.len s.cap]/\SlX W s 1 (bv l)/\l.length<=2^47:=by
 obtain ⟨s,rows,rfl,hs,hl,hby,hr⟩:=Ae1 Bm3 cby (by decide) h hw
 obtain ⟨xs,ls,h1,h2,h3,h4⟩:=Sv (cs:=[.int .u8]) (β:=UInt8) (Q:=λx y=>x.1=(y.toNat:Int)) rows (λr hr'=>by
  obtain ⟨_,n,y,hy,_⟩:=hr r hr'
  obtain ⟨b,rfl⟩:=By2 hy
  exact ⟨((b.toNat:Int),()),b,rfl,rfl⟩)
 refine ⟨s,ls,rfl,?_,?_⟩
 ·rw [h1] at hs
  have e:flat [.int .u8] xs=bv ls:=by
   clear h1 h2 hs
   induction xs generalizing ls with
   |nil =>
    cases ls with
    |nil=>rfl
    |cons y r=>simp at h3
   | cons x r ih =>
    cases ls with
    |nil=>simp at h3
    |cons y q =>
     have h0:=h4 0 x y rfl rfl
     have:=ih q (by simpa using h3) λi x' y' hx hy=>h4 (i+1) x' y' (by simpa using hx) (by simpa using hy)
     simp only [flat,List.flatMap_cons] at this ⊢
     rw [this]
     obtain ⟨n,⟨⟩⟩:=x
     dsimp only at h0
     subst h0
     rfl
  rw [e] at hs;exact hs
 ·rw [←h3,h2,hl]
  rw [bby] at hby
  unfold reachBytes at hby
  omega
structure LAsk where
 kind:Int
 at_:Int
 b:Int
 mkd:Int
 count:Int
 arg:Int
 past:Bool
end
section
variable {H:Type}{enc:TypeId×Value->H}{W:World}{base:Nat}
end
end Go.Proofs.YtmooldhpiopcgaaGreatDoor
namespace Go.Proofs.YtmooldhpiopcgaaGreatDoor
namespace Dq
open Go Go.Vx Go.ChangeShapes Go.WideShapes Go.RowKit Dsk Cdc
theorem Cm3:Tryz.prog.cellsOf 9=1:=by kernel_rfl
theorem Ch8:Tryz.prog.cellsOf 65=2:=by kernel_rfl
theorem Ca5:Tryz.prog.cellsOf 37=1:=by kernel_rfl
theorem Cg7:Tryz.prog.cellsOf 39=4:=by kernel_rfl
theorem Bv5:Tryz.prog.underlying 37=some (.slice 65):=by kernel_rfl
theorem Ce7:∃fs:Array Field,Tryz.prog.underlying 65=some (.struct fs)/\fs.toList.map (λf=>(f.type,f.offset))=[(9,0),(30,1)]:=⟨_,C65.und,rfl⟩
theorem Bo0:∃fs:Array Field,Tryz.prog.underlying 39=some (.struct fs)/\fs.toList.map (λf=>(f.type,f.offset))=[(37,0),(9,1),(3,2),(30,3)]:=⟨_,C39.und,rfl⟩
section
variable {H:Type}{enc:TypeId×Value->H}{W:World}{base fuel:Nat}{held:Bool}
theorem Ae0 {cs:List Value}{x:DataW H×List MemPlace}(h:DataW.trod enc Tryz.prog W base (λ_=>true) held fuel 9 cs=some x) (hb:bulk x.1<=1048576):∃s:ByteArray,cs=[.string s]/\s.size<1048576:=by
 obtain ⟨s,e1,e2,_⟩:=DataW.trod_string Co8 h
 refine ⟨s,e1,?_⟩
 have hb:Rows.uptoBulk x.1<=1048576:=hb
 rw [e2] at hb
 simp only [Rows.uptoBulk] at hb
 have:s.data.toList.length=s.size:=by simp
 omega
theorem Tc {cs:List Value}{x:DataW H×List MemPlace}(h:DataW.trod enc Tryz.prog W base (λ_=>true) held fuel 30 cs=some x) (hw:∀n∈x.1.weights Tryz.prog 30,n<=reachBytes) (hb:bulk x.1<=1048576) :
  ∃(s:Sl) (l:List UInt8),cs=[.slice s.a s.len s.cap]/\SlX W s 1 (bv l)/\l.length<=1048576:=by
 obtain ⟨s,l,e,h1,_⟩:=open_bytes h hw
 obtain ⟨s',_,e',_,_,hl,_⟩:=Qu Bm3 cby (by decide) h hw
 refine ⟨s,l,e,h1,?_⟩
 rw [e] at e'
 have:s.len=s'.len:=by simp at e';exact e'.2.1
 have:=Ic h1
 omega
theorem Bh5 {cs:List Value}{x:DataW H×List MemPlace}(hl:cs.length=2) (h:DataW.trod enc Tryz.prog W base (λ_=>true) held fuel 65 cs=some x) (hw:∀n∈x.1.weights Tryz.prog 65,n<=reachBytes) (hb:bulk x.1<=1048576) :
  ∃(y:Cells.T c65) (o:Nm×List UInt8),cs=Cells.vals c65 y/\(y.1=o.1/\Bytes W y.2.1 o.2/\o.1.size<2^62/\o.2.length<=2^30):=by
 obtain ⟨fs,hu,hfs⟩:=Ce7
 obtain ⟨n,hall⟩:=Me hu hfs h hw
 obtain ⟨v0,v1,rfl⟩:∃v0 v1,cs=[v0,v1]:=by
  match cs,hl with
  |[v0,v1],_=>exact ⟨v0,v1,rfl⟩
 obtain ⟨y0,h0,_,hb0⟩:=hall 0 _ _ rfl
 obtain ⟨y1,h1,hw1,hb1⟩:=hall 1 _ _ rfl
 rw [Cm3] at h0
 rw [cbs] at h1
 obtain ⟨n0,e0,i0⟩:=Ae0 h0 (by omega)
 obtain ⟨s1,l1,e1,g1,k1⟩:=Tc h1 hw1 (by omega)
 simp at e0 e1
 subst e0 e1
 exact ⟨(n0,s1,()),(n0,l1),rfl,rfl,g1,by dsimp only;omega,by dsimp only;omega⟩
theorem Aw9 {cs:List Value}{x:DataW H×List MemPlace}(h:DataW.trod enc Tryz.prog W base (λ_=>true) held fuel 37 cs=some x) (hw:∀n∈x.1.weights Tryz.prog 37,n<=reachBytes) (hb:bulk x.1<=1048576) :
  ∃(s:Sl) (rows:List (Cells.T c65)) (fs:Fls),cs=[.slice s.a s.len s.cap]/\Ve W s rows fs:=by
 obtain ⟨s,rows,rfl,hs,hl,hby,hr⟩:=Qu Bv5 Ch8 (by decide) h hw
 obtain ⟨xs,ls,h1,h2,h3,h4⟩:=Sv (cs:=c65) (β:=Nm×List UInt8) (Q:=λy o=>y.1=o.1/\Bytes W y.2.1 o.2/\o.1.size<2^62/\o.2.length<=2^30) rows (λr hr'=>by
  obtain ⟨hrl,n,y,hy,hwy,hby⟩:=hr r hr'
  exact Bh5 hrl hy hwy (by omega))
 rw [h1] at hs
 exact ⟨s,xs,ls,rfl,hs,h3,h4⟩
theorem Aw7 {cs:List Value}{x:DataW H×List MemPlace}(hl:cs.length=4) (h:DataW.trod enc Tryz.prog W base (λ_=>true) held fuel 39 cs=some x) (hw:∀n∈x.1.weights Tryz.prog 39,n<=reachBytes) (hb:bulk x.1<=1048576) :
  ∃(y:Cells.T c39) (rows:List (Cells.T c65)) (fs:Fls) (data:List UInt8),cs=Cells.vals c39 y/\Scn W y rows fs data:=by
 obtain ⟨fs,hu,hfs⟩:=Bo0
 obtain ⟨n,hall⟩:=Me hu hfs h hw
 obtain ⟨v0,v1,v2,v3,rfl⟩:∃v0 v1 v2 v3,cs=[v0,v1,v2,v3]:=by
  match cs,hl with
  |[v0,v1,v2,v3],_=>exact ⟨v0,v1,v2,v3,rfl⟩
 obtain ⟨y0,h0,hw0,hb0⟩:=hall 0 _ _ rfl
 obtain ⟨y1,h1,hw1,hb1⟩:=hall 1 _ _ rfl
 obtain ⟨y2,h2,hw2,hb2⟩:=hall 2 _ _ rfl
 obtain ⟨y3,h3,hw3,hb3⟩:=hall 3 _ _ rfl
 rw [Ca5] at h0
 rw [Cm3] at h1
 rw [ci] at h2
 rw [cbs] at h3
 obtain ⟨s0,rows,fl,e0,g0⟩:=Aw9 h0 hw0 (by omega)
 obtain ⟨n1,e1,i1⟩:=Ae0 h1 (by omega)
 obtain ⟨n2,e2,_⟩:=Qd ui h2
 obtain ⟨s3,l3,e3,g3,k3⟩:=Tc h3 hw3 (by omega)
 simp at e0 e1 e2 e3
 subst e0 e1 e2 e3
 exact ⟨(s0,n1,n2,s3,()),rows,fl,l3,rfl,g0,g3,by dsimp only;omega,by omega⟩
theorem Bk6 {v:Value}{d:DataW H}{p:List MemPlace}(hv:Value.okWide Tryz.prog W .any base 39 v) (h:DataW.Trod enc Tryz.prog W 0 (λ_=>true) true 39 v d p) (hw:∀n∈d.weights Tryz.prog 39,n<=reachBytes) (hb:bulk d<=1048576) :
  ∃(y:Cells.T c39) (rows:List (Cells.T c65)) (fs:Fls) (data:List UInt8),v=.agg (Ko y)/\Scn W y rows fs data:=by
 obtain ⟨fs,hu,_⟩:=Bo0
 obtain ⟨cs,rfl,hsz⟩:=okWide_struct hu hv
 obtain ⟨n,hn⟩:=h
 rw [Cg7] at hsz
 obtain ⟨y,rows,fl,l,e,h1⟩:=Aw7 (cs:=cs.toList) (by simpa using hsz) (by simpa [Value.cells] using hn) hw hb
 exact ⟨y,rows,fl,l,by show _=Value.agg (Cells.vals c39 y).toArray;rw [←e],h1⟩
end
section
variable {H:Type}{enc:TypeId×Value->H}{W:World}{base:Nat}
end
theorem Br4 {α:Type}(l:List α) (h:l.length=3):∃v0 v1 v2,l=[v0,v1,v2]:=by
 match l,h with
 |[v0,v1,v2],_=>exact ⟨v0,v1,v2,rfl⟩
theorem Bo4:Tryz.prog.readableRec 39=true:=by kernel_rfl
end Dq
end Go.Proofs.YtmooldhpiopcgaaGreatDoor
namespace Go.Proofs.YtmooldhpiopcgaaGreatDoor
namespace Dq
open Go Go.Vx Go.ChangeShapes Go.WideShapes Go.RowKit Dsk Cdc
theorem Bv4:Tryz.prog.underlying 69=some (.slice 132):=C69.und
theorem cfs:Tryz.prog.cellsOf 69=1:=by kernel_rfl
theorem Cm4:Tryz.prog.cellsOf 72=2:=by kernel_rfl
theorem Ch9:Tryz.prog.cellsOf 132=5:=by kernel_rfl
theorem Cj6:∃fs:Array Field,Tryz.prog.underlying 72=some (.struct fs)/\fs.toList.map (λf=>(f.type,f.offset))=[(3,0),(70,1)]:=⟨_,C72.und,rfl⟩
theorem Ce6:∃fs:Array Field,Tryz.prog.underlying 132=some (.struct fs)/\fs.toList.map (λf=>(f.type,f.offset))=[(3,0),(3,1),(3,2),(72,3)]:=⟨_,Cb8.und,rfl⟩
section
variable {H:Type}{enc:TypeId×Value->H}{W:World}{base fuel:Nat}{held:Bool}
theorem Ap5 {cs:List Value}{x:DataW H×List MemPlace}(hl:cs.length=2) (h:DataW.trod enc Tryz.prog W base (λ_=>true) held fuel 72 cs=some x) (hw:∀n∈x.1.weights Tryz.prog 72,n<=reachBytes) :
  ∃(c:Cells.T c72) (l:List Int),cs=Cells.vals c72 c/\SlX W c.2.1 1 (iv l)/\l.length<=2^44:=by
 obtain ⟨fs,hu,hfs⟩:=Cj6
 obtain ⟨n,hall⟩:=Me hu hfs h hw
 obtain ⟨v0,v1,rfl⟩:∃v0 v1,cs=[v0,v1]:=by
  match cs,hl with
  |[v0,v1],_=>exact ⟨v0,v1,rfl⟩
 obtain ⟨y0,h0,_,_⟩:=hall 0 _ _ rfl
 obtain ⟨y1,h1,hw1,_⟩:=hall 1 _ _ rfl
 rw [ci] at h0
 rw [cis] at h1
 obtain ⟨n0,e0,_⟩:=Qd ui h0
 obtain ⟨s,l,e1,g1,g2,_⟩:=Bh4 Cj3 ui ci bi h1 hw1
 simp at e0 e1
 subst e0 e1
 exact ⟨(n0,s,()),l,rfl,g1,by omega⟩
theorem Ax0 {cs:List Value}{x:DataW H×List MemPlace}(hl:cs.length=5) (h:DataW.trod enc Tryz.prog W base (λ_=>true) held fuel 132 cs=some x) (hw:∀n∈x.1.weights Tryz.prog 132,n<=reachBytes) :
  ∃(r:Cells.T Gj) (f:Int×Bq),cs=Cells.vals Gj r/\r.1=f.1/\r.2.1=f.2.kind/\r.2.2.1=f.2.part/\r.2.2.2.1=f.2.names/\SlX W r.2.2.2.2.1 1 (iv f.2.bytes)/\f.2.bytes.length<=2^44/\Lie (λk=>k<W.heap.size) r.2.2.2.2.1:=by
 obtain ⟨fs,hu,hfs⟩:=Ce6
 obtain ⟨n,hall⟩:=Me hu hfs h hw
 obtain ⟨v0,v1,v2,v3,v4,rfl⟩:∃v0 v1 v2 v3 v4,cs=[v0,v1,v2,v3,v4]:=by
  match cs,hl with
  |[v0,v1,v2,v3,v4],_=>exact ⟨v0,v1,v2,v3,v4,rfl⟩
 obtain ⟨y0,h0,_⟩:=hall 0 _ _ rfl
 obtain ⟨y1,h1,_⟩:=hall 1 _ _ rfl
 obtain ⟨y2,h2,_⟩:=hall 2 _ _ rfl
 obtain ⟨y3,h3,hw3,_⟩:=hall 3 _ _ rfl
 rw [ci] at h0 h1 h2
 rw [Cm4] at h3
 obtain ⟨n0,e0,_⟩:=Qd ui h0
 obtain ⟨n1,e1,_⟩:=Qd ui h1
 obtain ⟨n2,e2,_⟩:=Qd ui h2
 obtain ⟨⟨nm,s,⟨⟩⟩,l,e3,g1,g2⟩:=Ap5 rfl h3 hw3
 simp [Cells.vals,Cell.val] at e0 e1 e2 e3
 obtain ⟨rfl,rfl⟩:=e3
 subst e0 e1 e2
 exact ⟨(n0,n1,n2,nm,s,()),(n0,⟨n1,n2,nm,l⟩),rfl,rfl,rfl,rfl,rfl,g1,g2,SlX.lie g1⟩
theorem Ap4 {cs:List Value}{x:DataW H×List MemPlace}(h:DataW.trod enc Tryz.prog W base (λ_=>true) held fuel 69 cs=some x) (hw:∀n∈x.1.weights Tryz.prog 69,n<=reachBytes) (hb:bulk x.1<=1048576) :
  ∃(s:Sl) (rows:List (Cells.T Gj)) (fl:List (Int×Bq)),cs=[.slice s.a s.len s.cap]/\Fe W (λk=>k<W.heap.size) s rows fl/\fl.length<=1048576:=by
 obtain ⟨s,rows,rfl,hs,hl,hby,hr⟩:=Qu Bv4 Ch9 (by decide) h hw
 obtain ⟨xs,ls,h1,h2,h3,h4⟩:=Sv (cs:=Gj) (β:=Int×Bq) (Q:=λr f=>r.1=f.1/\r.2.1=f.2.kind/\r.2.2.1=f.2.part/\r.2.2.2.1=f.2.names/\SlX W r.2.2.2.2.1 1 (iv f.2.bytes)/\f.2.bytes.length<=2^44/\Lie (λk=>k<W.heap.size) r.2.2.2.2.1) rows (λr hr'=>by
  obtain ⟨hrl,n,y,hy,hwy,_⟩:=hr r hr'
  exact Ax0 hrl hy hwy)
 rw [h1] at hs
 refine ⟨s,xs,ls,rfl,⟨hs,SlX.lie hs,h3,h4⟩,?_⟩
 omega
end
section
variable {H:Type}{enc:TypeId×Value->H}{W:World}{base:Nat}
theorem Cb5 {v:Value}{d:DataW H}{p:List MemPlace}(hv:Value.okWide Tryz.prog W .any base 72 v) (h:DataW.Trod enc Tryz.prog W 0 (λ_=>true) true 72 v d p) (hw:∀n∈d.weights Tryz.prog 72,n<=reachBytes) :
  ∃(c:Cells.T c72) (l:List Int),v=.agg (Cells.vals c72 c).toArray/\SlX W c.2.1 1 (iv l)/\l.length<=2^44:=by
 obtain ⟨fs,hu,_⟩:=Cj6
 obtain ⟨cs,rfl,hsz⟩:=okWide_struct hu hv
 obtain ⟨n,hn⟩:=h
 rw [Cm4] at hsz
 obtain ⟨c,l,e,h1,h2⟩:=Ap5 (cs:=cs.toList) (by simpa using hsz) (by simpa [Value.cells] using hn) hw
 exact ⟨c,l,by rw [←e],h1,h2⟩
end
theorem Ce9:Tryz.prog.readableRec 72=true:=by kernel_rfl
end Dq
end Go.Proofs.YtmooldhpiopcgaaGreatDoor
namespace Go.Proofs.YtmooldhpiopcgaaGreatDoor
namespace Dq
open Go Go.Vx Go.ChangeShapes Go.WideShapes Go.RowKit Dsk Cdc
theorem Bb5:Tryz.prog.underlying 84=some (.slice 86):=by kernel_rfl
theorem Cg8:Tryz.prog.cellsOf 86=2:=by kernel_rfl
theorem Ce5:∃fs:Array Field,Tryz.prog.underlying 86=some (.struct fs)/\fs.toList.map (λf=>(f.type,f.offset))=[(30,0),(69,1)]:=⟨_,C86.und,rfl⟩
section
variable {H:Type}{enc:TypeId×Value->H}{W:World}{base fuel:Nat}{held:Bool}
theorem Aw8 {cs:List Value}{x:DataW H×List MemPlace}(hl:cs.length=2) (h:DataW.trod enc Tryz.prog W base (λ_=>true) held fuel 86 cs=some x) (hw:∀n∈x.1.weights Tryz.prog 86,n<=reachBytes) (hb:bulk x.1<=1048576) :
  ∃(y:Cells.T c86) (o:List UInt8×List (Int×Bq)),cs=Cells.vals c86 y/\(Bytes W y.1 o.1/\(∃frows,Fe W (λk=>k<W.heap.size) y.2.1 frows o.2)/\o.2.length<=2^30):=by
 obtain ⟨fs,hu,hfs⟩:=Ce5
 obtain ⟨n,hall⟩:=Me hu hfs h hw
 obtain ⟨v0,v1,rfl⟩:∃v0 v1,cs=[v0,v1]:=by
  match cs,hl with
  |[v0,v1],_=>exact ⟨v0,v1,rfl⟩
 obtain ⟨y0,h0,hw0,hb0⟩:=hall 0 _ _ rfl
 obtain ⟨y1,h1,hw1,hb1⟩:=hall 1 _ _ rfl
 rw [cbs] at h0
 rw [cfs] at h1
 obtain ⟨s0,l0,e0,g0,k0⟩:=Tc h0 hw0 (by omega)
 obtain ⟨s1,rows,fl,e1,g1,k1⟩:=Ap4 h1 hw1 (by omega)
 simp at e0 e1
 subst e0 e1
 exact ⟨(s0,s1,()),(l0,fl),rfl,g0,⟨rows,g1⟩,by dsimp only;omega⟩
theorem Ap2 {cs:List Value}{x:DataW H×List MemPlace}(h:DataW.trod enc Tryz.prog W base (λ_=>true) held fuel 84 cs=some x) (hw:∀n∈x.1.weights Tryz.prog 84,n<=reachBytes) (hb:bulk x.1<=1048576) :
  ∃(s:Sl) (rows:List (Cells.T c86)) (rs:List (List UInt8×List (Int×Bq))),cs=[.slice s.a s.len s.cap]/\Ag8 W s rows rs:=by
 obtain ⟨s,rows,rfl,hs,hl,hby,hr⟩:=Qu Bb5 Cg8 (by decide) h hw
 obtain ⟨xs,ls,h1,h2,h3,h4⟩:=Sv (cs:=c86) (β:=List UInt8×List (Int×Bq)) (Q:=λy o=>Bytes W y.1 o.1/\(∃frows,Fe W (λk=>k<W.heap.size) y.2.1 frows o.2)/\o.2.length<=2^30) rows (λr hr'=>by
  obtain ⟨hrl,n,y,hy,hwy,hby⟩:=hr r hr'
  exact Aw8 hrl hy hwy (by omega))
 rw [h1] at hs
 exact ⟨s,xs,ls,rfl,hs,h3,h4⟩
end
section
variable {H:Type}{enc:TypeId×Value->H}{W:World}{base:Nat}
theorem Ba4 {v:Value}{d:DataW H}{p:List MemPlace}(hv:Value.okWide Tryz.prog W .any base 84 v) (h:DataW.Trod enc Tryz.prog W 0 (λ_=>true) true 84 v d p) (hw:∀n∈d.weights Tryz.prog 84,n<=reachBytes) (hb:bulk d<=1048576) :
  ∃(s:Sl) (rows:List (Cells.T c86)) (rs:List (List UInt8×List (Int×Bq))),v=.slice s.a s.len s.cap/\Ag8 W s rows rs:=by
 obtain ⟨a,len,cap,rfl⟩:=okWide_slice Bb5 hv
 obtain ⟨n,hn⟩:=h
 obtain ⟨s,ss,ls,e,h1⟩:=Ap2 hn hw hb
 exact ⟨s,ss,ls,by simpa [Value.cells] using e,h1⟩
end
theorem Bg3:Tryz.prog.readableRec 84=true:=by kernel_rfl
theorem Cj8 {t:TypeId}(h:t=39\/t=84\/t=72):Tryz.prog.readableRec t=true/\t<Tryz.prog.types.size:=by
 rcases h with rfl|rfl|rfl
 ·exact ⟨Bo4,by rw [Ah5];decide⟩
 ·exact ⟨Bg3,by rw [Ah5];decide⟩
 ·exact ⟨Ce9,by rw [Ah5];decide⟩
end Dq
end Go.Proofs.YtmooldhpiopcgaaGreatDoor
namespace Go.Proofs.YtmooldhpiopcgaaGreatDoor
namespace Dq
open Go Go.Vx Go.ChangeShapes Go.WideShapes Go.RowKit
theorem Cz1 {a b:Bool}(h:a=true) (h':b=true):(a&&b)=true:=by rw [h,h'];rfl
theorem Wj (os:Os){H:Type}(enc:TypeId×Value->H) :
  (Rows.OpenSpec.upto Rows.saveAgainSpec).preRow enc Tryz.prog Tryz.f13 Rows.saveAgainUptoRow.domain false Af1 ((laidWorld os).forCall (λ_ _=>0) ⟨#[],#[.agg #[.slice none 0 0,.string ⟨#[]⟩,.int .i64 0,.slice none 0 0],.slice none 0 0,.agg #[.int .i64 0,.slice none 0 0]],[]⟩).memory #[.agg #[.slice none 0 0,.string ⟨#[]⟩,.int .i64 0,.slice none 0 0],.slice none 0 0,.agg #[.int .i64 0,.slice none 0 0]]:=by
 have hw:(DataW.whole enc Tryz.prog ((laidWorld os).forCall (λ_ _=>0) ⟨#[],#[.agg #[.slice none 0 0,.string ⟨#[]⟩,.int .i64 0,.slice none 0 0],.slice none 0 0,.agg #[.int .i64 0,.slice none 0 0]],[]⟩).memory Tryz.f13.params.toList (Rows.OpenSpec.upto Rows.saveAgainSpec).vars false (#[.agg #[.slice none 0 0,.string ⟨#[]⟩,.int .i64 0,.slice none 0 0],.slice none 0 0,.agg #[.int .i64 0,.slice none 0 0]]:Array Value).toList 8).map (λx=>(x.1,x.2.1)) =
   some ([.agg [.nil,.lit (.string []),.lit (.int .i64 0),.nil],.nil,.agg [.lit (.int .i64 0),.nil]],[]):=by kernel_rfl
 obtain ⟨⟨x1,x2,x3⟩,hx,hx1⟩:=Option.map_eq_some_iff.1 hw
 simp only [Prod.mk.injEq] at hx1
 obtain ⟨rfl,rfl⟩:=hx1
 exact OpenSpec.preRow_of_cond 8 hx (by kernel_rfl) (λk hk=>by cases hk;kernel_rfl) (by kernel_rfl) (laid_met os _)
set_option maxRecDepth 100000 in
set_option maxHeartbeats 2000000 in
theorem Xr (os:Os) (started:os.Started) (H:Type) (enc:TypeId×Value->H) (F:Stop.Interp) :
  ReturnsInHanded {} Tryz.checked os 13 .any ((Rows.OpenSpec.upto Rows.saveAgainSpec).preRow enc Tryz.prog Tryz.f13 Rows.saveAgainUptoRow.domain false Af1) (((Rows.OpenSpec.upto Rows.saveAgainSpec).at F).post enc Tryz.prog Tryz.f13 false true false false):=by
 refine returnsInHanded_of_row (C:=Tryz.checked) (s:=Rows.OpenSpec.upto Rows.saveAgainSpec) own started (by kernel_rfl) Tryz.func13
  (witness_row_atRef (enc:=enc) (C:=Tryz.checked) false (laidWorld os) #[.agg #[.slice none 0 0,.string ⟨#[]⟩,.int .i64 0,.slice none 0 0],.slice none 0 0,.agg #[.int .i64 0,.slice none 0 0]] rfl (by kernel_rfl) (by kernel_rfl) (by kernel_rfl) (Wj os enc)) ?_
 intro W base args ds gs before hval0 hW _ hk hwt0 hL _ _
 have hval:∀(j:Nat) t v,Tryz.f13.params[j]?=some t->args[j]?=some v->Value.okWide Tryz.prog W .any base t v:=hval0
 have hwt:(DataW.weightsEach Tryz.prog (Tryz.f13.params.toList++[]) (ds++gs)).all (·<=reachBytes)=true:=hwt0
 have hW':=hW
 obtain ⟨p,q,hA0,hV,rfl,hfz,hnd⟩:=hW
 have hA:DataW.TrodAll enc Tryz.prog W 0 (λ_=>true) true Tryz.f13.params.toList args.toList ds p:=hA0
 clear hA0 hval0 hwt0
 rw [Tryz.params13] at hA hval hwt
 obtain ⟨rfl,rfl⟩:=trodVars_none hV
 obtain ⟨hn1,hn2,hT⟩:=Yo hA
 obtain ⟨v0,v1,v2,hv⟩:=Br4 args.toList hn1
 obtain rfl:args=#[v0,v1,v2]:=by cases args;simp_all
 obtain ⟨d0,d1,d2,rfl⟩:=Br4 ds hn2
 have hbulk0:bulk d0<=1048576:=by
  have h:Rows.uptoBulkAll ([d0,d1,d2]++[])<=1048576:=of_decide_eq_true (hk _ rfl)
  simp only [List.append_nil,Rows.uptoBulkAll] at h
  show Rows.uptoBulk d0<=_
  omega
 have hbulk1:bulk d1<=1048576:=by
  have h:Rows.uptoBulkAll ([d0,d1,d2]++[])<=1048576:=of_decide_eq_true (hk _ rfl)
  simp only [List.append_nil,Rows.uptoBulkAll] at h
  show Rows.uptoBulk d1<=_
  omega
 have hbulk2:bulk d2<=1048576:=by
  have h:Rows.uptoBulkAll ([d0,d1,d2]++[])<=1048576:=of_decide_eq_true (hk _ rfl)
  simp only [List.append_nil,Rows.uptoBulkAll] at h
  show Rows.uptoBulk d2<=_
  omega
 obtain ⟨p0,q0⟩:=hT 0 39 v0 d0 rfl rfl rfl
 obtain ⟨p1,q1⟩:=hT 1 84 v1 d1 rfl rfl rfl
 obtain ⟨p2,q2⟩:=hT 2 72 v2 d2 rfl rfl rfl
 obtain ⟨y,rows,fl,data,rfl,hsc⟩:=Bk6 (hval 0 39 v0 rfl rfl) q0 (weigh hwt 0 rfl rfl) hbulk0
 obtain ⟨sx,rrows,rds,rfl,hrr⟩:=Ba4 (hval 1 84 v1 rfl rfl) q1 (weigh hwt 1 rfl rfl) hbulk1
 obtain ⟨cc,bys,rfl,hcc,hcl⟩:=Cb5 (hval 2 72 v2 rfl rfl) q2 (weigh hwt 2 rfl rfl)
 have walk:=Ba8 (Bz1 hL) hsc hrr hcc hcl (K:=λr w'=>r=true/\Ext W w') λw' e=>⟨rfl,e⟩
 refine walk.mono λe W' ⟨x,he,hx,hext⟩=>⟨.bool true,?_,?_⟩
 ·subst hx;exact he
 ·exact Bh2 (s:=Rows.saveAgainSpec) hW' rfl rfl u4 rfl laidOut (λt ht=>by
   rw [Tryz.params13] at ht
   have ht:t∈[39,84,72]:=ht
   simp only [List.mem_cons,List.not_mem_nil,or_false] at ht
   exact Cj8 ht) hext
set_option maxHeartbeats 0 in
theorem Zr:joinedFacts Tryz.pinned.checked.prog 13 Tryz.f13 (Rows.OpenSpec.upto Rows.saveAgainSpec).bare Rows.saveAgainUptoRow=true:=by
 unfold joinedFacts
 with_reducible repeat' apply Cz1
 all_goals as_aux_lemma=>kernel_rfl
theorem Ab1:Rows.SaveAgainUptoSaid :=
 OpenClaim.holds_of_cond 13 Tryz.f13 rfl rfl rfl rfl rfl rfl rfl ⟨rfl,rfl,rfl,rfl,rfl⟩ rfl rfl rfl rfl rfl (by as_aux_lemma=>kernel_rfl) Tryz.func13 Zr
  (of_decide_eq_true (by as_aux_lemma=>kernel_rfl)) (by unfold Func.isWrapper;rw [if_neg (by as_aux_lemma=>decide +kernel)];exact ⟨rfl,rfl⟩)
  (λos started H enc _ F=>by rw [OpenClaim.pre_eq_preRow];exact Xr os started H enc F)
end Dq
theorem saveAgain_holds:Rows.SaveAgainUptoCardSaid :=
 Claim7.holds_tied_plain_at .later [] [.handle] true (true, "8fa86d716e3cbb5d44ad5d616054dc9adf16b2d155b2b8fa930f25b85a3d54ce") true
  Dq.Ab1 (λ_ h=>by cases h) (by as_aux_lemma=>kernel_rfl) (λ_ h=>by cases h) saveAgainUpto_row_tie rfl ⟨rfl,rfl⟩ (by as_aux_lemma=>kernel_rfl) rfl
  (λf fn hf hfn=>by
   obtain rfl:f=13:=Option.some.inj ((show Tryz.prog.funcNamed "copyist/copyistlaw17.SaveAgain" = some 13 by as_aux_lemma=>kernel_rfl).symm.trans hf) |>.symm
   obtain rfl:fn=Tryz.f13:=(Option.some.inj (Tryz.func13.symm.trans hfn)).symm
   exact ⟨by as_aux_lemma=>kernel_rfl,λj t ht=>by
    rw [Tryz.params13] at ht
    have hm:t∈[39,84,72]:=by simpa using Array.mem_of_getElem? ht
    have hall:([39,84,72].all λu=>!Tryz.prog.wantsStandIn u)=true:=by as_aux_lemma=>kernel_rfl
    exact (show Tryz.prog.wantsStandIn t=false by simpa using List.all_eq_true.1 hall t hm)⟩)
  (by as_aux_lemma=>kernel_rfl)
end Go.Proofs.YtmooldhpiopcgaaGreatDoor
