/- YtmooldhpiopcgaaGreatDoorSOp7: parts of the proof, put together by program. -/
import Derived.Test.YtmooldhpiopcgaaGreatDoorSOp6
set_option linter.unusedVariables false
set_option linter.defProp false
set_option linter.unusedSimpArgs false
set_option linter.unusedSectionVars false
noncomputable section
set_option maxHeartbeats 2000000
set_option maxRecDepth 100000
namespace Go.Proofs.YtmooldhpiopcgaaGreatDoor
open Go.Proofs.Tryz
section
namespace Dq
open Go Go.Vx Dsk Cdc Trx
abbrev nmE:Nm:=⟨#[]⟩
def Qy (s:Sl) (g:Fl):Cells.T Kv:=(s,(g.synced:Int),g.count,())
def Ov (ds:List Sl) (fs:List Fl):List (Cells.T Kv):=List.zipWith Qy ds fs
def rowA:Iq->Cells.T Z7
 |.mk n i=>(nmE,n,(i:Int)+1,())
 |.rm n=>(n,nmE,0,())
 |.mv a b i=>(a,b,(i:Int)+1,())
abbrev Cg1 (D:Dk) (sf sl sa sq:Sl):Array Value:=#[.int .i64 D.space,.slice sf.a sf.len sf.cap,.slice sl.a sl.len sl.cap,.slice sa.a sa.len sa.cap,.bool D.down,.slice sq.a sq.len sq.cap,.int .i64 D.steps]
structure RAt (w:World) (r:Nat) (R:Nat->Prop) (D:Dk) (sf sl sa sq:Sl) (ds:List Sl) (es:List Ent) (qr:List (Cells.T Dt)) (ql:List (Int×Ce)):Prop where
 box:w.heap[r]?=some (.cells (Cg1 D sf sl sa sq) 239 (0,0))
 fil:Am w 0 sf 298 3 (flat Kv (Ov ds D.files))
 flen:ds.length=D.files.length
 dat:∀(i:Nat) s g,ds[i]?=some s->D.files[i]?=some g->Dl w 0 s g.data
 ne:∀(i j:Nat) s t,i≠j->ds[i]?=some s->ds[j]?=some t->∀k,s.blk k->¬t.blk k
 las:Ij w 0 sl es
 ent:Md D.lasts es
 act:Am w 0 sa 317 3 (flat Z7 (D.acts.map rowA))
 flt:Am w 0 sq 132 5 (flat Dt qr)
 qlen:qr.length=ql.length
 qat:∀(i:Nat) x (f:Int×Ce),qr[i]?=some x->ql[i]?=some f->x.1=f.1/\x.2.1=f.2.kind/\x.2.2.1=f.2.part/\x.2.2.2.1=f.2.names/\Am w 0 x.2.2.2.2.1 3 1 (iv f.2.bytes)/\f.2.bytes.length<=2^44/\1<=f.2.kind/\f.2.kind<=5
 qlook:∀k,D.plan k=(ql.find? λf=>f.1==k).map (·.2)
 qbig:ql.length<=2^30
 fr:R r
 ff:∀k,sf.blk k->R k
 fd:∀s∈ds,∀k,s.blk k->R k
 fl_:∀k,sl.blk k->R k
 fa:∀k,sa.blk k->R k
 fq:∀k,sq.blk k->R k
 fb:∀x∈qr,∀k,x.2.2.2.2.1.blk k->R k
 lt:∀k,R k->k<w.heap.size
def RIn (w:World) (r:Nat) (R:Nat->Prop) (D:Dk):Prop:=∃sf sl sa sq ds es qr ql,RAt w r R D sf sl sa sq ds es qr ql
def zty:Obj->Bool
 |.cells _ t _=>t==239||(t==298||(t==5||(t==255||(t==317||(t==132||t==3)))))
 |_=>false
section
variable {w w':World}{S R R':Nat->Prop}{r:Nat}{D D':Dk}{N:Nat}{B:Nat}{sf sl sa sq:Sl}{ds:List Sl}{es:List Ent}{qr:List (Cells.T Dt)}{ql:List (Int×Ce)}{n:Nm}
def Ir {fs:List Fl}{i:Nat}{s:Sl}{g:Fl}(h1:ds[i]?=some s) (h2:fs[i]?=some g):(Ov ds fs)[i]?=some (Qy s g):=by unfold Ov;rw [wQ,h1,h2]
def Qe {fs:List Fl}(hl:ds.length=fs.length) (i:Nat) (s:Sl) (g:Fl):Ov (ds.set i s) (fs.set i g)=(Ov ds fs).set i (Qy s g):=by unfold Ov;apply nY;intro j;rw [wQ,nX,nX,nX,wS,wQ,←hl,Nat.min_self];by_cases h:i=j;{rw [iK h,iK h,iK h];by_cases h2:j<ds.length;{rw [iK (by omega),iK (by omega),iK (by omega)]};{rw [iP (by omega),iP (by omega),iP (by omega)]}};{rw [iP h,iP h,iP h]}
def Bp5 {fs:List Fl}(hl:ds.length=fs.length):(Ov ds fs).length=fs.length:=by unfold Ov;rw [wS];omega
def RAt.upd (h:RAt w r R D sf sl sa sq ds es qr ql) (u:Upd S w w') (hS:∀k,R k->¬S k):RAt w' r R D sf sl sa sq ds es qr ql :=
 ⟨u.get h.box (hS r h.fr),h.fil.upd u λk _ hk=>hS k (h.ff k hk),h.flen,λi s g hs hg=>(h.dat i s g hs hg).upd u λk _ hk=>hS k (h.fd s (lU hs) k hk),h.ne,h.las.upd u λk _ hk=>hS k (h.fl_ k hk),h.ent,h.act.upd u λk _ hk=>hS k (h.fa k hk),h.flt.upd u λk _ hk=>hS k (h.fq k hk),h.qlen,
  λi x f hx hf=>let ⟨a,b,c,d,e,g⟩:=h.qat i x f hx hf;⟨a,b,c,d,e.upd u λk _ hk=>hS k (h.fb x (lU hx) k hk),g⟩,h.qlook,h.qbig,h.fr,h.ff,h.fd,h.fl_,h.fa,h.fq,h.fb,λk hk=>mP (h.lt k hk) u.size⟩
def RAt.ext (h:RAt w r R D sf sl sa sq ds es qr ql) (e:Ext w w'):RAt w' r R D sf sl sa sq ds es qr ql:=h.upd e λ_ _=>id
def RIn.frame (h:RIn w r R D) (u:Upd S w w') (hS:∀k,R k->¬S k):RIn w' r R D:=by obtain ⟨sf,sl,sa,sq,ds,es,qr,ql,A⟩:=h;exact ⟨sf,sl,sa,sq,ds,es,qr,ql,A.upd u hS⟩
def RIn.ext (h:RIn w r R D) (e:Ext w w'):RIn w' r R D:=h.frame e λ_ _=>id
def RIn.lt (h:RIn w r R D):∀k,R k->k<w.heap.size:=by obtain ⟨sf,sl,sa,sq,ds,es,qr,ql,A⟩:=h;exact A.lt
def RAt.in (h:RAt w r R D sf sl sa sq ds es qr ql):RIn w r R D:=⟨sf,sl,sa,sq,ds,es,qr,ql,h⟩
def Ai2 {c:Array Value}{t:TypeId}{fr:Nat×Nat}{k:Nat}(h:w.heap[k]?=some (.cells c t fr)) (ht:zty (.cells #[] t fr)=true):∀o,w.heap[k]?=some o->zty o=true:=λo ho=>by rw [h] at ho;cases ho;exact ht
def Vt {s:Sl}{t:TypeId}{sz:Nat}{vs:List Value}(h:Am w B s t sz vs) (ht:∀fr,zty (.cells #[] t fr)=true){k:Nat}(hk:s.blk k):∀o,w.heap[k]?=some o->zty o=true:=by obtain ⟨c,fr,hc⟩:=h.in.Bf hk;exact Ai2 hc (ht fr)
def RIn.thin (h:RIn w r R D):RIn w r (λk=>R k/\∀o,w.heap[k]?=some o->zty o=true) D:=by obtain ⟨sf,sl,sa,sq,ds,es,qr,ql,A⟩:=h;refine ⟨sf,sl,sa,sq,ds,es,qr,ql,A.box,A.fil,A.flen,A.dat,A.ne,A.las,A.ent,A.act,A.flt,A.qlen,A.qat,A.qlook,A.qbig,⟨A.fr,Ai2 A.box rfl⟩,λk hk=>⟨A.ff k hk,Vt A.fil (λ_=>rfl) hk⟩,λs hs k hk=>⟨A.fd s hs k hk,?_⟩,λk hk=>⟨A.fl_ k hk,Vt A.las (λ_=>rfl) hk⟩,λk hk=>⟨A.fa k hk,Vt A.act (λ_=>rfl) hk⟩,λk hk=>⟨A.fq k hk,Vt A.flt (λ_=>rfl) hk⟩,λx hx k hk=>⟨A.fb x hx k hk,?_⟩,λk hk=>A.lt k hk.1⟩;{obtain ⟨i,hi⟩:=uU.1 hs;have hlt:=(lY.1 hi).1;obtain ⟨g,hg⟩:∃g,D.files[i]?=some g:=⟨_,oP (by rw [←A.flen];exact hlt)⟩;exact Vt (A.dat i s g hi hg) (λ_=>rfl) hk};{obtain ⟨i,hi⟩:=uU.1 hx;have hlt:=(lY.1 hi).1;obtain ⟨f,hf⟩:∃f,ql[i]?=some f:=⟨_,oP (by rw [←A.qlen];exact hlt)⟩;exact Vt (A.qat i x f hi hf).2.2.2.2.1 (λ_=>rfl) hk}
def RAt.set (h:RAt w r R D sf sl sa sq ds es qr ql) (u:Upd (λk=>k=r) w w') (hb:w'.heap[r]?=some (.cells (Cg1 D' sf sl sa sq) 239 (0,0))) (h1:D'.files=D.files) (h2:D'.lasts=D.lasts) (h3:D'.acts=D.acts) (h4:D'.plan=D.plan):RAt w' r R D' sf sl sa sq ds es qr ql:=by
 have nb:∀{s:Sl} {t:TypeId} {sz:Nat} {vs:List Value} {B:Nat},Am w B s t sz vs->t≠239->∀k,s.blk k->k≠r:=λhs ht k hk hh=>by
  obtain ⟨c,fr,hc⟩:=hs.in.Bf hk
  rw [hh,h.box] at hc;cases hc;exact ht rfl
 refine ⟨hb,by rw [h1];exact h.fil.upd u λk _ hk=>nb h.fil (by decide) k hk,by rw [h1];exact h.flen,λi s g hs hg=>?_,h.ne,h.las.upd u λk _ hk=>nb h.las (by decide) k hk,by rw [h2];exact h.ent,by rw [h3];exact h.act.upd u λk _ hk=>nb h.act (by decide) k hk,h.flt.upd u λk _ hk=>nb h.flt (by decide) k hk,h.qlen,λi x f hx hf=>?_,by rw [h4];exact h.qlook,h.qbig,h.fr,h.ff,h.fd,h.fl_,h.fa,h.fq,h.fb,λk hk=>mP (h.lt k hk) u.size⟩;{rw [h1] at hg;have:=h.dat i s g hs hg;exact this.upd u λk _ hk=>nb this (by decide) k hk};{obtain ⟨a,b,c,d,e,g⟩:=h.qat i x f hx hf;exact ⟨a,b,c,d,e.upd u λk _ hk=>nb e (by decide) k hk,g⟩}
def Cq2 {l:List Ent}(h:∀e∈l,e.1≠n):woE l n=l:=by unfold woE;exact oM.2 λe he=>by simpa using h e he
def Good.Cb2 {f:Dir}{m:Nat}(h:Good m f):f nmE=none:=by
 cases hf:f nmE with
 |none=>rfl
 |some i=>have:=h.okn _ i hf;exact absurd this (by decide)
def Ah1 (h:RAt w r R D sf sl sa sq ds es qr ql):D.acts.length=sa.len:=by have:=Am.Py (cs:=Z7) h.act (by decide);rwa [nO] at this
def Wn (h:RAt w r R D sf sl sa sq ds es qr ql) (k:Nat):Md (Gf (D.acts.take k) D.lasts) (Nb (D.acts.take k) es):=h.ent.all _
def Bz3 (h:RAt w r R D sf sl sa sq ds es qr ql) (ok:Bj D N) (k:Nat):(Nb (D.acts.take k) es).length<=16:=by rw [←(Wn h k).len];exact (ok.good k).names.2
def Ah0 (h:RAt w r R D sf sl sa sq ds es qr ql) (ok:Bj D N) (hN:N<=2^40){m:Int}{K:Sl->Wp}(hK:∀s w',Ij w' 0 s (Nb (D.acts.take m.toNat) es)->Ext w w'->(∀k,s.blk k->R k\/w.heap.size<=k)->K s w') :
  Aa prog 188 #[dU r,vI m] rS K w:=by
 refine Df3 ?_;unfold F188;have hal:=Ah1 h;have hao:=ok.acts;refine Ad ?_;rw [addr_add];refine Af h.box (off:=0+2) (x:=sl) rfl (Ai (λy W=>∃s,y=(s,())/\Ij W 0 s (Nb (D.acts.take m.toNat) es)/\Ext w W/\∀k,s.blk k->R k\/w.heap.size<=k) ?_ ?_)
 ·refine Bo (λst W=>∃(j:Nat) (s:Sl),st=(s,(j:Int),())/\j<=D.acts.length/\(j:Int)<=max m 0/\Ij W 0 s (Nb (D.acts.take j) es)/\Ext w W/\∀k,s.blk k->R k\/w.heap.size<=k) (λst _=>D.acts.length-st.2.1.toNat) ⟨0,sl,rfl,qI _,by omega,h.las,Ext.refl _,λk hk=>.inl (h.fl_ k hk)⟩ ?_;rintro _ W ⟨j,s,rfl,hj,hjm,o,e,hsb⟩;dsimp only;have hW:=h.ext e;refine Ar (decide ((j:Int)<m/\j<D.acts.length),()) (Ac (λh1=>Ad ?_) λh1=>⟨Di ?_,rfl⟩) (Ac (λhlt=>?_) λhge=>?_);{rw [addr_add];refine Af hW.box (off:=0+3) (x:=sa) rfl ⟨Di ?_,rfl⟩;have h1:=jY h1;rw [pF,pF];omega};{have h1:=sK h1;rw [pF];constructor;{intro hh;cases hh};{intro hh;exact absurd hh.1 h1}}
  ·obtain ⟨hlm,hlt⟩:=jY hlt;obtain ⟨a,ha⟩:∃a,D.acts[j]?=some a:=⟨_,oP hlt⟩;(have htk:D.acts.take (j+1)=D.acts.take j++[a]:=by rw [sO,ha];rfl);have hsn:Nb (D.acts.take (j+1)) es=Iq.onE a (Nb (D.acts.take j) es):=(by rw [htk,P6]);have hE:=Wn h j;have hE2:=Wn h (j+1);have hg:=ok.good j;have hg2:=ok.good (j+1);have hle:=Bz3 h ok j;have hon:Gf (D.acts.take (j+1)) D.lasts=a.on (Gf (D.acts.take j) D.lasts):=by
    have:∀(l:List Iq) (f:Dir),Gf (l++[a]) f=a.on (Gf l f):=λl=>by
     induction l with
     |nil=>intro f;rfl
     |cons b r ih=>intro f;exact ih _
    rw [htk,this]
   rw [hon] at hg2;obtain ⟨l0,hl0⟩:∃l0,l0=Nb (D.acts.take j) es:=⟨_,rfl⟩;rw [←hl0] at hsn hE hle o;(have hrow:(D.acts.map rowA)[Int.toNat (j:Int)]?=some (rowA a):=by rw [kH,nP,ha];rfl);have hne0:woE l0 nmE=l0:=Cq2 λx hx hh=>by
    have:=(hE.mem x.1 x.2).2 hx
    rw [hh,hg.Cb2] at this;cases this
   have key:∃(nm to:Nm) (i:Nat) (fi:Int),rowA a=(nm,to,fi,())/\(to≠nmE->fi=(i:Int)+1)/\Iq.onE a l0=if to=nmE then woE l0 nm else wiE (woE l0 nm) to i:=by
    cases a with
    | mk n i =>
     have hn:n≠nmE:=λhh=>by
      have:=hg2.okn n i (by show Eo _ n (some i) n=_;unfold Eo;rw [iK rfl])
      rw [hh] at this;exact absurd this (by decide)
     exact ⟨nmE,n,i,_,rfl,λ_=>rfl,by rw [iP hn,hne0];rfl⟩
    |rm n=>exact ⟨n,nmE,0,_,rfl,λhh=>absurd rfl hh,by rw [iK rfl];rfl⟩
    | mv a b i =>
     have hn:b≠nmE:=λhh=>by
      have:=hg2.okn b i (by show Eo _ b (some i) b=_;unfold Eo;rw [iK rfl])
      rw [hh] at this;exact absurd this (by decide)
     exact ⟨a,b,i,_,rfl,λ_=>rfl,by rw [iP hn];rfl⟩
   obtain ⟨nm,to,i,fi,hra,hfi,hOn⟩:=key;rw [hra] at hrow;rw [hOn] at hsn;have hw0:(woE l0 nm).length<=16:=mM (qR _ _) hle;refine Ai (λy W'=>∃s2,y=(s2,())/\Ij W' 0 s2 (Nb (D.acts.take (j+1)) es)/\Ext w W'/\∀k,s2.blk k->R k\/w.heap.size<=k) ?_ ?_;{refine Ad ?_;rw [addr_add];refine Af hW.box (off:=0+3) (x:=sa) rfl (Xv (cs:=Z7) hW.act.in (by decide) (by omega) hrow λ_=>Ag λb17 w1 e1 n1 hb1 hz1=>Ba n1 rfl rfl (by decide) λw2 u2 n2 z2=>?_);have n2:w2.heap[b17]?=some (.cells (Cells.vals Z7 (nm,to,fi,())).toArray 317 (0,0)):=n2;have e2:Ext W w2:=e1.step u2 λk hk=>(by omega);have zW:=e.size;refine Ai (λy W'=>∃s1,y=(s1,())/\Ij W' 0 s1 (woE l0 nm)/\Ext w2 W'/\∀k,s1.blk k->R k\/w.heap.size<=k) ?_ ?_;{refine Af n2 (off:=0) (x:=nm) rfl ?_;rw [bytes_eq];refine Ac (λhne=>?_) λhe=>?_;{refine Af n2 (off:=0) (x:=nm) rfl (Yb (o.ext e2) (by omega) λs1 w3 o3 e3=>⟨s1,rfl,o3.mono (qI _),e3,λk hk=>.inr (by have:=o3.Dh hk;have:=e2.size;omega)⟩)};{have he:nm=nmE:=(by simpa using he);rw [he,hne0];exact ⟨s,rfl,o.ext e2,Ext.refl _,hsb⟩}};rintro _ w3 ⟨s1,rfl,o3,e3,hb3⟩;have n3:=e3.ext_get n2;have e03:=(e.trans e2).trans e3;refine Af n3 (off:=1) (x:=to) rfl ?_;rw [bytes_eq];refine Ac (λhne=>?_) λhe=>?_;{have hne:to≠nmE:=(by simpa using hne);rw [iP hne] at hsn;have hfi:=hfi hne;subst hfi;refine Af n3 (off:=1) (x:=to) rfl (Af n3 (off:=2) (x:=(i:Int)+1) rfl (Ai6 o3 (by omega) λs4 w4 o4 e4=>⟨s4,rfl,by rw [hsn];exact o4.mono (qI _),e03.trans e4,λk hk=>.inr (by have:=o4.Dh hk;have:=e03.size;omega)⟩))};{have he:to=nmE:=(by simpa using he);rw [iK he] at hsn;exact ⟨s1,rfl,by rw [hsn];exact o3,e03,hb3⟩}};rintro _ W2 ⟨s2,rfl,o2,e2,hb2⟩;rw [iE (by omega)];exact ⟨⟨j+1,s2,by rw [show ((j:Int)+1)=((j+1:Nat):Int) by omega],hlt,by omega,o2,e2,hb2⟩,by show D.acts.length-((j:Int)+1).toNat<D.acts.length-(j:Int).toNat;omega⟩
  ·have hge:=sK hge;have:D.acts.take m.toNat=D.acts.take j:=by
    by_cases hm:(j:Int)<m
    ·have:¬j<D.acts.length:=λhh=>hge ⟨hm,hh⟩
     rw [sQ (by omega),sQ (by omega)]
    ·have:m.toNat=j:=by omega
     rw [this]
   rw [this];exact ⟨s,rfl,o,e,hsb⟩
 {rintro _ W ⟨s,rfl,o,e,hb⟩;exact hK s W o e hb}
def Qb (h:RAt w r R D sf sl sa sq ds es qr ql) (ok:Bj D N) (hN:N<=2^40){K:Sl->Wp}(hK:∀s l w',Ij w' 0 s l->Md D.seen l->Ext w w'->(∀k,s.blk k->R k\/w.heap.size<=k)->K s w') :
  Aa prog 151 #[dU r] rS K w:=by refine Dg9 ?_;unfold F151;refine Ad ?_;rw [addr_add];refine Af h.box (off:=0+3) (x:=sa) rfl (Ah0 h ok hN λs w' o e hb=>hK s _ w' o ?_ e hb);have:=Ah1 h;rw [sQ (by omega)];exact h.ent.all _
def numOf (D:Dk) (n:Nm):Int:=match D.seen n with|some i=>(i:Int)+1|none=>0
def Ab1 (h:RAt w r R D sf sl sa sq ds es qr ql) (ok:Bj D N) (hN:N<=2^40){K:Int->Wp}(hK:iF w (K (numOf D n))) :
  Aa prog 189 #[dU r,.string n] rI K w:=by
 refine Df2 ?_;unfold F189;refine Qb h ok hN λs l w1 o hE e hb=>?_;have hol:=o.len;(have hl16:l.length<=16:=by rw [←hE.len];exact ok.seen.names.2);refine Ai (λ_ W=>Ext w W/\D.seen n=none) ?_ ?_
 ·refine Bo (λst W=>∃j:Nat,st=((j:Int),())/\j<=l.length/\w1=W/\∀(i:Nat) e,i<j->l[i]?=some e->e.1≠n) (λst _=>l.length-st.1.toNat) ⟨0,rfl,qI _,rfl,λi e hi=>by omega⟩ ?_;rintro _ _ ⟨j,rfl,hj,rfl,hno⟩;dsimp only;refine Ac (λhlt=>?_) λhge=>?_;{(have hlt:j<l.length:=by have:=jY hlt;omega);obtain ⟨c,hc⟩:∃c,l[j]?=some c:=⟨_,oP hlt⟩;refine Ky (c:=.str) (cs:=Sm) (y:=c.1) o.in (by omega) (Jt hc) rfl λ_=>?_;rw [bytes_eq];refine Ac (λhe=>?_) λhne=>?_;{have he:c.1=n:=jY he;refine Zw (c:=.int .i64) (cs:=Sm) (j:=1) (y:=(c.2:Int)+1) o.in (by omega) (Jt hc) rfl λ_=>?_;have hs:D.seen n=some c.2:=(hE.mem n c.2).2 (by rw [←he];exact lU hc);have:=hK _ e;unfold numOf at this;rw [hs] at this;exact this};{have hne:c.1≠n:=sK hne;rw [iE (by omega)];refine ⟨⟨j+1,by rw [show ((j:Int)+1)=((j+1:Nat):Int) by omega],hlt,rfl,λi e hi he=>?_⟩,by show l.length-((j:Int)+1).toNat<l.length-(j:Int).toNat;omega⟩;by_cases hij:i=j;{subst hij;rw [hc] at he;cases he;exact hne};{exact hno i e (by omega) he}}}
  ·(have hge:¬j<l.length:=by have:=sK hge;omega);refine ⟨e,?_⟩;cases hs:D.seen n with
   |none=>rfl
   |some i=>obtain ⟨q,hq⟩:=uU.1 ((hE.mem n i).1 hs);exact absurd rfl (hno q _ (by have:=(lY.1 hq).1;omega) hq)
 {rintro _ W ⟨e,hs⟩;have:=hK _ e;unfold numOf at this;rw [hs] at this;exact this}
def Bo9 (l:xP) (x:Int):Fq (l++[x])=Fq l+x:=by rw [Uy];simp [Fq]
def Aa9 (h:RAt w r R D sf sl sa sq ds es qr ql) (ok:Bj D N) (hN:N<=2^40){K:Int->Wp}(hK:iF w (K (Cb D none))) :
  Aa prog 190 #[dU r] rI K w:=by
 refine Df1 ?_;unfold F190;refine Qb h ok hN λs l w1 o hE e hb=>?_;have hol:=o.len;(have hl16:l.length<=16:=by rw [←hE.len];exact ok.seen.names.2);have hnn:=ok.num;have ho0:∀x∈l.map (λe:Ent=>((fl D e.2).data.length:Int)),0<=x/\x<=1048576:=λx hx=>by
  obtain ⟨c,_,rfl⟩:=nT.1 hx
  have:=(ok.fl c.2).1;omega
 have hsum:∀m:xP,(∀x∈m,0<=x/\x<=1048576)->0<=Fq m/\Fq m<=m.length*1048576:=λm hm=>⟨Ou λx hx=>(hm x hx).1,Yg λx hx=>(hm x hx).2⟩;refine Ai (λy W=>y=(Cb D none,())/\Ext w W) ?_ ?_
 ·refine Bo (λst W=>∃j:Nat,st=(Fq ((l.take j).map λe:Ent=>((fl D e.2).data.length:Int)),(j:Int),())/\j<=l.length/\Ext w1 W) (λst _=>l.length-st.2.1.toNat) ⟨0,rfl,qI _,Ext.refl _⟩ ?_;rintro _ W ⟨j,rfl,hj,eW⟩;dsimp only;refine Ac (λhlt=>?_) λhge=>?_
  ·(have hlt:j<l.length:=by have:=jY hlt;omega);obtain ⟨c,hc⟩:∃c,l[j]?=some c:=⟨_,oP hlt⟩;have hs:D.seen c.1=some c.2:=(hE.mem c.1 c.2).2 (lU hc);obtain ⟨g,hg,hfl⟩:=Jz ok hs;have hci:=(lY.1 hg).1;obtain ⟨sd,hsd⟩:∃sd,ds[c.2]?=some sd:=⟨_,oP (by rw [h.flen];exact hci)⟩;refine Az λw2 e2 _=>Ad ?_;have e02:=(e.trans eW).trans e2;have hW:=h.ext e02;rw [addr_add];refine Af hW.box (off:=0+1) (x:=sf) rfl (Zw (c:=.int .i64) (cs:=Sm) (j:=1) (y:=(c.2:Int)+1) ((o.ext (eW.trans e2)).in) (by omega) (Jt hc) rfl λ_=>?_);have ew:W64 (((c.2:Int)+1)-1)=(c.2:Int):=iD (by omega);rw [ew];refine Ky (c:=.sl) (cs:=Kv) (y:=sd) hW.fil.in (by omega) (by rw [kH];exact Ir hsd hg) rfl λ_=>?_;have hdl:=Eh (hW.dat c.2 sd g hsd hg).in.x;(have htk:l.take (j+1)=l.take j++[c]:=by rw [sO,hc];rfl);have hm:=hsum ((l.take j).map λe:Ent=>((fl D e.2).data.length:Int)) λx hx=>ho0 x (by
    obtain ⟨q,hq,rfl⟩:=nT.1 hx
    exact nT.2 ⟨q,uQ hq,rfl⟩)
   rw [nO,nG] at hm;have hgl:=(ok.fl c.2).1;have hmn:((min j l.length:Nat):Int)<=16:=(by omega);have hmul:((min j l.length:Nat):Int)*1048576<=16*1048576:=rM hmn (by decide);(have hdl2:(fl D c.2).data.length=sd.len:=by rw [hfl];exact hdl);rw [wrap64 (a:=Fq ((l.take j).map λe:Ent=>((fl D e.2).data.length:Int))+((sd.len:Nat):Int)) (by omega) (by omega),iE (by omega)];refine ⟨⟨j+1,?_,hlt,eW.trans e2⟩,by show l.length-((j:Int)+1).toNat<l.length-(j:Int).toNat;omega⟩;rw [htk,oQ,kV,oU,Bo9,hdl2,show ((j:Int)+1)=((j+1:Nat):Int) by omega]
  {(have hge:¬j<l.length:=by have:=sK hge;omega);rw [sQ (by omega),←hE.used];exact ⟨rfl,e.trans eW⟩}
 {rintro _ W ⟨rfl,e⟩;exact hK W e}
end
end Dq
end
section
namespace Dq
open Go Go.Vx Dsk Cdc Trx
def Gp (w:World) (S:Nat->Prop) (T:TypeId->Prop):Prop:=∀k,S k->k<w.heap.size->∃c t fr,w.heap[k]?=some (.cells c t fr)/\T t
section
variable {w w':World}{S R R':Nat->Prop}{T:TypeId->Prop}{r:Nat}{D D':Dk}{N:Nat}{B:Nat}{sf sl sa sq:Sl}{ds:List Sl}{es:List Ent}{qr:List (Cells.T Dt)}{ql:List (Int×Ce)}{n:Nm}{s:Sl}{t:TypeId}{sz:Nat}{vs:List Value}
def Gp.blk (h:Am w B s t sz vs) (ht:T t):Gp w s.blk T:=λk hk _=>by obtain ⟨c,fr,hc⟩:=h.in.Bf hk;exact ⟨c,t,fr,hc,ht⟩
def Gp.one {b:Nat}{c:Array Value}{fr:Nat×Nat}(h:w.heap[b]?=some (.cells c t fr)) (ht:T t):Gp w (λk=>k=b) T:=λk hk _=>by subst hk;exact ⟨c,t,fr,h,ht⟩
def Gp.or {S':Nat->Prop}(h:Gp w S T) (h':Gp w S' T):Gp w (λk=>S k\/S' k) T:=λk hk hl=>hk.elim (λhh=>h k hh hl) λhh=>h' k hh hl
def _root_.Go.Vx.Am.Cx2 (h:Am w B s t sz vs) (hS:Gp w S T) (ht:¬T t):∀k,s.blk k->¬S k:=λk hk hh=>by obtain ⟨c,fr,hc⟩:=h.in.Bf hk;obtain ⟨c',t',fr',hc',hT⟩:=hS k hh (h.in.Ci hk);rw [hc] at hc';cases hc';exact ht hT
def _root_.Go.Vx.Am.off (h:Am w B s t sz vs) (u:Upd S w w') (hS:Gp w S T) (ht:¬T t):Am w' B s t sz vs:=h.upd u λk _ hk=>h.Cx2 hS ht k hk
def RAt.Cn1 (h:RAt w r R D sf sl sa sq ds es qr ql) (u:Upd S w w') (hS:Gp w S T) (ht:¬T 5):∀(i:Nat) s g,ds[i]?=some s->D.files[i]?=some g->Dl w' 0 s g.data:=λi s g hs hg=>(h.dat i s g hs hg).off u hS ht
def RAt.Cs3 (h:RAt w r R D sf sl sa sq ds es qr ql) (u:Upd S w w') (hS:Gp w S T) (ht:¬T 3):∀(i:Nat) x (f:Int×Ce),qr[i]?=some x->ql[i]?=some f->x.1=f.1/\x.2.1=f.2.kind/\x.2.2.1=f.2.part/\x.2.2.2.1=f.2.names/\Am w' 0 x.2.2.2.2.1 3 1 (iv f.2.bytes)/\f.2.bytes.length<=2^44/\1<=f.2.kind/\f.2.kind<=5:=λi x f hx hf =>
 let ⟨a,b,c,d,e,g⟩:=h.qat i x f hx hf;⟨a,b,c,d,e.off u hS ht,g⟩
def EZf:Fh prog 235 298 3 40:=Fh.of (z:=.agg #[.slice none 0 0,vI 0,vI 0]) Cv3 Da1 rfl rfl rfl (by decide)
def uZf:prog.underlying 235=some (.slice 298):=Cv3.und
def EZa:Fh prog 237 317 3 40:=Fh.of (z:=.agg #[.string ⟨#[]⟩,.string ⟨#[]⟩,vI 0]) Cv1 Da0 rfl rfl rfl (by decide)
def uZa:prog.underlying 237=some (.slice 317):=Cv1.und
def Ai3 {space:Int}{K:aY->Wp}(h1:(space<0\/1048576<space)->K (none,1,()) w) (h2:0<=space->space<=1048576->∀r w',RIn w' r (λk=>k=r) (Rx space)->Ext w w'->w.heap.size<=r->K (some (at0 r),0,()) w') :
  Aa prog 107 #[vI space] dA K w:=by refine j107 ?_;unfold F107;refine Ar (decide (space<0\/1048576<space),()) (Ac (λh=>⟨Di ?_,rfl⟩) λh=>⟨Di ?_,rfl⟩) (Ac (λh=>h1 (jY h)) λh=>?_);{have h:=jY h;simp [h]};{have h:=sK h;simp only [pF];omega};{have h:=sK h;refine Ag λb w1 e1 n1 hb hz=>h2 (by omega) (by omega) b w1 ⟨⟨none,0,0⟩,⟨none,0,0⟩,⟨none,0,0⟩,⟨none,0,0⟩,[],[],[],[],n1,Am.nil _ _ _ _,rfl,λi s g hs=>by simp at hs,λi j s t _ hs=>by simp at hs,Am.nil _ _ _ _,Md.nil,Am.nil _ _ _ _,Am.nil _ _ _ _,rfl,λi x f hx=>by simp at hx,λk=>rfl,by decide,rfl,λk hk=>Du hk,λs hs=>by simp at hs,λk hk=>Du hk,λk hk=>Du hk,λk hk=>Du hk,λx hx=>by simp at hx,λk hk=>by rw [hk];exact lt_of_heap n1⟩ e1 (by omega)}
def Xd (h:RAt w r R D sf sl sa sq ds es qr ql){K:Unit->Wp}(hK:∀w' sq' qr' ql',RAt w' r R (restart D) sf sl sa sq' ds es qr' ql'->Upd (λk=>k=r) w w'->K () w') :
  Aa prog 113 #[dU r] bH K w:=by refine j113 ?_;unfold F113;unfold restart at hK;refine Ad ?_;rw [addr_add];refine Af h.box (off:=0+4) (x:=D.down) rfl (Ac (λhd=>Ad ?_) λhd=>?_);{rw [iK hd] at hK;rw [addr_add];refine Dj h.box (by show 0+4<7;decide) λw1 u1 n1 z1=>Ad ?_;rw [addr_add];refine Dj n1 (by rw [wU];show 0+5<7;decide) λw2 u2 n2 z2=>Ad ?_;rw [addr_add];refine Dj n2 (by rw [wU,wU];show 0+6<7;decide) λw3 u3 n3 z3=>?_;have u:=(u1.trans u2).trans u3;have hT:Gp w (λk=>k=r) (λt=>t=239):=Gp.one h.box rfl;refine hK w3 ⟨none,0,0⟩ [] [] ⟨n3,h.fil.off u hT (by decide),h.flen,h.Cn1 u hT (by decide),h.ne,h.las.off u hT (by decide),h.ent,h.act.off u hT (by decide),Am.nil _ _ _ _,rfl,λi x f hx=>by simp at hx,λk=>rfl,by decide,h.fr,h.ff,h.fd,h.fl_,h.fa,λk hk=>Du hk,λx hx=>by simp at hx,λk hk=>mP (h.lt k hk) u.size⟩ u};{rw [iP (by rw [hd];simp)] at hK;exact hK w sq qr ql h (Upd.refl _ _)}
def I8 (h:RAt w r R D sf sl sa sq ds es qr ql) (hN:D.files.length<=2^40){K:Int->Wp}
  (hK:∀w' sf',RAt w' r (λk=>R k\/sf'.blk k) { D with files:=D.files++[⟨[],0,0⟩] } sf' sl sa sq (ds++[⟨none,0,0⟩]) es qr ql->Upd R w w'->(∀k,sf'.blk k->R k\/w.heap.size<=k)->K (((D.files.length+1:Nat):Int)) w') :
  Aa prog 191 #[dU r] rI K w:=by
 refine Df0 ?_;unfold F191;have hfl:(Ov ds D.files).length=sf.len:=Am.Py (cs:=Kv) h.fil (by decide);rw [Bp5 h.flen] at hfl;refine Ad ?_;rw [addr_add];refine Af h.box (off:=0+1) (x:=sf) rfl (Ag λb3 w1 e1 n1 hb1 hz1=>?_);have h1:=h.ext e1;have hbox:SlX w1 ⟨some (at0 b3),1,1⟩ 3 (Cells.vals Kv (Qy ⟨none,0,0⟩ ⟨[],0,0⟩)):=(Dx.Jk (n:=1) (sz:=3) n1 rfl).x;refine Ed EZf uZf (s:=sf) (x:=⟨some (at0 b3),1,1⟩) h1.fil hbox (λv hv=>by
  simp [Cells.vals,Cell.val,Qy] at hv
  rcases hv with rfl|rfl<;>rfl) (by show (sf.len+1+(sf.len+1)/4+512)*40<=_;omega) (qI _) λsf' w2 h2 hl2 u2 hb2=>Ad ?_
 have hT2:Gp w1 sf.blk (λt=>t=298):=Gp.blk h1.fil rfl;have nsf:¬sf.blk r:=λhh=>by
  obtain ⟨c,fr,hc⟩:=h1.fil.in.Bf hh
  rw [h1.box] at hc;cases hc
 have box2:=u2.get h1.box nsf;rw [addr_add];refine Dj box2 (by show 0+1<7;decide) λw3 u3 n3 z3=>Ad ?_;have hT3:Gp w2 (λk=>k=r) (λt=>t=239):=Gp.one box2 rfl;rw [addr_add];have n3:w3.heap[r]?=some (.cells (Cg1 { D with files:=D.files++[⟨[],0,0⟩] } sf' sl sa sq) 239 (0,0)):=n3;refine Af n3 (off:=0+1) (x:=sf') rfl ?_;(have hlen:sf'.len=D.files.length+1:=by rw [hl2];show sf.len+1=_;omega);rw [hlen];have h2:Am w2 0 sf' 298 3 (flat Kv (Ov (ds++[⟨none,0,0⟩]) (D.files++[⟨[],0,0⟩]))):=by
  have e:Ov (ds++[⟨none,0,0⟩]) (D.files++[⟨[],0,0⟩])=Ov ds D.files++[Qy ⟨none,0,0⟩ ⟨[],0,0⟩]:=by
   unfold Ov;rw [List.zipWith_append (by exact h.flen)];rfl
  rw [e,Ls]
  simpa [flat] using h2
 have z1:=e1.size;have z2:=u2.size;have sfn:∀k,sf'.blk k->R k\/w.heap.size<=k:=λk hk=>(hb2 k hk).imp (h.ff k) λhh=>(by omega);refine hK w3 sf' ⟨n3,h2.off u3 hT3 (by decide),by simp [h.flen],λi s g hs hg=>?_,λi j s t hij hs ht k hk hk'=>?_,(h1.las.off u2 hT2 (by decide)).off u3 hT3 (by decide),h.ent,(h1.act.off u2 hT2 (by decide)).off u3 hT3 (by decide),(h1.flt.off u2 hT2 (by decide)).off u3 hT3 (by decide),h.qlen,λi x f hx hf=>?_,h.qlook,h.qbig,.inl h.fr,λk hk=>.inr hk,λs hs k hk=>?_,λk hk=>.inl (h.fl_ k hk),λk hk=>.inl (h.fa k hk),λk hk=>.inl (h.fq k hk),λx hx k hk=>.inl (h.fb x hx k hk),λk hk=>?_⟩ ?_ sfn;{dsimp only at hg;by_cases hi:i<ds.length;{rw [mZ hi] at hs;rw [mZ (by rw [←h.flen];exact hi)] at hg;have:=h1.dat i s g hs hg;have:=this.off u2 hT2 (by decide);exact this.off u3 hT3 (by decide)};{rw [nC (by omega)] at hs;rw [nC (by rw [←h.flen];omega)] at hg;have e1:=lU hs;have e2:=lU hg;simp at e1 e2;subst e1 e2;exact Am.nil _ _ _ _}};{by_cases hi:i<ds.length;{by_cases hj:j<ds.length;{rw [mZ hi] at hs;rw [mZ hj] at ht;exact h.ne i j s t hij hs ht k hk hk'};{rw [nC (by omega)] at ht;have e1:=lU ht;simp at e1;subst e1;exact Du hk'}};{rw [nC (by omega)] at hs;have e1:=lU hs;simp at e1;subst e1;exact Du hk}};{obtain ⟨a,b,c,d,e,g⟩:=h1.qat i x f hx hf;exact ⟨a,b,c,d,(e.off u2 hT2 (by decide)).off u3 hT3 (by decide),g⟩};{rcases jV.1 hs with hs|hs;{exact .inl (h.fd s hs k hk)};{have:s=⟨none,0,0⟩:=(by simpa using hs);subst this;exact Du hk}};{rcases hk with hk|hk;{have:=h.lt k hk;omega};{have:=h2.in.Ci hk;omega}};{exact ((Upd.Ae e1).trans (u2.mono λk _ hk=>h.ff k hk)).trans (u3.mono λk _ hk=>by rw [hk];exact h.fr)}
def As6 (h:RAt w r R D sf sl sa sq ds es qr ql){k:Int}{K:aO->Wp}
  (hK:∀w' x,Ext w w'->(D.plan k=none/\x=(0,0,0,0,⟨none,0,0⟩,()))\/(∃f,D.plan k=some f/\x.2.1=f.kind/\x.2.2.1=f.part/\x.2.2.2.1=f.names/\Am w' 0 x.2.2.2.2.1 3 1 (iv f.bytes)/\f.bytes.length<=2^44/\1<=f.kind/\f.kind<=5/\(∀q,x.2.2.2.2.1.blk q->R q)/\∃(i:Nat) (g:Int×Ce),qr[i]?=some x/\ql[i]?=some g/\g.2=f)->K x w') :
  Aa prog 194 #[dU r,vI k] (.one (.agg Dt)) K w:=by
 refine De7 ?_;unfold F194;have hql:qr.length=sq.len:=Am.Py (cs:=Dt) h.flt (by decide);have hqb:=h.qbig;have hqn:=h.qlen;refine Ag λb1 w1 e1 n1 hb1 hz1=>?_;have h1:=h.ext e1;have lk:∀(l:List (Int×Ce)) (j:Nat) (f:Int×Ce),l[j]?=some f->f.1=k->(∀(i:Nat) g,i<j->l[i]?=some g->g.1≠k)->l.find? (λf=>f.1==k)=some f:=by
  intro l
  induction l with
  |nil=>intro j f hf;simp at hf
  | cons a r ih =>
   intro j f hf hk hno
   match j with
   |0=>simp at hf;subst hf;simp [hk]
   |j+1 =>
    have ha:a.1≠k:=hno 0 a (by omega) rfl
    rw [wV (by simpa using ha)]
    exact ih j f (by simpa using hf) hk λi g hi hg=>hno (i+1) g (by omega) (by simpa using hg)
 refine Ai (λ_ W=>w1=W/\D.plan k=none) ?_ ?_
 ·refine Bo (λst W=>∃j:Nat,st=((j:Int),())/\j<=qr.length/\w1=W/\∀(i:Nat) g,i<j->ql[i]?=some g->g.1≠k) (λst _=>qr.length-st.1.toNat) ⟨0,rfl,qI _,rfl,λi e hi=>by omega⟩ ?_;rintro _ _ ⟨j,rfl,hj,rfl,hno⟩;dsimp only;refine Ad ?_;rw [addr_add];refine Af h1.box (off:=0+5) (x:=sq) rfl (Ac (λhlt=>?_) λhge=>?_);{(have hlt:j<qr.length:=by have:=jY hlt;omega);obtain ⟨x,hx⟩:∃x,qr[j]?=some x:=⟨_,oP hlt⟩;obtain ⟨f,hf⟩:∃f,ql[j]?=some f:=⟨_,oP (by omega)⟩;obtain ⟨a1,a2,a3,a4,a5,a6,a7,a8⟩:=h1.qat j x f hx hf;(have hx':qr[Int.toNat (j:Int)]?=some x:=by rw [kH];exact hx);refine Ad ?_;rw [addr_add];refine Af h1.box (off:=0+5) (x:=sq) rfl (Ky (c:=.int .i64) (cs:=Dt) (y:=x.1) h1.flt.in (by omega) hx' rfl λ_=>Ac (λhe=>Ad ?_) λhne=>?_);{have he:x.1=k:=(by simpa using he);rw [addr_add];refine Af h1.box (off:=0+5) (x:=sq) rfl (Xv (cs:=Dt) h1.flt.in (by decide) (by omega) hx' λ_=>Ba n1 rfl rfl (by decide) λw2 u2 n2 z2=>?_);have n2:w2.heap[b1]?=some (.cells (Cells.vals Dt x).toArray 132 (0,0)):=n2;refine Dp (x:=x) n2 (λi v hv=>by rw [kY,←kQ];exact hv) (hK w2 x (e1.step u2 λk hk=>by omega) (.inr ⟨f.2,?_,a2,a3,a4,a5.upd u2 λq _ hq hh=>?_,a6,a7,a8,λq hq=>h.fb x (lU hx) q hq,j,f,hx,hf,rfl⟩));{rw [h.qlook,lk ql j f hf (by rw [←a1];exact he) hno];rfl};{have:=h.lt q (h.fb x (lU hx) q hq);omega}};{have hne:x.1≠k:=(by simpa using hne);rw [iE (by omega)];refine ⟨⟨j+1,by rw [show ((j:Int)+1)=((j+1:Nat):Int) by omega],hlt,rfl,λi g hi hg=>?_⟩,by show qr.length-((j:Int)+1).toNat<qr.length-(j:Int).toNat;omega⟩;by_cases hij:i=j;{subst hij;rw [hf] at hg;cases hg;rw [←a1];exact hne};{exact hno i g (by omega) hg}}}
  ·(have hge:¬j<qr.length:=by have:=sK hge;omega);refine ⟨rfl,?_⟩;rw [h.qlook];have:ql.find? (λf=>f.1==k)=none:=oV.2 λf hf=>by
    obtain ⟨i,hi⟩:=uU.1 hf
    have:=hno i f (by have:=(lY.1 hi).1;omega) hi
    simpa using this
   rw [this];rfl
 {rintro _ _ ⟨rfl,hp⟩;refine Ba n1 rfl rfl (by decide) λw2 u2 n2 z2=>?_;have n2:w2.heap[b1]?=some (.cells (Cells.vals Dt ((0,0,0,0,⟨none,0,0⟩,()):Cells.T Dt)).toArray 132 (0,0)):=n2;exact Dp (x:=((0,0,0,0,⟨none,0,0⟩,()):Cells.T Dt)) n2 (λi v hv=>by rw [kY,←kQ];exact hv) (hK w2 _ (e1.step u2 λk hk=>by omega) (.inl ⟨hp,rfl⟩))}
def Uu (h:RAt w r R D sf sl sa sq ds es qr ql) (ok:Bj D N) (hN:N<=2^40){K:Sl->Wp}(hK:∀s w',Qw w' w.heap.size s (if D.down=true then [] else Dsk.names D.seen)->Ext w w'->K s w') :
  Aa prog 116 #[dU r] rS K w:=by refine j116 ?_;unfold F116;refine Ad ?_;rw [addr_add];refine Af h.box (off:=0+4) (x:=D.down) rfl (Ac (λhd=>?_) λhd=>?_);{rw [iK hd] at hK;exact hK _ w (Am.nil _ _ _ _) (Ext.refl _)};rw [iP (by rw [hd];simp)] at hK;refine Qb h ok hN λs l w1 o hE e hb=>?_;have hol:=o.len;(have hl16:l.length<=16:=by rw [←hE.len];exact ok.seen.names.2);rw [hE.names] at hK;refine Ai (λy W=>∃s2,y=(s2,())/\Qw W w.heap.size s2 (l.map (·.1))/\Ext w W) ?_ ?_;{refine Bo (λst W=>∃(j:Nat) (s2:Sl),st=(s2,(j:Int),())/\j<=l.length/\Qw W w1.heap.size s2 ((l.take j).map (·.1))/\Ext w1 W) (λst _=>l.length-st.2.1.toNat) ⟨0,⟨none,0,0⟩,rfl,qI _,Am.nil _ _ _ _,Ext.refl _⟩ ?_;rintro _ W ⟨j,s2,rfl,hj,o2,eW⟩;dsimp only;refine Ac (λhlt=>?_) λhge=>?_;{(have hlt:j<l.length:=by have:=jY hlt;omega);obtain ⟨c,hc⟩:∃c,l[j]?=some c:=⟨_,oP hlt⟩;refine Ky (c:=.str) (cs:=Sm) (y:=c.1) (o.ext eW).in (by omega) (Jt hc) rfl λ_=>Ag λb10 w2 e2 n2 hb2 hz2=>?_;have hbox:SlX w2 ⟨some (at0 b10),1,1⟩ 1 (nv [c.1]):=(Dx.Jk (n:=1) (sz:=1) n2 rfl).x;have hl2:=o2.len1;rw [nO,nO,nG] at hl2;refine Ed ES uS (s:=s2) (x:=⟨some (at0 b10),1,1⟩) (o2.ext e2) hbox (Ct1 _) (by show (s2.len+1+(s2.len+1)/4+512)*16<=_;omega) (by have:=eW.size;have:=e2.size;omega) λs3 w3 o3 hl3 u3 hb3=>?_;rw [iE (by omega)];refine ⟨⟨j+1,s3,by rw [show ((j:Int)+1)=((j+1:Nat):Int) by omega],hlt,?_,(eW.trans e2).step u3 λk hk=>o2.Dh hk⟩,by show l.length-((j:Int)+1).toNat<l.length-(j:Int).toNat;omega⟩;(have:l.take (j+1)=l.take j++[c]:=by rw [sO,hc];rfl);rw [this,oQ];rw [←oQ] at o3;exact o3};{(have hge:¬j<l.length:=by have:=sK hge;omega);rw [sQ (by omega)] at o2;exact ⟨s2,rfl,o2.mono e.size,e.trans eW⟩}};{rintro _ W ⟨s2,rfl,o2,e2⟩;exact hK s2 W o2 e2}
end
end Dq
end
section
namespace Dq
open Go Go.Vx Dsk Cdc Trx
section
variable {w w':World}{S R R':Nat->Prop}{T:TypeId->Prop}{r:Nat}{D D':Dk}{N:Nat}{B:Nat}{sf sl sa sq:Sl}{ds:List Sl}{es:List Ent}{qr:List (Cells.T Dt)}{ql:List (Int×Ce)}{n:Nm}{s:Sl}{t:TypeId}{sz:Nat}{vs:List Value}
def RAt.Zm (h:RAt w r R D sf sl sa sq ds es qr ql){i:Nat}{s s':Sl}{g g':Fl}(hs:ds[i]?=some s) (hg:D.files[i]?=some g) (u:Upd S w w') (hS:∀k,S k->sf.blk k\/s.blk k\/w.heap.size<=k)
  (fil':Am w' 0 sf 298 3 (flat Kv (Ov (ds.set i s') (D.files.set i g')))) (hd:Dl w' 0 s' g'.data) (hb:∀k,s'.blk k->s.blk k\/w.heap.size<=k) :
  RAt w' r (λk=>R k\/s'.blk k) { D with files:=D.files.set i g' } sf sl sa sq (ds.set i s') es qr ql:=by
 have hid:=(lY.1 hs).1;have hdi:=h.dat i s g hs hg;have hT:Gp w S (λt=>t=298\/t=5):=λk hk hlt=>by
  rcases hS k hk with hh|hh|hh
  ·obtain ⟨c,fr,hc⟩:=h.fil.in.Bf hh
   exact ⟨c,_,fr,hc,.inl rfl⟩
  ·obtain ⟨c,fr,hc⟩:=hdi.in.Bf hh
   exact ⟨c,_,fr,hc,.inr rfl⟩
  ·omega
 have nr:¬S r:=λhh=>by
  obtain ⟨c,t,fr,hc,ht⟩:=hT r hh (lt_of_heap h.box)
  rw [h.box] at hc;cases hc
  rcases ht with ht|ht<;>exact absurd ht (by decide)
 refine ⟨u.get h.box nr,fil',by rw [tC,tC];exact h.flen,λj t q hj hq=>?_,λa b x y hab hx hy k hk hk'=>?_,h.las.off u hT (by decide),h.ent,h.act.off u hT (by decide),h.flt.off u hT (by decide),h.qlen,h.Cs3 u hT (by decide),h.qlook,h.qbig,.inl h.fr,λk hk=>.inl (h.ff k hk),λx hx k hk=>?_,λk hk=>.inl (h.fl_ k hk),λk hk=>.inl (h.fa k hk),λk hk=>.inl (h.fq k hk),λx hx k hk=>.inl (h.fb x hx k hk),λk hk=>?_⟩;{by_cases hij:i=j;{subst hij;rw [wO hid] at hj;dsimp only at hq;rw [wO (by rw [←h.flen];exact hid)] at hq;cases hj;cases hq;exact hd};{rw [wW hij] at hj;dsimp only at hq;rw [wW hij] at hq;have hdj:=h.dat j t q hj hq;refine hdj.upd u λk _ hk hh=>?_;rcases hS k hh with hh|hh|hh;{exact hdj.Cx2 (Gp.blk (T:=λt=>t=298) h.fil rfl) (by decide) k hk hh};{exact h.ne j i t s (λe=>hij e.symm) hj hs k hk hh};{have:=hdj.in.Ci hk;omega}}};{have old:∀(j:Nat) z,ds[j]?=some z->∀k,z.blk k->k<w.heap.size:=λj z hz k hk=>h.lt k (h.fd z (lU hz) k hk);by_cases hia:i=a;{subst hia;rw [wO hid] at hx;rw [wW hab] at hy;cases hx;rcases hb k hk with hh|hh;{exact h.ne i b s y hab hs hy k hh hk'};{have:=old b y hy k hk';omega}};{rw [wW hia] at hx;by_cases hib:i=b;{subst hib;rw [wO hid] at hy;cases hy;rcases hb k hk' with hh|hh;{exact h.ne a i x s hab hx hs k hk hh};{have:=old a x hx k hk;omega}};{rw [wW hib] at hy;exact h.ne a b x y hab hx hy k hk hk'}}};{obtain ⟨j,hj⟩:=uU.1 hx;by_cases hij:i=j;{subst hij;rw [wO hid] at hj;cases hj;exact .inr hk};{rw [wW hij] at hj;exact .inl (h.fd x (lU hj) k hk)}};{rcases hk with hk|hk;{have:=h.lt k hk;have:=u.size;omega};{exact hd.in.Ci hk}}
def Ck2 {l:List Fl}{i:Nat}{g:Fl}(hg:l[i]?=some g):l.set i g=l:=by apply nY;intro j;rw [nX];have hi:=(lY.1 hg).1;by_cases h:i=j;{subst h;rw [iK rfl,iK hi,hg]};{rw [iP h]}
def Cm1 {c:Cell}{cs:List Cell}{s:Sl}{t:TypeId}{xs:List (Cells.T cs)}(h:Dx w s t cs.length (flat cs xs)){i:Nat}{x:Cells.T cs}{y:c.T}(hx:xs[i]?=some x) (hy:(Cells.vals cs x)[0]?=some (c.val y)){K:Addr->c.T->Wp}(hK:∀p,(∀w',Ext w w'->w'.cell? (p.add (scaled (Int.toNat (i:Int)) cs.length))=some (c.val y))->K p y w) :
  ix s.a s.len (i:Int) (λp=>ld c (p.add (scaled (Int.toNat (i:Int)) cs.length)) (K p)) w:=by
 have hlt:=(lY.1 hx).1;have hjl:0<cs.length:=by
  have:=(lY.1 hy).1
  rwa [Gn] at this
 have hl:=h.Py hjl;refine h.ix (by omega) (by omega) hjl λb off ha hv=>?_;have h0:=hv 0 (c.val y) (by
  have:=flat_get cs xs i 0 x hx hjl
  rw [kH,this];exact hy)
 rw [addr_add];have h1:w.cell? (⟨b,off+scaled (Int.toNat (i:Int)) cs.length,none⟩:Addr)=some (c.val y):=(by simpa [Fj] using h0);refine Ax1 (x:=y) h1 (hK _ λw' e=>?_);rw [addr_add];exact Ay7 e h1
def Bn7 (h:RAt w r R D sf sl sa sq ds es qr ql) (ok:Bj D N) (hN:N<=2^40){i:Nat}{g:Fl}{sd:Sl}(hs:ds[i]?=some sd) (hg:D.files[i]?=some g){x:Sl}{b:List UInt8}(hx:Bytes w x b) (hxb:Lie (λk=>k<w.heap.size/\¬R k) x) (hbl:b.length<=2^30){K:aG->Wp}
  (hK:∀w' R' ds',let k:Int:=if room D<(b.length:Int) then room D else b.length
   RAt w' r R' { D with files:=Ju D.files i λf=>⟨f.data++b.take k.toNat,f.synced,if k>0 then f.count+1 else f.count⟩ } sf sl sa sq ds' es qr ql->Upd R w w'->(∀q,R' q->R q\/w.heap.size<=q)->K (k,⟨none,0,0⟩,0,0,0,(if k<b.length then 161 else 0),0,()) w') :
  Aa prog 219 #[dU r,vI ((i:Int)+1),x.v] (.one (.agg Bq)) K w:=by
 refine Dd1 (a2:=x) ?_;unfold F219;have hi:=(lY.1 hg).1;have hnn:=ok.num;have hun:=ok.used none;have hsp:=ok.space;have hxl:=Eh hx;have hgf:=ok.fil i g hg;have ew:W64 (((i:Int)+1)-1)=(i:Int):=iD (by omega);rw [ew];refine Ag λb1 w1 e1 n1 hb1 hz1=>Az λw2 e2 _=>Ad ?_;have e12:=e1.trans e2;have h2:=h.ext e12;refine Af h2.box (off:=0) (x:=D.space) rfl (Aa9 h2 ok hN λw3 e3=>Bc (cell_of (off:=0) (e3.ext_get h2.box) rfl) ?_);have e13:=e12.trans e3;have h3:=h.ext e13;have es1:W64 (D.space-Cb D none)=D.space-Cb D none:=iE (by omega);rw [es1];obtain ⟨k,hk⟩:∃k:Int,k=if room D<(b.length:Int) then room D else b.length:=⟨_,rfl⟩;(have hrm:(if D.space-Cb D none>0 then D.space-Cb D none else 0)=room D:=by unfold room;split<;>omega);have hxl':((x.len:Nat):Int)=(b.length:Int):=(by omega);rw [hrm,hxl',←hk];(have hroom:0<=room D:=by unfold room;omega);(have hk0:0<=k:=by rw [hk];split<;>omega);(have hkb:k<=b.length:=by rw [hk];split<;>omega);rw [←hk] at hK;dsimp only at hK;have e01:=e13;have n3:=e3.ext_get (e2.ext_get n1);have lx:∀{W:World},Upd R w3 W->Bytes W x b:=λu=>SlX.Yd ((hx.ext e13)) (hxb.imp id λhh q hq=>(hh q hq).2) u λq hq=>hq;(have nR1:¬R b1:=λhh=>by have:=h.lt _ hh;omega);refine Ai (λ_ W=>∃R' s',RAt W r R' { D with files:=D.files.set i ⟨g.data++b.take k.toNat,g.synced,g.count⟩ } sf sl sa sq (ds.set i s') es qr ql/\Upd R w3 W/\(∀q,R' q->R q\/w3.heap.size<=q)) ?_ ?_
 ·refine Bo (λst W=>∃(j:Nat) (R':Nat->Prop) (s':Sl),st=((j:Int),())/\j<=k.toNat/\RAt W r R' { D with files:=D.files.set i ⟨g.data++b.take j,g.synced,g.count⟩ } sf sl sa sq (ds.set i s') es qr ql/\Upd R w3 W/\(∀q,R' q->R q\/w3.heap.size<=q)) (λst _=>k.toNat-st.1.toNat)
   ⟨0,R,sd,rfl,qI _,?_,Upd.refl _ _,λq hq=>.inl hq⟩ ?_
  ·rw [qE,vP];have e1:D.files.set i ⟨g.data,g.synced,g.count⟩=D.files:=Ck2 hg;have e2:ds.set i sd=ds:=by
    apply nY;intro j;rw [nX]
    have hi:=(lY.1 hs).1
    by_cases hh:i=j
    ·subst hh;rw [iK rfl,iK hi,hs]
    ·rw [iP hh]
   rw [e1,e2];exact h3
  rintro _ W ⟨j,R1,s1,rfl,hj,hW,uW,hR1⟩;dsimp only;refine Ac (λhlt=>?_) λhge=>?_
  ·have hlt:(j:Int)<k:=jY hlt;have hjb:j<b.length:=(by omega);obtain ⟨c,hc⟩:∃c,b[j]?=some c:=⟨_,oP hjb⟩;obtain ⟨g1,hg1⟩:∃g1:Fl,g1=⟨g.data++b.take j,g.synced,g.count⟩:=⟨_,rfl⟩;rw [←hg1] at hW;(have his:i<ds.length:=by rw [h.flen];exact hi);have hs1:(ds.set i s1)[i]?=some s1:=wO his;have hgs1:(D.files.set i g1)[i]?=some g1:=wO hi;refine Az λw4 e4 _=>Ad ?_;have h4:=hW.ext e4;rw [addr_add];refine Af h4.box (off:=0+1) (x:=sf) rfl (Ad ?_);refine Af h4.box (off:=0+1) (x:=sf) rfl ?_;refine Cm1 (c:=.sl) (cs:=Kv) (y:=s1) h4.fil.in (Ir hs1 hgs1) rfl λp13 hp13=>byt ((lx uW).ext e4) (by omega) (x:=c) (by rw [kH];exact hc) λ_=>Ag λb17 w5 e5 n5 hb5 hz5=>Bc (hp13 w5 e5) (Bc (cell_of (off:=0+1) (e5.ext_get h4.box) rfl) (Bc (cell_of (off:=0+1) (e5.ext_get h4.box) rfl) ?_));have h5:=h4.ext e5;have d5:=h5.dat i s1 g1 hs1 hgs1;have hbx:By w5 ⟨some (at0 b17),1,1⟩ [c]:=Um (l:=[c]) n5;have d5l:=Eh d5.in.x;(have hg1l:g1.data.length<=2^21+b.length:=by rw [hg1,oC,nG];omega);refine Ed EB uB (s:=s1) (x:=⟨some (at0 b17),1,1⟩) d5 hbx.x (Ph _) (by show (s1.len+1+(s1.len+1)/4+512)*1<=_;omega) (qI _) λs2 w6 o6 hl6 u6 hb6=>?_;(have o6:Dl w6 0 s2 (g1.data++[c]):=by rw [←oQ] at o6;exact o6);have hT6:Gp w5 s1.blk (λt=>t=5):=Gp.blk d5 rfl;have box6:=u6.get h5.box λhh=>by
    obtain ⟨c',fr,hc'⟩:=d5.in.Bf hh
    rw [h5.box] at hc';cases hc'
   have fil6:=h5.fil.off u6 hT6 (by decide);refine Bc (cell_of (off:=0+1) box6 rfl) ?_;refine Bl5 (c:=.sl) (cs:=Kv) (y:=s2) (x:=Qy s1 g1) (x':=Qy s2 ⟨g1.data++[c],g1.synced,g1.count⟩) fil6 (by omega) (by rw [kH];exact Ir hs1 hgs1) (by decide) rfl λw7 fil7 u7 z7=>?_;rw [kH,←Qe h5.flen] at fil7;have u57:Upd (λq=>sf.blk q\/s1.blk q) w5 w7:=(u6.mono λq _ hq=>.inr hq).trans (u7.mono λq _ hq=>.inl hq);have d7:Dl w7 0 s2 (g1.data++[c]):=o6.off u7 (Gp.blk (T:=λt=>t=298) fil6 rfl) (by decide);have h7:=h5.Zm (s':=s2) (g':=⟨g1.data++[c],g1.synced,g1.count⟩) hs1 hgs1 u57 (λq hq=>hq.imp id .inl) fil7 d7 hb6;have e45:=e4.trans e5;have zW:=uW.size;have z45:=e45.size;rw [iE (by omega)];refine ⟨⟨j+1,λq=>R1 q\/s2.blk q,s2,by rw [show ((j:Int)+1)=((j+1:Nat):Int) by omega],by omega,?_,(uW.trans (Upd.Ae e45)).new u57 λq hq hh=>?_,λq hq=>?_⟩,by show k.toNat-((j:Int)+1).toNat<k.toNat-(j:Int).toNat;omega⟩;{(have e1:g.data++b.take (j+1)=g1.data++[c]:=by rw [hg1,sO,hc];simp);rw [e1];(have e2:g1.synced=g.synced/\g1.count=g.count:=by rw [hg1];exact ⟨rfl,rfl⟩);dsimp only at h7;rw [wX,wX,e2.1,e2.2] at h7;exact h7};{rcases hh with hh|hh;{exact h.ff q hh};{exact (hR1 q (h5.fd s1 (lU hs1) q hh)).resolve_right (by omega)}};{rcases hq with hq|hq;{exact hR1 q hq};{rcases hb6 q hq with hh|hh;{exact hR1 q (h5.fd s1 (lU hs1) q hh)};{exact .inr (by omega)}}}
  {have hge:¬(j:Int)<k:=sK hge;obtain rfl:j=k.toNat:=(by omega);exact ⟨R1,s1,hW,uW,hR1⟩}
 rintro _ w4 ⟨R4,s4,h4,u4,hR4⟩;(have his:i<ds.length:=by rw [h.flen];exact hi);obtain ⟨g4,hg4⟩:∃g4:Fl,g4=⟨g.data++b.take k.toNat,g.synced,g.count⟩:=⟨_,rfl⟩;rw [←hg4] at h4;have hs4:(ds.set i s4)[i]?=some s4:=wO his;have hgs4:(D.files.set i g4)[i]?=some g4:=wO hi;have hcnt:=hgf.2.2;refine Ai (λ_ W=>∃R',RAt W r R' { D with files:=D.files.set i ⟨g.data++b.take k.toNat,g.synced,if k>0 then g.count+1 else g.count⟩ } sf sl sa sq (ds.set i s4) es qr ql/\Upd R w3 W/\(∀q,R' q->R q\/w3.heap.size<=q)) ?_ ?_;{refine Ac (λhp=>Ad ?_) λhp=>?_;{have hp:k>0:=jY hp;rw [addr_add];refine Af h4.box (off:=0+1) (x:=sf) rfl (Zw (c:=.int .i64) (cs:=Kv) (j:=2) (y:=g4.count) h4.fil.in (by omega) (by rw [kH];exact Ir hs4 hgs4) rfl λ_=>?_);(have ec:W64 (g4.count+1)=g4.count+1:=by rw [hg4];exact wrap64 (by dsimp only;omega) (by dsimp only;omega));rw [ec];refine Aq3 (c:=.int .i64) (cs:=Kv) (j:=2) (y:=g4.count+1) (x:=Qy s4 g4) (x':=Qy s4 ⟨g4.data,g4.synced,g4.count+1⟩) h4.fil (by omega) (by rw [kH];exact Ir hs4 hgs4) (by decide) rfl λw5 fil5 u5 z5=>?_;rw [kH,←Qe h4.flen] at fil5;have d5:=(h4.dat i s4 g4 hs4 hgs4).off u5 (Gp.blk (T:=λt=>t=298) h4.fil rfl) (by decide);have h5:=h4.Zm (s':=s4) (g':=⟨g4.data,g4.synced,g4.count+1⟩) hs4 hgs4 u5 (λq hq=>.inl hq) fil5 d5 λq hq=>.inl hq;refine ⟨λq=>R4 q\/s4.blk q,?_,u4.trans (u5.mono λq _ hq=>h.ff q hq),λq hq=>hq.elim (hR4 q) λhh=>hR4 q (h4.fd s4 (lU hs4) q hh)⟩;rw [iK hp];dsimp only at h5;rw [wX,wX,hg4] at h5;exact h5};{have hp:¬k>0:=sK hp;rw [iP hp,←hg4];exact ⟨R4,h4,u4,hR4⟩}};rintro _ w5 ⟨R5,h5,u5,hR5⟩;have z13:=e13.size;have n5:=u5.get n3 nR1;have hput:Ju D.files i (λf=>⟨f.data++b.take k.toNat,f.synced,if k>0 then f.count+1 else f.count⟩)=D.files.set i ⟨g.data++b.take k.toNat,g.synced,if k>0 then g.count+1 else g.count⟩:=Ig hg _;(have nR5:¬R5 b1:=λhh=>(hR5 _ hh).elim nR1 λhl=>by have:=lt_of_heap n3;omega);have fin:∀e:Int,e=(if k<b.length then 161 else 0)->Ah (at0 b1) (.agg #[(vI k),(.slice none 0 0),(vI (0:Int)),(vI (0:Int)),(vI (0:Int)),(vI e),(vI (0:Int))]) 7 (lds Bq (at0 b1) λx27=>K x27) w5:=λe he=>by
  refine Ba n5 rfl rfl (by decide) λw6 u6 n6 z6=>?_
  have n6:w6.heap[b1]?=some (.cells (Cells.vals Bq ((k,⟨none,0,0⟩,0,0,0,e,0,()):Cells.T Bq)).toArray 247 (0,0)):=n6
  refine Dp (x:=((k,⟨none,0,0⟩,0,0,0,e,0,()):Cells.T Bq)) n6 (λi v hv=>by rw [kY,←kQ];exact hv) ?_
  have hk':=hK w6 R5 (ds.set i s4)
  rw [hput] at hk'
  rw [he]
  exact hk' (h5.upd u6 λq hq hh=>nR5 (hh▸hq)) (((Upd.Ae e13).trans u5).new u6 λq hq hh=>by omega) λq hq=>(hR5 q hq).imp id λhh=>by omega
 refine Ac (λhlt=>fin 161 ?_) λhge=>fin 0 ?_;{have hlt:k<b.length:=jY hlt;rw [iK hlt]};{have hge:¬k<b.length:=sK hge;rw [iP hge]}
end
end Dq
end
section
namespace Dq
open Go Go.Vx Dsk Cdc Trx
section
variable {w w':World}{S R R':Nat->Prop}{T:TypeId->Prop}{r:Nat}{D D':Dk}{N:Nat}{B:Nat}{sf sl sa sq:Sl}{ds:List Sl}{es:List Ent}{qr:List (Cells.T Dt)}{ql:List (Int×Ce)}{n:Nm}{s:Sl}{t:TypeId}{sz:Nat}{vs:List Value}{f:Dir}{l:List Ent}
def RAt.last (h:RAt w r R D sf sl sa sq ds es qr ql){s:Sl}(o:Ij w 0 s l) (hE:Md f l){K:World->Prop}
  (hK:∀w',RAt w' r (λk=>R k\/s.blk k) { D with lasts:=f } sf s sa sq ds l qr ql->Upd (λk=>k=r) w w'->K w'):stC (⟨r,0+2,none⟩:Addr) (.slice s.a s.len s.cap) K w:=by refine Dj h.box (by show 0+2<7;decide) λw1 u n1 z1=>?_;have hT:Gp w (λk=>k=r) (λt=>t=239):=Gp.one h.box rfl;refine hK w1 ⟨n1,h.fil.off u hT (by decide),h.flen,h.Cn1 u hT (by decide),h.ne,o.off u hT (by decide),hE,h.act.off u hT (by decide),h.flt.off u hT (by decide),h.qlen,h.Cs3 u hT (by decide),h.qlook,h.qbig,.inl h.fr,λk hk=>.inl (h.ff k hk),λs hs k hk=>.inl (h.fd s hs k hk),λk hk=>.inr hk,λk hk=>.inl (h.fa k hk),λk hk=>.inl (h.fq k hk),λx hx k hk=>.inl (h.fb x hx k hk),λk hk=>?_⟩ u;have:=u.size;rcases hk with hk|hk;{have:=h.lt k hk;omega};{have:=o.in.Ci hk;omega}
def RAt.Cb1 (h:RAt w r R D sf sl sa sq ds es qr ql){K:World->Prop}
  (hK:∀w',RAt w' r R { D with acts:=[] } sf sl ⟨none,0,0⟩ sq ds es qr ql->Upd (λk=>k=r) w w'->K w'):stC (⟨r,0+3,none⟩:Addr) (.slice none 0 0) K w:=by refine Dj h.box (by show 0+3<7;decide) λw1 u n1 z1=>?_;have hT:Gp w (λk=>k=r) (λt=>t=239):=Gp.one h.box rfl;exact hK w1 ⟨n1,h.fil.off u hT (by decide),h.flen,h.Cn1 u hT (by decide),h.ne,h.las.off u hT (by decide),h.ent,Am.nil _ _ _ _,h.flt.off u hT (by decide),h.qlen,h.Cs3 u hT (by decide),h.qlook,h.qbig,h.fr,h.ff,h.fd,h.fl_,λk hk=>Du hk,h.fq,h.fb,λk hk=>mP (h.lt k hk) u.size⟩ u
def Y1 (f:Dir) (bytes:xP):∀(l:List Nm) (n:Nm) (i:Nat) (fs:List Fl),Fv f bytes (l++[n]) i fs=Ju (Fv f bytes l i fs) ((f n).getD 0) λx=>x.cut (bytes.getD (i+l.length) 0)
 |[],n,i,fs=>by simp [Fv]
 |m::r,n,i,fs=>by
  show Fv f bytes (m::(r++[n])) i fs=_
  rw [Fv,Y1 f bytes r n (i+1),Fv,kE,show i+1+r.length=i+(r.length+1) by omega]
def Uw (h:RAt w r R D sf sl sa sq ds es qr ql) (ok:Bj D N) (hN:N<=2^40){c:Int×Sl×Unit}{bytes:xP}(hc:∀W S,Upd S w W->Gp w S (λt=>t=239\/t=298)->(∀k,S k->R k\/w.heap.size<=k)->SlX W c.2.1 1 (iv bytes)) (hcl:bytes.length<=2^44){K:Unit->Wp}
  (hK:∀w' R',RIn w' r R' (crash D c.1 bytes)->Upd R w w'->(∀k,R' k->R k\/w.heap.size<=k)->K () w') :
  Aa prog 148 #[dU r,.agg (Cells.vals c72 c).toArray] bH K w:=by
 refine Dh2 (a1:=c) ?_;unfold F148;obtain ⟨nm,sc,⟨⟩⟩:=c;dsimp only at hc hK ⊢;refine Ag λb1 w1 e1 n1 hb1 hz1=>Ad ?_;have h1:=h.ext e1;rw [addr_add];refine Af h1.box (off:=0+4) (x:=D.down) rfl (Ac (λhd=>?_) λhd=>?_);{(have e:crash D nm bytes=D:=by unfold crash;rw [iK hd]);rw [e] at hK;exact hK w1 R h1.in (Upd.Ae e1) λk hk=>.inl hk};have hcr:crash D nm bytes={ D with lasts:=Gf (D.acts.take (min (max nm 0).toNat D.acts.length)) D.lasts,acts:=[],files:=Fv (Gf (D.acts.take (min (max nm 0).toNat D.acts.length)) D.lasts) bytes (Dsk.names (Gf (D.acts.take (min (max nm 0).toNat D.acts.length)) D.lasts)) 0 D.files,down:=true }:=by
  unfold crash;rw [iP (by rw [hd];simp)]
 have htk:D.acts.take (min (max nm 0).toNat D.acts.length)=D.acts.take (if nm>0 then nm else 0).toNat:=by
  rw [show (if nm>0 then nm else 0)=max nm 0 by split<;>omega,vO];omega
 rw [hcr,htk] at hK;obtain ⟨m,hm⟩:∃m,m=(if nm>0 then nm else 0):=⟨_,rfl⟩;rw [←hm] at hK;refine Af n1 (off:=0) (x:=nm) rfl ?_;rw [←hm];refine Ah0 h1 ok hN λs2 w2 o2 e2 hb2=>Ad ?_;have e12:=e1.trans e2;have h2:=h.ext e12;have hE:=Wn h m.toNat;have hgood:=ok.good m.toNat;obtain ⟨f,hf⟩:∃f,f=Gf (D.acts.take m.toNat) D.lasts:=⟨_,rfl⟩;obtain ⟨l,hl⟩:∃l,l=Nb (D.acts.take m.toNat) es:=⟨_,rfl⟩;rw [←hf,←hl] at hE;rw [←hf] at hgood hK;rw [←hl] at o2;(have hl16:l.length<=16:=by rw [←hE.len];exact hgood.names.2);rw [addr_add];refine h2.last o2 hE λw3 h3 u3=>Ad ?_;rw [addr_add];refine h3.Cb1 λw4 h4 u4=>?_;have u24:=u3.trans u4;have z12:=e12.size;(have hb2':∀k,s2.blk k->R k\/w.heap.size<=k:=λk hk=>(hb2 k hk).imp id λhh=>by have:=e1.size;omega);have hTr:Gp w (λk=>k=r) (λt=>t=239\/t=298):=Gp.one h.box (.inl rfl);have u04:Upd (λk=>k=r) w w4:=(Upd.Ae e12).trans u24;have n4:=u24.get (e2.ext_get n1) (show b1≠r by have:=lt_of_heap h.box;omega);have hrows:∀{j:Nat} {cc:Ent},l[j]?=some cc->cc.2<D.files.length/\f cc.1=some cc.2:=λhj=>by
  have:=(hE.mem _ _).2 (lU hj)
  exact ⟨hgood.ids _ _ this,this⟩
 have hnn:=ok.num;have hP:∀j,(Fv f bytes ((l.take j).map (·.1)) 0 D.files).length=D.files.length/\∀(i:Nat) (g:Fl),(Fv f bytes ((l.take j).map (·.1)) 0 D.files)[i]?=some g->g.data.length<=1048576/\g.synced<=g.data.length:=λj =>
  H9 (P:=λg=>g.data.length<=1048576/\g.synced<=g.data.length) (λg more ⟨a,b⟩=>by simp only [Fl.cut,nG];omega) f bytes _ 0 D.files λi g hg=>⟨(ok.fil i g hg).1,(ok.fil i g hg).2.1⟩
 refine Ai (λ_ W=>∃R' ds',RAt W r R' { D with lasts:=f,acts:=[],files:=Fv f bytes (l.map (·.1)) 0 D.files } sf s2 ⟨none,0,0⟩ sq ds' l qr ql/\Upd (λk=>k=r\/sf.blk k) w4 W/\(∀k,R' k->R k\/w.heap.size<=k)) ?_ ?_
 ·refine Bo (λst W=>∃(j:Nat) (R':Nat->Prop) (ds':List Sl),st=((j:Int),())/\j<=l.length/\RAt W r R' { D with lasts:=f,acts:=[],files:=Fv f bytes ((l.take j).map (·.1)) 0 D.files } sf s2 ⟨none,0,0⟩ sq ds' l qr ql/\Upd (λk=>k=r\/sf.blk k) w4 W/\(∀k,R' k->R k\/w.heap.size<=k)) (λst _=>l.length-st.1.toNat)
   ⟨0,_,ds,rfl,qI _,h4,Upd.refl _ _,λk hk=>hk.elim .inl (hb2' k)⟩ ?_
  rintro _ W ⟨j,R1,ds1,rfl,hj,hW,uW,hR1⟩;dsimp only;have hl2:=o2.len;refine Ad ?_;rw [addr_add];refine Af hW.box (off:=0+2) (x:=s2) rfl (Ac (λhlt=>Ad ?_) λhge=>?_)
  ·(have hlt:j<l.length:=by have:=jY hlt;omega);obtain ⟨cc,hcc⟩:∃cc,l[j]?=some cc:=⟨_,oP hlt⟩;obtain ⟨hci,hfc⟩:=hrows hcc;obtain ⟨hlen,hbd⟩:=hP j;have hsn:Fv f bytes ((l.take (j+1)).map (·.1)) 0 D.files=Ju (Fv f bytes ((l.take j).map (·.1)) 0 D.files) cc.2 λx=>x.cut (bytes.getD j 0):=by
    have:(l.take (j+1)).map (·.1)=(l.take j).map (·.1)++[cc.1]:=by rw [sO,hcc,oQ];rfl
    rw [this,Y1,hfc,nO,nG]
    rw [show 0+min j l.length=j by omega];rfl
   obtain ⟨fs,hfs⟩:∃fs,fs=Fv f bytes ((l.take j).map (·.1)) 0 D.files:=⟨_,rfl⟩;rw [←hfs] at hW hlen hbd hsn;obtain ⟨g,hg⟩:∃g,fs[cc.2]?=some g:=⟨_,oP (by omega)⟩;obtain ⟨hgl,hgs⟩:=hbd cc.2 g hg;have hfl1:=hW.flen;dsimp only at hfl1;obtain ⟨sg,hsg⟩:∃sg,ds1[cc.2]?=some sg:=⟨_,oP (by omega)⟩;rw [Ig hg] at hsn;(have hrow:(Ov ds1 fs)[Int.toNat (cc.2:Int)]?=some (Qy sg g):=by rw [kH];exact Ir hsg hg);have dW:=hW.dat cc.2 sg g hsg hg;have dl:=Eh dW.in.x;have ew:W64 (((cc.2:Int)+1)-1)=(cc.2:Int):=iD (by omega);obtain ⟨M,hM⟩:∃M:Nat,M=min (max (bytes.getD j 0) 0).toNat (g.data.length-g.synced):=⟨_,rfl⟩;have nb1:b1<w4.heap.size:=lt_of_heap n4;(have nW:=uW.get n4 λhh=>hh.elim (λh'=>by have:=lt_of_heap h.box;omega) λh'=>by have:=h.lt _ (h.ff _ h');omega);have hX:SlX W sc 1 (iv bytes):=by
    refine hc W (λk=>k=r\/sf.blk k) ((u04.mono λk _ hk=>.inl hk).trans uW) (hTr.or (Gp.blk h.fil (.inr rfl))) λk hk=>.inl (hk.elim (λhh=>by rw [hh];exact h.fr) (h.ff k))
   have hXl:=hX.len1;rw [nO] at hXl;rw [addr_add];refine Af hW.box (off:=0+2) (x:=s2) rfl (Zw (c:=.int .i64) (cs:=Sm) (j:=1) (y:=(cc.2:Int)+1) hW.las.in (by omega) (Jt hcc) rfl λ_=>?_);rw [ew];refine Ai (λy W'=>y=((M:Int),())/\Ext W W') ?_ ?_;{refine Af nW (off:=1) (x:=sc) rfl (Ac (λhlt2=>Az λw5 e5 _=>?_) λhge2=>⟨?_,Ext.refl _⟩);{(have hlt2:j<bytes.length:=by have:=jY hlt2;omega);obtain ⟨bj,hbj⟩:∃bj,bytes[j]?=some bj:=⟨_,oP hlt2⟩;(have hgd:bytes.getD j 0=bj:=by rw [rJ,hbj];rfl);have h5:=hW.ext e5;refine Af (e5.ext_get nW) (off:=1) (x:=sc) rfl (Nk (c:=.int .i64) (xs:=bytes) (x:=bj) (hX.ext e5) (by omega) (by rw [kH];exact hbj) λ_=>Ad ?_);rw [addr_add];refine Af h5.box (off:=0+1) (x:=sf) rfl (Ky (c:=.sl) (cs:=Kv) (y:=sg) h5.fil.in (by omega) hrow rfl λ_=>Ad ?_);refine Af h5.box (off:=0+1) (x:=sf) rfl (Zw (c:=.int .i64) (cs:=Kv) (j:=1) (y:=(g.synced:Int)) h5.fil.in (by omega) hrow rfl λ_=>⟨?_,e5⟩);rw [iE (by omega)];rw [hgd] at hM;congr 1;split<;>split<;>omega};{(have hge2:¬j<bytes.length:=by have:=sK hge2;omega);(have hgd:bytes.getD j 0=0:=by rw [rJ,tN (by omega)];rfl);rw [hgd] at hM;congr 1;omega}};rintro _ W2 ⟨rfl,e2W⟩;have hW2:=hW.ext e2W;refine Ad ?_;rw [addr_add];refine Af hW2.box (off:=0+1) (x:=sf) rfl (Zw (c:=.int .i64) (cs:=Kv) (j:=1) (y:=(g.synced:Int)) hW2.fil.in (by omega) hrow rfl λ_=>Az λw5 e5 _=>Ad ?_);have h5:=hW2.ext e5;have esum:W64 ((g.synced:Int)+(M:Int))=((g.synced+M:Nat):Int):=iD (by omega);dsimp only;rw [esum];rw [addr_add];refine Af h5.box (off:=0+1) (x:=sf) rfl (Ad ?_);have d5:=h5.dat cc.2 sg g hsg hg;have hcap:=d5.le;refine Af h5.box (off:=0+1) (x:=sf) rfl (Ky (c:=.sl) (cs:=Kv) (y:=sg) h5.fil.in (by omega) hrow rfl λ_=>Bx4 d5 (by omega) (by omega) (by omega) (by omega) (by omega) λs6 o6 hl6 _ hb6=>?_);have o6:Dl w5 0 s6 (g.data.take (g.synced+M)):=by
    have:((bv g.data).drop ((0:Int).toNat*1)).take ((((g.synced+M:Nat):Int).toNat-(0:Int).toNat)*1)=bv (g.data.take (g.synced+M)):=by
     rw [kH];simp [tK]
    rw [this] at o6;exact o6
   refine Bl5 (c:=.sl) (cs:=Kv) (y:=s6) (x:=Qy sg g) (x':=Qy s6 ⟨g.data.take (g.synced+M),g.synced,g.count⟩) h5.fil (by omega) hrow (by decide) rfl λw7 fil7 u7 z7=>?_;rw [kH,←Qe h5.flen] at fil7;have hTf:Gp w5 sf.blk (λt=>t=298):=Gp.blk h5.fil rfl;have h7:=h5.Zm (s':=s6) (g':=⟨g.data.take (g.synced+M),g.synced,g.count⟩) hsg hg u7 (λq hq=>.inl hq) fil7 (o6.off u7 hTf (by decide)) λk hk=>.inl (hb6 k hk);have hid:=(lY.1 hsg).1;have hs7:(ds1.set cc.2 s6)[cc.2]?=some s6:=wO hid;have hg7:(fs.set cc.2 (⟨g.data.take (g.synced+M),g.synced,g.count⟩:Fl))[cc.2]?=some ⟨g.data.take (g.synced+M),g.synced,g.count⟩:=wO (by omega);refine Ad (Af h7.box (off:=0+1) (x:=sf) rfl ?_);refine Aq3 (c:=.int .i64) (cs:=Kv) (j:=1) (y:=((g.synced+M:Nat):Int)) (x:=Qy s6 ⟨g.data.take (g.synced+M),g.synced,g.count⟩) (x':=Qy s6 ⟨g.data.take (g.synced+M),g.synced+M,g.count⟩) h7.fil (by omega) (by rw [kH];exact Ir hs7 hg7) (by decide) rfl λw8 fil8 u8 z8=>?_;rw [kH,←Qe h7.flen] at fil8;have hTf7:Gp w7 sf.blk (λt=>t=298):=Gp.blk h7.fil rfl;have h8:=h7.Zm (s':=s6) (g':=⟨g.data.take (g.synced+M),g.synced+M,g.count⟩) hs7 hg7 u8 (λq hq=>.inl hq) fil8 ((h7.dat cc.2 s6 _ hs7 hg7).off u8 hTf7 (by decide)) λk hk=>.inl hk;have e25:=e2W.trans e5;rw [iE (by omega)];(have hcut:g.cut (bytes.getD j 0)=⟨g.data.take (g.synced+M),g.synced+M,g.count⟩:=by unfold Fl.cut;rw [hM]);refine ⟨⟨j+1,λk=>(R1 k\/s6.blk k)\/s6.blk k,(ds1.set cc.2 s6).set cc.2 s6,by rw [show ((j:Int)+1)=((j+1:Nat):Int) by omega],hlt,?_,(uW.trans (Upd.Ae e25)).trans ((u7.trans u8).mono λk _ hk=>.inr hk),λk hk=>?_⟩,by show l.length-((j:Int)+1).toNat<l.length-(j:Int).toNat;omega⟩;{rw [hsn,hcut];dsimp only at h8;rw [wX (l:=fs)] at h8;exact h8};{have hs6:s6.blk k->R k\/w.heap.size<=k:=λhh=>hR1 k (h5.fd sg (lU hsg) k (hb6 k hh));rcases hk with (hk|hk)|hk;{exact hR1 k hk};{exact hs6 hk};{exact hs6 hk}}
  {(have hge:¬j<l.length:=by have:=sK hge;omega);rw [sQ (by omega)] at hW;exact ⟨R1,ds1,hW,uW,hR1⟩}
 rintro _ w5 ⟨R5,ds5,h5,u5,hR5⟩;refine Ad ?_;rw [addr_add];refine Dj h5.box (by show 0+4<7;decide) λw6 u6 n6 z6=>?_;rw [hE.names] at hK;have h6:=h5.set (D':={ D with lasts:=f,acts:=[],files:=Fv f bytes (l.map (·.1)) 0 D.files,down:=true }) u6 n6 rfl rfl rfl rfl;exact hK w6 R5 h6.in (((u04.mono λk _ hk=>by rw [hk];exact h.fr).trans (u5.mono λk _ hk=>hk.elim (λhh=>by rw [hh];exact h.fr) (h.ff k))).trans (u6.mono λk _ hk=>by rw [hk];exact h.fr)) hR5
end
end Dq
end
section
namespace Dq
open Go Go.Vx Dsk Cdc Trx
section
variable {w w':World}{S R R':Nat->Prop}{T:TypeId->Prop}{r:Nat}{D D':Dk}{N:Nat}{B:Nat}{sf sl sa sq:Sl}{ds:List Sl}{es:List Ent}{qr:List (Cells.T Dt)}{ql:List (Int×Ce)}{n:Nm}{s:Sl}{t:TypeId}{sz:Nat}{vs:List Value}{f:Dir}{l:List Ent}
def Jg (l:List (Int×Ce)):List (Int×Ce):=l.filter λf=>decide (1<=f.2.kind/\f.2.kind<=5)
def Bs3 {α:Type}(p:α->Bool) (l:List α) (x:α):(l++[x]).find? p=match l.find? p with|some y=>some y|none=>if p x=true then some x else none:=by
 induction l with
 |nil=>by_cases h:p x=true<;>simp [h]
 |cons a r ih=>by_cases h:p a=true;{simp [h]};{simp only [jC];rw [wV h,wV h,ih]}
def Zo (l:List (Int×Ce)):∀k,Hf l (λ_=>none) k=((Jg l).find? λf=>f.1==k).map (·.2):=by
 suffices h:∀m:List (Int×Ce),∀k,Hf m.reverse (λ_=>none) k=((Jg m.reverse).find? λf=>f.1==k).map (·.2) by
  have:=h l.reverse;rwa [List.reverse_reverse] at this
 intro m;induction m with
 |nil=>intro k;rfl
 | cons x r ih =>
  intro k;rw [List.reverse_cons,P5];by_cases hk:x.2.kind<1\/x.2.kind>5
  ·have hs:Jg (r.reverse++[x])=Jg r.reverse:=by
    unfold Jg
    rw [qP,wH (by simp;omega)];simp
   rw [iK (.inr hk),hs,ih]
  ·have hs:Jg (r.reverse++[x])=Jg r.reverse++[x]:=by
    unfold Jg
    rw [qP,wG (by simp;omega)];rfl
   rw [hs,Bs3];by_cases hi:(Hf r.reverse (λ_=>none) x.1).isSome=true
   ·rw [iK (.inl hi),ih];cases hf:(Jg r.reverse).find? λf=>f.1==k with
    |some y=>rfl
    | none =>
     have hne:¬(x.1==k)=true:=λhh=>by
      have hxk:x.1=k:=by simpa using hh
      rw [ih,hxk,hf] at hi;cases hi
     dsimp only;rw [iP hne]
   ·rw [iP (by rintro (hh|hh);exact hi hh;exact hk hh)];have hnone:Hf r.reverse (λ_=>none) x.1=none:=by
     cases hq:Hf r.reverse (λ_=>none) x.1 with
     |none=>rfl
     |some q=>rw [hq] at hi;exact absurd rfl hi
    by_cases hkx:k=x.1
    ·subst hkx;have hf:(Jg r.reverse).find? (λf=>f.1==x.1)=none:=by
      rw [ih] at hnone
      cases hq:(Jg r.reverse).find? (λf=>f.1==x.1) with
      |none=>rfl
      |some q=>rw [hq] at hnone;cases hnone
     rw [iK rfl,hf];simp
    ·rw [iP hkx,ih];cases hf:(Jg r.reverse).find? λf=>f.1==k with
     |some y=>rfl
     |none=>have hne:¬(x.1==k)=true:=λhh=>hkx (by simpa using hh:x.1=k).symm;dsimp only;rw [iP hne]
def Ac9 (l:List (Int×Ce)) (g:Int×Ce):Jg (l++[g])=if 1<=g.2.kind/\g.2.kind<=5 then Jg l++[g] else Jg l:=by unfold Jg;rw [qP];by_cases h:1<=g.2.kind/\g.2.kind<=5;{rw [iK h,wG (by simpa using h)];rfl};{rw [iP h,wH (by simpa using h)];simp}
def Bx3 (l:List (Int×Ce)):(Jg l).length<=l.length:=qR _ _
def Ab0 (h:RAt w r R D sf sl sa sq ds es qr ql){x:Sl}{rows:List (Cells.T Dt)}{fl:List (Int×Ce)}(hx:Hu w (λk=>k<w.heap.size/\¬R k) x rows fl) (hl:fl.length<=2^30){K:Unit->Wp}
  (hK:∀w' R',RIn w' r R' (plan D fl)->Upd R w w'->(∀k,R' k->R k\/w.heap.size<=k)->K () w') :
  Aa prog 114 #[dU r,x.v] bH K w:=by
 refine j114 (a1:=x) ?_;unfold F114;have hxl:rows.length=x.len:=hx.row.Py (cs:=Dt) (by decide);have hlen:=hx.len;have hTr:Gp w (λk=>k=r) (λt=>t=239):=Gp.one h.box rfl;have lr:=lt_of_heap h.box;refine Ad ?_;rw [addr_add];refine Dj h.box (by show 0+5<7;decide) λw1 u1 n1 z1=>Ad ?_;rw [addr_add];refine Dj n1 (by rw [wU];show 0+6<7;decide) λw2 u2 n2 z2=>?_;have u12:=u1.trans u2;have h2:RAt w2 r R { D with plan:=Hf (fl.take 0) λ_=>none,steps:=0 } sf sl sa ⟨none,0,0⟩ ds es [] [] :=
  ⟨n2,h.fil.off u12 hTr (by decide),h.flen,h.Cn1 u12 hTr (by decide),h.ne,h.las.off u12 hTr (by decide),h.ent,h.act.off u12 hTr (by decide),Am.nil _ _ _ _,rfl,λi x f hx=>by simp at hx,λk=>rfl,by decide,h.fr,h.ff,h.fd,h.fl_,h.fa,λk hk=>Du hk,λx hx=>by simp at hx,λk hk=>mP (h.lt k hk) u12.size⟩
 refine Bo (λst W=>∃(i:Nat) (R':Nat->Prop) (sq':Sl) (qr':List (Cells.T Dt)),st=((i:Int),())/\i<=fl.length/\RAt W r R' { D with plan:=Hf (fl.take i) λ_=>none,steps:=0 } sf sl sa sq' ds es qr' (Jg (fl.take i))/\Upd R w W/\(∀k,R' k->R k\/w.heap.size<=k)/\(∀k,sq'.blk k->w.heap.size<=k)) (λst _=>fl.length-st.1.toNat)
  ⟨0,R,⟨none,0,0⟩,[],rfl,qI _,h2,u12.mono λk _ hk=>by rw [hk];exact h.fr,λk hk=>.inl hk,λk hk=>Du hk⟩ ?_
 rintro _ W ⟨i,R1,sq1,qr1,rfl,hi,hW,uW,hR1,hsq1⟩;dsimp only;refine Ac (λhlt=>?_) λhge=>?_
 ·(have hlt:i<fl.length:=by have:=jY hlt;omega);obtain ⟨x1,hx1⟩:∃x1,rows[i]?=some x1:=⟨_,oP (by omega)⟩;obtain ⟨g,hg⟩:∃g,fl[i]?=some g:=⟨_,oP hlt⟩;have xW:=hx.upd uW λk hk hh=>hk.2 hh;obtain ⟨q1,q2,q3,q4,q5,q6,q7⟩:=xW.at_ i x1 g hx1 hg;(have htk:fl.take (i+1)=fl.take i++[g]:=by rw [sO,hg];rfl);have zW:=uW.size;have sle:=Bx3 (fl.take i);rw [nG] at sle;refine Ai (λ_ W'=>∃R' sq' qr',RAt W' r R' { D with plan:=Hf (fl.take (i+1)) λ_=>none,steps:=0 } sf sl sa sq' ds es qr' (Jg (fl.take (i+1)))/\Upd R w W'/\(∀k,R' k->R k\/w.heap.size<=k)/\(∀k,sq'.blk k->w.heap.size<=k)) ?_ ?_
  ·refine Aq4 (cs:=Dt) xW.row (by decide) (by omega) (by rw [kH];exact hx1) λ_=>Ag λb9 w3 e3 n3 hb3 hz3=>Ba n3 rfl rfl (by decide) λw4 u4 n4 z4=>?_;have n4:w4.heap[b9]?=some (.cells (Cells.vals Dt x1).toArray 132 (0,0)):=n4;have e4:Ext W w4:=e3.step u4 λk hk=>(by omega);have q5l:=q5.len1;rw [nO] at q5l;refine Ai (λy W'=>∃s5,y=(s5,())/\Am W' w4.heap.size s5 3 1 (iv g.2.bytes)/\Ext w4 W') ?_ ?_;{refine Bo (λst W'=>∃(j:Nat) (s5:Sl),st=(s5,(j:Int),())/\j<=g.2.bytes.length/\Am W' w4.heap.size s5 3 1 (iv (g.2.bytes.take j))/\Ext w4 W') (λst _=>g.2.bytes.length-st.2.1.toNat) ⟨0,⟨none,0,0⟩,rfl,qI _,Am.nil _ _ _ _,Ext.refl _⟩ ?_;rintro _ W5 ⟨j,s5,rfl,hj,o5,e5⟩;dsimp only;rw [addr_add];refine Af (e5.ext_get n4) (off:=3+1) (x:=x1.2.2.2.2.1) rfl (Ac (λhlt5=>?_) λhge5=>?_);{(have hlt5:j<g.2.bytes.length:=by have:=jY hlt5;omega);obtain ⟨bj,hbj⟩:∃bj,g.2.bytes[j]?=some bj:=⟨_,oP hlt5⟩;refine Af (e5.ext_get n4) (off:=3+1) (x:=x1.2.2.2.2.1) rfl (Nk (c:=.int .i64) (xs:=g.2.bytes) (x:=bj) (q5.ext (e4.trans e5)) (by omega) (by rw [kH];exact hbj) λ_=>Ag λb18 w6 e6 n6 hb6 hz6=>?_);have hbox:SlX w6 ⟨some (at0 b18),1,1⟩ 1 (iv [bj]):=(Dx.Jk (n:=1) (sz:=1) n6 rfl).x;have ol5:=o5.len1;rw [nO,nG] at ol5;refine Ed EI uI (s:=s5) (x:=⟨some (at0 b18),1,1⟩) (o5.ext e6) hbox (Bf5 _) (by show (s5.len+1+(s5.len+1)/4+512)*8<=_;omega) (by have:=e5.size;have:=e6.size;omega) λs7 w7 o7 hl7 u7 hb7=>?_;rw [iE (by omega)];refine ⟨⟨j+1,s7,by rw [show ((j:Int)+1)=((j+1:Nat):Int) by omega],hlt5,?_,(e5.trans e6).step u7 λk hk=>o5.Dh hk⟩,by show g.2.bytes.length-((j:Int)+1).toNat<g.2.bytes.length-(j:Int).toNat;omega⟩;rw [sO,hbj];rw [←oQ] at o7;exact o7};{(have hge5:¬j<g.2.bytes.length:=by have:=sK hge5;omega);rw [sQ (by omega)] at o5;exact ⟨s5,rfl,o5,e5⟩}};rintro _ w5 ⟨s5,rfl,o5,e5⟩;rw [addr_add];refine Dj (e5.ext_get n4) (by show 3+1<5;decide) λw6 u6 n6 z6=>?_;have n6:w6.heap[b9]?=some (.cells (Cells.vals Dt (x1.1,x1.2.1,x1.2.2.1,x1.2.2.2.1,s5,())).toArray 132 (0,0)):=n6;have e06:Ext W w6:=(e4.trans e5).step u6 λk hk=>(by omega);(have o6:Am w6 w4.heap.size s5 3 1 (iv g.2.bytes):=o5.upd u6 λk _ hk hh=>by have:=o5.Dh hk;omega);have h6:=hW.ext e06;refine Ar (decide (1<=g.2.kind/\g.2.kind<=5),()) (Af n6 (off:=1) (x:=x1.2.1) rfl (Ac (λh1=>Af n6 (off:=1) (x:=x1.2.1) rfl ⟨Di ?_,rfl⟩) λh1=>⟨Di ?_,rfl⟩)) (Ac (λhk=>?_) λhk=>?_);{have h1:(x1.2.1:Int)>=1:=jY h1;(have h1:(1:Int)<=g.2.kind:=by rw [←q2];exact h1);rw [q2,pF,pF];exact (by omega:(g.2.kind<=5)↔(1<=g.2.kind/\g.2.kind<=5))};{have h1:¬(x1.2.1:Int)>=1:=sK h1;(have h1:¬(1:Int)<=g.2.kind:=by rw [←q2];exact h1);rw [pF];constructor;{intro hh;cases hh};{intro hh;exact absurd hh.1 h1}}
   ·have hk:1<=g.2.kind/\g.2.kind<=5:=jY hk;have hsn:Jg (fl.take (i+1))=Jg (fl.take i)++[g]:=(by rw [htk,Ac9,iK hk]);refine Az λw7 e7 _=>Ad ?_;have h7:=h6.ext e7;rw [addr_add];refine Af h7.box (off:=0+5) (x:=sq1) rfl (Dp (x:=((x1.1,x1.2.1,x1.2.2.1,x1.2.2.2.1,s5,()):Cells.T Dt)) (e7.ext_get n6) (λi v hv=>by rw [kY,←kQ];exact hv) (Ag λb27 w8 e8 n8 hb8 hz8=>Bc (cell_of (off:=0+5) (e8.ext_get h7.box) rfl) ?_));have h8:=h7.ext e8;have e68:=e7.trans e8;have hbox:SlX w8 ⟨some (at0 b27),1,1⟩ 5 (Cells.vals Dt (x1.1,x1.2.1,x1.2.2.1,x1.2.2.2.1,s5,())):=(Dx.Jk (n:=1) (sz:=5) n8 rfl).x;have sql:qr1.length=sq1.len:=Am.Py (cs:=Dt) h8.flt (by decide);have qrl:=h8.qlen;refine Ed EFt uFt (s:=sq1) (x:=⟨some (at0 b27),1,1⟩) h8.flt hbox (Am5 _) (by show (sq1.len+1+(sq1.len+1)/4+512)*56<=_;omega) (qI _) λs9 w9 o9 hl9 u9 hb9=>Ad ?_;have hT9:Gp w8 sq1.blk (λt=>t=132):=Gp.blk h8.flt rfl;have box9:=u9.get h8.box λhh=>by
     obtain ⟨c',fr,hc'⟩:=h8.flt.in.Bf hh
     rw [h8.box] at hc';cases hc'
    rw [addr_add];refine Dj box9 (by show 0+5<7;decide) λw10 u10 n10 z10=>?_;have hT10:Gp w9 (λk=>k=r) (λt=>t=239):=Gp.one box9 rfl;have off2:∀{B:Nat} {s:Sl} {t:TypeId} {sz:Nat} {vs:List Value},Am w8 B s t sz vs->t≠132->t≠239->Am w10 B s t sz vs:=λhs h1 h2=>(hs.off u9 hT9 h1).off u10 hT10 h2;(have o9:Am w9 0 s9 132 5 (flat Dt (qr1++[(x1.1,x1.2.1,x1.2.2.1,x1.2.2.2.1,s5,())])):=by rw [Ls];simpa [flat] using o9);(have s5ge:∀k,s5.blk k->w.heap.size<=k:=λk hk=>by have:=o5.Dh hk;have:=e4.size;omega);have z06:=e06.size;have z68:=e68.size;have s9ge:∀k,s9.blk k->w.heap.size<=k:=λk hk=>(hb9 k hk).elim (hsq1 k) λhh=>(by omega);refine ⟨λk=>R1 k\/s9.blk k\/s5.blk k,s9,qr1++[(x1.1,x1.2.1,x1.2.2.1,x1.2.2.2.1,s5,())],⟨n10,off2 h8.fil (by decide) (by decide),h8.flen,λj t q hj hq=>off2 (h8.dat j t q hj hq) (by decide) (by decide),h8.ne,off2 h8.las (by decide) (by decide),h8.ent,off2 h8.act (by decide) (by decide),o9.off u10 hT10 (by decide),by rw [hsn];simp;exact qrl,λj y q hj hq=>?_,λk=>?_,by rw [hsn];simp;omega,.inl h8.fr,λk hk=>.inl (h8.ff k hk),λt ht k hk=>.inl (h8.fd t ht k hk),λk hk=>.inl (h8.fl_ k hk),λk hk=>.inl (h8.fa k hk),λk hk=>.inr (.inl hk),λy hy k hk=>?_,λk hk=>?_⟩,?_,λk hk=>?_,s9ge⟩;{rw [hsn] at hq;by_cases hjl:j<qr1.length;{rw [mZ hjl] at hj;rw [mZ (by omega)] at hq;obtain ⟨a,b,c,d,e,g'⟩:=h8.qat j y q hj hq;exact ⟨a,b,c,d,off2 e (by decide) (by decide),g'⟩};{rw [nC (by omega)] at hj;rw [nC (by omega)] at hq;have h1:=lU hj;have h2:=lU hq;simp at h1 h2;subst h1 h2;exact ⟨q1,q2,q3,q4,off2 ((o6.mono (qI _)).ext e68) (by decide) (by decide),q6,hk⟩}};{show Hf (fl.take (i+1)) (λ_=>none) k=_;exact Zo _ k};{rcases jV.1 hy with hy|hy;{exact .inl (h8.fb y hy k hk)};{have:y=(x1.1,x1.2.1,x1.2.2.1,x1.2.2.2.1,s5,()):=(by simpa using hy);subst this;exact .inr (.inr hk)}};{have z9:=u9.size;rcases hk with hk|hk|hk;{have:=h8.lt k hk;omega};{have:=o9.in.Ci hk;omega};{have:=o6.in.Ci hk;omega}};{refine ((uW.trans (Upd.Ae (e06.trans e68))).new u9 λk hk hh=>?_).trans (u10.mono λk _ hk=>by rw [hk];exact h.fr);have:=hsq1 k hh;omega};{rcases hk with hk|hk|hk;{exact hR1 k hk};{exact .inr (s9ge k hk)};{exact .inr (s5ge k hk)}}
   ·have hk:¬(1<=g.2.kind/\g.2.kind<=5):=sK hk;have hsn:Jg (fl.take (i+1))=Jg (fl.take i):=(by rw [htk,Ac9,iP hk]);refine ⟨R1,sq1,qr1,?_,uW.trans (Upd.Ae e06),hR1,hsq1⟩;rw [hsn];have hp:Hf (fl.take (i+1)) (λ_=>none)=Hf (fl.take i) λ_=>none:=by
     funext k;rw [Zo,Zo,hsn]
    rw [hp];exact h6
  rintro _ W2 ⟨R2,sq2,qr2,h2',u2',hR2,hsq2⟩;rw [iE (by omega)];exact ⟨⟨i+1,R2,sq2,qr2,by rw [show ((i:Int)+1)=((i+1:Nat):Int) by omega],hlt,h2',u2',hR2,hsq2⟩,by show fl.length-((i:Int)+1).toNat<fl.length-(i:Int).toNat;omega⟩
 {(have hge:¬i<fl.length:=by have:=sK hge;omega);rw [sQ (by omega)] at hW;exact hK W R1 hW.in uW hR1}
end
end Dq
end
section
namespace Dq
open Go Go.Vx Dsk Cdc Trx
section
variable {w w':World}{S R R':Nat->Prop}{T:TypeId->Prop}{r:Nat}{D D':Dk}{N:Nat}{B:Nat}{sf sl sa sq:Sl}{ds:List Sl}{es:List Ent}{qr:List (Cells.T Dt)}{ql:List (Int×Ce)}{n:Nm}{s:Sl}{t:TypeId}{sz:Nat}{vs:List Value}{f:Dir}{l:List Ent}
def Ct5 {cs:List Cell}{s:Sl}{t:TypeId}{B:Nat}{xs:List (Cells.T cs)}{n:Int}{x x':Cells.T cs}{K:World->Prop}(h:Am w B s t cs.length (flat cs xs)) (h0:0<=n) (hx:xs[n.toNat]?=some x) (hc:0<cs.length) (h1:(Cells.vals cs x').all Eb=true)
  (hK:∀w',Am w' B s t cs.length (flat cs (xs.set n.toNat x'))->Upd s.blk w w'->w'.heap.size=w.heap.size->K w'):ix s.a s.len n (λp=>Ah (p.add (scaled n.toNat cs.length)) (.agg (Cells.vals cs x').toArray) cs.length K) w:=by
 have hlt:=(lY.1 hx).1;have hl:=h.Py hc;have hle:=h.le;have fl:=Jp cs xs;have fl2:=Jp cs (xs.set n.toNat x');rw [tC] at fl2;have hm:=mY cs.length (show n.toNat+1<=s.cap by omega);rw [oD] at hm;have hvl:=Gn cs x';rcases h.at_ with ⟨ha,hcc⟩|⟨b,off,ce,ha,hB,hb,hcap,hvv⟩;{omega}
 ·refine ⟨⟨b,off,none⟩,⟨ha,h0,by omega⟩,?_⟩;dsimp only;rw [addr_add,Fj];refine Ba hb (by simpa using hvl) (by simpa using h1) (by omega) λw1 u1 n1 hz=>hK w1 ⟨by rw [Jp,tC,hl],h.le,.inr ⟨b,off,_,ha,hB,n1,by rw [Go.Vx.size_setRow];exact hcap,λi v hi=>?_⟩⟩ (u1.mono λk _ hk=>⟨_,ha,hk.symm⟩) hz;have hil:=(lY.1 hi).1;(have hq:i=(i/cs.length)*cs.length+i%cs.length:=by have:=Nat.div_add_mod i cs.length;rw [vH] at this;omega);have hr:i%cs.length<cs.length:=oI _ hc;by_cases he:i/cs.length=n.toNat;{have hset:(xs.set n.toNat x')[i/cs.length]?=some x':=(by rw [he,wO hlt]);rw [hq,flat_get cs _ _ _ x' hset hr] at hi;rw [hq,he,←Nat.add_assoc,Go.Vx.Nz _ _ _ _ (by simp only [wY];omega) (by simp only [wY];omega)];simpa using hi}
  ·have hold:(flat cs xs)[i]?=some v:=by
    have hdl:i/cs.length<xs.length:=by
     rw [Nat.div_lt_iff_lt_mul hc];omega
    have hset:(xs.set n.toNat x')[i/cs.length]?=xs[i/cs.length]?:=by rw [nX,iP (λh=>he h.symm)]
    obtain ⟨y,hy⟩:∃y,xs[i/cs.length]?=some y:=⟨_,oP hdl⟩
    rw [hq,flat_get cs _ _ _ y (by rw [hset];exact hy) hr] at hi
    rw [hq,flat_get cs _ _ _ y hy hr];exact hi
   have:=hvv i v hold;by_cases hlt2:i/cs.length<n.toNat;{have h2:=mY cs.length (show i/cs.length+1<=n.toNat by omega);rw [oD] at h2;rw [Go.Vx.Gi _ _ _ _ (by omega)];exact this};{have h2:=mY cs.length (show n.toNat+1<=i/cs.length by omega);rw [oD] at h2;rw [Go.Vx.Si _ _ _ _ (by simp only [wY];omega)];exact this}
def Av4 (h:RAt w r R D sf sl sa sq ds es qr ql){i:Nat}{g:Fl}{sd:Sl}(hs:ds[i]?=some sd) (hg:D.files[i]?=some g) (hgc:0<=g.count/\g.count<=2^40) (hil:i<=2^41){x:Sl}{b:List UInt8}(hx:Bytes w x b) (hbl:b.length<=2^30){K:Int->Wp}
  (hK:∀w' R',RIn w' r R' { D with files:=D.files.set i ⟨b,b.length,g.count+1⟩ }->Upd R w w'->(∀k,R' k->R k\/w.heap.size<=k)->K 0 w') :
  (drew <|
    nn (some (at0 r)) λp26 =>
    ld (.sl) (p26.add 1) λ(x27:Sl) =>
    nn (some (at0 r)) λp28 =>
    ld (.sl) (p28.add 1) λ(x29:Sl) =>
    ix x29.a x29.len (W64 (((i:Int)+1)-(1:Int))) λp30 =>
    ld (.int .i64) ((p30.add (scaled (Int.toNat (W64 (((i:Int)+1)-(1:Int)))) 3)).add 2) λ(x31:Int) =>
    Aa prog 193 #[x.v] rS λ(x32:Sl) =>
    keep (λw=>w.cell? ((p30.add (scaled (Int.toNat (W64 (((i:Int)+1)-(1:Int)))) 3)).add 2)=some (Cell.val (.int .i64) x31)) <|
    keep (λw=>w.cell? (p28.add 1)=some (Cell.val (.sl) x29)) <|
    keep (λw=>w.cell? (p26.add 1)=some (Cell.val (.sl) x27)) <|
    ix x27.a x27.len (W64 (((i:Int)+1)-(1:Int))) λp33 =>
    Ah (p33.add (scaled (Int.toNat (W64 (((i:Int)+1)-(1:Int)))) 3)) (.agg #[(.slice x32.a x32.len x32.cap),(vI ((x.len:Nat):Int)),(vI (W64 (x31+(1:Int))))]) 3 <|
    K (0:Int)) w:=by
 have ew:W64 (((i:Int)+1)-1)=(i:Int):=iD (by omega);rw [ew];have hxl:=Eh hx;have hrow:=Ir hs hg;refine Az λw1 e1 _=>Ad ?_;have h1:=h.ext e1;rw [addr_add];refine Af h1.box (off:=0+1) (x:=sf) rfl (Ad (Af h1.box (off:=0+1) (x:=sf) rfl ?_));have hlt:=(lY.1 hrow).1;have hl:=Am.Py (cs:=Kv) h1.fil (by decide);refine h1.fil.in.ix (sz:=3) (n:=(i:Int)) (by omega) (by omega) (by decide) λbb off ha hv=>?_;have h0:=hv 2 (vI g.count) (by
  have:=flat_get Kv (Ov ds D.files) i 2 _ hrow (by decide)
  rw [kH]
  exact this)
 rw [addr_add,addr_add];have hcell:w1.cell? (⟨bb,off+scaled (Int.toNat (i:Int)) 3+2,none⟩:Addr)=some (vI g.count):=(by simpa [Fj,Nat.add_assoc] using h0);refine Ax1 (c:=.int .i64) (x:=g.count) hcell (Tz (hx.ext e1) (by omega) λs2 w2 o2 e2=>Bc (Ay7 e2 hcell) (Bc (cell_of (off:=0+1) (e2.ext_get h1.box) rfl) (Bc (cell_of (off:=0+1) (e2.ext_get h1.box) rfl) ?_)));have h2:=h1.ext e2;have ec:W64 (g.count+1)=g.count+1:=iE (by omega);rw [ec];have e12:=e1.trans e2;have z12:=e12.size;have z1:=e1.size;have hx':(Cells.vals Kv (Qy s2 ⟨b,b.length,g.count+1⟩)).toArray=(#[(.slice s2.a s2.len s2.cap),(vI ((x.len:Nat):Int)),(vI (g.count+1))]:Array Value):=by
  show (#[(.slice s2.a s2.len s2.cap),(vI ((b.length:Nat):Int)),(vI (g.count+1))]:Array Value)=_
  rw [hxl]
 rw [←hx'];refine Ct5 (cs:=Kv) (x:=Qy sd g) (x':=Qy s2 ⟨b,b.length,g.count+1⟩) h2.fil (by omega) (by rw [kH];exact hrow) (by decide) rfl λw3 fil3 u3 z3=>?_;rw [kH,←Qe h2.flen] at fil3;have hT:Gp w2 sf.blk (λt=>t=298):=Gp.blk h2.fil rfl;have o3:Dl w3 0 s2 b:=(o2.off u3 hT (by decide)).mono (qI _);have h23:RAt w3 r (λk=>R k\/s2.blk k) { D with files:=D.files.set i ⟨b,b.length,g.count+1⟩ } sf sl sa sq (ds.set i s2) es qr ql:=by
  have u13:Upd sf.blk w1 w3:=(Upd.Ae e2).trans u3
  exact h1.Zm (s':=s2) (g':=⟨b,b.length,g.count+1⟩) hs hg u13 (λq hq=>.inl hq) fil3 o3 λk hk=>.inr (o2.Dh hk)
 exact hK w3 _ h23.in ((Upd.Ae e12).trans (u3.mono λk _ hk=>h.ff k hk)) λk hk=>hk.imp id λhh=>by have:=o2.Dh hh;omega
def Bn6 (h:RAt w r R D sf sl sa sq ds es qr ql) (ok:Bj D N) (hN:N<=2^40) (hn:n.size<2^62){x:Sl}{b:List UInt8}(hx:Bytes w x b) (hxb:Lie (λk=>k<w.heap.size/\¬R k) x) (hbl:b.length<=2^30){K:Int->Wp}
  (hK:∀w' R',RIn w' r R' (Lc D n b).1->Upd R w w'->(∀k,R' k->R k\/w.heap.size<=k)->K (Lc D n b).2 w') :
  Aa prog 149 #[dU r,.string n,x.v] rI K w:=by
 refine Dh1 (a2:=x) ?_;unfold F149;have hxl:=Eh hx;have hun:=ok.used none;have hsp:=ok.space;have hnn:=ok.num;unfold Lc at hK;refine Ad ?_;rw [addr_add];refine Af h.box (off:=0+4) (x:=D.down) rfl (Ac (λhd=>?_) λhd=>?_);{rw [iK hd] at hK;exact hK w R h.in (Upd.refl _ _) λk hk=>.inl hk};rw [iP (by rw [hd];simp)] at hK;refine Tv hn (Ac (λhk=>?_) λhk=>?_);{have hk:Bl n=false:=(by simpa using hk);rw [iK hk] at hK;exact hK w R h.in (Upd.refl _ _) λk hk=>.inl hk};rw [iP (by simpa using hk)] at hK;refine Ab1 h ok hN λw1 e1=>Qb (h.ext e1) ok hN λs2 l w2 o2 hE e2 hb2=>Az λw3 e3 _=>Ad ?_;have e13:=(e1.trans e2).trans e3;have h3:=h.ext e13;refine Af h3.box (off:=0) (x:=D.space) rfl (Aa9 h3 ok hN λw4 e4=>Bc (cell_of (off:=0) (e4.ext_get h3.box) rfl) ?_);have e04:=e13.trans e4;have h4:=h.ext e04;have z04:=e04.size;have z1:=e1.size;have o4:Ij w4 0 s2 l:=(o2.ext e3).ext e4;have hol:=o2.len;have hlen:=hE.len;have es1:W64 (D.space-Cb D none)=D.space-Cb D none:=iE (by omega);rw [es1];have hb2':∀k,s2.blk k->R k\/w.heap.size<=k:=λk hk=>(hb2 k hk).imp id λhh=>(by omega);have hub:Cb D (D.seen n)=Cb D none-(match D.seen n with|some i=>((fl D i).data.length:Int)|none=>0):=by
  cases hs:D.seen n with
  |none=>simp
  |some i=>have:=Bw0 ok hs;dsimp only;omega
 refine Ai (λy W=>y=(D.space-Cb D (D.seen n),())/\w4=W) ?_ ?_
 ·cases hs:D.seen n with
  |none=>(have:numOf D n=0:=by unfold numOf;rw [hs]);rw [this];exact Ac (λhh=>by simp at hh) λ_=>⟨rfl,rfl⟩
  |some i=>(have hnum:numOf D n=(i:Int)+1:=by unfold numOf;rw [hs]);rw [hnum];obtain ⟨g,hg,hfl⟩:=Jz ok hs;have hi:=(lY.1 hg).1;obtain ⟨sd,hsd⟩:∃sd,ds[i]?=some sd:=⟨_,oP (by rw [h.flen];exact hi)⟩;have ew:W64 (((i:Int)+1)-1)=(i:Int):=iD (by omega);rw [ew];(refine Ac (λ_=>Ad ?_) λhh=>by have:=sK hh;omega);rw [addr_add];refine Af h4.box (off:=0+1) (x:=sf) rfl (Ky (c:=.sl) (cs:=Kv) (y:=sd) h4.fil.in (by omega) (by rw [kH];exact Ir hsd hg) rfl λ_=>⟨?_,rfl⟩);have hdl:=Eh (h4.dat i sd g hsd hg).in.x;rw [hs] at hub;dsimp only at hub;rw [hfl] at hub;have hgl:=(ok.fil i g hg).1;rw [iE (by omega)];congr 1;omega
 rintro _ _ ⟨rfl,rfl⟩;dsimp only;refine Ar (decide ((D.seen n=none/\16<=(Dsk.names D.seen).length)\/(b.length:Int)>D.space-Cb D (D.seen n)),()) ?_ (Ac (λhc=>?_) λhc=>?_)
 ·cases hs:D.seen n with
  |none=>(have:numOf D n=0:=by unfold numOf;rw [hs]);rw [this];refine Ac (λ_=>Ac (λh1=>⟨Di ?_,rfl⟩) λh1=>⟨Di ?_,rfl⟩) λhh=>(by simp at hh);{have h1:=jY h1;rw [pF];exact ⟨λ_=>.inl ⟨rfl,by omega⟩,λ_=>rfl⟩};{have h1:=sK h1;rw [pF,pF];constructor;{intro hh;exact .inr (by omega)};{rintro (⟨_,hh⟩|hh)<;>omega}}
  |some i=>(have hnum:numOf D n=(i:Int)+1:=by unfold numOf;rw [hs]);rw [hnum];refine Ac (λhh=>by simp at hh;omega) λ_=>⟨Di ?_,rfl⟩;rw [pF,pF];constructor;{intro hh;exact .inr (by omega)};{rintro (⟨hh,_⟩|hh);{cases hh};{omega}}
 {have hc:=jY hc;rw [iK hc] at hK;exact hK w4 R h4.in (Upd.Ae e04) λk hk=>.inl hk};have hc:=sK hc;rw [iP hc] at hK;refine Ad ?_;rw [addr_add];refine h4.last o4 hE λw5 h5 u5=>Ad ?_;rw [addr_add];refine h5.Cb1 λw6 h6 u6=>?_;have u46:=u5.trans u6;have hR6:∀k,(R k\/s2.blk k)->R k\/w.heap.size<=k:=λk hk=>hk.elim .inl (hb2' k);have uR6:Upd R w w6:=(Upd.Ae e04).trans (u46.mono λk _ hk=>by rw [hk];exact h.fr);have lx:∀{W:World},Upd R w W->Bytes W x b:=λu=>SlX.Yd hx (hxb.imp id λhh q hq=>(hh q hq).2) u λq hq=>hq;cases hs:D.seen n with
 |some i=>(have hnum:numOf D n=(i:Int)+1:=by unfold numOf;rw [hs]);rw [hs] at hK;dsimp only at hK;rw [hnum];obtain ⟨g,hg,hfl⟩:=Jz ok hs;have hi:=(lY.1 hg).1;have hgf:=ok.fil i g hg;obtain ⟨sd,hsd⟩:∃sd,ds[i]?=some sd:=⟨_,oP (by rw [h.flen];exact hi)⟩;refine Ai (λy W=>y=((i:Int)+1,())/\w6=W) (Ac (λhh=>by simp at hh;omega) λ_=>⟨rfl,rfl⟩) ?_;rintro _ _ ⟨rfl,rfl⟩;refine Av4 h6 hsd hg ⟨hgf.2.2.1,by omega⟩ (by omega) (lx uR6) hbl λw7 R7 h7 u7 hR7=>?_;have hput:Ju D.files i (λf=>⟨b,b.length,f.count+1⟩)=D.files.set i ⟨b,b.length,g.count+1⟩:=Ig hg _;rw [hput] at hK;have z6:=uR6.size;exact hK w7 R7 h7 (uR6.new u7 λk hk hh=>(hR6 k hh).resolve_right (by omega)) λk hk=>(hR7 k hk).elim (hR6 k) λhh=>.inr (by omega)
 | none =>
  (have hnum:numOf D n=0:=by unfold numOf;rw [hs]);rw [hs] at hK;dsimp only at hK;rw [hnum];have z6:=uR6.size;refine Ai (λy W=>∃R' sf' s7,y=((D.files.length:Int)+1,())/\RAt W r R' { D with lasts:=Eo D.seen n (some D.files.length),acts:=[],files:=D.files++[⟨[],0,0⟩] } sf' s7 ⟨none,0,0⟩ sq (ds++[⟨none,0,0⟩]) (wiE l n D.files.length) qr ql/\Upd R w W/\(∀k,R' k->R k\/w.heap.size<=k)) ?_ ?_;{(refine Ac (λ_=>I8 h6 (by show D.files.length<=_;omega) λw7 sf7 h7 u7 hR7=>Ad ?_) λhh=>by simp at hh);rw [addr_add];have uR7:Upd R w w7:=uR6.new u7 λk hk hh=>(hR6 k hh).resolve_right (by omega);have z7:=uR7.size;(have hl16:l.length<=16:=by rw [←hlen];exact ok.seen.names.2);refine Af h7.box (off:=0+2) (x:=s2) rfl (Ai6 (l:=l) (n:=n) (i:=D.files.length) h7.las (by omega) λs8 w8 o8 e8=>Ad ?_);have h8:=h7.ext e8;rw [addr_add];refine h8.last (o8.mono (qI _)) (hE.wi n D.files.length) λw9 h9 u9=>⟨_,sf7,s8,rfl,h9,(uR7.trans (Upd.Ae e8)).trans (u9.mono λk _ hk=>by rw [hk];exact h.fr),λk hk=>?_⟩;rcases hk with (hk|hk)|hk;{exact hR6 k hk};{rcases hR7 k hk with hh|hh;{exact hR6 k hh};{exact .inr (by omega)}};{have:=o8.Dh hk;exact .inr (by omega)}};rintro _ w9 ⟨R9,sf9,s9,rfl,h9,u9,hR9⟩;have hfl:=h.flen;have hg9:(D.files++[(⟨[],0,0⟩:Fl)])[D.files.length]?=some ⟨[],0,0⟩:=(by simp);(have hs9:(ds++[(⟨none,0,0⟩:Sl)])[D.files.length]?=some ⟨none,0,0⟩:=by rw [←hfl];simp);refine Av4 h9 hs9 hg9 ⟨by decide,by decide⟩ (by omega) (lx u9) hbl λw10 R10 h10 u10 hR10=>?_;have hset:(D.files++[(⟨[],0,0⟩:Fl)]).set D.files.length ⟨b,b.length,0+1⟩=D.files++[⟨b,b.length,1⟩]:=by
   rw [wZ _ _ (mJ _)];simp
  dsimp only at h10;rw [hset] at h10;have z9:=u9.size;exact hK w10 R10 h10 (u9.new u10 λk hk hh=>(hR9 k hh).resolve_right (by omega)) λk hk=>(hR10 k hk).elim (hR9 k) λhh=>.inr (by omega)
end
end Dq
end
section
namespace Dq
open Go Go.Vx Dsk Cdc Trx
inductive Opr where
 |make (n:Nm)
 |append (n:Nm) (b:List UInt8)
 |sync (n:Nm)
 |syncdir
 |rename (a b:Nm)
 |remove (n:Nm)
 |read (n:Nm)
 |stamp (n:Nm)
abbrev By0:Nm:=⟨#[109,97,107,101]⟩
abbrev Rh:Nm:=⟨#[97,112,112,101,110,100]⟩
abbrev Co7:Nm:=⟨#[115,121,110,99]⟩
abbrev Ad4:Nm:=⟨#[115,121,110,99,100,105,114]⟩
abbrev Wh:Nm:=⟨#[114,101,110,97,109,101]⟩
abbrev Ap0:Nm:=⟨#[114,101,109,111,118,101]⟩
abbrev Bx9:Nm:=⟨#[114,101,97,100]⟩
abbrev Bx8:Nm:=⟨#[115,116,97,109,112]⟩
def Opr.op:Opr->Nm
 |.make _=>By0 | .append _ _=>Rh | .sync _=>Co7 | .syncdir=>Ad4 | .rename _ _=>Wh | .remove _=>Ap0 | .read _=>Bx9 | .stamp _=>Bx8
def Opr.nm:Opr->Nm
 |.make n=>n | .append n _=>n | .sync n=>n | .syncdir=>nmE | .rename a _=>a | .remove n=>n | .read n=>n | .stamp n=>n
def Opr.to:Opr->Nm
 |.rename _ b=>b|_=>nmE
def Opr.bs:Opr->List UInt8
 |.append _ b=>b|_=>[]
structure Ans where
 n:Int
 data:List UInt8
 st:Stm
 err:Int
abbrev Gv (e:Int):Ans:=⟨0,[],(0,0,0),e⟩
def Dz:Opr->Dk->Dk×Ans
 |.make n,D=>((mkR n D).1,Gv (mkR n D).2)
 |.append n b,D=>((apR n b D).1,⟨(apR n b D).2.2,[],(0,0,0),(apR n b D).2.1⟩)
 |.sync n,D=>((syR n D).1,Gv (syR n D).2)
 |.syncdir,D=>(Dsk.settle D,Gv 0)
 |.rename a b,D=>((mvR a b D).1,Gv (mvR a b D).2)
 |.remove n,D=>((rmR n D).1,Gv (rmR n D).2)
 |.read n,D=>((rdR n D).1,⟨0,(rdR n D).2.2,(0,0,0),(rdR n D).2.1⟩)
 |.stamp n,D=>((stR n D).1,⟨0,[],(stR n D).2.2,(stR n D).2.1⟩)
def Z8 (w:World) (r:Nat) (R:Nat->Prop) (D:Dk) (sq:Sl) (qr:List (Cells.T Dt)) (ql:List (Int×Ce)):Prop:=∃sf sl sa ds es,RAt w r R D sf sl sa sq ds es qr ql
section
variable {w w':World}{S R:Nat->Prop}{r:Nat}{D:Dk}{sf sl sa sq:Sl}{ds:List Sl}{es:List Ent}{qr:List (Cells.T Dt)}{ql:List (Int×Ce)}
def RAt.inq (h:RAt w r R D sf sl sa sq ds es qr ql):Z8 w r R D sq qr ql:=⟨sf,sl,sa,ds,es,h⟩
def Z8.in (h:Z8 w r R D sq qr ql):RIn w r R D:=by obtain ⟨sf,sl,sa,ds,es,A⟩:=h;exact A.in
def Z8.frame (h:Z8 w r R D sq qr ql) (u:Upd S w w') (hS:∀k,R k->¬S k):Z8 w' r R D sq qr ql:=by obtain ⟨sf,sl,sa,ds,es,A⟩:=h;exact (A.upd u hS).inq
end
section
variable {w w':World}{S R R':Nat->Prop}{T:TypeId->Prop}{r:Nat}{D D':Dk}{N:Nat}{B:Nat}{sf sl sa sq:Sl}{ds:List Sl}{es:List Ent}{qr:List (Cells.T Dt)}{ql:List (Int×Ce)}{n:Nm}{s:Sl}{t:TypeId}{sz:Nat}{vs:List Value}{f:Dir}{l:List Ent}{o:Opr}
def Qs (h:Bl n=false):Dsk.find D n=(none,164):=by unfold Dsk.find;rw [iK h]
def Bz9 (ho:o≠.syncdir) (h:Bl o.nm=false):Dz o D=(D,Gv 164):=by
 cases o with
 |syncdir=>exact absurd rfl ho
 |make n=>have h:Bl n=false:=h;show ((mkR n D).1,Gv (mkR n D).2)=_;unfold mkR;rw [Qs h];rfl
 |append n b=>have h:Bl n=false:=h;show ((apR n b D).1,(⟨(apR n b D).2.2,[],(0,0,0),(apR n b D).2.1⟩:Ans))=_;unfold apR;rw [Qs h]<;>rfl
 |sync n=>have h:Bl n=false:=h;show ((syR n D).1,Gv (syR n D).2)=_;unfold syR;rw [Qs h]<;>rfl
 |rename a b=>have h:Bl a=false:=h;show ((mvR a b D).1,Gv (mvR a b D).2)=_;unfold mvR;rw [Qs h];by_cases h2:Bl b=false;{rw [iK h2]};{rw [iP h2]<;>rfl}
 |remove n=>have h:Bl n=false:=h;show ((rmR n D).1,Gv (rmR n D).2)=_;unfold rmR;rw [Qs h]<;>rfl
 |read n=>have h:Bl n=false:=h;show ((rdR n D).1,(⟨0,(rdR n D).2.2,(0,0,0),(rdR n D).2.1⟩:Ans))=_;unfold rdR;rw [Qs h]<;>rfl
 |stamp n=>have h:Bl n=false:=h;show ((stR n D).1,(⟨0,[],(stR n D).2.2,(stR n D).2.1⟩:Ans))=_;unfold stR;rw [Qs h]<;>rfl
def Bz8 {a b:Nm}(h:Bl b=false):Dz (.rename a b) D=(D,Gv 164):=by show ((mvR a b D).1,Gv (mvR a b D).2)=_;unfold mvR;rw [iK h]
def Va {a b:ByteArray}{X Y:World->Prop}(h:a=b) (k:X w):sif (ByteArray.toList a==ByteArray.toList b) X Y w:=by rw [bytes_eq];exact Ac (λ_=>k) λhh=>absurd h (sK hh)
def Ji {a b:ByteArray}{X Y:World->Prop}(h:a≠b) (k:Y w):sif (ByteArray.toList a==ByteArray.toList b) X Y w:=by rw [bytes_eq];exact Ac (λhh=>absurd (jY hh) h) λ_=>k
def Bn1 {b2:Nat}{c:Array Value}(hb:w.heap[b2]?=some (.cells c 247 (0,0))) (hc:c.size=7){n:Int}{s:Sl}{s1 s2 s3 e k:Int}{K:Cells.T Bq->Wp}(hK:∀W',Upd (λq=>q=b2) w W'->K (n,s,s1,s2,s3,e,k,()) W') :
  Ah (at0 b2) (.agg #[vI n,.slice s.a s.len s.cap,vI s1,vI s2,vI s3,vI e,vI k]) 7 (lds Bq (at0 b2) K) w:=by refine Ba hb rfl rfl (by omega) λw6 u6 n6 z6=>?_;rw [Cc _ _ (by rw [hc];rfl)] at n6;have n6:w6.heap[b2]?=some (.cells (Cells.vals Bq ((n,s,s1,s2,s3,e,k,()):Cells.T Bq)).toArray 247 (0,0)):=n6;exact Dp (x:=((n,s,s1,s2,s3,e,k,()):Cells.T Bq)) n6 (λi v hv=>by rw [kY,←kQ];exact hv) (hK w6 u6)
def RAt.push (h:RAt w r R D sf sl sa sq ds es qr ql) (hN:D.acts.length<=2^40){b:Nat}{a:Iq}(hb:w.heap[b]?=some (.cells (Cells.vals Z7 (rowA a)).toArray 317 (0,0))){K:World->Prop}
  (hK:∀w' sa',RAt w' r (λk=>R k\/sa'.blk k) { D with acts:=D.acts++[a] } sf sl sa' sq ds es qr ql->Upd R w w'->(∀k,sa'.blk k->R k\/w.heap.size<=k)->K w') :
  Dy prog (.one (.one .sl)) (Builtin.append_ #[237,237] 237 #[.slice sa.a sa.len sa.cap,.slice (some (at0 b)) 1 1]) (λx27=>nn (some (at0 r)) λp28=>stC (p28.add 3) (.slice x27.a x27.len x27.cap) K) w:=by
 have hal:=Ah1 h;have hbox:SlX w ⟨some (at0 b),1,1⟩ 3 (Cells.vals Z7 (rowA a)):=(Dx.Jk (n:=1) (sz:=3) hb rfl).x;refine Ed EZa uZa (s:=sa) (x:=⟨some (at0 b),1,1⟩) h.act hbox (λv hv=>by
  cases a<;>(simp [Cells.vals,Cell.val,rowA] at hv;rcases hv with rfl|rfl|rfl<;>rfl)) (by show (sa.len+1+(sa.len+1)/4+512)*40<=_;omega) (qI _) λs1 w1 o1 hl1 u1 hb1=>Ad ?_
 have hT1:Gp w sa.blk (λt=>t=317):=Gp.blk h.act rfl;have box1:=u1.get h.box λhh=>by
  obtain ⟨c',fr,hc'⟩:=h.act.in.Bf hh
  rw [h.box] at hc';cases hc'
 rw [addr_add];refine Dj box1 (by show 0+3<7;decide) λw2 u2 n2 z2=>?_;have hT2:Gp w1 (λk=>k=r) (λt=>t=239):=Gp.one box1 rfl;(have o1:Am w1 0 s1 317 3 (flat Z7 ((D.acts++[a]).map rowA)):=by rw [oQ,Ls];simpa [flat] using o1);have off2:∀{B:Nat} {s:Sl} {t:TypeId} {sz:Nat} {vs:List Value},Am w B s t sz vs->t≠317->t≠239->Am w2 B s t sz vs:=λhs h1 h2=>(hs.off u1 hT1 h1).off u2 hT2 h2;have sge:∀k,s1.blk k->R k\/w.heap.size<=k:=λk hk=>(hb1 k hk).imp (h.fa k) id;refine hK w2 s1 ⟨n2,off2 h.fil (by decide) (by decide),h.flen,λj t q hj hq=>off2 (h.dat j t q hj hq) (by decide) (by decide),h.ne,off2 h.las (by decide) (by decide),h.ent,o1.off u2 hT2 (by decide),off2 h.flt (by decide) (by decide),h.qlen,λj y q hj hq=>?_,h.qlook,h.qbig,.inl h.fr,λk hk=>.inl (h.ff k hk),λt ht k hk=>.inl (h.fd t ht k hk),λk hk=>.inl (h.fl_ k hk),λk hk=>.inr hk,λk hk=>.inl (h.fq k hk),λy hy k hk=>.inl (h.fb y hy k hk),λk hk=>?_⟩ ((u1.mono λk _ hk=>h.fa k hk).trans (u2.mono λk _ hk=>by rw [hk];exact h.fr)) sge;{obtain ⟨a,b,c,d,e,g'⟩:=h.qat j y q hj hq;exact ⟨a,b,c,d,off2 e (by decide) (by decide),g'⟩};{have z1:=u1.size;rcases hk with hk|hk;{have:=h.lt k hk;omega};{have:=o1.in.Ci hk;omega}}
def Bz7 (h:RAt w r R D sf sl sa sq ds es qr ql) (ok:Bj D N) (hN:N<=2^40) (o:Opr) (hn:o.nm.size<2^62) (ht:o.to.size<2^62){x:Sl}(hx:Bytes w x o.bs) (hxb:Lie (λk=>k<w.heap.size/\¬R k) x) (hbl:o.bs.length<=2^30){K:Cells.T Bq->Wp}
  (hK:∀w' R' s,Z8 w' r R' (Dz o D).1 sq qr ql->Upd R w w'->(∀k,R' k->R k\/w.heap.size<=k)->Dl w' w.heap.size s (Dz o D).2.data->(∀k,s.blk k->¬R' k)->K ((Dz o D).2.n,s,(Dz o D).2.st.1,(Dz o D).2.st.2.1,(Dz o D).2.st.2.2,(Dz o D).2.err,0,()) w') :
  Aa prog 195 #[dU r,.agg #[.string o.op,.string o.nm,.string o.to,x.v]] (.one (.agg Bq)) K w:=by
 refine De6 (a1:=(o.op,o.nm,o.to,x,())) ?_;unfold F195;have hnn:=ok.num;refine Ag λb1 w1 e1 n1 hb1 hz1=>Ag λb2 w2 e2 n2 hb2 hz2=>?_;have m1:=e2.ext_get n1;have e02:=e1.trans e2;have h2:=h.ext e02;(have nb1:¬R b1:=λhh=>by have:=h.lt _ hh;omega);(have nb2:¬R b2:=λhh=>by have:=h.lt _ hh;omega);have l1:=lt_of_heap m1;have l2:=lt_of_heap n2;have fin:∀{W:World} {R1:Nat->Prop} {nn e:Int} {s:Sl} {st:Stm},Z8 W r R1 (Dz o D).1 sq qr ql->Upd R w2 W->(∀k,R1 k->R k\/w2.heap.size<=k)->Dl W w2.heap.size s (Dz o D).2.data->(∀k,s.blk k->¬R1 k)->(Dz o D).2.n=nn->(Dz o D).2.err=e->(Dz o D).2.st=st ->
   Ah (at0 b2) (.agg #[vI nn,.slice s.a s.len s.cap,vI st.1,vI st.2.1,vI st.2.2,vI e,vI 0]) 7 (lds Bq (at0 b2) λx7=>K x7) W:=λ{W R1 nn e s st} hA u hR o1 hs h1 h2' h3=>by
  have g2:=u.get n2 nb2
  have nR1:¬R1 b2:=λhh=>(hR _ hh).elim nb2 λhl=>by omega
  refine Bn1 g2 rfl λW' u'=>?_
  have hk:=hK W' R1 s (hA.frame u' λk hk hh=>nR1 (hh▸hk)) (((Upd.Ae e02).trans u).new u' λk hk hh=>by omega) (λk hk=>(hR k hk).imp id λhh=>by omega) ((o1.mono (by have:=e02.size;omega)).upd u' λk _ hk hh=>by
   obtain ⟨c,fr,hc⟩:=o1.in.Bf hk
   rw [hh,g2] at hc;cases hc) hs
  rw [h1,h2',h3] at hk
  exact hk
 have fin0:∀{W:World} {R1:Nat->Prop} {e:Int},Z8 W r R1 (Dz o D).1 sq qr ql->Upd R w2 W->(∀k,R1 k->R k\/w2.heap.size<=k)->(Dz o D).2=Gv e ->
   Ah (at0 b2) (.agg #[vI 0,.slice none 0 0,vI 0,vI 0,vI 0,vI e,vI 0]) 7 (lds Bq (at0 b2) λx7=>K x7) W:=λ{W R1 e} hA u hR he =>
  fin (s:=⟨none,0,0⟩) (st:=(0,0,0)) hA u hR (by rw [he];exact Am.nil _ _ _ _) (λk hk=>Du hk) (by rw [he]) (by rw [he]) (by rw [he])
 refine Af m1 (off:=0) (x:=o.op) rfl ?_;by_cases hsd:o=.syncdir;{subst hsd;refine Va rfl (Qb h2 ok hN λs3 l w3 o3 hE e3 hb3=>Ad ?_);have h3:=h2.ext e3;rw [addr_add];refine h3.last o3 hE λw4 h4 u4=>Ad ?_;rw [addr_add];refine h4.Cb1 λw5 h5 u5=>?_;exact fin0 h5.inq (((Upd.Ae e3).trans (u4.mono λk _ hk=>by rw [hk];exact h.fr)).trans (u5.mono λk _ hk=>by rw [hk];exact h.fr)) (λk hk=>hk.elim .inl λhh=>(hb3 k hh).imp id λhl=>by omega) rfl};have hop:o.op≠Ad4:=by
  cases o<;>first|exact absurd rfl hsd|(dsimp only [Opr.op];decide)
 refine Ji hop ?_;obtain ⟨good,hgd⟩:∃good:Bool,good=(Bl o.nm&&(decide (o.op≠Wh)||Bl o.to)):=⟨_,rfl⟩;refine Ai (λy W=>y=(good,())/\w2=W) ?_ ?_;{refine Af m1 (off:=1) (x:=o.nm) rfl (Tv hn (Ac (λhk=>Af m1 (off:=0) (x:=o.op) rfl ?_) λhk=>⟨?_,rfl⟩));{rw [bytes_eq];refine Ac (λhr=>⟨?_,rfl⟩) λhr=>Af m1 (off:=2) (x:=o.to) rfl (Tv ht ⟨?_,rfl⟩);{have hr:o.op≠Wh:=(by simpa using hr);rw [hgd,hk,uX hr];rfl};{have hr:o.op=Wh:=(by simpa using hr);rw [hgd,hk,qO (λhh=>hh hr)];simp}};{rw [hgd,hk];rfl}};rintro _ _ ⟨rfl,rfl⟩;refine Ac (λhb=>?_) λhb=>?_
 ·have hb:good=false:=(by simpa using hb);have hbad:Dz o D=(D,Gv 164):=by
   rw [hgd] at hb
   by_cases h1:Bl o.nm=true
   ·rw [h1,Bool.true_and,lK] at hb
    have h3:o.op=Wh:=qU λhh=>absurd hb.1 (by rw [uX hh];simp)
    cases o<;>first|exact Bz8 hb.2|exact absurd h3 (by dsimp only [Opr.op];decide)
   ·exact Bz9 hsd (by simpa using h1)
  exact fin0 (R1:=R) (by rw [hbad];exact h2.inq) (Upd.refl _ _) (λk hk=>.inl hk) (by rw [hbad])
 have hb:good=true:=(by simpa using hb);rw [hgd,jA] at hb;obtain ⟨hon,hot⟩:=hb;refine Af m1 (off:=1) (x:=o.nm) rfl (Ab1 h2 ok hN λw3 e3=>?_);have h3:=h2.ext e3;have m13:=e3.ext_get m1;have n23:=e3.ext_get n2;have z3:=e3.size;(have ew:∀i:Nat,i<=N->W64 (((i:Int)+1)-1)=(i:Int):=λi hi=>by rw [iE (by omega)];omega);refine Af m13 (off:=0) (x:=o.op) rfl ?_;have there:∀{i:Nat},D.seen o.nm=some i->∃g sd,D.files[i]?=some g/\fl D i=g/\ds[i]?=some sd/\i<=N/\Dsk.find D o.nm=(some i,0):=λ{i} hs=>by
  obtain ⟨g,hg,hfl⟩:=Jz ok hs
  have hi:=(lY.1 hg).1
  exact ⟨g,_,hg,hfl,oP (by rw [h.flen];exact hi),by omega,Ay3 hon hs⟩
 by_cases hmk:∃n,o=.make n
 ·obtain ⟨n,rfl⟩:=hmk;refine Va rfl ?_;have hon:Bl n=true:=hon;show sif (decide (numOf D n>0)) _ _ w3;cases hs:D.seen n with
  |some i=>(have hnum:numOf D n=(i:Int)+1:=by unfold numOf;rw [hs]);rw [hnum];(have he:Dz (.make n) D=(D,Gv 163):=by show ((mkR n D).1,Gv (mkR n D).2)=_;unfold mkR;rw [Ay3 hon hs];rfl);exact Ac (λ_=>fin0 (R1:=R) (by rw [he];exact h3.inq) (Upd.Ae e3) (λk hk=>.inl hk) (by rw [he])) λhh=>by have:=sK hh;omega
  |none=>(have hnum:numOf D n=0:=by unfold numOf;rw [hs]);rw [hnum];refine Ac (λhh=>by have:=jY hh;omega) λ_=>Qb h3 ok hN λs4 l w4 o4 hE e4 hb4=>?_;have h4:=h3.ext e4;have e24:=e3.trans e4;have hll:=o4.len;have hle:=hE.len;refine Ac (λhge=>?_) λhlt=>?_;{(have hge:16<=(Dsk.names D.seen).length:=by have:=jY hge;omega);(have he:Dz (.make n) D=(D,Gv 161):=by show ((mkR n D).1,Gv (mkR n D).2)=_;unfold mkR;rw [Aq6 hon hs];dsimp only;rw [iP (by decide),iP (by decide),iK hge]);exact fin0 (R1:=R) (by rw [he];exact h4.inq) (Upd.Ae e24) (λk hk=>.inl hk) (by rw [he])};{(have hlt:¬16<=(Dsk.names D.seen).length:=by have:=sK hlt;omega);(have he:Dz (.make n) D=({ D with files:=D.files++[⟨[],0,0⟩],acts:=D.acts++[.mk n D.files.length] },Gv 0):=by show ((mkR n D).1,Gv (mkR n D).2)=_;unfold mkR;rw [Aq6 hon hs];dsimp only;rw [iP (by decide),iP (by decide),iP hlt]);refine I8 h4 (by omega) λw5 sf5 h5 u5 hR5=>Az λw6 e6 _=>Ad ?_;have u25:Upd R w2 w5:=(Upd.Ae e24).trans u5;have h6:=h5.ext e6;have z5:=u25.size;have z24:=e24.size;have m16:=e6.ext_get (u25.get m1 nb1);rw [addr_add];refine Af h6.box (off:=0+3) (x:=sa) rfl (Af m16 (off:=1) (x:=n) rfl (Ag λb26 w7 e7 n7 hb7 hz7=>Bc (cell_of (off:=0+3) (e7.ext_get h6.box) rfl) ?_));have h7:=h6.ext e7;have e57:=e6.trans e7;have z57:=e57.size;have hac:=ok.acts;have ecast:((D.files.length+1:Nat):Int)=(D.files.length:Int)+1:=(by omega);rw [ecast] at n7;refine h7.push (a:=.mk n D.files.length) (by dsimp only;omega) n7 λw8 sa8 h8 u8 hR8=>?_;have hR5':∀k,(R k\/sf5.blk k)->R k\/w2.heap.size<=k:=λk hk=>hk.elim .inl λhh=>(hR5 k hh).imp id λhl=>(by omega);refine fin0 (by rw [he];exact h8.inq) ((u25.trans (Upd.Ae e57)).new u8 λk hk hh=>(hR5' k hh).resolve_right (by omega)) (λk hk=>?_) (by rw [he]);rcases hk with hk|hk;{exact hR5' k hk};{rcases hR8 k hk with hh|hh;{exact hR5' k hh};{exact .inr (by omega)}}}
 (have hne1:o.op≠By0:=by cases o<;>first|exact absurd ⟨_,rfl⟩ hmk|exact absurd rfl hsd|(dsimp only [Opr.op];decide));refine Ji hne1 ?_;cases hs:D.seen o.nm with
 | none =>
  (have hnum:numOf D o.nm=0:=by unfold numOf;rw [hs]);rw [hnum];have he:Dz o D=(D,Gv 162):=by
   have hf:=Aq6 hon hs
   cases o with
   |syncdir=>exact absurd rfl hsd
   |make n=>exact absurd ⟨_,rfl⟩ hmk
   |append n b=>have hf:Dsk.find D n=(none,162):=hf;show ((apR n b D).1,(⟨(apR n b D).2.2,[],(0,0,0),(apR n b D).2.1⟩:Ans))=_;unfold apR;rw [hf]<;>rfl
   |sync n=>have hf:Dsk.find D n=(none,162):=hf;show ((syR n D).1,Gv (syR n D).2)=_;unfold syR;rw [hf]<;>rfl
   |rename a b=>have hf:Dsk.find D a=(none,162):=hf;have hot:Bl b=true:=(by simpa [Opr.op,Opr.to] using hot);show ((mvR a b D).1,Gv (mvR a b D).2)=_;unfold mvR;rw [iP (by rw [hot];simp),hf]<;>rfl
   |remove n=>have hf:Dsk.find D n=(none,162):=hf;show ((rmR n D).1,Gv (rmR n D).2)=_;unfold rmR;rw [hf]<;>rfl
   |read n=>have hf:Dsk.find D n=(none,162):=hf;show ((rdR n D).1,(⟨0,(rdR n D).2.2,(0,0,0),(rdR n D).2.1⟩:Ans))=_;unfold rdR;rw [hf]<;>rfl
   |stamp n=>have hf:Dsk.find D n=(none,162):=hf;show ((stR n D).1,(⟨0,[],(stR n D).2.2,(stR n D).2.1⟩:Ans))=_;unfold stR;rw [hf]<;>rfl
  exact Ac (λ_=>fin0 (R1:=R) (by rw [he];exact h3.inq) (Upd.Ae e3) (λk hk=>.inl hk) (by rw [he])) λhh=>by simp at hh
 | some i =>
  (have hnum:numOf D o.nm=(i:Int)+1:=by unfold numOf;rw [hs]);rw [hnum];obtain ⟨g,sd,hg,hfl,hsd2,hiN,hf⟩:=there hs;have hrow:=Ir hsd2 hg;(have hrow':(Ov ds D.files)[Int.toNat (i:Int)]?=some (Qy sd g):=by rw [kH];exact hrow);have hgf:=ok.fil i g hg;have lx:∀{W:World},Upd R w W->Bytes W x o.bs:=λu=>SlX.Yd hx (hxb.imp id λhh q hq=>(hh q hq).2) u λq hq=>hq;refine Ac (λhh=>by simp at hh;omega) λ_=>?_;rw [ew i hiN];have u03:Upd R w w3:=(Upd.Ae e02).trans (Upd.Ae e3);refine Ai (λ_ W=>∃R1,Z8 W r R1 (Dz o D).1 sq qr ql/\Upd R w2 W/\(∀k,R1 k->R k\/w2.heap.size<=k)/\(Dz o D).2=Gv 0) ?_ (λ_ W ⟨R1,a1,a2,a3,a4⟩=>fin0 a1 a2 a3 a4);refine Af m13 (off:=0) (x:=o.op) rfl ?_;cases o with
  |syncdir=>exact absurd rfl hsd
  |make n=>exact absurd ⟨_,rfl⟩ hmk
  | append n b =>
   refine Va rfl (Af m13 (off:=3) (x:=x) rfl ?_);have hf:Dsk.find D n=(some i,0):=hf;refine Bn7 h3 ok hN hsd2 hg (lx u03) (hxb.imp id λhh q hq=>⟨by have:=(hh q hq).1;have:=e02.size;omega,(hh q hq).2⟩) hbl λw4 R4 ds4 h4 u4 hR4=>?_;have he:Dz (.append n b) D=({ D with files:=Ju D.files i λf=>⟨f.data++b.take (if room D<(b.length:Int) then room D else b.length).toNat,f.synced,if (if room D<(b.length:Int) then room D else (b.length:Int))>0 then f.count+1 else f.count⟩ },⟨if room D<(b.length:Int) then room D else b.length,[],(0,0,0),if (if room D<(b.length:Int) then room D else (b.length:Int))<b.length then 161 else 0⟩):=by
    show ((apR n b D).1,(⟨(apR n b D).2.2,[],(0,0,0),(apR n b D).2.1⟩:Ans))=_;unfold apR;rw [hf]<;>rfl
   have u24:=(Upd.Ae e3).trans u4;refine fin (s:=⟨none,0,0⟩) (st:=(0,0,0)) (R1:=R4) (by rw [he];exact h4.inq) u24 (λk hk=>(hR4 k hk).imp id λhh=>by omega) (by rw [he];exact Am.nil _ _ _ _) (λk hk=>Du hk) (by rw [he];rfl) (by rw [he];rfl) (by rw [he])
  | sync n =>
   refine Ji (by dsimp only [Opr.op];decide) (Va rfl (Az λw4 e4 _=>Ad ?_));have hf:Dsk.find D n=(some i,0):=hf;have h4:=h3.ext e4;rw [addr_add];refine Af h4.box (off:=0+1) (x:=sf) rfl (Ad ?_);refine Af h4.box (off:=0+1) (x:=sf) rfl (Ky (c:=.sl) (cs:=Kv) (y:=sd) h4.fil.in (by omega) hrow' rfl λ_=>?_);have hdl:=Eh (h4.dat i sd g hsd2 hg).in.x;have e1:((sd.len:Nat):Int)=((g.data.length:Nat):Int):=(by omega);rw [e1];refine Aq3 (c:=.int .i64) (cs:=Kv) (j:=1) (y:=((g.data.length:Nat):Int)) (x:=Qy sd g) (x':=Qy sd ⟨g.data,g.data.length,g.count⟩) h4.fil (by omega) hrow' (by decide) rfl λw5 fil5 u5 z5=>?_;rw [kH,←Qe h4.flen] at fil5;have hT:Gp w4 sf.blk (λt=>t=298):=Gp.blk h4.fil rfl;have h5:=h4.Zm (s':=sd) (g':=⟨g.data,g.data.length,g.count⟩) hsd2 hg u5 (λq hq=>.inl hq) fil5 ((h4.dat i sd g hsd2 hg).off u5 hT (by decide)) λk hk=>.inl hk;have he:Dz (.sync n) D=({ D with files:=D.files.set i ⟨g.data,g.data.length,g.count⟩ },Gv 0):=by
    show ((syR n D).1,Gv (syR n D).2)=_;unfold syR;rw [hf];dsimp only;rw [Ig hg]
   exact ⟨λk=>R k\/sd.blk k,by rw [he];exact h5.inq,((Upd.Ae (e3.trans e4)).trans (u5.mono λk _ hk=>h.ff k hk)),λk hk=>.inl (hk.elim id λhh=>h.fd sd (lU hsd2) k hh),by rw [he]⟩
  | rename a b =>
   refine Ji (by dsimp only [Opr.op];decide) (Ji (by dsimp only [Opr.op];decide) (Va rfl (Af m13 (off:=2) (x:=b) rfl (Af m13 (off:=1) (x:=a) rfl ?_))));have hf:Dsk.find D a=(some i,0):=hf;have hot:Bl b=true:=(by simpa [Opr.op,Opr.to] using hot);rw [bytes_eq];refine Ac (λhne=>?_) λheq=>?_
   ·have hne:b≠a:=(by simpa using hne);have he:Dz (.rename a b) D=({ D with acts:=D.acts++[.mv a b i] },Gv 0):=by
     show ((mvR a b D).1,Gv (mvR a b D).2)=_;unfold mvR;rw [iP (by rw [hot];simp),hf];dsimp only;rw [iP (λhh=>hne hh.symm)]
    refine Az λw4 e4 _=>Ad ?_;have h4:=h3.ext e4;rw [addr_add];refine Af h4.box (off:=0+3) (x:=sa) rfl (Af (e4.ext_get m13) (off:=1) (x:=a) rfl (Af (e4.ext_get m13) (off:=2) (x:=b) rfl (Ag λb26 w7 e7 n7 hb7 hz7=>Bc (cell_of (off:=0+3) (e7.ext_get h4.box) rfl) ?_)));have h7:=h4.ext e7;have e37:=(e3.trans e4).trans e7;have hac:=ok.acts;refine h7.push (a:=.mv a b i) (by omega) n7 λw8 sa8 h8 u8 hR8=>⟨λk=>R k\/sa8.blk k,by rw [he];exact h8.inq,(Upd.Ae e37).trans u8,λk hk=>hk.elim .inl λhh=>(hR8 k hh).imp id λhl=>by have:=e37.size;omega,by rw [he]⟩
   ·have heq:b=a:=(by simpa using heq);have he:Dz (.rename a b) D=(D,Gv 0):=by
     show ((mvR a b D).1,Gv (mvR a b D).2)=_;unfold mvR;rw [iP (by rw [hot];simp),hf];dsimp only;rw [iK heq.symm]
    exact ⟨R,by rw [he];exact h3.inq,Upd.Ae e3,λk hk=>.inl hk,by rw [he]⟩
  |remove n=>refine Ji (by dsimp only [Opr.op];decide) (Ji (by dsimp only [Opr.op];decide) (Ji (by dsimp only [Opr.op];decide) (Va rfl (Az λw4 e4 _=>Ad ?_))));have hf:Dsk.find D n=(some i,0):=hf;(have he:Dz (.remove n) D=({ D with acts:=D.acts++[.rm n] },Gv 0):=by show ((rmR n D).1,Gv (rmR n D).2)=_;unfold rmR;rw [hf]<;>rfl);have h4:=h3.ext e4;rw [addr_add];refine Af h4.box (off:=0+3) (x:=sa) rfl (Af (e4.ext_get m13) (off:=1) (x:=n) rfl (Ag λb26 w7 e7 n7 hb7 hz7=>Bc (cell_of (off:=0+3) (e7.ext_get h4.box) rfl) ?_));have h7:=h4.ext e7;have e37:=(e3.trans e4).trans e7;have hac:=ok.acts;refine h7.push (a:=.rm n) (by omega) n7 λw8 sa8 h8 u8 hR8=>⟨λk=>R k\/sa8.blk k,by rw [he];exact h8.inq,(Upd.Ae e37).trans u8,λk hk=>hk.elim .inl λhh=>(hR8 k hh).imp id λhl=>by have:=e37.size;omega,by rw [he]⟩
  |read n=>refine Ji (by dsimp only [Opr.op];decide) (Ji (by dsimp only [Opr.op];decide) (Ji (by dsimp only [Opr.op];decide) (Ji (by dsimp only [Opr.op];decide) (Va rfl (Ad ?_)))));have hf:Dsk.find D n=(some i,0):=hf;(have he:Dz (.read n) D=(D,⟨0,g.data,(0,0,0),0⟩):=by show ((rdR n D).1,(⟨0,(rdR n D).2.2,(0,0,0),(rdR n D).2.1⟩:Ans))=_;unfold rdR;rw [hf];dsimp only;rw [hfl]);rw [addr_add];refine Af h3.box (off:=0+1) (x:=sf) rfl (Ky (c:=.sl) (cs:=Kv) (y:=sd) h3.fil.in (by omega) hrow' rfl λ_=>Tz (h3.dat i sd g hsd2 hg).in.x (by omega) λs4 w4 o4 e4=>?_);exact fin (st:=(0,0,0)) (R1:=R) (by rw [he];exact (h3.ext e4).inq) (Upd.Ae (e3.trans e4)) (λk hk=>.inl hk) (by rw [he];exact o4.mono (by omega)) (λk hk hh=>by have:=o4.Dh hk;have:=h3.lt k hh;omega) (by rw [he]) (by rw [he]) (by rw [he])
  |stamp n=>refine Ji (by dsimp only [Opr.op];decide) (Ji (by dsimp only [Opr.op];decide) (Ji (by dsimp only [Opr.op];decide) (Ji (by dsimp only [Opr.op];decide) (Ji (by dsimp only [Opr.op];decide) (Va rfl (Ad ?_))))));have hf:Dsk.find D n=(some i,0):=hf;(have he:Dz (.stamp n) D=(D,⟨0,[],((i:Int)+1,(g.data.length:Int),g.count),0⟩):=by show ((stR n D).1,(⟨0,[],(stR n D).2.2,(stR n D).2.1⟩:Ans))=_;unfold stR;rw [hf];dsimp only;rw [hfl]);rw [addr_add];refine Af h3.box (off:=0+1) (x:=sf) rfl (Xv (cs:=Kv) h3.fil.in (by decide) (by omega) hrow' λ_=>Ag λb69 w4 e4 n4 hb4 hz4=>Ba n4 rfl rfl (by decide) λw5 u5 n5 z5=>?_);have n5:w5.heap[b69]?=some (.cells (Cells.vals Kv (Qy sd g)).toArray 298 (0,0)):=n5;have e35:Ext w3 w5:=e4.step u5 λk hk=>(by omega);refine Af n5 (off:=0) (x:=sd) rfl (Af n5 (off:=2) (x:=g.count) rfl ?_);have hdl:=Eh (h3.dat i sd g hsd2 hg).in.x;have e1:((sd.len:Nat):Int)=((g.data.length:Nat):Int):=(by omega);rw [e1];exact fin (s:=⟨none,0,0⟩) (st:=((i:Int)+1,(g.data.length:Int),g.count)) (R1:=R) (by rw [he];exact (h3.ext e35).inq) (Upd.Ae (e3.trans e35)) (λk hk=>.inl hk) (by rw [he];exact Am.nil _ _ _ _) (λk hk=>Du hk) (by rw [he]) (by rw [he]) (by rw [he])
end
end Dq
end
section
namespace Dq
open Go Go.Vx Dsk Cdc Trx
def Ae2:Opr->Int->Dk->Dk×Ans
 |.append n b,k,D=>((Dz (.append n (b.take (min (max k 0) b.length).toNat)) D).1,if (Dz (.append n (b.take (min (max k 0) b.length).toNat)) D).2.err=0\/(Dz (.append n (b.take (min (max k 0) b.length).toNat)) D).2.err=161 then { (Dz (.append n (b.take (min (max k 0) b.length).toNat)) D).2 with err:=160 } else (Dz (.append n (b.take (min (max k 0) b.length).toNat)) D).2)
 |_,_,D=>(D,Gv 160)
def Jd (o:Opr) (f:Ce) (D1:Dk):Dk×Ans :=
 if f.kind=1 then (D1,Gv 160) else
 if f.kind=2 then Ae2 o f.part D1 else
 if f.kind=4 then (crash D1 f.names f.bytes,Gv 165) else
 if f.kind=5 then (crash (Dz o D1).1 f.names f.bytes,Gv 165) else
 if f.kind=3 then ((Dz o D1).1,if (Dz o D1).2.err=0 then ⟨(Dz o D1).2.n,[],(0,0,0),160⟩ else (Dz o D1).2) else Dz o D1
def doP (o:Opr) (D:Dk):Dk×Ans :=
 if D.down=true then (D,Gv 165) else
 match D.plan (D.steps+1) with
 |none=>Dz o { D with steps:=D.steps+1 }
 |some f=>Jd o f { D with steps:=D.steps+1 }
section
variable {w w':World}{S R R':Nat->Prop}{T:TypeId->Prop}{r:Nat}{D D':Dk}{N:Nat}{B:Nat}{sf sl sa sq:Sl}{ds:List Sl}{es:List Ent}{qr:List (Cells.T Dt)}{ql:List (Int×Ce)}{n:Nm}{s:Sl}{t:TypeId}{sz:Nat}{vs:List Value}{f:Dir}{l:List Ent}{o:Opr}{b:List UInt8}
def Cd9 {act:Dk->Dk×Int}(ho:∀D,Dz o D=((act D).1,Gv (act D).2)) (hp:∀k D,Ae2 o k D=(D,Gv 160)):Dsk.step D () (u act) none=((doP o D).1,(doP o D).2.err,()):=by
 unfold Dsk.step doP;by_cases hd:D.down=true;{rw [iK hd,iK hd]};rw [iP hd,iP hd];cases D.plan (D.steps+1) with
 |none=>dsimp only;rw [ho];rfl
 |some f=>dsimp only;unfold Uk Jd;rw [hp,ho];(repeat' split);all_goals first|rfl|simp_all [u]
def Cn0:Bz D n=((doP (.make n) D).1,(doP (.make n) D).2.err,()):=Cd9 (λ_=>rfl) λ_ _=>rfl
def Cm9:Ef D n=((doP (.sync n) D).1,(doP (.sync n) D).2.err,()):=Cd9 (λ_=>rfl) λ_ _=>rfl
def Bh0:Bg D=((doP .syncdir D).1,(doP .syncdir D).2.err,()):=Cd9 (λ_=>rfl) λ_ _=>rfl
def Bt1 {a c:Nm}:Dc D a c=((doP (.rename a c) D).1,(doP (.rename a c) D).2.err,()):=Cd9 (λ_=>rfl) λ_ _=>rfl
def Am7:Au D n=((doP (.remove n) D).1,(doP (.remove n) D).2.err,()):=Cd9 (λ_=>rfl) λ_ _=>rfl
def Bm3:Aw D n=((doP (.read n) D).1,(doP (.read n) D).2.err,(doP (.read n) D).2.data):=by
 (have h0:∀D,(rdR n D).2.1≠0->(rdR n D).2.2=[]:=λD=>by unfold rdR;split<;>simp);have ho:∀D,Dz (.read n) D=((rdR n D).1,⟨0,(rdR n D).2.2,(0,0,0),(rdR n D).2.1⟩):=λ_=>rfl;have hp:∀k D,Ae2 (.read n) k D=(D,Gv 160):=λ_ _=>rfl;unfold Aw Dsk.step doP;by_cases hd:D.down=true;{rw [iK hd,iK hd];rfl};rw [iP hd,iP hd];cases D.plan (D.steps+1) with
 |none=>dsimp only;rw [ho];by_cases hh:(rdR n { D with steps:=D.steps+1 }).2.1=0;{rw [iK hh]};{rw [iP hh,h0 _ hh]}
 |some f=>dsimp only;unfold Uk Jd;rw [hp,ho];(repeat' split);all_goals first|rfl|simp_all
def Az3:Aj D n=((doP (.stamp n) D).1,(doP (.stamp n) D).2.err,(doP (.stamp n) D).2.st):=by
 (have h0:∀D,(stR n D).2.1≠0->(stR n D).2.2=(0,0,0):=λD=>by unfold stR;split<;>simp);have ho:∀D,Dz (.stamp n) D=((stR n D).1,⟨0,[],(stR n D).2.2,(stR n D).2.1⟩):=λ_=>rfl;have hp:∀k D,Ae2 (.stamp n) k D=(D,Gv 160):=λ_ _=>rfl;unfold Aj Dsk.step doP;by_cases hd:D.down=true;{rw [iK hd,iK hd];rfl};rw [iP hd,iP hd];cases D.plan (D.steps+1) with
 |none=>dsimp only;rw [ho];by_cases hh:(stR n { D with steps:=D.steps+1 }).2.1=0;{rw [iK hh]};{rw [iP hh,h0 _ hh]}
 |some f=>dsimp only;unfold Uk Jd;rw [hp,ho];(repeat' split);all_goals first|rfl|simp_all
def Bt2:(Bv D n b).1=(doP (.append n b) D).1/\(Bv D n b).2.1=(doP (.append n b) D).2.err:=by
 show (Dsk.step D 0 (apR n b) (some (Vs n b))).1=_/\(Dsk.step D 0 (apR n b) (some (Vs n b))).2.1=_;have ho:∀D c,Dz (.append n c) D=((apR n c D).1,⟨(apR n c D).2.2,[],(0,0,0),(apR n c D).2.1⟩):=λ_ _=>rfl;unfold Dsk.step doP;by_cases hd:D.down=true;{rw [iK hd,iK hd];exact ⟨rfl,rfl⟩};rw [iP hd,iP hd];cases D.plan (D.steps+1) with
 |none=>exact ⟨rfl,rfl⟩
 |some f=>dsimp only;unfold Uk Jd Ae2;simp only [ho];(repeat' split);all_goals first|exact ⟨rfl,rfl⟩|(refine ⟨rfl,?_⟩;dsimp only [Option.map_some,Option.getD_some,Vs];(repeat' split);all_goals first|rfl|omega|(rename_i h1 h2;exact absurd h2 h1)|simp_all)
def Cs7 (ok:Bj D N):Bj (Dz o D).1 (N+1):=by
 cases o with
 |make n=>exact Ca6 ok n
 |append n b=>exact Bl2 ok n b
 |sync n=>exact Ca2 ok n
 |syncdir=>exact (Wu ok).mono (tX _)
 |rename a b=>exact Ca5 ok a b
 |remove n=>exact Ca3 ok n
 |read n=>(have h:(Dz (.read n) D).1=D:=by show (rdR n D).1=D;unfold rdR;split<;>rfl);rw [h];exact ok.mono (tX _)
 |stamp n=>(have h:(Dz (.stamp n) D).1=D:=by show (stR n D).1=D;unfold stR;split<;>rfl);rw [h];exact ok.mono (tX _)
def Ce0 (h:D.down=true):doP o D=(D,Gv 165):=by unfold doP;rw [iK h]
def Yz (h:RAt w r R D sf sl sa sq ds es qr ql) (ok:Bj D N) (hN:N+2<=2^40) (o:Opr) (hn:o.nm.size<2^62) (ht:o.to.size<2^62){x:Sl}(hx:Bytes w x o.bs) (hxb:Lie (λk=>k<w.heap.size/\¬R k) x) (hbl:o.bs.length<=2^30){K:Cells.T Bq->Wp}
  (hK:∀w' R' s k,RIn w' r R' (doP o D).1->Upd R w w'->(∀k,R' k->R k\/w.heap.size<=k)->Dl w' w.heap.size s (doP o D).2.data->(∀k,s.blk k->¬R' k)->K ((doP o D).2.n,s,(doP o D).2.st.1,(doP o D).2.st.2.1,(doP o D).2.st.2.2,(doP o D).2.err,k,()) w') :
  Aa prog 150 #[dU r,.agg #[.string o.op,.string o.nm,.string o.to,x.v]] (.one (.agg Bq)) K w:=by
 refine Dh0 (a1:=(o.op,o.nm,o.to,x,())) ?_
 unfold F150
 have hst:=ok.steps
 refine Ag λb1 w1 e1 n1 hb1 hz1=>Ag λb2 w2 e2 n2 hb2 hz2=>Ad ?_
 have m1:=e2.ext_get n1
 have e02:=e1.trans e2
 have h2:=h.ext e02
 have l1:=lt_of_heap m1
 have l2:=lt_of_heap n2
 have nb2:¬R b2:=λhh=>by have:=h.lt _ hh;omega
 have nb1:¬R b1:=λhh=>by have:=h.lt _ hh;omega
 rw [addr_add]
 refine Af h2.box (off:=0+4) (x:=D.down) rfl (Ac (λhd=>?_) λhd=>?_)
 ·have he:=Ce0 (o:=o) hd
  refine Bn1 (s:=⟨none,0,0⟩) n2 rfl λW' u'=>?_
  have hk:=hK W' R ⟨none,0,0⟩ 0
  rw [he] at hk
  exact hk (h2.upd u' λk hk hh=>nb2 (hh▸hk)).in ((Upd.Ae e02).new u' λk hk hh=>by omega) (λk hk=>.inl hk) (Am.nil _ _ _ _) λk hk=>Du hk
 have hdo:doP o D=match D.plan (D.steps+1) with
   |none=>Dz o { D with steps:=D.steps+1 }
   |some f=>Jd o f { D with steps:=D.steps+1 }:=by unfold doP;rw [iP (by rw [hd];simp)]
 obtain ⟨D1,hD1⟩:∃D1,D1=({ D with steps:=D.steps+1 }:Dk):=⟨_,rfl⟩
 rw [←hD1] at hdo
 have ok1:Bj D1 (N+1):=by rw [hD1];exact Ak8 ok
 refine Ad ?_
 rw [addr_add]
 refine Af h2.box (off:=0+6) (x:=D.steps) rfl (Ad ?_)
 rw [addr_add]
 have ews:W64 (D.steps+1)=D.steps+1:=iE (by omega)
 rw [ews]
 refine Dj h2.box (by show 0+6<7;decide) λw3 u3 n3 z3=>Ad ?_
 have n3:w3.heap[r]?=some (.cells (Cg1 D1 sf sl sa sq) 239 (0,0)):=by rw [hD1];exact n3
 have h3:RAt w3 r R D1 sf sl sa sq ds es qr ql:=h2.set u3 n3 (by rw [hD1]) (by rw [hD1]) (by rw [hD1]) (by rw [hD1])
 have lr:=lt_of_heap h.box
 rw [addr_add]
 have hsteps:D1.steps=D.steps+1:=by rw [hD1]
 have hplan:D1.plan=D.plan:=by rw [hD1]
 refine Af n3 (off:=0+6) (x:=D1.steps) rfl ?_
 rw [hsteps]
 refine As6 h3 λw4 x4 e4 hx4=>Ag λb12 w5 e5 n5 hb5 hz5=>Ba n5 rfl rfl (by decide) λw6 u6 n6 z6=>Ag λb13 w7 e7 n7 hb7 hz7=>Ba n7 rfl rfl (by decide) λw8 u8 n8 z8=>?_
 have n6:w6.heap[b12]?=some (.cells (Cells.vals Dt x4).toArray 132 (0,0)):=n6
 have n8:w8.heap[b13]?=some (.cells (Cells.vals Bq ((0,⟨none,0,0⟩,0,0,0,0,0,()):Cells.T Bq)).toArray 247 (0,0)):=n8
 have e48:Ext w4 w8:=((e5.step u6 λk hk=>by omega).trans e7).step u8 λk hk=>by have:=e5.size;omega
 have e38:=e4.trans e48
 have h8:=h3.ext e38
 have z23:=u3.size
 have z4:=e4.size
 have z48:=e48.size
 have p1:w8.heap[b1]?=_:=e38.ext_get (u3.get m1 (by omega))
 have p2:w8.heap[b2]?=_:=e38.ext_get (u3.get n2 (by omega))
 have p12:w8.heap[b12]?=some (.cells (Cells.vals Dt x4).toArray 132 (0,0)):=u8.get (e7.ext_get n6) (by omega)
 have u38:Upd R w w8:=((Upd.Ae e02).trans (u3.mono λk _ hk=>by rw [hk];exact h.fr)).trans (Upd.Ae e38)
 have ge:∀{b:Nat},w2.heap.size<=b->¬R b:=λhb hh=>by have:=h.lt _ hh;have:=e02.size;omega
 have nb12:¬R b12:=ge (by omega)
 have nb13:¬R b13:=ge (by have:=e5.size;omega)
 rw [hplan] at hx4
 have lx:∀{W:World},Upd R w W->Bytes W x o.bs:=λu=>SlX.Yd hx (hxb.imp id λhh q hq=>(hh q hq).2) u λq hq=>hq
 have hxb8:Lie (λk=>k<w8.heap.size/\¬R k) x:=hxb.imp id λhh q hq=>⟨by have:=(hh q hq).1;have:=e02.size;omega,(hh q hq).2⟩
 have l12:=lt_of_heap p12
 have l13:=lt_of_heap n8
 have l1':=lt_of_heap p1
 have l2':=lt_of_heap p2
 have d12:b2≠b13:=by have:=e5.size;omega
 have d13:b12≠b13:=by have:=e5.size;omega
 refine Ai (λ_ W=>∃R1 s st,RIn W r R1 (doP o D).1/\Upd (λk=>R k\/k=b13) w8 W/\(∀k,R1 k->R k\/w8.heap.size<=k)/\Dl W w.heap.size s (doP o D).2.data/\(∀k,s.blk k->¬R1 k)/\st=(doP o D).2.st/\W.heap[b13]?=some (.cells (Cells.vals Bq (((doP o D).2.n,s,st.1,st.2.1,st.2.2,(doP o D).2.err,0,()):Cells.T Bq)).toArray 247 (0,0))) ?_ ?_
 ·have own:∀{W:World} {o':Opr} {x':Sl},o'.op=o.op->o'.nm=o.nm->o'.to=o.to->Ext w8 W->Bytes W x' o'.bs->Lie (λk=>k<W.heap.size/\¬R k) x'->o'.bs.length<=2^30->∀{J:Cells.T Bq->Wp},(∀W' R' s,Z8 W' r R' (Dz o' D1).1 sq qr ql->Upd R W W'->(∀k,R' k->R k\/W.heap.size<=k)->Dl W' W.heap.size s (Dz o' D1).2.data->(∀k,s.blk k->¬R' k)->J ((Dz o' D1).2.n,s,(Dz o' D1).2.st.1,(Dz o' D1).2.st.2.1,(Dz o' D1).2.st.2.2,(Dz o' D1).2.err,0,()) W') ->
    Aa prog 195 #[dU r,.agg #[.string o.op,.string o.nm,.string o.to,.slice x'.a x'.len x'.cap]] (.one (.agg Bq)) J W:=λ{W o' x'} h1 h2' h3' eW hx' hxb' hbl' {J} hJ=>by
   have hw:=Bz7 (h8.ext eW) ok1 (by omega) o' (by rw [h2'];exact hn) (by rw [h3'];exact ht) hx' hxb' hbl' (K:=J) hJ
   rw [h1,h2',h3'] at hw
   exact hw
  have own0:∀{J:Cells.T Bq->Wp},(∀W' R' s,Z8 W' r R' (Dz o D1).1 sq qr ql->Upd R w8 W'->(∀k,R' k->R k\/w8.heap.size<=k)->Dl W' w8.heap.size s (Dz o D1).2.data->(∀k,s.blk k->¬R' k)->J ((Dz o D1).2.n,s,(Dz o D1).2.st.1,(Dz o D1).2.st.2.1,(Dz o D1).2.st.2.2,(Dz o D1).2.err,0,()) W') ->
    lds Qu (at0 b1) (λx17=>Aa prog 195 #[dU r,.agg (Cells.vals Qu x17).toArray] (.one (.agg Bq)) J) w8:=λ{J} hJ =>
   Dp (x:=((o.op,o.nm,o.to,x,()):Cells.T Qu)) p1 (λi v hv=>by rw [kY,←kQ];exact hv) (own rfl rfl rfl (Ext.refl _) (lx u38) hxb8 hbl hJ)
  have sto:∀{W:World} {R1:Nat->Prop} {a:Ans} {s:Sl} {J:World->Prop},Upd (λk=>R k) w8 W->(∀W',Upd (λk=>k=b13) W W'->W'.heap[b13]?=some (.cells (Cells.vals Bq ((a.n,s,a.st.1,a.st.2.1,a.st.2.2,a.err,0,()):Cells.T Bq)).toArray 247 (0,0))->J W') ->
    Ah (at0 b13) (.agg (Cells.vals Bq ((a.n,s,a.st.1,a.st.2.1,a.st.2.2,a.err,0,()):Cells.T Bq)).toArray) 7 J W:=λ{W R1 a s J} u hJ=>by
   refine Ba (u.get n8 nb13) rfl rfl (by show 0+7<=7;decide) λW' u' n' z'=>hJ W' u' ?_
   rw [Cc _ _ (by rfl)] at n'
   exact n'
  have nR1:∀{R1:Nat->Prop},(∀k,R1 k->R k\/w8.heap.size<=k)->¬R1 b13:=λhR hh=>(hR _ hh).elim nb13 λhl=>by omega
  have sb13:∀{W:World} {s:Sl} {l:List UInt8} {B:Nat},Dl W B s l->Upd (λk=>R k) w8 W->∀k,s.blk k->k≠b13:=λhs u k hk hh=>by
   obtain ⟨c,fr,hc⟩:=hs.in.Bf hk
   rw [hh,u.get n8 nb13] at hc;cases hc
  have z8w:=u38.size
  refine Af p12 (off:=1) (x:=x4.2.1) rfl ?_
  rcases hx4 with ⟨hp,rfl⟩|⟨f,hp,f1,f2,f3,f4,f5,f6,f7,f8,qi,qg,hqi,hqg,hqf⟩
  ·rw [hp] at hdo
   dsimp only at hdo
   refine Ac (λ_=>own0 λW' R' s hA u hR o' hs'=>?_) λhh=>by simp at hh
   refine sto (R1:=R') (a:=(Dz o D1).2) (s:=s) u λW2 u2 n2'=>⟨R',s,(doP o D).2.st,by rw [hdo];exact hA.in.frame u2 λk hk hh=>nR1 hR (hh▸hk),(u.mono λk _ hk=>.inl hk).trans (u2.mono λk _ hk=>.inr hk),hR,by rw [hdo];exact (o'.mono z8w).upd u2 λk _ hk hh=>sb13 o' u k hk hh,hs',rfl,by rw [hdo];exact n2'⟩
  rw [hp] at hdo
  dsimp only at hdo
  have hk1:(x4.2.1:Int)=f.kind:=f1
  have lk:∀{K:Int->Wp},K f.kind w8->ld (.int .i64) (⟨b12,1,none⟩:Addr) K w8:=λhk=>by
   rw [←hk1] at hk
   exact Af p12 (off:=1) (x:=x4.2.1) rfl hk
  rw [hk1]
  refine Ac (λhh=>by have:f.kind=0:=(by simpa using hh);omega) λ_=>?_
  have err:∀{W:World} {R1:Nat->Prop} {e:Int},RIn W r R1 (doP o D).1->Upd R w8 W->(∀k,R1 k->R k\/w8.heap.size<=k)->(doP o D).2=Gv e->∀{J:Unit->Wp},(∀W',(∃R1 s st,RIn W' r R1 (doP o D).1/\Upd (λk=>R k\/k=b13) w8 W'/\(∀k,R1 k->R k\/w8.heap.size<=k)/\Dl W' w.heap.size s (doP o D).2.data/\(∀k,s.blk k->¬R1 k)/\st=(doP o D).2.st/\W'.heap[b13]?=some (.cells (Cells.vals Bq (((doP o D).2.n,s,st.1,st.2.1,st.2.2,(doP o D).2.err,0,()):Cells.T Bq)).toArray 247 (0,0)))->J () W') ->
    stC (⟨b13,5,none⟩:Addr) (vI e) (J ()) W:=λ{W R1 e} hA u hR he {J} hJ=>by
   refine Dj (u.get n8 nb13) (by show 5<7;decide) λW2 u2 n2' z2'=>hJ W2 ⟨R1,⟨none,0,0⟩,(0,0,0),hA.frame u2 λk hk hh=>nR1 hR (hh▸hk),(u.mono λk _ hk=>.inl hk).trans (u2.mono λk _ hk=>.inr hk),hR,by rw [he];exact Am.nil _ _ _ _,λk hk=>Du hk,by rw [he],by rw [he];exact n2'⟩
  obtain ⟨J,hJ⟩:∃J:Unit->World->Prop,J=λ_ W=>∃R1 s st,RIn W r R1 (doP o D).1/\Upd (λk=>R k\/k=b13) w8 W/\(∀k,R1 k->R k\/w8.heap.size<=k)/\Dl W w.heap.size s (doP o D).2.data/\(∀k,s.blk k->¬R1 k)/\st=(doP o D).2.st/\W.heap[b13]?=some (.cells (Cells.vals Bq (((doP o D).2.n,s,st.1,st.2.1,st.2.2,(doP o D).2.err,0,()):Cells.T Bq)).toArray 247 (0,0)):=⟨_,rfl⟩
  rw [←hJ]
  have hJ':∀W',(∃R1 s st,RIn W' r R1 (doP o D).1/\Upd (λk=>R k\/k=b13) w8 W'/\(∀k,R1 k->R k\/w8.heap.size<=k)/\Dl W' w.heap.size s (doP o D).2.data/\(∀k,s.blk k->¬R1 k)/\st=(doP o D).2.st/\W'.heap[b13]?=some (.cells (Cells.vals Bq (((doP o D).2.n,s,st.1,st.2.1,st.2.2,(doP o D).2.err,0,()):Cells.T Bq)).toArray 247 (0,0)))->J () W':=λW' hh=>by rw [hJ];exact hh
  clear hJ
  refine Ar (decide (f.kind=1\/(f.kind=2/\o.op≠Rh)),()) (lk (Ac (λh1=>⟨Di ?_,rfl⟩) λh1=>lk (Ac (λh2=>Af p1 (off:=0) (x:=o.op) rfl ⟨Di ?_,rfl⟩) λh2=>⟨Di ?_,rfl⟩))) (Ac (λhc=>?_) λhc=>?_)
  ·have h1:f.kind=1:=by simpa using h1
   simp [h1]
  ·have h1:f.kind≠1:=by simpa using h1
   have h2:f.kind=2:=by simpa using h2
   rw [bytes_eq]
   simp [h2]
  ·have h1:f.kind≠1:=by simpa using h1
   have h2:f.kind≠2:=by simpa using h2
   simp [h1,h2]
  ·have hc:=jY hc
   have he:Jd o f D1=(D1,Gv 160):=by
    unfold Jd
    rcases hc with hc|⟨hc,hop⟩
    ·rw [iK hc]
    ·rw [iP (by omega),iK hc]
     cases o<;>first|rfl|exact absurd rfl hop
   rw [he] at hdo
   exact err (R1:=R) (by rw [hdo];exact h8.in) (Upd.refl _ _) (λk hk=>.inl hk) (by rw [hdo]) hJ'
  have hc:=sK hc
  have hk1':f.kind≠1:=λhh=>hc (.inl hh)
  refine lk (Ac (λh2=>?_) λh2=>?_)
  ·
   have h2:f.kind=2:=by simpa using h2
   have hop:o.op=Rh:=qU λhh=>hc (.inr ⟨h2,hh⟩)
   obtain ⟨n',b',rfl⟩:∃n' b',o=.append n' b':=by
    cases o with
    |append n' b'=>exact ⟨n',b',rfl⟩
    |_=>exact absurd hop (by dsimp only [Opr.op];decide)
   have he:Jd (.append n' b') f D1=Ae2 (.append n' b') f.part D1:=by
    unfold Jd;rw [iP hk1',iK h2]
   rw [he] at hdo
   obtain ⟨m,hm⟩:∃m:Nat,m=(min (max f.part 0) (b'.length:Int)).toNat:=⟨_,rfl⟩
   have hdo:doP (.append n' b') D=((Dz (.append n' (b'.take m)) D1).1,if (Dz (.append n' (b'.take m)) D1).2.err=0\/(Dz (.append n' (b'.take m)) D1).2.err=161 then { (Dz (.append n' (b'.take m)) D1).2 with err:=160 } else (Dz (.append n' (b'.take m)) D1).2):=by rw [hdo,hm];rfl
   have hxl:=Eh (lx u38)
   have hxl:b'.length=x.len:=hxl
   refine Dp (x:=((Rh,n',nmE,x,()):Cells.T Qu)) p1 (λi v hv=>by rw [kY,←kQ];exact hv) (Ag λb26 w9 e9 n9 hb9 hz9=>Ba n9 rfl rfl (by decide) λw10 u10 n10 z10=>?_)
   have e10:Ext w8 w10:=e9.step u10 λk hk=>by omega
   have n10:w10.heap[b26]?=some (.cells (Cells.vals Qu ((Rh,n',nmE,x,()):Cells.T Qu)).toArray 252 (0,0)):=n10
   refine Af (e10.ext_get p1) (off:=3) (x:=x) rfl (Af (e10.ext_get p1) (off:=3) (x:=x) rfl (Af (e10.ext_get p12) (off:=2) (x:=x4.2.2.1) rfl ?_))
   have hpt:(x4.2.2.1:Int)=f.part:=f2
   rw [hpt]
   have hmi:(if (if f.part>0 then f.part else 0)<((x.len:Nat):Int) then (if f.part>0 then f.part else 0) else ((x.len:Nat):Int))=(m:Int):=by
    rw [hm];split<;>split at * <;> omega
   rw [hmi]
   have hml:m<=b'.length:=by omega
   have hx10:Bytes w10 x b':=(lx u38).ext e10
   have hsl:∀{J:Sl->Wp},(∀s',Bytes w10 s' (b'.take m)->Lie (λk=>k<w10.heap.size/\¬R k) s'->J s' w10)->slc x.a 0 (m:Int) ((x.cap:Nat):Int) x.cap 1 J w10:=λ{J} hj=>by
    have h10:Lie (λk=>k<w10.heap.size/\¬R k) x:=hxb8.imp id λhh q hq=>⟨by have:=(hh q hq).1;have:=e10.size;omega,(hh q hq).2⟩
    rcases hx10.at_ with ⟨h0,h0'⟩|⟨t,hin⟩
    ·have hx0:x.len=0:=h0
     have hb0:b'=[]:=jH.1 (by omega)
     have hm0:m=0:=by rw [hb0] at hml;simpa using hml
     subst hm0
     refine ⟨(),⟨by omega,by omega,by omega,by omega⟩,hj _ ?_ (.inl ?_)⟩
     ·rw [qE];exact ⟨.inl ⟨by simp [Sl.cut],rfl⟩⟩
     ·simp [Sl.cut]
    ·have hle:=hin.le
     refine Nr hin (by omega) (by omega) (by omega) (by omega) (by omega) λs' hs' hl' _ hb'=>hj s' ?_ (h10.imp (λhh=>by rw [hl'];omega) λhh q hq=>hh q (hb' q hq))
     have:((bv b').drop ((0:Int).toNat*1)).take (((m:Int).toNat-(0:Int).toNat)*1)=bv (b'.take m):=by rw [kH];simp [tK]
     rw [this] at hs';exact hs'.x
   refine hsl λs' hs' hsb'=>Tz hs' (by rw [nG];have:b'.length<=2^30:=hbl;omega) λs11 w11 o11 e11=>?_
   have n11:=e11.ext_get n10
   refine Dj n11 (by show 3<4;decide) λw12 u12 n12 z12=>?_
   have e812:Ext w8 w12:=(e10.trans e11).step u12 λk hk=>by omega
   have n12:w12.heap[b26]?=some (.cells (Cells.vals Qu ((Rh,n',nmE,s11,()):Cells.T Qu)).toArray 252 (0,0)):=n12
   have o12:Dl w12 w10.heap.size s11 (b'.take m):=o11.upd u12 λk _ hk hh=>by have:=o11.Dh hk;have:=e9.size;omega
   refine Dp (x:=((Rh,n',nmE,s11,()):Cells.T Qu)) n12 (λi v hv=>by rw [kY,←kQ];exact hv) ?_
   refine own (o':=.append n' (b'.take m)) rfl rfl rfl e812 o12.in.x (.inr λk hk=>⟨o12.in.Ci hk,λhh=>by have:=o12.Dh hk;have:=h8.lt k hh;have:=e10.size;omega⟩) (mM (by show (b'.take m).length<=b'.length;rw [nG];omega) hbl) λW' R' s hA u hR o' hs'=>?_
   have z812:=e812.size
   have u8':Upd R w8 W':=(Upd.Ae e812).trans u
   have hR8:∀k,R' k->R k\/w8.heap.size<=k:=λk hk=>(hR k hk).imp id λhh=>by omega
   refine sto (R1:=R') (a:=(Dz (.append n' (b'.take m)) D1).2) (s:=s) u8' λW2 u2 n2'=>?_
   have hA2:RIn W2 r R' (Dz (.append n' (b'.take m)) D1).1:=hA.in.frame u2 λk hk hh=>nR1 hR8 (hh▸hk)
   have u82:=(u8'.mono (S':=λk=>R k\/k=b13) λk _ hk=>.inl hk).trans (u2.mono λk _ hk=>.inr hk)
   have o2':Dl W2 w.heap.size s (Dz (.append n' (b'.take m)) D1).2.data:=(o'.mono (by omega)).upd u2 λk _ hk hh=>sb13 o' u8' k hk hh
   refine Ar (decide ((Dz (.append n' (b'.take m)) D1).2.err=0\/(Dz (.append n' (b'.take m)) D1).2.err=161),()) (Af n2' (off:=5) (x:=(Dz (.append n' (b'.take m)) D1).2.err) rfl (Ac (λh0=>⟨Di ?_,rfl⟩) λh0=>Af n2' (off:=5) (x:=(Dz (.append n' (b'.take m)) D1).2.err) rfl ⟨Di ?_,rfl⟩)) (Ac (λhc=>?_) λhc=>?_)
   ·have h0:(Dz (.append n' (b'.take m)) D1).2.err=0:=by simpa using h0
    simp [h0]
   ·have h0:(Dz (.append n' (b'.take m)) D1).2.err≠0:=by simpa using h0
    simp [h0]
   ·have hc:=jY hc
    rw [iK hc] at hdo
    refine Dj n2' (by show 5<7;decide) λW3 u3' n3' z3'=>hJ' W3 ⟨R',s,(doP (.append n' b') D).2.st,by rw [hdo];exact hA2.frame u3' λk hk hh=>nR1 hR8 (hh▸hk),u82.trans (u3'.mono λk _ hk=>.inr hk),hR8,by rw [hdo];exact o2'.upd u3' λk _ hk hh=>sb13 o' u8' k hk hh,hs',rfl,by rw [hdo];exact n3'⟩
   ·have hc:=sK hc
    rw [iP hc] at hdo
    exact hJ' W2 ⟨R',s,(doP (.append n' b') D).2.st,by rw [hdo];exact hA2,u82,hR8,by rw [hdo];exact o2',hs',rfl,by rw [hdo];exact n2'⟩
  have hk2:f.kind≠2:=by simpa using h2
  refine lk (Ac (λh3'=>?_) λh3'=>?_)
  ·have h3':f.kind=3:=by simpa using h3'
   have he:Jd o f D1=((Dz o D1).1,if (Dz o D1).2.err=0 then ⟨(Dz o D1).2.n,[],(0,0,0),160⟩ else (Dz o D1).2):=by
    unfold Jd;rw [iP hk1',iP hk2,iP (by omega),iP (by omega),iK h3']
   rw [he] at hdo
   refine own0 λW' R' s hA u hR o' hs'=>sto (R1:=R') (a:=(Dz o D1).2) (s:=s) u λW2 u2 n2'=>?_
   have hA2:RIn W2 r R' (Dz o D1).1:=hA.in.frame u2 λk hk hh=>nR1 hR (hh▸hk)
   have u82:=(u.mono (S':=λk=>R k\/k=b13) λk _ hk=>.inl hk).trans (u2.mono λk _ hk=>.inr hk)
   refine Af n2' (off:=5) (x:=(Dz o D1).2.err) rfl (Ac (λh0=>?_) λh0=>?_)
   ·have h0:(Dz o D1).2.err=0:=by simpa using h0
    rw [iK h0] at hdo
    refine Af n2' (off:=0) (x:=(Dz o D1).2.n) rfl (Ba n2' rfl rfl (by show 0+7<=7;decide) λW3 u3' n3' z3'=>hJ' W3 ⟨R',⟨none,0,0⟩,(0,0,0),by rw [hdo];exact hA2.frame u3' λk hk hh=>nR1 hR (hh▸hk),u82.trans (u3'.mono λk _ hk=>.inr hk),hR,by rw [hdo];exact Am.nil _ _ _ _,λk hk=>Du hk,by rw [hdo],by rw [hdo];rw [Cc _ _ (by rfl)] at n3';exact n3'⟩)
   ·have h0:(Dz o D1).2.err≠0:=by simpa using h0
    rw [iP h0] at hdo
    exact hJ' W2 ⟨R',s,(doP o D).2.st,by rw [hdo];exact hA2,u82,hR,by rw [hdo];exact (o'.mono z8w).upd u2 λk _ hk hh=>sb13 o' u k hk hh,hs',rfl,by rw [hdo];exact n2'⟩
  have hk3:f.kind≠3:=by simpa using h3'
  have hcut:∀{W:World},Ext w8 W->Am W 0 x4.2.2.2.2.1 3 1 (iv f.bytes):=λe=>(f4.ext e48).ext e
  have hnm:(x4.2.2.2.1:Int)=f.names:=f3
  refine lk (Ac (λh4'=>?_) λh4'=>?_)
  ·have h4':f.kind=4:=by simpa using h4'
   have he:Jd o f D1=(crash D1 f.names f.bytes,Gv 165):=by
    unfold Jd;rw [iP hk1',iP hk2,iK h4']
   rw [he] at hdo
   refine Dp (b:=b12) (off:=3) (x:=((x4.2.2.2.1,x4.2.2.2.2.1,()):Cells.T c72)) p12 (λi v hv=>by
    match i,hv with
    |0,hv=>exact hv
    |1,hv=>exact hv
    |i+2,hv=>cases hv) ?_
   refine Uw (c:=(x4.2.2.2.1,x4.2.2.2.2.1,())) (bytes:=f.bytes) h8 ok1 (by omega) (λW S u hT _=>((f4.ext e48).off u hT (by decide)).in.x) f5 λW' R' hA u hR=>?_
   dsimp only at hA
   rw [hnm] at hA
   exact err (R1:=R') (by rw [hdo];exact hA) u hR (by rw [hdo]) hJ'
  have hk4:f.kind≠4:=by simpa using h4'
  refine lk (Ac (λh5'=>?_) λh5'=>?_)
  ·have h5':f.kind=5:=by simpa using h5'
   have he:Jd o f D1=(crash (Dz o D1).1 f.names f.bytes,Gv 165):=by
    unfold Jd;rw [iP hk1',iP hk2,iP hk4,iK h5']
   rw [he] at hdo
   refine own0 λW' R' s hA u hR o' hs'=>?_
   obtain ⟨sf',sl',sa',ds',es',hA⟩:=hA
   refine Dp (b:=b12) (off:=3) (x:=((x4.2.2.2.1,x4.2.2.2.2.1,()):Cells.T c72)) (u.get p12 nb12) (λi v hv=>by
    match i,hv with
    |0,hv=>exact hv
    |1,hv=>exact hv
    |i+2,hv=>cases hv) ?_
   obtain ⟨a1,a2,a3,a4,a5,a6,a7,a8⟩:=hA.qat qi x4 qg hqi hqg
   rw [hqf] at a5
   refine Uw (c:=(x4.2.2.2.1,x4.2.2.2.2.1,())) (bytes:=f.bytes) hA (Cs7 ok1) (by omega) (λW S u hT _=>(a5.off u hT (by decide)).in.x) f5 λW2 R2 hA2 u2 hR2=>?_
   dsimp only at hA2
   rw [hnm] at hA2
   exact err (R1:=R2) (by rw [hdo];exact hA2) (u.new u2 λk hk hh=>(hR k hh).resolve_right (by omega)) (λk hk=>(hR2 k hk).elim (hR k) λhh=>.inr (by have:=u.size;omega)) (by rw [hdo]) hJ'
  ·have h5':f.kind≠5:=by simpa using h5'
   omega
 rintro _ W ⟨R1,s,st,hA,u,hR,os,hs,rfl,nW⟩
 refine Dj nW (by show 6<7;decide) λW2 u2 n2' z2'=>?_
 have n2':W2.heap[b13]?=some (.cells (Cells.vals Bq (((doP o D).2.n,s,(doP o D).2.st.1,(doP o D).2.st.2.1,(doP o D).2.st.2.2,(doP o D).2.err,D.steps+1,()):Cells.T Bq)).toArray 247 (0,0)):=n2'
 refine Dp (x:=(((doP o D).2.n,s,(doP o D).2.st.1,(doP o D).2.st.2.1,(doP o D).2.st.2.2,(doP o D).2.err,D.steps+1,()):Cells.T Bq)) n2' (λi v hv=>by rw [kY,←kQ];exact hv) ?_
 have g2:=u2.get (u.get p2 λhh=>hh.elim nb2 d12) d12
 have nR13:¬R1 b13:=λhh=>(hR _ hh).elim nb13 λhl=>by omega
 have nRb2:¬R1 b2:=λhh=>(hR _ hh).elim nb2 λhl=>by omega
 have sne:∀{b:Nat} {c:Array Value} {fr:Nat×Nat},W.heap[b]?=some (.cells c 247 fr)->∀k,s.blk k->k≠b:=λhb k hk hh=>by
  obtain ⟨c',fr',hc'⟩:=os.in.Bf hk
  rw [hh,hb] at hc';cases hc'
 refine Bn1 g2 rfl λW3 u3'=>?_
 refine hK W3 R1 s (D.steps+1) ((hA.frame u2 λk hk hh=>nR13 (hh▸hk)).frame u3' λk hk hh=>nRb2 (hh▸hk)) ?_ (λk hk=>(hR k hk).imp id λhh=>by have:=u38.size;omega) ((os.upd u2 λk _ hk hh=>sne nW k hk hh).upd u3' λk _ hk hh=>sne (u.get p2 λhh=>hh.elim nb2 d12) k hk hh) hs
 refine ((u38.new u λk hk hh=>hh.elim id λhh=>?_).new u2 λk hk hh=>?_).new u3' λk hk hh=>?_
 ·have:=e5.size;have:=e02.size;omega
 ·have:=e5.size;have:=e02.size;omega
 ·have:=e02.size;omega
end
end Dq
end
section
namespace Dq
open Go Go.Vx Dsk Cdc Trx
structure RS (w:World) (r:Nat) (R:Nat->Prop) (D:Dk) (N:Nat):Prop where
 at_:RIn w r R D
 ok:Bj D N
section
variable {w w':World}{S R R':Nat->Prop}{r:Nat}{D D':Dk}{N M:Nat}{n:Nm}{o:Opr}
def RS.mono (h:RS w r R D N) (hm:N<=M):RS w r R D M:=⟨h.at_,h.ok.mono hm⟩
def RS.frame (h:RS w r R D N) (u:Upd S w w') (hS:∀k,R k->¬S k):RS w' r R D N:=⟨h.at_.frame u hS,h.ok⟩
def RS.ext (h:RS w r R D N) (e:Ext w w'):RS w' r R D N:=h.frame e λ_ _=>id
def RS.lt (h:RS w r R D N):∀k,R k->k<w.heap.size:=h.at_.lt
def Oe {x:Cells.T Bq}{K:Nat->Wp}(hK:∀b W',Ext w W'->W'.heap[b]?=some (.cells (Cells.vals Bq x).toArray 247 (0,0))->b=w.heap.size->K b W') :
  Ak (.cells #[vI 0,.slice none 0 0,vI 0,vI 0,vI 0,vI 0,vI 0] 247) (λb=>Ah (at0 b) (.agg (Cells.vals Bq x).toArray) 7 (K b)) w:=by refine Ag λb w1 e1 n1 hb hz=>Ba n1 rfl rfl (by decide) λw2 u2 n2 z2=>hK b w2 (e1.step u2 λk hk=>by omega) n2 hb
def Ag8 (h:RS w r R D N) (hN:N+2<=2^40) (o:Opr) (hn:o.nm.size<2^62) (ht:o.to=nmE) (hb:o.bs=[]){K:Cells.T Bq->Wp}
  (hK:∀w' R' s k,RIn w' r R' (doP o D).1->Upd R w w'->(∀k,R' k->R k\/w.heap.size<=k)->Dl w' w.heap.size s (doP o D).2.data->(∀k,s.blk k->¬R' k)->K ((doP o D).2.n,s,(doP o D).2.st.1,(doP o D).2.st.2.1,(doP o D).2.st.2.2,(doP o D).2.err,k,()) w') :
  Aa prog 146 #[dU r,.string o.op,.string o.nm] (.one (.agg Bq)) K w:=by
 refine Dh4 ?_;unfold F146;refine Ag λb w1 e1 n1 hb1 hz1=>?_;obtain ⟨sf,sl,sa,sq,ds,es,qr,ql,A⟩:=h.at_.ext e1;(have nb:¬R b:=λhh=>by have:=h.lt _ hh;omega);(have hx:Bytes w1 ⟨none,0,0⟩ o.bs:=by rw [hb];exact ⟨.inl ⟨by simp,rfl⟩⟩);have hw:=Yz A h.ok hN o hn (by rw [ht];decide) hx (.inl rfl) (by rw [hb];decide) (K:=λx2=>Ah (at0 b) (.agg (Cells.vals Bq x2).toArray) 7 (lds Bq (at0 b) λx3=>K x3)) λw' R' s k hA u hR hs hs'=>by
  have g:=u.get n1 nb
  have nR:¬R' b:=λhh=>(hR _ hh).elim nb λhl=>by have:=lt_of_heap n1;omega
  refine Bn1 g rfl λW' u'=>hK W' R' s k (hA.frame u' λk hk hh=>nR (hh▸hk)) (((Upd.Ae e1).trans u).new u' λk hk hh=>by omega) (λk hk=>(hR k hk).imp id λhl=>by omega) ((hs.mono (by omega)).upd u' λk _ hk hh=>?_) hs'
  obtain ⟨c',fr',hc'⟩:=hs.in.Bf hk
  rw [hh,g] at hc';cases hc'
 rw [ht] at hw;exact hw
abbrev Y7 (w:World) (r:Nat) (R:Nat->Prop) (N:Nat) (D':Dk) (e:Int) (K:Cells.T Bq->Wp):Prop :=
 ∀w' R' n s s1 s2 s3 k,RS w' r R' D' (N+2)->Upd R w w'->(∀k,R' k->R k\/w.heap.size<=k)->K (n,s,s1,s2,s3,e,k,()) w'
def Co0 {D1:Dk}{e:Int}(hc:(D1,e,())=((doP o D).1,(doP o D).2.err,())) (h:RS w r R D N) (hN:N+2<=2^40) (hok:Bj D1 (N+2)) (hn:o.nm.size<2^62) (ht:o.to=nmE) (hb:o.bs=[]){K:Cells.T Bq->Wp}(hK:Y7 w r R N D1 e K) :
  Aa prog 146 #[dU r,.string o.op,.string o.nm] (.one (.agg Bq)) K w:=by have h1:D1=(doP o D).1:=lW (·.1) hc;have h2:e=(doP o D).2.err:=lW (·.2.1) hc;refine Ag8 h hN o hn ht hb λw' R' s k hA u hR _ _=>?_;rw [←h1] at hA;rw [←h2];exact hK w' R' _ s _ _ _ k ⟨hA,hok⟩ u hR
def Bm9 (h:RS w r R D N) (hN:N+2<=2^40) (hn:n.size<2^62){K:Cells.T Bq->Wp}(hK:Y7 w r R N (Bz D n).1 (Bz D n).2.1 K) :
  Aa prog 146 #[dU r,.string By0,.string n] (.one (.agg Bq)) K w:=Co0 (o:=.make n) Cn0 h hN (Jj h.ok n) hn rfl rfl hK
def I5 (h:RS w r R D N) (hN:N+2<=2^40) (hn:n.size<2^62){K:Cells.T Bq->Wp}(hK:Y7 w r R N (Au D n).1 (Au D n).2.1 K) :
  Aa prog 146 #[dU r,.string Ap0,.string n] (.one (.agg Bq)) K w:=Co0 (o:=.remove n) Am7 h hN (Iu h.ok n) hn rfl rfl hK
def Co1 (h:RS w r R D N) (hN:N+2<=2^40) (hn:n.size<2^62){K:Cells.T Bq->Wp}(hK:Y7 w r R N (Ef D n).1 (Ef D n).2.1 K) :
  Aa prog 146 #[dU r,.string Co7,.string n] (.one (.agg Bq)) K w:=Co0 (o:=.sync n) Cm9 h hN (Rj h.ok n) hn rfl rfl hK
def Ag9 (h:RS w r R D N) (hN:N+2<=2^40){K:Cells.T Bq->Wp}(hK:Y7 w r R N (Bg D).1 (Bg D).2.1 K) :
  Aa prog 146 #[dU r,.string Ad4,.string nmE] (.one (.agg Bq)) K w:=Co0 (o:=.syncdir) Bh0 h hN (Nc h.ok) (by decide) rfl rfl hK
def Tn (h:RS w r R D N) (hN:N+2<=2^40) (hn:n.size<2^62){K:Cells.T Bq->Wp}
  (hK:∀w' R' m s k,RS w' r R' (Aj D n).1 (N+2)->Upd R w w'->(∀k,R' k->R k\/w.heap.size<=k)->K (m,s,(Aj D n).2.2.1,(Aj D n).2.2.2.1,(Aj D n).2.2.2.2,(Aj D n).2.1,k,()) w') :
  Aa prog 146 #[dU r,.string Bx8,.string n] (.one (.agg Bq)) K w:=by have hs:=Az3 (D:=D) (n:=n);refine Ag8 h hN (.stamp n) hn rfl rfl λw' R' s k hA u hR _ _=>?_;have hk:=hK w' R' (doP (.stamp n) D).2.n s k;have hok:=Ho h.ok n;rw [hs] at hk hok;exact hk ⟨hA,hok⟩ u hR
def Co2 (h:RS w r R D N) (hN:N+2<=2^40) (hn:n.size<2^62){K:Cells.T Bq->Wp}
  (hK:∀w' R' m s s1 s2 s3 k,RS w' r R' (Aw D n).1 (N+2)->Upd R w w'->(∀k,R' k->R k\/w.heap.size<=k)->Dl w' w.heap.size s (Aw D n).2.2->(∀k,s.blk k->¬R' k)->K (m,s,s1,s2,s3,(Aw D n).2.1,k,()) w') :
  Aa prog 146 #[dU r,.string Bx9,.string n] (.one (.agg Bq)) K w:=by have hs:=Bm3 (D:=D) (n:=n);refine Ag8 h hN (.read n) hn rfl rfl λw' R' s k hA u hR hd hd'=>?_;have hk:=hK w' R' (doP (.read n) D).2.n s (doP (.read n) D).2.st.1 (doP (.read n) D).2.st.2.1 (doP (.read n) D).2.st.2.2 k;have hok:=Vh h.ok n;rw [hs] at hk hok;exact hk ⟨hA,hok⟩ u hR hd hd'
def last_at {n:Nm}(h0:1<=n.size) (hs:n.size<2^62){K:UInt8->Wp}(hK:∀c,((((c.toNat:Nat):Int) !=126) = !decide (n.data.back?=some 126))->K c w):Ao6 n (W64 (((ByteArray.size n:Nat):Int)-1)) K w:=by
 have ew:W64 (((ByteArray.size n:Nat):Int)-1)=((n.size-1:Nat):Int):=iD (by omega);rw [ew];have hl:n.data.size=n.size:=rfl;have hb:n.data.back?=some (n.data[n.size-1]'(by omega)):=by
  rw [uV]
  exact pI (by omega)
 refine ⟨n.data[n.size-1]'(by omega),⟨by omega,?_⟩,hK _ ?_⟩;{rw [kH];exact uT n (n.size-1) (by omega)};{rw [hb];generalize n.data[n.size-1]'(by omega)=c;by_cases hc:c=126;{subst hc;decide};{have h1:decide (some c=some 126)=false:=qO λhh=>hc (sW hh);have h2:((c.toNat:Nat):Int)≠126:=λhh=>hc (wJ.1 (by show c.toNat=126;omega));rw [h1];simpa using h2}}
def Ua {n:Nm}(hs:n.size<2^62){K:Bool->Wp}(hK:K (userName n) w):Aa prog 111 #[.string n] rB K w:=by
 refine j111 ?_;unfold F111;have hu:userName n=(Bl n&&decide (n.size<32)&&decide (n.data.back?≠some 126)):=rfl;rw [hu] at hK;refine Ac (λh1=>Tv hs (Ac (λh2=>?_) λh2=>?_)) λh1=>?_
 ·(have h1:n.size<32:=by have:=jY h1;omega);have h0:1<=n.size:=by
   unfold Bl at h2
   simp only [jA,wI] at h2
   omega
  refine last_at h0 hs λc hc=>?_;rw [hc];rw [h2,uX h1] at hK;simpa using hK
 {have h2:Bl n=false:=(by simpa using h2);rw [h2] at hK;simpa using hK};{(have h1:¬n.size<32:=by have:=sK h1;omega);rw [qO h1] at hK;simpa using hK}
end
end Dq
end
section
namespace Dq
open Go Go.Vx Dsk Cdc Trx
structure GS (w:World) (f d:Nat) (X:Fil) (sm:Sl) (R:Nat->Prop):Prop where
 box:w.heap[f]?=some (.cells (Gg d X sm) 245 (0,0))
 mkr:By w sm X.mark
 nf:¬R f
 nm:∀k,sm.blk k->¬R k
 small:X.mark.length<1024
 name:X.name.size<=2^40
section
variable {w w':World}{S R R':Nat->Prop}{r:Nat}{D D':Dk}{N M:Nat}{n:Nm}{f:Nat}{X:Fil}{sm:Sl}
def GS.Cb6 (h:GS w f r X sm R):¬sm.blk f:=λhh=>by obtain ⟨c,fr,hc⟩:=h.mkr.Bf hh;rw [h.box] at hc;cases hc
def GS.frame (h:GS w f r X sm R) (u:Upd S w w') (h1:¬S f) (h2:∀k,sm.blk k->¬S k) (hR:∀k,R' k->R k\/w.heap.size<=k):GS w' f r X sm R' :=
 ⟨u.get h.box h1,h.mkr.upd u h2,λhh=>(hR _ hh).elim h.nf λhl=>by have:=lt_of_heap h.box;omega,λk hk hh=>(hR _ hh).elim (h.nm k hk) λhl=>by have:=h.mkr.Ci hk;omega,h.small,h.name⟩
def GS.ext (h:GS w f r X sm R) (e:Ext w w'):GS w' f r X sm R:=h.frame e id (λ_ _=>id) λ_=>.inl
def GS.step (h:GS w f r X sm R) (u:Upd R w w') (hR:∀k,R' k->R k\/w.heap.size<=k):GS w' f r X sm R':=h.frame u h.nf h.nm hR
def GS.set (h:GS w f r X sm R) (u:Upd (λk=>k=f) w w'){Y:Fil}(hb:w'.heap[f]?=some (.cells (Gg r Y sm) 245 (0,0))) (hm:Y.mark=X.mark) (hn:Y.name.size<=2^40):GS w' f r Y sm R :=
 ⟨hb,by rw [hm];exact h.mkr.upd u λk hk hh=>h.Cb6 (hh▸hk),h.nf,h.nm,by rw [hm];exact h.small,hn⟩
def Gu {A B C:Nat->Prop}{x y:Nat}(h1:∀k,B k->A k\/x<=k) (h2:∀k,C k->B k\/y<=k) (h:x<=y):∀k,C k->A k\/x<=k:=λk hk=>(h2 k hk).elim (h1 k) λhh=>.inr (by omega)
def Hg {w1 w2:World}(u1:Upd R w w1) (h1:∀k,R' k->R k\/w.heap.size<=k) (u2:Upd R' w1 w2):Upd R w w2:=u1.new u2 λk hk hh=>(h1 k hh).resolve_right (by omega)
def Bb1 (A:RS w r R D N) (hN:N+40<=2^40){K:Int->Wp}(hK:∀R' w',RS w' r R' (O1 D).1 (N+40)->Upd R w w'->(∀k,R' k->R k\/w.heap.size<=k)->K (O1 D).2 w') :
  Aa prog 110 #[dU r] rI K w:=by
 refine j110 ?_;unfold F110;obtain ⟨sf,sl,sa,sq,ds,es,qr,ql,h⟩:=A.at_;refine Ad ?_;rw [addr_add];unfold O1 at hK;refine Af h.box (off:=0+4) (x:=D.down) rfl (Ac (λhd=>?_) λhd=>?_);{rw [iK hd] at hK;exact hK R w (A.mono (by omega)) (Upd.refl _ _) λk hk=>.inl hk};rw [iP (by rw [hd];simp)] at hK;obtain ⟨L,hL⟩:∃L,L=names D.seen:=⟨_,rfl⟩;have h16:=A.ok.seen.names.2;rw [←hL] at h16 hK;have hLo:∀m∈L,1<=m.size/\m.size<2^62:=λm hm=>by
  rw [hL] at hm
  have h1:=(A.ok.seen.names.1.2 m).1 hm
  cases hi:D.seen m with
  |none=>rw [hi] at h1;cases h1
  |some i=>have:=A.ok.seen.okn m i hi;unfold Bl at this;simp only [jA,pF,wI] at this;omega
 refine Uu h A.ok (by omega) λs w1 o1 e1=>?_;rw [iP (by rw [hd];simp),←hL] at o1;have hsl:=o1.len1;rw [nO] at hsl;refine Ai (λy W=>∃R',y=((Ia L false D).2.2,())/\(Ia L false D).2.1=0/\RS W r R' (Ia L false D).1 (N+2*L.length)/\Upd R w W/\(∀k,R' k->R k\/w.heap.size<=k)) ?_ ?_
 ·refine Bo (λst W=>∃(i:Nat) (b:Bool) (R':Nat->Prop) (E:Dk),st=(b,(i:Int),())/\i<=L.length/\Ia L false D=Ia (L.drop i) b E/\RS W r R' E (N+2*i)/\Qw W w.heap.size s L/\(∀k,s.blk k->¬R' k)/\Upd R w W/\(∀k,R' k->R k\/w.heap.size<=k)) (λst _=>L.length-st.2.1.toNat)
   ⟨0,false,R,D,rfl,qI _,rfl,A.ext e1,o1,λk hk hh=>by have:=A.lt k hh;have:=o1.Dh hk;omega,Upd.Ae e1,λk hk=>.inl hk⟩ ?_
  rintro _ W ⟨i,b,R1,E,rfl,hi,hE,A1,o2,ho2,u1,hR1⟩;dsimp only;refine Ac (λhlt=>?_) λhge=>?_
  ·(have hlt:i<L.length:=by have:=jY hlt;omega);obtain ⟨nm,hnm⟩:∃nm,L[i]?=some nm:=⟨_,oP hlt⟩;have hdr:L.drop i=nm::L.drop (i+1):=by
    have hh:=(lY.1 hnm).2
    rw [←hh];exact tV hlt
   rw [hdr] at hE;obtain ⟨hn1,hn2⟩:=hLo nm (lU hnm);refine Ai (λy W'=>∃(b':Bool) (R':Nat->Prop) (E':Dk),y=(b',())/\Ia L false D=Ia (L.drop (i+1)) b' E'/\RS W' r R' E' (N+2*(i+1))/\Qw W' w.heap.size s L/\(∀k,s.blk k->¬R' k)/\Upd R w W'/\(∀k,R' k->R k\/w.heap.size<=k)) ?_ ?_
   ·have at_:∀{K:ByteArray->Wp},K nm W->ix s.a s.len (i:Int) (λp=>ld (.str) (p.add (scaled (Int.toNat (i:Int)) 1)) K) W:=λhk=>Nk (c:=.str) (xs:=L) o2.in.x (by omega) (by rw [kH];exact hnm) λ_=>hk;refine Az λw3 e3 _=>?_;have o3:Qw w3 w.heap.size s L:=o2.ext e3;have A3:=A1.ext e3;have u3:=u1.trans (Upd.Ae (S:=R) e3);have at3:∀{K:ByteArray->Wp},K nm w3->ix s.a s.len (i:Int) (λp=>ld (.str) (p.add (scaled (Int.toNat (i:Int)) 1)) K) w3:=λhk=>Nk (c:=.str) (xs:=L) o3.in.x (by omega) (by rw [kH];exact hnm) λ_=>hk;refine at3 (at3 (last_at hn1 hn2 λc hc=>?_));rw [hc];refine Ac (λhs=>?_) λhs=>?_;{have hs:nm.data.back?≠some 126:=(by simpa using hs);rw [Ia,iK hs] at hE;exact ⟨b,R1,E,rfl,hE,A3.mono (by omega),o3,ho2,u3,hR1⟩};have hs:nm.data.back?=some 126:=(by simpa using hs);rw [Ia,iP (by rw [hs];simp)] at hE;refine at3 (I5 A3 (by omega) hn2 λw4 R4 m s4 s1 s2 s3 k A4 u4 hR4=>Oe λb18 w5 e5 n5 _=>Af n5 (off:=5) (x:=(Au E nm).2.1) rfl (Ac (λhe=>?_) λhe=>?_));all_goals
     have z1:=u3.size
     have hR4':=Gu hR1 hR4 z1
     have u5:=(Hg u3 (λk hk=>hR1 k hk) u4).trans (Upd.Ae (S:=R) e5)
    {have he:(Au E nm).2.1≠0:=(by simpa using he);rw [iP he] at hE;refine Af n5 (off:=5) (x:=(Au E nm).2.1) rfl ?_;have hk:=hK R4 w5;rw [hE,iK he] at hk;exact hk ((A4.ext e5).mono (by omega)) u5 hR4'};{have he:(Au E nm).2.1=0:=(by simpa using he);rw [iK he] at hE;exact ⟨true,R4,_,rfl,hE,(A4.ext e5).mono (by omega),(o3.upd u4 λk _ hk hh=>ho2 k hk hh).ext e5,λk hk hh=>(hR4 k hh).elim (ho2 k hk) λhl=>by have:=o3.in.Ci hk;omega,u5,hR4'⟩}
   rintro _ W2 ⟨b',R2,E',rfl,hE',A2,o3,ho3,u2,hR2⟩;rw [iE (by omega)];refine ⟨⟨i+1,b',R2,E',by rw [show ((i:Int)+1)=((i+1:Nat):Int) by omega],by omega,hE',A2,o3,ho3,u2,hR2⟩,?_⟩;show L.length-((i:Int)+1).toNat<L.length-(i:Int).toNat;omega
  {(have hge:¬i<L.length:=by have:=sK hge;omega);obtain rfl:i=L.length:=(by omega);rw [vF (mJ _)] at hE;have hE:Ia L false D=(E,0,b):=hE;rw [hE];exact ⟨R1,rfl,rfl,A1,u1,hR1⟩}
 rintro _ W ⟨R1,rfl,h0,A1,u1,hR1⟩;rw [iP (λhh=>hh h0)] at hK;refine Ac (λhb=>?_) λhb=>?_;{have hb:(Ia L false D).2.2=false:=(by simpa using hb);rw [iK hb] at hK;exact hK R1 W (A1.mono (by omega)) u1 hR1};{have hb:¬(Ia L false D).2.2=false:=(by simpa using hb);rw [iP hb] at hK;refine Ag9 A1 (by omega) λw4 R4 m s4 s1 s2 s3 k A4 u4 hR4=>Oe λb18 w5 e5 n5 _=>Af n5 (off:=5) (x:=(Bg (Ia L false D).1).2.1) rfl ?_;exact hK R4 w5 ((A4.ext e5).mono (by omega)) ((Hg u1 hR1 u4).trans (Upd.Ae e5)) (Gu hR1 hR4 u1.size)}
def Bu4 (A:RS w r R D N) (hN:N+10<=2^40) (hX:GS w f r X sm R) (hn:n.size<=2^40){K:Int->Wp}
  (hK:∀R' w',RS w' r R' (asP D X n).1 (N+2)->GS w' f r (asP D X n).2.2 sm R'->Upd (λk=>R k\/k=f) w w'->(∀k,R' k->R k\/w.heap.size<=k)->K (asP D X n).2.1 w') :
  Aa prog 145 #[dU f,.string n] rI K w:=by
 refine Dh5 ?_;unfold F145;unfold asP at hK;refine Ua (by omega) (Ac (λhu=>?_) λhu=>Ad ?_);{have hu:userName n=false:=(by simpa using hu);rw [iK hu] at hK;exact hK R w (A.mono (by omega)) hX (Upd.refl _ _) λk hk=>.inl hk};have hu:¬userName n=false:=(by simpa using hu);rw [iP hu] at hK;refine Af hX.box (off:=0) (x:=some (at0 r)) rfl (Tn A (by omega) (by omega) λw4 R4 m s4 k A4 u4 hR4=>Oe λb18 w5 e5 n5 _=>Af n5 (off:=5) (x:=(Aj D n).2.1) rfl (Ac (λh0=>?_) λh0=>Af n5 (off:=5) (x:=(Aj D n).2.1) rfl (Ac (λh1=>?_) λh1=>Ad ?_)));all_goals
  have A5:=A4.ext e5
  have X5:=(hX.step u4 hR4).ext e5
  have u5:Upd (λk=>R k\/k=f) w w5:=(u4.mono λk _ hk=>.inl hk).trans (Upd.Ae e5)
 {have h0:(Aj D n).2.1=0:=(by simpa using h0);dsimp only at hK;rw [iK h0] at hK;exact hK R4 w5 A5 X5 u5 hR4};{have h0:(Aj D n).2.1≠0:=(by simpa using h0);have h1:(Aj D n).2.1≠162:=(by simpa using h1);dsimp only at hK;rw [iP h0,iK h1] at hK;exact Af n5 (off:=5) (x:=(Aj D n).2.1) rfl (hK R4 w5 A5 X5 u5 hR4)};{have h0:(Aj D n).2.1≠0:=(by simpa using h0);have h1:¬(Aj D n).2.1≠162:=(by simpa using h1);dsimp only at hK;rw [iP h0,iP h1] at hK;rw [addr_add];refine Dj X5.box (by show 0+1<9;decide) λw6 u6 n6 z6=>Ad ?_;have n6:w6.heap[f]?=some (.cells (Gg r { X with name:=n } sm) 245 (0,0)):=n6;rw [addr_add];refine Ba n6 rfl rfl (by show 0+3+3<=9;decide) λw7 u7 n7 z7=>Ad ?_;have n7:w7.heap[f]?=some (.cells (Gg r { X with name:=n,known:=(0,0,0) } sm) 245 (0,0)):=n7;rw [addr_add];refine Ba n7 rfl rfl (by show 0+6+3<=9;decide) λw8 u8 n8 z8=>?_;have n8:w8.heap[f]?=some (.cells (Gg r ⟨n,X.mark,(0,0,0),(0,0,0)⟩ sm) 245 (0,0)):=n8;have u58:=(u6.trans u7).trans u8;exact hK R4 w8 (A5.frame u58 λk hk hh=>X5.nf (hh▸hk)) (X5.set u58 n8 rfl hn) (u5.trans (u58.mono λk _ hk=>.inr hk)) hR4}
end
end Dq
end
section
namespace Dq
open Go Go.Vx Dsk Cdc Trx
def Je (D:Dk) (n:Nm) (b:List UInt8):Dk×Int×Stm :=
 let m:=Ec D n
 if m.2≠0 then (m.1,m.2,(0,0,0)) else
 let f:=Vp n (Qa b.length b) m.1
 if f.2≠0 then (f.1,f.2,(0,0,0)) else
 let s:=Ef f.1 n
 if s.2.1≠0 then (s.1,s.2.1,(0,0,0)) else
 let p:=Aj s.1 n
 (p.1,p.2.1,p.2.2)
def Ut (D:Dk) (n:Nm) (b:List UInt8):Dk×Stm×Bool×Int :=
 let w:=Je D (side n) b
 let r:=if w.2.1=0 then ((Dc w.1 (side n) n).1,(Dc w.1 (side n) n).2.1) else (w.1,w.2.1)
 if r.2≠0 then ((Au r.1 (side n)).1,w.2.2,false,r.2) else ((Bg r.1).1,w.2.2,true,(Bg r.1).2.1)
def Au4 {D:Dk}{n:Nm}:((Aj D n).2.1=0↔(Aj D n).2.2≠(0,0,0)):=by
 have ho:∀E,((Dz (.stamp n) E).2.err=0↔(Dz (.stamp n) E).2.st≠(0,0,0)):=λE=>by
  show ((stR n E).2.1=0↔(stR n E).2.2≠(0,0,0))
  unfold stR Dsk.find
  split
  ·rename_i h;revert h;split
   ·intro h;cases h;simp
   ·split<;>intro h<;>cases h<;>simp
  ·rename_i h;revert h;split
   ·intro h;cases h
   ·split<;>intro h<;>cases h;simp;omega
 rw [Az3];show ((doP (.stamp n) D).2.err=0↔(doP (.stamp n) D).2.st≠(0,0,0));unfold doP;by_cases hd:D.down=true;{rw [iK hd];simp};rw [iP hd];cases D.plan (D.steps+1) with
 |none=>exact ho _
 |some f=>dsimp only;have hp:∀k E,Ae2 (.stamp n) k E=(E,Gv 160):=λ_ _=>rfl;unfold Jd;rw [hp];(repeat' split);all_goals first|exact ho _|simp
def Ai5 {D:Dk}{n:Nm}{b:List UInt8}{t k:Stm}:Fb D n b t k=((Ut D n b).1,(Ut D n b).2.2.2,if (Ut D n b).2.1≠(0,0,0) then (Ut D n b).2.1 else t,if (Ut D n b).2.2.1=true then (Ut D n b).2.1 else k):=by unfold Fb Hl Ut Je;obtain ⟨m,hm⟩:∃m,m=Ec D (side n):=⟨_,rfl⟩;rw [←hm];by_cases h1:m.2=0;{simp only [h1,ne_eq,vY,kU];obtain ⟨f,hf⟩:∃f,f=Vp (side n) (Qa b.length b) m.1:=⟨_,rfl⟩;rw [←hf];by_cases h2:f.2=0;{simp only [h2,vY,kU];obtain ⟨s,hs⟩:∃s,s=Ef f.1 (side n):=⟨_,rfl⟩;rw [←hs];by_cases h3:s.2.1=0;{simp only [h3,vY,kU];have hst:=Au4 (D:=s.1) (n:=side n);obtain ⟨p,hp⟩:∃p,p=Aj s.1 (side n):=⟨_,rfl⟩;rw [←hp] at hst ⊢;by_cases h4:p.2.1=0;{have h5:=hst.1 h4;simp only [h4,h5,vY,kU,iT,not_false_eq_true];obtain ⟨r,hr⟩:∃r,r=Dc p.1 (side n) n:=⟨_,rfl⟩;rw [←hr];unfold clean;by_cases h6:r.2.1=0;{simp [h6];exact λhh=>absurd hh h5};{simp [h6];exact λhh=>absurd hh h5}};{have h5:p.2.2=(0,0,0):=qU λhh=>h4 (hst.2 hh);simp [h4,h5,clean]}};{simp [h3,clean]}};{simp [h2,clean]}};{simp [h1,clean]}
section
variable {w w':World}{S R R':Nat->Prop}{r:Nat}{D D':Dk}{N M:Nat}{n:Nm}{f:Nat}{X:Fil}{sm:Sl}{b:List UInt8}{s:Sl}
def Cg2 {x:Sl}{c:List UInt8}(h:RS w r R D N) (hN:N+2<=2^40) (hn:n.size<2^62) (hx:Bytes w x c) (hxb:Lie (λk=>k<w.heap.size/\¬R k) x) (hl:c.length<=2^30){K:Cells.T Bq->Wp}(hK:Y7 w r R N (Bv D n c).1 (Bv D n c).2.1 K) :
  Aa prog 150 #[dU r,.agg #[.string Rh,.string n,.string nmE,x.v]] (.one (.agg Bq)) K w:=by obtain ⟨sf,sl,sa,sq,ds,es,qr,ql,A⟩:=h.at_;obtain ⟨h1,h2⟩:=Bt2 (D:=D) (n:=n) (b:=c);refine Yz A h.ok hN (.append n c) hn (by show ByteArray.size nmE<_;decide) hx hxb hl λw' R' s k hA u hR _ _=>?_;rw [←h1] at hA;rw [←h2];exact hK w' R' _ s _ _ _ k ⟨hA,Kq h.ok n c⟩ u hR
def An5 {a c:Nm}(h:RS w r R D N) (hN:N+2<=2^40) (hn:a.size<2^62) (hc:c.size<2^62){K:Cells.T Bq->Wp}(hK:Y7 w r R N (Dc D a c).1 (Dc D a c).2.1 K) :
  Aa prog 150 #[dU r,.agg #[.string Wh,.string a,.string c,.slice none 0 0]] (.one (.agg Bq)) K w:=by obtain ⟨sf,sl,sa,sq,ds,es,qr,ql,A⟩:=h.at_;have hd:=Bt1 (D:=D) (a:=a) (c:=c);have h1:(Dc D a c).1=(doP (.rename a c) D).1:=lW (·.1) hd;have h2:(Dc D a c).2.1=(doP (.rename a c) D).2.err:=lW (·.2.1) hd;refine Yz A h.ok hN (.rename a c) hn hc (x:=⟨none,0,0⟩) ⟨.inl ⟨by simp,rfl⟩⟩ (.inl rfl) (by show ([]:List UInt8).length<=_;decide) λw' R' s k hA u hR _ _=>?_;rw [←h1] at hA;rw [←h2];exact hK w' R' _ s _ _ _ k ⟨hA,Oj h.ok a c⟩ u hR
def Bn9 (hX:GS w f r X sm R) (hs:Bytes w s b) (hl:b.length<=2^30){K:Sl->Wp}(hK:∀s' w',Dl w' w.heap.size s' (X.mark++b)->Ext w w'->K s' w') :
  Aa prog 217 #[dU f,s.v] rS K w:=by refine Dd3 ?_;unfold F217;refine Ad ?_;rw [addr_add];have h1:=Eh hX.mkr.x;have h2:=Eh hs;have h3:=hX.small;refine Af hX.box (off:=0+2) (x:=sm) rfl (Ed EB uB (s:=⟨none,0,0⟩) (x:=sm) (Am.nil _ _ _ _) hX.mkr.x (Ph _) (by show (0+sm.len+(0+sm.len)/4+512)*1<=_;omega) (mJ _) λs1 w1 o1 hl1 u1 hb1=>?_);have e1:Ext w w1:=⟨u1.os,u1.tape,u1.output,u1.size,λk hk _=>u1.at_ k hk (λhh=>Du hh)⟩;have hl1:s1.len=0+sm.len:=hl1;refine Ed EB uB (s:=s1) (x:=s) o1 (hs.ext e1) (Ph _) (by show (s1.len+s.len+(s1.len+s.len)/4+512)*1<=_;omega) e1.size λs2 w2 o2 hl2 u2 hb2=>?_;refine hK s2 w2 ?_ (e1.step u2 λk hk=>o1.Dh hk);have:bv (X.mark++b)=[]++bv X.mark++bv b:=(by simp);show Am w2 w.heap.size s2 5 1 (bv (X.mark++b));rw [this];exact o2
def An9 (A:RS w r R D N) (hN:N+6000<=2^40) (hn:n.size<2^62) (hs:By w s b) (hsR:∀k,s.blk k->¬R k) (hl:b.length<=2^20+1024){K:(Cells.T c56×Int×Unit)->Wp}
  (hK:∀R' w',RS w' r R' (Je D n b).1 (N+3000)->Upd R w w'->(∀k,R' k->R k\/w.heap.size<=k)->K (stT (Je D n b).2.2,(Je D n b).2.1,()) w') :
  Aa prog 225 #[dU r,.string n,s.v] (.tup [.agg c56,.one (.int .i64)]) K w:=by
 refine Dc8 ?_;unfold F225;have hbl:=Eh hs.x;refine Ag λb1 w1 e1 n1 hb1 hz1=>?_;(have nb1:¬R b1:=λhh=>by have:=A.lt _ hh;omega);have A1:=A.ext e1;have fin:∀{W:World} {R1:Nat->Prop} {st:Stm} {e:Int} {cl:Cells.T c56},RS W r R1 (Je D n b).1 (N+3000)->Upd R w1 W->(∀k,R1 k->R k\/w1.heap.size<=k)->(Je D n b).2=(e,st)->cl=stT st ->
   Ah (at0 b1) (.agg (Cells.vals c56 cl).toArray) 3 (lds c56 (at0 b1) λx=>K (x,e,())) W:=λ{W R1 st e cl} hA u hR he hcl=>by
  subst hcl
  have nR1:¬R1 b1:=λhh=>(hR _ hh).elim nb1 λhl=>by omega
  refine Ba (u.get n1 nb1) rfl rfl (by decide) λW2 u2 n2 z2=>Dp (x:=stT st) (by
   rw [Cc _ _ (by rfl)] at n2
   exact n2) (λi v hv=>Oz i v hv) ?_
  have hk:=hK R1 W2 (hA.frame u2 λk hk hh=>nR1 (hh▸hk)) (((Upd.Ae e1).trans u).new u2 λk hk hh=>by omega) (λk hk=>(hR k hk).imp id λhh=>by omega)
  rw [he] at hk
  exact hk
 have fin':∀{W:World} {R1:Nat->Prop} {st:Stm} {e:Int} {cl:Cells.T c56} {b3:Nat} {c:Array Value},RS W r R1 (Je D n b).1 (N+3000)->Upd R w1 W->(∀k,R1 k->R k\/w1.heap.size<=k)->(Je D n b).2=(e,st)->cl=stT st->W.heap[b3]?=some (.cells c 247 (0,0))->c[5]?=some (vI e)->b3≠b1 ->
   Ah (at0 b1) (.agg (Cells.vals c56 cl).toArray) 3 (keep (λw=>w.cell? (⟨b3,5,none⟩:Addr)=some (Cell.val (.int .i64) e)) (lds c56 (at0 b1) λx=>K (x,e,()))) W:=λ{W R1 st e cl b3 c} hA u hR he hcl h3 h5 h31=>by
  subst hcl
  have nR1:¬R1 b1:=λhh=>(hR _ hh).elim nb1 λhl=>by omega
  refine Ba (u.get n1 nb1) rfl rfl (by decide) λW2 u2 n2 z2=>Bc (cell_of (off:=5) (u2.get h3 h31) h5) (Dp (x:=stT st) (by
   rw [Cc _ _ (by rfl)] at n2
   exact n2) (λi v hv=>Oz i v hv) ?_)
  have hk:=hK R1 W2 (hA.frame u2 λk hk hh=>nR1 (hh▸hk)) (((Upd.Ae e1).trans u).new u2 λk hk hh=>by omega) (λk hk=>(hR k hk).imp id λhh=>by omega)
  rw [he] at hk
  exact hk
 unfold Je at hK fin fin';refine Bm9 A1 (by omega) hn λw2 R2 m2 s2 x1 x2 x3 k2 A2 u2 hR2=>Oe λb3 w3 e3 n3 hb3=>?_;(have nb3:b3≠b1:=by have:=u2.size;have:=lt_of_heap n1;omega);(have hb31:w1.heap.size<=b3:=by have:=u2.size;omega);obtain ⟨B,hB⟩:∃B,B=Ec D n:=⟨_,rfl⟩;rw [←hB] at hK fin fin';have hbg:B=if (Bz D n).2.1=163 then (if (Au (Bz D n).1 n).2.1=0 then ((Bz (Au (Bz D n).1 n).1 n).1,(Bz (Au (Bz D n).1 n).1 n).2.1) else ((Au (Bz D n).1 n).1,(Au (Bz D n).1 n).2.1)) else ((Bz D n).1,(Bz D n).2.1):=hB;have A3:=A2.ext e3;have u13:Upd R w1 w3:=u2.trans (Upd.Ae e3);have h01:=lt_of_heap n1;have l3:=lt_of_heap n3;refine Ai (λ_ W=>∃R' x,RS W r R' B.1 (N+10)/\Upd R w1 W/\(∀k,R' k->R k\/w1.heap.size<=k)/\W.heap[b3]?=some (.cells (Cells.vals Bq x).toArray 247 (0,0))/\x.2.2.2.2.2.1=B.2) ?_ ?_
 ·refine Af n3 (off:=5) (x:=(Bz D n).2.1) rfl (Ac (λh163=>?_) λh163=>?_)
  ·have h163:(Bz D n).2.1=163:=(by simpa using h163);rw [iK h163] at hbg;(have nb32:¬R2 b3:=λhh=>by have:=A2.lt _ hh;omega);refine I5 A3 (by omega) hn λw4 R4 m4 s4 y1 y2 y3 k4 A4 u4 hR4=>Oe λb8 w5 e5 n5 hb8=>Af n5 (off:=5) (x:=(Au (Bz D n).1 n).2.1) rfl (Ac (λh0=>?_) λh0=>?_);all_goals
    have z3:=u13.size
    have z4:=u4.size
    have hR4':=Gu hR2 hR4 (by have:=u2.size;have:=e3.size;omega)
    have u5:=(Hg u13 (λk hk=>hR2 k hk) u4).trans (Upd.Ae (S:=R) e5)
    have A5:=A4.ext e5
   {have h0:(Au (Bz D n).1 n).2.1≠0:=(by simpa using h0);rw [iP h0] at hbg;refine Az λw6 e6 _=>Af (e6.ext_get n5) (off:=5) (x:=(Au (Bz D n).1 n).2.1) rfl ?_;(have hB2:B.2≠0:=by rw [hbg];exact h0);rw [iK hB2] at fin';exact fin' (cl:=stT (0,0,0)) (by rw [hbg];exact (A5.ext e6).mono (by omega)) (u5.trans (Upd.Ae e6)) hR4' (by rw [hbg]) rfl (e6.ext_get n5) rfl (by omega)};{have h0:(Au (Bz D n).1 n).2.1=0:=(by simpa using h0);rw [iK h0] at hbg;have n35:w5.heap[b3]?=_:=e5.ext_get (u4.get n3 nb32);refine Bm9 A5 (by omega) hn λw6 R6 m6 s6 y1 y2 y3 k6 A6 u6 hR6=>?_;have nb34:¬R4 b3:=λhh=>(hR4 _ hh).elim nb32 λhl=>(by omega);refine Ba (u6.get n35 nb34) rfl rfl (by show 0+7<=7;decide) λw7 u7 n7 z7=>?_;rw [Cc _ _ (by rfl)] at n7;(have nb36:¬R6 b3:=λhh=>(hR6 _ hh).elim nb34 λhl=>by have:=e5.size;omega);exact ⟨R6,_,by rw [hbg];exact (A6.frame u7 λk hk hh=>nb36 (hh▸hk)).mono (by omega),(Hg u5 hR4' u6).new u7 λk hk hh=>by omega,Gu hR4' hR6 u5.size,n7,by rw [hbg]⟩}
  {have h163:(Bz D n).2.1≠163:=(by simpa using h163);rw [iP h163] at hbg;exact ⟨R2,_,by rw [hbg];exact A3.mono (by omega),u13,hR2,n3,by rw [hbg]⟩}
 rintro _ W ⟨R3,x3,A4,u4,hR4,n4,hx4⟩;refine Af n4 (off:=5) (x:=x3.2.2.2.2.2.1) rfl ?_;rw [hx4];refine Ac (λh0=>?_) λh0=>?_;{have h0:B.2≠0:=(by simpa using h0);rw [iK h0] at fin';refine Az λw6 e6 _=>Af (e6.ext_get n4) (off:=5) (x:=x3.2.2.2.2.2.1) rfl ?_;rw [hx4];exact fin' (cl:=stT (0,0,0)) ((A4.ext e6).mono (by omega)) (u4.trans (Upd.Ae e6)) hR4 rfl rfl (e6.ext_get n4) (by rw [←hx4];rfl) nb3};have h0:¬B.2≠0:=(by simpa using h0);rw [iP h0] at hK fin fin';obtain ⟨G,hG⟩:∃G,G=Vp n (Qa b.length b) B.1:=⟨_,rfl⟩;rw [←hG] at hK fin fin';have hsW:∀{W':World},Upd R w1 W'->By W' s b:=λu=>(hs.ext e1).upd u hsR;refine Ai (λ_ W=>∃R',RS W r R' G.1 (N+2500)/\Upd R w1 W/\(∀k,R' k->R k\/w1.heap.size<=k)/\G.2=0) ?_ ?_
 ·refine Bo (λst W=>∃(j:Nat) (R':Nat->Prop) (E:Dk),st=(((1024*j:Nat):Int),())/\1024*j<=b.length+1023/\G=Vp n (Qa (b.length-j) (b.drop (1024*j))) E/\RS W r R' E (N+10+2*j)/\Upd R w1 W/\(∀k,R' k->R k\/w1.heap.size<=k)) (λst _=>b.length-st.1.toNat)
   ⟨0,R3,B.1,rfl,by omega,hG,A4,u4,hR4⟩ ?_
  rintro _ W5 ⟨j,R5,E,rfl,hj,hE,A5,u5,hR5⟩;dsimp only;refine Ac (λhlt=>?_) λhge=>?_
  ·(have hlt:1024*j<b.length:=by have:=jY hlt;omega);have ew:W64 (((1024*j:Nat):Int)+1024)=((1024*(j+1):Nat):Int):=iD (by omega);rw [ew];obtain ⟨h,hh⟩:∃h:Nat,h=min b.length (1024*(j+1)):=⟨_,rfl⟩;have hh':(if ((s.len:Nat):Int)<((1024*(j+1):Nat):Int) then ((s.len:Nat):Int) else ((1024*(j+1):Nat):Int))=(h:Int):=(by split<;>omega);rw [hh'];have hs5:=hsW u5;have hcap:=hs5.le;refine Nr hs5 (by omega) (by omega) (by omega) (by omega) (by omega) λs6 hs6 hl6 _ hb6=>?_;obtain ⟨C,hC⟩:∃C,C=(b.drop (1024*j)).take 1024:=⟨_,rfl⟩;have hch:((bv b).drop (((1024*j:Nat):Int).toNat*1)).take (((h:Int).toNat-((1024*j:Nat):Int).toNat)*1)=bv C:=by
    rw [kH,kH,kX,kX,hC]
    show ((b.map _).drop (1024*j)).take (h-1024*j)=((b.drop (1024*j)).take 1024).map _
    rw [tK,vM]
    by_cases hc:1024*(j+1)<=b.length
    ·rw [show h-1024*j=1024 by omega]
    ·rw [sQ (by simp;omega),sQ (by simp;omega)]
   rw [hch] at hs6;(have hCl:C.length<=1024:=by rw [hC,nG];omega);have hcut:Qa (b.length-j) (b.drop (1024*j))=C::Qa (b.length-(j+1)) (b.drop (1024*(j+1))):=by
    rw [show b.length-j=(b.length-(j+1))+1 by omega]
    have hne:b.drop (1024*j)≠[]:=λhh=>by have:=lW List.length hh;rw [nH] at this;simp at this;omega
    show (if b.drop (1024*j)=[] then [] else (b.drop (1024*j)).take 1024::Qa (b.length-(j+1)) ((b.drop (1024*j)).drop 1024))=_
    rw [iP hne,qH,←hC];rfl
   rw [hcut] at hE;have hE:G=if (Bv E n C).2.1=0 then Vp n (Qa (b.length-(j+1)) (b.drop (1024*(j+1)))) (Bv E n C).1 else ((Bv E n C).1,(Bv E n C).2.1):=hE;refine Cg2 A5 (by omega) hn hs6.x (.inr λk hk=>⟨hs6.Ci hk,λhh=>(hR5 k hh).elim (hsR k (hb6 k hk)) λhl=>by have:=hs.Ci (hb6 k hk);have:=e1.size;omega⟩) (by omega) λw7 R7 m7 s7 y1 y2 y3 k7 A7 u7 hR7=>Oe λb22 w8 e8 n8 hb8=>Af n8 (off:=5) (x:=(Bv E n C).2.1) rfl (Ac (λh1=>?_) λh1=>?_);all_goals
    have z7:=u5.size
    have z8:=u7.size
    have hR7':=Gu hR5 hR7 z7
    have u8:=(Hg u5 hR5 u7).trans (Upd.Ae (S:=R) e8)
    have A8:=A7.ext e8
   {have h1:(Bv E n C).2.1≠0:=(by simpa using h1);rw [iP h1] at hE;(have hG2:G.2≠0:=by rw [hE];exact h1);rw [iK hG2] at fin';refine Az λw9 e9 _=>Af (e9.ext_get n8) (off:=5) (x:=(Bv E n C).2.1) rfl ?_;exact fin' (cl:=stT (0,0,0)) (by rw [hE];exact (A8.ext e9).mono (by omega)) (u8.trans (Upd.Ae e9)) hR7' (by rw [hE]) rfl (e9.ext_get n8) rfl (by omega)};{have h1:(Bv E n C).2.1=0:=(by simpa using h1);rw [iK h1] at hE;exact ⟨⟨j+1,R7,_,rfl,by omega,hE,A8.mono (by omega),u8,hR7'⟩,by show b.length-((1024*(j+1):Nat):Int).toNat<b.length-((1024*j:Nat):Int).toNat;omega⟩}
  ·(have hge:¬1024*j<b.length:=by have:=sK hge;omega);have hnil:∀q,Qa q (b.drop (1024*j))=[]:=λq=>by
    rw [vF (by omega)]
    cases q<;>rfl
   rw [hnil] at hE;have hE:G=(E,0):=hE;exact ⟨R5,by rw [hE];exact A5.mono (by omega),u5,hR5,by rw [hE]⟩
 rintro _ W6 ⟨R6,A6,u6,hR6,hG0⟩;rw [iP (λhh=>hh hG0)] at hK fin fin';obtain ⟨Y,hY⟩:∃Y,Y=Ef G.1 n:=⟨_,rfl⟩;refine Co1 A6 (by omega) hn λw7 R7 m7 s7 y1 y2 y3 k7 A7 u7 hR7=>Oe λb27 w8 e8 n8 hb8=>?_;rw [←hY] at hK fin fin' A7 n8;have z7:=u6.size;have z8:=u7.size;have hR7':=Gu hR6 hR7 z7;have u8:=(Hg u6 hR6 u7).trans (Upd.Ae (S:=R) e8);have A8:=A7.ext e8;have l8:=lt_of_heap n8;refine Af n8 (off:=5) (x:=Y.2.1) rfl (Ac (λh1=>?_) λh1=>?_);{have h1:Y.2.1≠0:=(by simpa using h1);rw [iK h1] at fin';refine Az λw9 e9 _=>Af (e9.ext_get n8) (off:=5) (x:=Y.2.1) rfl ?_;exact fin' (cl:=stT (0,0,0)) ((A8.ext e9).mono (by omega)) (u8.trans (Upd.Ae e9)) hR7' rfl rfl (e9.ext_get n8) rfl (by omega)};have h1:¬Y.2.1≠0:=(by simpa using h1);rw [iP h1] at hK fin fin';(have nb27:¬R7 b27:=λhh=>by have:=A7.lt _ hh;omega);refine Tn A8 (by omega) hn λw9 R9 m9 s9 k9 A9 u9 hR9=>?_;have hR9':=Gu hR7' hR9 u8.size;have nb9:¬R9 b27:=λhh=>(hR9 _ hh).elim nb27 λhl=>(by omega);refine Ba (u9.get n8 nb27) rfl rfl (by show 0+7<=7;decide) λw10 u10 n10 z10=>?_;rw [Cc _ _ (by rfl)] at n10;refine Az λw11 e11 _=>?_;have n11:=e11.ext_get n10;refine Dp (b:=b27) (off:=2) (x:=stT (Aj Y.1 n).2.2) n11 (λi v hv=>by
  match i,hv with
  |0,hv=>exact hv
  |1,hv=>exact hv
  |2,hv=>exact hv
  |i+3,hv=>cases hv) (Af n11 (off:=5) (x:=(Aj Y.1 n).2.1) rfl ?_)
 have u11:Upd R w1 w11:=((Hg u8 hR7' u9).new u10 λk hk hh=>by omega).trans (Upd.Ae e11);exact fin' (cl:=stT (Aj Y.1 n).2.2) (((A9.frame u10 λk hk hh=>nb9 (hh▸hk)).ext e11).mono (by omega)) u11 hR9' rfl rfl n11 rfl (by omega)
end
end Dq
end
section
namespace Dq
open Go Go.Vx Dsk Cdc Trx
section
variable {w w':World}
abbrev trT (s:Stm):Cells.T c56:=(s.1,s.2.1,s.2.2,())
def Aj3 (a b:Stm) (w:World):(Op.equalIn 10000 56 (.agg (Cells.vals c56 (trT a)).toArray) (.agg (Cells.vals c56 (trT b)).toArray)).run prog w=.ok (decide (a=b)) w:=by obtain ⟨j,hj,_⟩:=C3.Al8;have hu:prog.underlying 56=some (.array 3 3):=C56.und;have hc:prog.cellsOf 3=1:=(by kernel_rfl);rw [run_equalIn_array w 9999 _ _ hu hj,hc];obtain ⟨a1,a2,a3⟩:=a;obtain ⟨b1,b2,b3⟩:=b;have hI:∀x y:Int,(Op.equalIn 9999 3 (vI x) (vI y)).run prog w=.ok (x==y) w:=λx y=>uM w 9998 _ _ _ _ _ C3.und;have p0:∀(x y z:Int),(part 3 (Cells.vals c56 (trT (x,y,z))).toArray 0).run prog w=.ok (vI x) w:=λx y z=>Qc rfl;have p1:∀(x y z:Int),(part 3 (Cells.vals c56 (trT (x,y,z))).toArray 1).run prog w=.ok (vI y) w:=λx y z=>Qc rfl;have p2:∀(x y z:Int),(part 3 (Cells.vals c56 (trT (x,y,z))).toArray 2).run prog w=.ok (vI z) w:=λx y z=>Qc rfl;show (Op.eqItems 9999 3 1 _ _ [0,1,2]).run prog w=_;by_cases h1:a1=b1<;>by_cases h2:a2=b2<;>by_cases h3:a3=b3<;>simp [Op.eqItems,h1,h2,h3,hI,p0,p1,p2]
def Aj2 (op:BinOp) (o1 o2:Operand) (a b:Stm) (w:World):(eqGuard op 56 o1 o2 (.agg (Cells.vals c56 (trT a)).toArray) (.agg (Cells.vals c56 (trT b)).toArray)).run prog w=.ok () w:=run_eqGuard_agg w op 56 o1 o2 _ _ (by kernel_rfl)
def Cq7 {o1 o2:Operand}{a b:Stm}{K:Bool->Wp}(hK:K (decide (a=b)) w):rdB prog (do eqGuard .eql 56 o1 o2 (.agg (Cells.vals c56 (trT a)).toArray) (.agg (Cells.vals c56 (trT b)).toArray);binOp .eql 56 (.agg (Cells.vals c56 (trT a)).toArray) (.agg (Cells.vals c56 (trT b)).toArray):Sem Value) K w:=by refine ⟨decide (a=b),?_,hK⟩;have h:=run_eql_struct (P:=prog) w 56 (Cells.vals c56 (trT a)).toArray (Cells.vals c56 (trT b)).toArray;rw [Aj3] at h;dsimp only;rw [iH,Aj2 .eql o1 o2 a b w,iI,h];rfl
def Bb9 {o1 o2:Operand}{a b:Stm}{K:Bool->Wp}(hK:K (decide (a≠b)) w):rdB prog (do eqGuard .neq 56 o1 o2 (.agg (Cells.vals c56 (trT a)).toArray) (.agg (Cells.vals c56 (trT b)).toArray);binOp .neq 56 (.agg (Cells.vals c56 (trT a)).toArray) (.agg (Cells.vals c56 (trT b)).toArray):Sem Value) K w:=by refine ⟨decide (a≠b),?_,hK⟩;have h:=run_neq_struct (P:=prog) w 56 (Cells.vals c56 (trT a)).toArray (Cells.vals c56 (trT b)).toArray;rw [Aj3] at h;dsimp only;rw [iH,Aj2 .neq o1 o2 a b w,iI,h];show Result.ok (Value.bool !decide (a=b)) w=Result.ok (Value.bool (decide (a≠b))) w;rw [decide_not]
end
section
variable {w w':World}{S R R':Nat->Prop}{r:Nat}{D D':Dk}{N M:Nat}{n:Nm}{f:Nat}{X:Fil}{sm:Sl}{b:List UInt8}{s:Sl}
def Zh {s:Stm}(i:Nat) (v:Value) (h:(Cells.vals c56 (trT s))[i]?=some v):(Cells.vals c56 (trT s)).toArray[0+i]?=some v:=by rw [kY,←kQ];exact h
def Am1 (i:Nat) (v:Value) (h:(Cells.vals c56 (trT X.known))[i]?=some v):(Gg r X sm)[0+3+i]?=some v:=by
 match i,h with
 |0,h=>exact h
 |1,h=>exact h
 |2,h=>exact h
 |i+3,h=>cases h
def Bs0 (i:Nat) (v:Value) (h:(Cells.vals c56 (trT X.tried))[i]?=some v):(Gg r X sm)[0+6+i]?=some v:=by
 match i,h with
 |0,h=>exact h
 |1,h=>exact h
 |2,h=>exact h
 |i+3,h=>cases h
def An2 {m e k:Int}{s1:Sl}{st:Stm}(i:Nat) (v:Value) (h:(Cells.vals c56 (trT st))[i]?=some v):(Cells.vals Bq ((m,s1,st.1,st.2.1,st.2.2,e,k,()):Cells.T Bq)).toArray[2+i]?=some v:=by
 match i,h with
 |0,h=>exact h
 |1,h=>exact h
 |2,h=>exact h
 |i+3,h=>cases h
def Bn8 (A:RS w r R D N) (hN:N+6010<=2^40) (hn:n.size<=2^40) (hs:By w s b) (hsR:∀k,s.blk k->¬R k) (hl:b.length<=2^20+1024){K:(Cells.T c56×Bool×Int×Unit)->Wp}
  (hK:∀R' w',RS w' r R' (Ut D n b).1 (N+3010)->Upd R w w'->(∀k,R' k->R k\/w.heap.size<=k)->K (trT (Ut D n b).2.1,(Ut D n b).2.2.1,(Ut D n b).2.2.2,()) w') :
  Aa prog 216 #[dU r,.string n,s.v] (.tup [.agg c56,.one .bool,.one (.int .i64)]) K w:=by
 refine Dd4 ?_;unfold F216;simp only [Bj8];(have hsz:(side n).size=n.size+1:=by show (n.data.push 126).size=_;rw [Array.size_push];rfl);refine Ag λb1 w1 e1 n1 hb1 hz1=>Ea ?_ ?_;{have:(ByteArray.size ({ data:=#[126] }:ByteArray))=1:=rfl;rw [this,show IntKind.max .i64=9223372036854775807 by decide];omega};(have nb1:¬R b1:=λhh=>by have:=A.lt _ hh;omega);refine An9 (A.ext e1) (by omega) (by omega) (hs.ext e1) hsR hl λR2 w2 A2 u2 hR2=>Ag λb3 w3 e3 n3 hb3 hz3=>?_;unfold Ut at hK;obtain ⟨W,hW⟩:∃W,W=Je D (side n) b:=⟨_,rfl⟩;rw [←hW] at hK A2;simp only [←hW];refine Ba n3 rfl rfl (by decide) λw4 u4 n4 z4=>?_;have n4:w4.heap[b3]?=some (.cells (Cells.vals c56 (trT W.2.2)).toArray 56 (0,0)):=n4;obtain ⟨q,hq⟩:∃q:Dk×Int,q=if W.2.1=0 then ((Dc W.1 (side n) n).1,(Dc W.1 (side n) n).2.1) else (W.1,W.2.1):=⟨_,rfl⟩;have hK':∀R' w',RS w' r R' (if q.2≠0 then ((Au q.1 (side n)).1,W.2.2,false,q.2) else ((Bg q.1).1,W.2.2,true,(Bg q.1).2.1)).1 (N+3010)->Upd R w w'->(∀k,R' k->R k\/w.heap.size<=k)->K (trT (if q.2≠0 then ((Au q.1 (side n)).1,W.2.2,false,q.2) else ((Bg q.1).1,W.2.2,true,(Bg q.1).2.1)).2.1,(if q.2≠0 then ((Au q.1 (side n)).1,W.2.2,false,q.2) else ((Bg q.1).1,W.2.2,true,(Bg q.1).2.1)).2.2.1,(if q.2≠0 then ((Au q.1 (side n)).1,W.2.2,false,q.2) else ((Bg q.1).1,W.2.2,true,(Bg q.1).2.1)).2.2.2,()) w':=by
  rw [hq];exact hK
 clear hK;have z2:=u2.size;have e24:Ext w2 w4:=e3.step u4 λk hk=>(by omega);have u14:Upd R w1 w4:=u2.trans (Upd.Ae e24);(have nb3:¬R2 b3:=λhh=>by have:=A2.lt _ hh;omega);have l1:=lt_of_heap n1;refine Ai (λy Wd=>∃R',y=(q.2,())/\RS Wd r R' q.1 (N+3006)/\Upd R w1 Wd/\(∀k,R' k->R k\/w1.heap.size<=k)/\¬R' b3/\Wd.heap[b3]?=some (.cells (Cells.vals c56 (trT W.2.2)).toArray 56 (0,0))) ?_ ?_;{refine Ac (λh0=>?_) λh0=>?_;{have h0:W.2.1=0:=(by simpa using h0);rw [iK h0] at hq;refine An5 (A2.ext e24) (by omega) (by omega) (by omega) λw5 R5 m5 s5 y1 y2 y3 k5 A5 u5 hR5=>Oe λb7 w6 e6 n6 _=>Af n6 (off:=5) (x:=(Dc W.1 (side n) n).2.1) rfl ?_;exact ⟨R5,by rw [hq],by rw [hq];exact (A5.ext e6).mono (by omega),(Hg u14 (λk hk=>hR2 k hk) u5).trans (Upd.Ae e6),Gu hR2 hR5 u14.size,λhh=>(hR5 _ hh).elim nb3 λhl=>by have:=lt_of_heap n4;omega,e6.ext_get (u5.get n4 nb3)⟩};{have h0:W.2.1≠0:=(by simpa using h0);rw [iP h0] at hq;exact ⟨R2,by rw [hq],by rw [hq];exact (A2.ext e24).mono (by omega),u14,hR2,nb3,n4⟩}};rintro _ W5 ⟨R5,rfl,A5,u5,hR5,nb5,n5⟩;have fin:∀{Wd:World} {R1:Nat->Prop} {st:Stm},Upd R w1 Wd->(∀k,R1 k->R k\/w1.heap.size<=k)->∀{J:Cells.T c56->Wp},(∀Wd',Upd (λk=>k=b1) Wd Wd'->J (trT st) Wd')->Ah (at0 b1) (.agg (Cells.vals c56 (trT st)).toArray) 3 (lds c56 (at0 b1) J) Wd:=λ{Wd R1 st} u hR {J} hJ=>by
  refine Ba (u.get n1 nb1) rfl rfl (by decide) λW2 u2 n2 z2=>Dp (x:=trT st) (by
   rw [Cc _ _ (by rfl)] at n2
   exact n2) (λi v hv=>Zh i v hv) (hJ W2 u2)
 refine Ac (λh0=>?_) λh0=>?_;{have h0:q.2≠0:=(by simpa using h0);rw [iK h0] at hK';refine I5 A5 (by omega) (by omega) λw6 R6 m6 s6 y1 y2 y3 k6 A6 u6 hR6=>Dp (x:=trT W.2.2) (u6.get n5 nb5) (λi v hv=>Zh i v hv) ?_;have u16:=Hg u5 hR5 u6;have hR6':=Gu hR5 hR6 u5.size;have nR6:¬R6 b1:=λhh=>(hR6' _ hh).elim nb1 λhl=>(by omega);exact fin u16 hR6' λW7 u7=>hK' R6 W7 ((A6.frame u7 λk hk hh=>nR6 (hh▸hk)).mono (by omega)) (((Upd.Ae e1).trans u16).new u7 λk hk hh=>by omega) λk hk=>(hR6' k hk).imp id λhh=>by omega}
 ·have h0:¬q.2≠0:=(by simpa using h0);rw [iP h0] at hK';refine Ag9 A5 (by omega) λw6 R6 m6 s6 y1 y2 y3 k6 A6 u6 hR6=>Oe λb13 w7 e7 n7 hb7=>Az λw8 e8 _=>?_;have n78:=e8.ext_get n7;have u16:=((Hg u5 hR5 u6).trans (Upd.Ae (S:=R) e7)).trans (Upd.Ae (S:=R) e8);have hR6':=Gu hR5 hR6 u5.size;have nR6:¬R6 b1:=λhh=>(hR6' _ hh).elim nb1 λhl=>(by omega);refine Dp (x:=trT W.2.2) (e8.ext_get (e7.ext_get (u6.get n5 nb5))) (λi v hv=>Zh i v hv) (Af n78 (off:=5) (x:=(Bg q.1).2.1) rfl ?_);have hz:=u5.size;have hz6:=u6.size;refine Ba (u16.get n1 nb1) rfl rfl (by decide) λW9 u9 n9 z9=>Bc (cell_of (off:=5) (u9.get n78 (by omega)) rfl) (Dp (x:=trT W.2.2) (by
   rw [Cc _ _ (by rfl)] at n9
   exact n9) (λi v hv=>Zh i v hv) ?_)
  exact hK' R6 W9 ((((A6.ext e7).ext e8).frame u9 λk hk hh=>nR6 (hh▸hk)).mono (by omega)) (((Upd.Ae e1).trans u16).new u9 λk hk hh=>by omega) λk hk=>(hR6' k hk).imp id λhh=>by omega
end
end Dq
end
section
namespace Dq
open Go Go.Vx Dsk Cdc Trx
section
variable {w w':World}{S R R':Nat->Prop}{r:Nat}{D D':Dk}{N M:Nat}{n:Nm}{f:Nat}{X:Fil}{sm:Sl}{b:List UInt8}{s:Sl}
abbrev Cu8 (m:Int) (s1:Sl) (st:Stm) (e k:Int):Array Value:=(Cells.vals Bq ((m,s1,st.1,st.2.1,st.2.2,e,k,()):Cells.T Bq)).toArray
abbrev Bi4 (w:World) (r:Nat) (R:Nat->Prop) (f:Nat) (X:Fil) (sm:Sl) (N:Nat) (z:Dk×Stm×Bool×Int) (b42:Nat) (W:World):Prop :=
 ∃R',RS W r R' z.1 (N+3020)/\GS W f r X sm R'/\Upd R w W/\(∀k,R' k->R k\/w.heap.size<=k)/\¬R' b42/\w.heap.size<=b42/\W.heap[b42]?=some (.cells (Cells.vals c56 (trT z.2.1)).toArray 56 (0,0))
def Bn2 (hX:GS w f r X sm R) (hs:Bytes w s b) (hl:b.length<=2^20){W:World}(e:Ext w W){J:Sl->Wp}(hJ:∀x W',Dl W' w.heap.size x (X.mark++b)->Ext w W'->Ext W W'->J x W') :
  Aa prog 217 #[dU f,s.v] rS J W :=
 Bn9 (hX.ext e) (hs.ext e) (by omega) λs' W' o e'=>hJ s' W' (o.mono e.size) (e.trans e') e'
def Ak4 (A:RS w r R D N) (hN:N+6010<=2^40) (hX:GS w f r X sm R) (hn:n.size<=2^40) (hl:b.length<=2^20){W:World}(e:Ext w W){x:Sl}(o:Dl W w.heap.size x (X.mark++b)){J:(Cells.T c56×Bool×Int×Unit)->Wp}
  (hJ:∀R' W',RS W' r R' (Ut D n (X.mark++b)).1 (N+3010)->Upd R W W'->(∀k,R' k->R k\/W.heap.size<=k)->J (trT (Ut D n (X.mark++b)).2.1,(Ut D n (X.mark++b)).2.2.1,(Ut D n (X.mark++b)).2.2.2,()) W') :
  Aa prog 216 #[dU r,.string n,x.v] (.tup [.agg c56,.one .bool,.one (.int .i64)]) J W :=
 Bn8 (A.ext e) hN hn o.in (λk hk hh=>by have:=o.Dh hk;have:=A.lt k hh;omega) (by have:=hX.small;rw [oC];omega) hJ
def Wj {z:Dk×Stm×Bool×Int}(A:RS w r R D N) (hX:GS w f r X sm R){W W1:World}{R1:Nat->Prop}(e:Ext w W) (A1:RS W1 r R1 z.1 (N+3010)) (u:Upd R W W1) (hR:∀k,R1 k->R k\/W.heap.size<=k){b42:Nat}{c:Array Value}{W2:World}(e2:Ext W1 W2) (hb:W2.heap[b42]?=some (.cells c 56 (0,0))) (hc:c.size=3) (hge:w.heap.size<=b42) (hnR:¬R1 b42){J:World->Prop}(hJ:∀W,Bi4 w r R f X sm N z b42 W->J W) :
  Ah (at0 b42) (.agg (Cells.vals c56 (trT z.2.1)).toArray) 3 J W2:=by refine Ba hb rfl rfl (by omega) λW3 u3 n3 z3=>hJ W3 ?_;rw [Cc _ _ (by rw [hc];rfl)] at n3;have uw:Upd R w W2:=((Upd.Ae e).trans u).trans (Upd.Ae e2);(have hR':∀k,R1 k->R k\/w.heap.size<=k:=λk hk=>(hR k hk).imp id λhh=>by have:=e.size;omega);exact ⟨R1,((A1.ext e2).frame u3 λk hk hh=>hnR (hh▸hk)).mono (by omega),(hX.step uw hR').frame u3 (λhh=>by have:=lt_of_heap hX.box;omega) (λk hk hh=>by have:=hX.mkr.Ci hk;omega) (λ_=>.inl),uw.new u3 λk hk hh=>by omega,hR',hnR,hge,n3⟩
def Ab4 (A:RS w r R D N) (hN:N+6020<=2^40) (hX:GS w f r X sm R) (hs:Bytes w s b) (hsR:Lie (λk=>¬R k/\k≠f) s) (hl:b.length<=2^20){force:Bool}{K:Int->Wp}
  (hK:∀R' w',RS w' r R' (Ns D X b force).1 (N+5004)->GS w' f r (Ns D X b force).2.2 sm R'->Upd (λk=>R k\/k=f) w w'->(∀k,R' k->R k\/w.heap.size<=k)->K (Ns D X b force).2.1 w') :
  Aa prog 186 #[dU f,s.v,.bool force] rI K w:=by
 refine Df5 ?_;unfold F186;have hst:=Au4 (D:=D) (n:=X.name);obtain ⟨q,hq⟩:∃q,q=Aj D X.name:=⟨_,rfl⟩;obtain ⟨kn,hkn⟩:∃kn,kn=if q.2.1=0/\q.2.2=X.tried then q.2.2 else X.known:=⟨_,rfl⟩;have hsv:Ns D X b force=if q.2.1≠0/\q.2.1≠162 then (q.1,q.2.1,X) else
   if force=false/\q.2.2≠kn then (q.1,170,{ X with known:=kn }) else
   ((Fb q.1 X.name (X.mark++b) X.tried kn).1,(Fb q.1 X.name (X.mark++b) X.tried kn).2.1,{ X with tried:=(Fb q.1 X.name (X.mark++b) X.tried kn).2.2.1,known:=(Fb q.1 X.name (X.mark++b) X.tried kn).2.2.2 }):=by
  rw [hkn,hq];rfl
 rw [hsv] at hK;have hnm:=hX.name;have lf:=lt_of_heap hX.box;refine Ai (λy W=>∃b7 R' m s1 k,y=(at0 b7,())/\RS W r R' q.1 (N+2)/\Upd R w W/\(∀k,R' k->R k\/w.heap.size<=k)/\¬R' b7/\w.heap.size<=b7/\W.heap[b7]?=some (.cells (Cu8 m s1 q.2.2 q.2.1 k) 247 (0,0))) ?_ ?_;{refine Az λw1 e1 _=>Ad ?_;have X1:=hX.ext e1;have A1:=A.ext e1;refine Af X1.box (off:=0) (x:=some (at0 r)) rfl (Ad ?_);rw [addr_add];refine Af X1.box (off:=0+1) (x:=X.name) rfl ⟨?_,?_⟩;{refine Ag λb7 w2 e2 n2 hb2 hz2=>Bc (cell_of (off:=0+1) (e2.ext_get X1.box) rfl) (Bc (cell_of (off:=0) (e2.ext_get X1.box) rfl) (Tn (A1.ext e2) (by omega) (by omega) λw3 R3 m s4 k A3 u3 hR3=>?_));rw [←hq] at A3;have hR3':∀k,R3 k->R k\/w2.heap.size<=k:=hR3;(have nb:¬R b7:=λhh=>by have:=A1.lt _ hh;omega);have nb3:¬R3 b7:=λhh=>(hR3 _ hh).elim nb λhl=>(by omega);refine Ba (u3.get n2 nb) rfl rfl (by show 0+7<=7;decide) λw4 u4 n4 z4=>?_;rw [Cc _ _ (by rfl)] at n4;have z1:=e1.size;exact ⟨b7,R3,m,s4,k,rfl,A3.frame u4 λk hk hh=>nb3 (hh▸hk),(((Upd.Ae (e1.trans e2)).trans u3)).new u4 λk hk hh=>by omega,λk hk=>(hR3 k hk).imp id λhh=>by omega,nb3,by omega,by rw [hq];exact n4⟩};{refine Tn A1 (by omega) (by omega) λw3 R3 m s4 k A3 u3 hR3=>⟨?_,trivial⟩;rw [←hq] at A3;have X3:=X1.step u3 hR3;refine Ag λb10 w4 e4 n4 hb4 hz4=>Bc (cell_of (off:=0+1) (e4.ext_get X3.box) rfl) (Bc (cell_of (off:=0) (e4.ext_get X3.box) rfl) (Ba n4 rfl rfl (by decide) λw5 u5 n5 z5=>?_));rw [Cc _ _ (by rfl)] at n5;(have nb3:¬R3 b10:=λhh=>by have:=A3.lt _ hh;omega);have z1:=e1.size;have z3:=u3.size;exact ⟨b10,R3,m,s4,k,rfl,(A3.ext e4).frame u5 λk hk hh=>nb3 (hh▸hk),((Upd.Ae e1).trans (u3.trans (Upd.Ae e4))).new u5 λk hk hh=>by omega,λk hk=>(hR3 k hk).imp id λhh=>by omega,nb3,by omega,by rw [hq];exact n5⟩}};rintro _ w1 ⟨b7,R1,m,s1,k1,rfl,A1,u1,hR1,nb7,hb7,n7⟩;rw [←hq] at hst;dsimp only;have X1:=hX.step u1 hR1;have l7:=lt_of_heap n7;have z1:=u1.size;have lf1:=lt_of_heap X1.box;have u1f:Upd (λk=>R k\/k=f) w w1:=u1.mono λk _ hk=>.inl hk;have hd7:b7≠f:=(by omega);simp only [show (at0 b7).add 5=(⟨b7,0+5,none⟩:Addr) from addr_add ..,show (at0 b7).add 2=(⟨b7,0+2,none⟩:Addr) from addr_add ..];have l5:∀{W:World} {K:Int->Wp},W.heap[b7]?=some (.cells (Cu8 m s1 q.2.2 q.2.1 k1) 247 (0,0))->K q.2.1 W->ld (.int .i64) (⟨b7,0+5,none⟩:Addr) K W:=λhb hk=>Af hb (off:=0+5) (x:=q.2.1) rfl hk;refine Ar (decide (q.2.1≠0/\q.2.1≠162),()) (l5 n7 (Ac (λh0=>l5 n7 ⟨Di ?_,rfl⟩) λh0=>⟨Di ?_,rfl⟩)) (Ac (λhc=>?_) λhc=>?_);{have h0:q.2.1≠0:=(by simpa using h0);simp [h0]};{have h0:q.2.1=0:=(by simpa using h0);simp [h0]};{have hc:=jY hc;rw [iK hc] at hK;exact l5 n7 (hK R1 w1 (A1.mono (by omega)) X1 u1f hR1)};have hc:=sK hc;rw [iP hc] at hK;refine Ag λb16 w2 e2 n2 hb2 hz2=>Ba n2 rfl rfl (by decide) λw3 u3 n3 z3=>?_;have n3:w3.heap[b16]?=some (.cells (Cells.vals c56 (trT (0,0,0))).toArray 56 (0,0)):=n3;have e13:Ext w1 w3:=e2.step u3 λk hk=>(by omega);have A3:=A1.ext e13;have X3:=X1.ext e13;have n73:=e13.ext_get n7;have l16:=lt_of_heap n3;have hd16:b16≠f:=(by omega);have ls2:∀{W:World} {K:Cells.T c56->Wp},W.heap[b7]?=some (.cells (Cu8 m s1 q.2.2 q.2.1 k1) 247 (0,0))->K (trT q.2.2) W->lds c56 (⟨b7,0+2,none⟩:Addr) K W:=λhb hk=>Dp (off:=0+2) (x:=trT q.2.2) hb (λi v hv=>An2 i v hv) hk;have ls16:∀{W:World} {K:Cells.T c56->Wp},W.heap[b16]?=some (.cells (Cells.vals c56 (trT (0,0,0))).toArray 56 (0,0))->K (trT (0,0,0)) W->lds c56 (at0 b16) K W:=λhb hk=>Dp (x:=trT (0,0,0)) hb (λi v hv=>Zh i v hv) hk;refine Ai (λ_ W=>GS W f r { X with known:=kn } sm R1/\Upd (λk=>k=f) w3 W) ?_ ?_
 ·refine Ai (λy W=>y=(decide (q.2.2≠(0,0,0)/\q.2.2=X.tried),())/\Ext w3 W) ?_ ?_;{refine Az λw4 e4 _=>ls2 (e4.ext_get n73) (ls16 (e4.ext_get n3) (Bb9 (Ac (λh0=>ls2 (e4.ext_get n73) (Ad ?_)) λh0=>⟨Di ?_,e4⟩)));{rw [addr_add];refine Dp (off:=0+6) (x:=trT X.tried) (X3.ext e4).box (λi v hv=>Bs0 i v hv) (Cq7 ⟨Di ?_,e4⟩);have h0:=jY h0;simp [h0]};{have h0:=sK h0;simp only [Decidable.not_not] at h0;simp [h0]}};rintro _ w4 ⟨rfl,e4⟩;have hkn':kn=if q.2.2≠(0,0,0)/\q.2.2=X.tried then q.2.2 else X.known:=by
   rw [hkn];simp only [hst]
  refine Ac (λh0=>?_) λh0=>?_;{have h0:=jY h0;rw [iK h0] at hkn';refine ls2 (e4.ext_get n73) (Ad ?_);rw [addr_add];refine Ba (X3.ext e4).box rfl rfl (by show 0+3+3<=9;decide) λw5 u5 n5 z5=>?_;(have n5:w5.heap[f]?=some (.cells (Gg r { X with known:=kn } sm) 245 (0,0)):=by rw [hkn'];exact n5);exact ⟨(X3.ext e4).set u5 n5 rfl hnm,(Upd.Ae e4).trans u5⟩};{have h0:=sK h0;rw [iP h0] at hkn';rw [hkn'];exact ⟨X3.ext e4,Upd.Ae e4⟩}
 rintro _ w4 ⟨X4,u4⟩;have A4:=A3.frame u4 λk hk hh=>X3.nf (hh▸hk);have n74:=u4.get n73 hd7;have n4:=u4.get n3 hd16;have u14:Upd (λk=>R k\/k=f) w w4:=(u1f.trans (Upd.Ae e13)).trans (u4.mono λk _ hk=>.inr hk);refine Ai (λy W=>y=(decide (force=false/\q.2.2≠kn),())/\Ext w4 W) ?_ ?_;{refine Az λw5 e5 _=>Ac (λh0=>ls2 (e5.ext_get n74) (Ad ?_)) λh0=>⟨Di ?_,e5⟩;{rw [addr_add];refine Dp (off:=0+3) (x:=trT kn) (X4.ext e5).box (λi v hv=>Am1 (X:={ X with known:=kn }) i v hv) (Bb9 ⟨Di ?_,e5⟩);have h0:force=false:=(by simpa using h0);simp [h0]};{have h0:force=true:=(by simpa using h0);simp [h0]}};rintro _ w5 ⟨rfl,e5⟩;have A5:=A4.ext e5;have X5:=X4.ext e5;have n55:=e5.ext_get n4;have u15:=u14.trans (Upd.Ae (S:=λk=>R k\/k=f) e5);refine Ac (λhc2=>?_) λhc2=>?_;{have hc2:=jY hc2;rw [iK hc2] at hK;exact hK R1 w5 (A5.mono (by omega)) X5 u15 hR1};have hc2:=sK hc2;rw [iP hc2,Ai5] at hK;obtain ⟨z,hz⟩:∃z,z=Ut q.1 X.name (X.mark++b):=⟨_,rfl⟩;rw [←hz] at hK;have z5:=u15.size;have hs5:Bytes w5 s b:=SlX.Yd hs hsR u15 λk hP hh=>hh.elim hP.1 hP.2;have X5':GS w5 f r { X with known:=kn } sm R1:=X5;refine Ai (λy W=>∃b42,y=(at0 b42,z.2.2.1,z.2.2.2,())/\Bi4 w5 r R1 f { X with known:=kn } sm (N+2) z b42 W) ?_ ?_;{refine Az λw6 e6 _=>Ad ?_;have X6:=X5.ext e6;refine Af X6.box (off:=0) (x:=some (at0 r)) rfl (Ad ?_);rw [addr_add];refine Af X6.box (off:=0+1) (x:=X.name) rfl ?_;have kp:∀{W:World} {J:World->Prop},Ext w5 W->J W->keep (λw=>w.cell? (⟨f,0+1,none⟩:Addr)=some (Cell.val .str X.name)) (keep (λw=>w.cell? (at0 f)=some (Cell.val .ptr (some (at0 r)))) J) W:=λe hj=>Bc (cell_of (off:=0+1) (e.ext_get X5.box) rfl) (Bc (cell_of (off:=0) (e.ext_get X5.box) rfl) hj);have kpu:∀{W1 W:World} {J:World->Prop},Ext w5 W1->Upd R1 W1 W->J W->keep (λw=>w.cell? (⟨f,0+1,none⟩:Addr)=some (Cell.val .str X.name)) (keep (λw=>w.cell? (at0 f)=some (Cell.val .ptr (some (at0 r)))) J) W:=λe u hj=>Bc (cell_of (off:=0+1) (u.get (e.ext_get X5.box) X5.nf) rfl) (Bc (cell_of (off:=0) (u.get (e.ext_get X5.box) X5.nf) rfl) hj);refine ⟨?_,?_⟩;{refine Ag λb42 w7 e7 n7 hb7 hz7=>kp (e6.trans e7) (Bn2 X5' hs5 hl (e6.trans e7) λx w8 o8 e8 e78=>kp e8 (Ak4 A5 (by omega) X5' hnm hl e8 o8 λR9 w9 A9 u9 hR9=>?_));rw [←hz] at A9 ⊢;have z7:=e6.size;(have nb:¬R1 b42:=λhh=>by have:=A5.lt _ hh;omega);have l7:=lt_of_heap (e78.ext_get n7);exact Wj A5 X5' e8 A9 u9 hR9 (Ext.refl _) (u9.get (e78.ext_get n7) nb) rfl (by omega) (λhh=>(hR9 _ hh).elim nb λhl=>by omega) λW h=>⟨b42,rfl,h⟩};{refine Bn2 X5' hs5 hl e6 λx w8 o8 e8 _=>kp e8 ⟨?_,?_⟩;{refine Ag λb46 w9 e9 n9 hb9 hz9=>kp (e8.trans e9) (Ak4 A5 (by omega) X5' hnm hl (e8.trans e9) (o8.ext e9) λR9 w10 A10 u10 hR10=>?_);rw [←hz] at A10 ⊢;have z8:=e8.size;(have nb:¬R1 b46:=λhh=>by have:=A5.lt _ hh;omega);exact Wj A5 X5' (e8.trans e9) A10 u10 hR10 (Ext.refl _) (u10.get n9 nb) rfl (by omega) (λhh=>(hR10 _ hh).elim nb λhl=>by omega) λW h=>⟨b46,rfl,h⟩};{refine Ak4 A5 (by omega) X5' hnm hl e8 o8 λR9 w9 A9 u9 hR9=>⟨?_,trivial⟩;rw [←hz] at A9 ⊢;refine Ag λb49 w10 e10 n10 hb10 hz10=>kpu e8 (u9.trans (Upd.Ae e10)) ?_;have z8:=e8.size;have z9:=u9.size;exact Wj A5 X5' e8 A9 u9 hR9 e10 n10 rfl (by omega) (λhh=>by have:=A9.lt _ hh;omega) λW h=>⟨b49,rfl,h⟩}}};rintro _ w6 ⟨b42,rfl,R6,A6,X6,u6,hR6,nb42,hb42,n42⟩;dsimp only;(have hd42:b42≠f:=by have:=lt_of_heap X5.box;omega);have ls42:∀{W:World} {K:Cells.T c56->Wp},W.heap[b42]?=some (.cells (Cells.vals c56 (trT z.2.1)).toArray 56 (0,0))->K (trT z.2.1) W->lds c56 (at0 b42) K W:=λhb hk=>Dp (x:=trT z.2.1) hb (λi v hv=>Zh i v hv) hk;(have nb16:¬R1 b16:=λhh=>by have:=A1.lt _ hh;omega);have n56:=u6.get n55 nb16;refine Ai (λ_ W=>GS W f r { X with known:=kn,tried:=if z.2.1≠(0,0,0) then z.2.1 else X.tried } sm R6/\Upd (λk=>k=f) w6 W) ?_ ?_;{refine ls42 n42 (ls16 n56 (Bb9 (Ac (λh0=>ls42 n42 (Ad ?_)) λh0=>?_)));{have h0:=jY h0;rw [addr_add];refine Ba X6.box rfl rfl (by show 0+6+3<=9;decide) λw7 u7 n7 z7=>?_;have n7:w7.heap[f]?=some (.cells (Gg r { X with known:=kn,tried:=z.2.1 } sm) 245 (0,0)):=n7;rw [iK h0];exact ⟨X6.set u7 n7 rfl hnm,u7⟩};{have h0:=sK h0;rw [iP h0];exact ⟨X6,Upd.refl _ _⟩}};rintro _ w7 ⟨X7,u7⟩;have n427:=u7.get n42 hd42;refine Ai (λ_ W=>GS W f r { X with known:=if z.2.2.1=true then z.2.1 else kn,tried:=if z.2.1≠(0,0,0) then z.2.1 else X.tried } sm R6/\Upd (λk=>k=f) w7 W) ?_ ?_;{refine Ac (λh0=>ls42 n427 (Ad ?_)) λh0=>?_;{rw [addr_add];refine Ba X7.box rfl rfl (by show 0+3+3<=9;decide) λw8 u8 n8 z8=>?_;have n8:w8.heap[f]?=some (.cells (Gg r { X with known:=z.2.1,tried:=if z.2.1≠(0,0,0) then z.2.1 else X.tried } sm) 245 (0,0)):=n8;rw [iK h0];exact ⟨X7.set u8 n8 rfl hnm,u8⟩};{rw [iP (by rw [h0];simp)];exact ⟨X7,Upd.refl _ _⟩}};rintro _ w8 ⟨X8,u8⟩;have u68:=u7.trans u8;refine hK R6 w8 ((A6.frame u68 λk hk hh=>X6.nf (hh▸hk)).mono (by omega)) X8 ?_ (Gu hR1 hR6 z5);exact (u15.new u6 λk hk hh=>(hR1 k hh).elim .inl λhl=>by omega).trans (u68.mono λk _ hk=>.inr hk)
def Bb2 (A:RS w r R D N) (hN:N+6020<=2^40) (hX:GS w f r X sm R) (hn:n.size<=2^40) (hs:Bytes w s b) (hsR:Lie (λk=>¬R k/\k≠f) s) (hl:b.length<=2^20){force:Bool}{K:Int->Wp}
  (hK:∀R' w',RS w' r R' (Pj D X n b force).1 (N+5004)->GS w' f r (Pj D X n b force).2.2 sm R'->Upd (λk=>R k\/k=f) w w'->(∀k,R' k->R k\/w.heap.size<=k)->K (Pj D X n b force).2.1 w') :
  Aa prog 187 #[dU f,.string n,s.v,.bool force] rI K w:=by refine Df4 ?_;unfold F187;unfold Pj at hK;refine Ua (by omega) (Ac (λhu=>?_) λhu=>Ad ?_);{have hu:userName n=false:=(by simpa using hu);rw [iK hu] at hK;exact hK R w (A.mono (by omega)) hX (Upd.refl _ _) λk hk=>.inl hk};have hu:¬userName n=false:=(by simpa using hu);rw [iP hu] at hK;rw [addr_add];refine Af hX.box (off:=0+1) (x:=X.name) rfl ?_;rw [bytes_eq];refine Ac (λhe=>?_) λhe=>Ad ?_;{have he:n=X.name:=jY he;rw [iK he] at hK;exact Ab4 A hN hX hs hsR hl hK};have he:¬n=X.name:=sK he;rw [iP he] at hK;obtain ⟨q,hq⟩:∃q,q=Aj D n:=⟨_,rfl⟩;rw [←hq] at hK;dsimp only at hK;refine Af hX.box (off:=0) (x:=some (at0 r)) rfl (Tn A (by omega) (by omega) λw1 R1 m s4 k A1 u1 hR1=>Oe λb8 w2 e2 n2 _=>?_);rw [←hq] at A1 n2;have A2:=A1.ext e2;have X2:=(hX.step u1 hR1).ext e2;have u12:=u1.trans (Upd.Ae (S:=R) e2);have u2f:Upd (λk=>R k\/k=f) w w2:=u12.mono λk _ hk=>.inl hk;have l5:∀{K:Int->Wp},K q.2.1 w2->ld (.int .i64) (⟨b8,5,none⟩:Addr) K w2:=λhk=>Af n2 (off:=5) (x:=q.2.1) rfl hk;refine Ar (decide (q.2.1≠0/\q.2.1≠162),()) (l5 (Ac (λh0=>l5 ⟨Di ?_,rfl⟩) λh0=>⟨Di ?_,rfl⟩)) (Ac (λhc=>?_) λhc=>?_);{have h0:q.2.1≠0:=(by simpa using h0);simp [h0]};{have h0:q.2.1=0:=(by simpa using h0);simp [h0]};{have hc:=jY hc;rw [iP (λhh=>hc.1 hh.1),iK hc] at hK;exact l5 (hK R1 w2 (A2.mono (by omega)) X2 u2f hR1)};have hc:=sK hc;refine Ar (decide (q.2.1=0/\force=false),()) (l5 (Ac (λh0=>⟨Di ?_,rfl⟩) λh0=>⟨Di ?_,rfl⟩)) (Ac (λhc2=>?_) λhc2=>?_);{have h0:q.2.1=0:=(by simpa using h0);cases force<;>simp [h0]};{have h0:q.2.1≠0:=(by simpa using h0);simp [h0]};{have hc2:=jY hc2;rw [iK hc2] at hK;exact hK R1 w2 (A2.mono (by omega)) X2 u2f hR1};have hc2:=sK hc2;rw [iP hc2,iP hc,Ai5] at hK;obtain ⟨z,hz⟩:∃z,z=Ut q.1 n (X.mark++b):=⟨_,rfl⟩;rw [←hz] at hK;have z2:=u12.size;have hs2:Bytes w2 s b:=SlX.Yd hs hsR u12 λk hP=>hP.1;refine Ai (λy W=>∃b42,y=(z.2.2.2,())/\Bi4 w2 r R1 f X sm (N+2) z b42 W) ?_ ?_;{refine Az λw6 e6 _=>Ad ?_;have X6:=X2.ext e6;refine Af X6.box (off:=0) (x:=some (at0 r)) rfl ?_;have kp:∀{W:World} {J:World->Prop},Ext w2 W->J W->keep (λw=>w.cell? (at0 f)=some (Cell.val .ptr (some (at0 r)))) J W:=λe hj=>Bc (cell_of (off:=0) (e.ext_get X2.box) rfl) hj;have kpu:∀{W1 W:World} {J:World->Prop},Ext w2 W1->Upd R1 W1 W->J W->keep (λw=>w.cell? (at0 f)=some (Cell.val .ptr (some (at0 r)))) J W:=λe u hj=>Bc (cell_of (off:=0) (u.get (e.ext_get X2.box) X2.nf) rfl) hj;refine ⟨?_,?_⟩;{refine Ag λb42 w7 e7 n7 hb7 hz7=>kp (e6.trans e7) (Bn2 X2 hs2 hl (e6.trans e7) λx w8 o8 e8 e78=>kp e8 (Ak4 A2 (by omega) X2 hn hl e8 o8 λR9 w9 A9 u9 hR9=>?_));rw [←hz] at A9 ⊢;have z7:=e6.size;(have nb:¬R1 b42:=λhh=>by have:=A2.lt _ hh;omega);have l7:=lt_of_heap (e78.ext_get n7);exact Wj A2 X2 e8 A9 u9 hR9 (Ext.refl _) (u9.get (e78.ext_get n7) nb) rfl (by omega) (λhh=>(hR9 _ hh).elim nb λhl=>by omega) λW h=>⟨b42,rfl,h⟩};{refine Bn2 X2 hs2 hl e6 λx w8 o8 e8 _=>kp e8 ⟨?_,?_⟩;{refine Ag λb46 w9 e9 n9 hb9 hz9=>kp (e8.trans e9) (Ak4 A2 (by omega) X2 hn hl (e8.trans e9) (o8.ext e9) λR9 w10 A10 u10 hR10=>?_);rw [←hz] at A10 ⊢;have z8:=e8.size;(have nb:¬R1 b46:=λhh=>by have:=A2.lt _ hh;omega);exact Wj A2 X2 (e8.trans e9) A10 u10 hR10 (Ext.refl _) (u10.get n9 nb) rfl (by omega) (λhh=>(hR10 _ hh).elim nb λhl=>by omega) λW h=>⟨b46,rfl,h⟩};{refine Ak4 A2 (by omega) X2 hn hl e8 o8 λR9 w9 A9 u9 hR9=>⟨?_,trivial⟩;rw [←hz] at A9 ⊢;refine Ag λb49 w10 e10 n10 hb10 hz10=>kpu e8 (u9.trans (Upd.Ae e10)) ?_;have z8:=e8.size;have z9:=u9.size;exact Wj A2 X2 e8 A9 u9 hR9 e10 n10 rfl (by omega) (λhh=>by have:=A9.lt _ hh;omega) λW h=>⟨b49,rfl,h⟩}}};rintro _ w6 ⟨b42,rfl,R6,A6,X6,u6,hR6,nb42,hb42,n42⟩;exact hK R6 w6 (A6.mono (by omega)) X6 ((Hg u12 hR1 u6).mono λk _ hk=>.inl hk) (Gu hR1 hR6 z2)
end
end Dq
end
section
namespace Cdc
def Ey {n:Nat}(h:n<256):(UInt8.ofNat n).toNat=n:=by rw [uN];omega
def Am9 (q:Nat):cont (UInt8.ofNat (128+q%64))=true:=by unfold cont;rw [Ey (by omega)];simp;omega
def Scalar (a:Int):Prop:=(0<=a/\a<55296)\/(57343<a/\a<=1114111)
def Ct0 {a:Int}(h:Scalar a) (r:Bs):nx8 (pt8 a++r)=(a,sz8 a):=by
 obtain ⟨n,rfl⟩:∃n:Nat,a=(n:Int):=qN (by rcases h with h|h<;>omega);have hs:sz8 (n:Int)=if n<128 then 1 else if n<2048 then 2 else if n<65536 then 3 else 4:=by
  unfold sz8
  rw [iP (by rcases h with h|h<;>omega)]
  repeat' split
  all_goals first|rfl|omega
 unfold pt8;rw [iP (by omega),hs,kH];by_cases h1:n<128;{rw [iK h1,iK rfl];have hb:(UInt8.ofNat n).toNat=n:=Ey (by omega);show nx8 (UInt8.ofNat n::r)=_;(have hbn:Fg n=(1,0,0):=by unfold Fg;rw [iK h1]);(have hr:rowOf (UInt8.ofNat n::r)=(1,1):=by simp only [rowOf,hb,hbn];rfl);simp only [nx8,hr,hb];rw [iP (by decide)];rfl};rw [iP h1];by_cases h2:n<2048
 ·rw [iK h2,iP (by decide)];have hb:(UInt8.ofNat (mk8 2+n/64^(2-1))).toNat=192+n/64:=by
   show (UInt8.ofNat (192+n/64)).toNat=_
   exact Ey (by omega)
  have hc:(UInt8.ofNat (128+n/64^0%64)).toNat=128+n%64:=by
   rw [Ey (by omega)];simp
  have hbn:Fg (192+n/64)=(2,128,191):=by
   unfold Fg;rw [iP (by omega),iP (by omega),iK (by omega)]
  show nx8 (UInt8.ofNat (mk8 2+n/64^(2-1))::UInt8.ofNat (128+n/64^0%64)::r)=_;have hr:rowOf (UInt8.ofNat (mk8 2+n/64^(2-1))::UInt8.ofNat (128+n/64^0%64)::r)=(2,2):=by
   simp only [rowOf,hb,hbn,hc]
   rw [iP (by decide),iP (by omega)]
   cases r<;>rfl
  simp only [nx8,hr,hb];rw [iP (by decide)];show (((rest (lead 2 (192+n/64)) [UInt8.ofNat (128+n/64^0%64)]:Nat):Int),2)=_;have:rest (lead 2 (192+n/64)) [UInt8.ofNat (128+n/64^0%64)]=n:=by
   show (192+n/64)%32*64+(UInt8.ofNat (128+n/64^0%64)).toNat%64=n
   rw [hc];omega
  rw [this]
 rw [iP h2];by_cases h3:n<65536
 ·rw [iK h3,iP (by decide)];have hb:(UInt8.ofNat (mk8 3+n/64^(3-1))).toNat=224+n/4096:=by
   show (UInt8.ofNat (224+n/4096)).toNat=_
   exact Ey (by omega)
  have hc:(UInt8.ofNat (128+n/64^1%64)).toNat=128+n/64%64:=by
   rw [Ey (by omega)]
  have hd:(UInt8.ofNat (128+n/64^0%64)).toNat=128+n%64:=by
   rw [Ey (by omega)];simp
  have hbn:∃lo hi,Fg (224+n/4096)=(3,lo,hi)/\¬(128+n/64%64<lo\/hi<128+n/64%64):=by
   unfold Fg
   rw [iP (by omega),iP (by omega),iP (by omega)]
   split
   ·exact ⟨_,_,rfl,by omega⟩
   ·split
    ·exact ⟨_,_,rfl,by rcases h with h|h<;>omega⟩
    ·rw [iK (by omega)]
     exact ⟨_,_,rfl,by omega⟩
  obtain ⟨lo,hi,hbn,hin⟩:=hbn;show nx8 (UInt8.ofNat (mk8 3+n/64^(3-1))::UInt8.ofNat (128+n/64^1%64)::UInt8.ofNat (128+n/64^0%64)::r)=_;have hr:rowOf (UInt8.ofNat (mk8 3+n/64^(3-1))::UInt8.ofNat (128+n/64^1%64)::UInt8.ofNat (128+n/64^0%64)::r)=(3,3):=by
   simp only [rowOf,hb,hbn,hc]
   rw [iP (by decide),iP hin]
   show (2+more 1 _,3)=_
   simp only [more,Am9,iT]
  simp only [nx8,hr,hb];rw [iP (by decide)];show (((rest (lead 3 (224+n/4096)) [UInt8.ofNat (128+n/64^1%64),UInt8.ofNat (128+n/64^0%64)]:Nat):Int),3)=_;have:rest (lead 3 (224+n/4096)) [UInt8.ofNat (128+n/64^1%64),UInt8.ofNat (128+n/64^0%64)]=n:=by
   show ((224+n/4096)%16*64+(UInt8.ofNat (128+n/64^1%64)).toNat%64)*64+(UInt8.ofNat (128+n/64^0%64)).toNat%64=n
   rw [hc,hd];omega
  rw [this]
 rw [iP h3,iP (by decide)];have hb:(UInt8.ofNat (mk8 4+n/64^(4-1))).toNat=240+n/262144:=by
  show (UInt8.ofNat (240+n/262144)).toNat=_
  exact Ey (by rcases h with h|h<;>omega)
 have hc:(UInt8.ofNat (128+n/64^2%64)).toNat=128+n/4096%64:=by
  rw [Ey (by omega)]
 have hd:(UInt8.ofNat (128+n/64^1%64)).toNat=128+n/64%64:=by
  rw [Ey (by omega)]
 have he:(UInt8.ofNat (128+n/64^0%64)).toNat=128+n%64:=by
  rw [Ey (by omega)];simp
 have hbn:∃lo hi,Fg (240+n/262144)=(4,lo,hi)/\¬(128+n/4096%64<lo\/hi<128+n/4096%64):=by
  unfold Fg
  rw [iP (by omega),iP (by omega),iP (by omega),iP (by omega),iP (by omega),iP (by omega)]
  split
  ·exact ⟨_,_,rfl,by omega⟩
  ·split
   ·exact ⟨_,_,rfl,by omega⟩
   ·rw [iK (by rcases h with h|h<;>omega)]
    exact ⟨_,_,rfl,by rcases h with h|h<;>omega⟩
 obtain ⟨lo,hi,hbn,hin⟩:=hbn;show nx8 (UInt8.ofNat (mk8 4+n/64^(4-1))::UInt8.ofNat (128+n/64^2%64)::UInt8.ofNat (128+n/64^1%64)::UInt8.ofNat (128+n/64^0%64)::r)=_;have hr:rowOf (UInt8.ofNat (mk8 4+n/64^(4-1))::UInt8.ofNat (128+n/64^2%64)::UInt8.ofNat (128+n/64^1%64)::UInt8.ofNat (128+n/64^0%64)::r)=(4,4):=by
  simp only [rowOf,hb,hbn,hc]
  rw [iP (by decide),iP hin]
  show (2+more 2 _,4)=_
  simp only [more,Am9,iT]
 simp only [nx8,hr,hb];rw [iP (by decide)];show (((rest (lead 4 (240+n/262144)) [UInt8.ofNat (128+n/64^2%64),UInt8.ofNat (128+n/64^1%64),UInt8.ofNat (128+n/64^0%64)]:Nat):Int),4)=_;have:rest (lead 4 (240+n/262144)) [UInt8.ofNat (128+n/64^2%64),UInt8.ofNat (128+n/64^1%64),UInt8.ofNat (128+n/64^0%64)]=n:=by
  show (((240+n/262144)%8*64+(UInt8.ofNat (128+n/64^2%64)).toNat%64)*64+(UInt8.ofNat (128+n/64^1%64)).toNat%64)*64+(UInt8.ofNat (128+n/64^0%64)).toNat%64=n
  rw [hc,hd,he];rcases h with h|h<;>omega
 rw [this]
end Cdc
end
section
open Go Go.Vx Cdc
section
variable {w w':World}
def Ro {s:Sl}{l:Bs}{ty:TypeId}(h:Dx w s ty 1 (bv l)):l.length=s.len:=by have:=h.len1;rwa [nO] at this
def Qr {s:Sl}{l:Bs}{ty:TypeId}{n:Int}{K:Addr->Int->Wp}(h:Dx w s ty 1 (bv l)) (h0:0<=n){b:UInt8}(hb:l[n.toNat]?=some b) (hK:∀p,K p (b.toNat:Int) w) :
  ix s.a s.len n (λp=>ld (.int .u8) (p.add (scaled (Int.toNat n) 1)) (K p)) w:=by (have h':Dx w s ty 1 ((l.map λb=>(b.toNat:Int)).map (Cell.int .u8).val):=by rw [←Ce6];exact h);exact Al7 h' h0 (x:=(b.toNat:Int)) (by rw [nP,hb];rfl) hK
def Bf3 {e:Enc}{K:Bool->Wp}(hK:K true w):Aa prog 226 #[vI e.num] rB K w:=by refine Dc7 ?_;unfold F226;cases e<;>exact Ac (λ_=>hK) (λh=>by cases h)
def Ap1 {a:Int}{K:Bool->Wp}(h1:Scalar a->K true w) (h2:¬Scalar a->K false w):Aa prog 231 #[vI a] rB K w:=by refine Dc2 ?_;unfold F231;unfold Scalar at h1 h2;refine Ac (λh=>Ac (λh'=>?_) (λh'=>Ac (λh''=>?_) (λh''=>?_))) (λh=>Ac (λh''=>?_) (λh''=>?_));(all_goals simp only [pF,oK,sH,sG] at *);{exact h1 (by omega)};{by_cases hc:a<=1114111;{rw [uX hc];exact h1 (by omega)};{rw [qO hc];exact h2 (by omega)}};{exact h2 (by omega)};{by_cases hc:a<=1114111;{rw [uX hc];exact h1 (by omega)};{rw [qO hc];exact h2 (by omega)}};{exact h2 (by omega)}
def unI (be:Bool):Bs->Int
 |a::b::_=>((un be a b:Nat):Int)
 |_=>-1
def Ad5 {s:Sl}{l:Bs}{n:Nat}{be:Bool}{ty:TypeId}(hB:Dx w s ty 1 (bv l)) (hn:n<2^60) (hl:l.length<2^60){K:Int->Wp}(hK:iF w (K (unI be (l.drop n)))) :
  Aa prog 229 #[vI (if be then 3 else 2),s.v,vI n] rI K w:=by
 refine Dc4 ?_
 unfold F229
 have hlen:=Ro hB
 have e2:W64 ((n:Int)+2)=(n:Int)+2:=iE (by omega)
 have e1:W64 ((n:Int)+1)=((n+1:Nat):Int):=iD (by omega)
 rw [e2,e1]
 refine Ac (λh=>?_) (λh=>?_)
 ·simp only [pF,sH] at h
  have:=hK w (Ext.refl w)
  have hd:(l.drop n).length<2:=by rw [nH];omega
  match hdd:l.drop n,hd with
  |[],_=>rw [hdd] at this;exact this
  |[_],_=>rw [hdd] at this;exact this
  |_::_::_,hd=>simp at hd;omega
 ·simp only [oK,sH] at h
  have h0:n<l.length:=by omega
  have h1:n+1<l.length:=by omega
  have hd:l.drop n=l[n]::l[n+1]::l.drop (n+2):=by
   rw [tV h0,tV h1]
  have ha:=l[n].toNat_lt
  have hb:=l[n+1].toNat_lt
  rw [hd] at hK
  have g0:l[(n:Int).toNat]?=some l[n]:=by rw [kH];simp [h0]
  have g1:l[((n+1:Nat):Int).toNat]?=some l[n+1]:=by rw [kH];simp [h1]
  cases be with
  | false =>
   refine Ac (λ_=>Az λw1 e3 _=>?_) (λh=>by cases h)
   have hB1:Dx w1 s ty 1 (bv l):=hB.ext e3
   refine Qr hB1 (by omega) g0 λp=>Qr hB1 (by omega) g1 λp=>?_
   rw [wrap64 (a:=(l[n].toNat:Int)) (by omega) (by omega),wrap64 (a:=(l[n+1].toNat:Int)) (by omega) (by omega),wrap64 (a:=256*(l[n+1].toNat:Int)) (by omega) (by omega),iE (by omega)]
   have:(l[n].toNat:Int)+256*(l[n+1].toNat:Int)=unI false (l[n]::l[n+1]::l.drop (n+2)):=by
    show _=((l[n].toNat+l[n+1].toNat*256:Nat):Int);omega
   rw [this];exact hK w1 e3
  | true =>
   refine Ac (λh=>by cases h) (λ_=>Az λw1 e3 _=>?_)
   have hB1:Dx w1 s ty 1 (bv l):=hB.ext e3
   refine Qr hB1 (by omega) g0 λp=>Qr hB1 (by omega) g1 λp=>?_
   rw [wrap64 (a:=(l[n].toNat:Int)) (by omega) (by omega),wrap64 (a:=(l[n+1].toNat:Int)) (by omega) (by omega),wrap64 (a:=256*(l[n].toNat:Int)) (by omega) (by omega),iE (by omega)]
   have:256*(l[n].toNat:Int)+(l[n+1].toNat:Int)=unI true (l[n]::l[n+1]::l.drop (n+2)):=by
    show _=((l[n+1].toNat+l[n].toNat*256:Nat):Int);omega
   rw [this];exact hK w1 e3
end
end
section
namespace Cdc
def ofNat_toNat (b:UInt8):UInt8.ofNat b.toNat=b:=by apply wJ.1;rw [uN];have:=b.toNat_lt;omega
def byte_of {n:Nat}{b:UInt8}(h:n=b.toNat):UInt8.ofNat n=b:=by rw [h,ofNat_toNat]
def Po {n:Nat}(h:Scalar (n:Int)):sz8 (n:Int)=if n<128 then 1 else if n<2048 then 2 else if n<65536 then 3 else 4:=by unfold sz8;rw [iP (by rcases h with h|h<;>omega)];(repeat' split);all_goals first|rfl|omega
def Bk8 {n:Nat}(h:n<128):pt8 (n:Int)=[UInt8.ofNat n]:=by have hs:sz8 (n:Int)=1:=(by rw [Po (.inl (by omega)),iK h]);unfold pt8;rw [iP (by omega),iK hs,kH]
def Bk7 {n:Nat}(h0:128<=n) (h:n<2048):pt8 (n:Int)=[UInt8.ofNat (192+n/64),UInt8.ofNat (128+n%64)]:=by have hs:sz8 (n:Int)=2:=(by rw [Po (.inl (by omega)),iP (by omega),iK h]);unfold pt8;rw [iP (by omega),hs,iP (by decide),kH];show [UInt8.ofNat (192+n/64),UInt8.ofNat (128+n/1%64)]=_;rw [qL]
def Bk6 {n:Nat}(hs:Scalar (n:Int)) (h0:2048<=n) (h:n<65536):pt8 (n:Int)=[UInt8.ofNat (224+n/4096),UInt8.ofNat (128+n/64%64),UInt8.ofNat (128+n%64)]:=by have hs:sz8 (n:Int)=3:=(by rw [Po hs,iP (by omega),iP (by omega),iK h]);unfold pt8;rw [iP (by omega),hs,iP (by decide),kH];show [UInt8.ofNat (224+n/4096),UInt8.ofNat (128+n/64%64),UInt8.ofNat (128+n/1%64)]=_;rw [qL]
def Bk5 {n:Nat}(h0:65536<=n) (h:n<1114112):pt8 (n:Int)=[UInt8.ofNat (240+n/262144),UInt8.ofNat (128+n/4096%64),UInt8.ofNat (128+n/64%64),UInt8.ofNat (128+n%64)]:=by have hs:sz8 (n:Int)=4:=(by rw [Po (.inr (by omega)),iP (by omega),iP (by omega),iP (by omega)]);unfold pt8;rw [iP (by omega),hs,iP (by decide),kH];show [UInt8.ofNat (240+n/262144),UInt8.ofNat (128+n/4096%64),UInt8.ofNat (128+n/64%64),UInt8.ofNat (128+n/1%64)]=_;rw [qL]
def Ag5 (c:UInt8):cont c=true↔128<=c.toNat/\c.toNat<192:=by unfold cont;simp;omega
def Cb0 {b:UInt8}{r:Bs}(h:0<=(nx8 (b::r)).1):Scalar (nx8 (b::r)).1/\pt8 (nx8 (b::r)).1=(b::r).take (nx8 (b::r)).2/\sz8 (nx8 (b::r)).1=(nx8 (b::r)).2:=by
 have hb:=b.toNat_lt;have h2:=La b r;simp only [nx8] at h ⊢;by_cases hc:(rowOf (b::r)).2=0\/(rowOf (b::r)).1<(rowOf (b::r)).2;{rw [iK hc] at h;have:(0:Int)<=-1-(b.toNat:Int):=h;omega};rw [iP hc] at h ⊢;obtain ⟨hn0,hle⟩:¬(rowOf (b::r)).2=0/\¬(rowOf (b::r)).1<(rowOf (b::r)).2:=⟨λh=>hc (.inl h),λh=>hc (.inr h)⟩;clear hc;have two:∀{lo hi k:Nat},Fg b.toNat=(k+2,lo,hi)->∃c r',r=c::r'/\lo<=c.toNat/\c.toNat<=hi/\k<=more k r'/\(rowOf (b::r)).2=k+2:=by
  intro lo hi k hk
  rw [h2,hk] at hle
  cases r with
  |nil=>(have e:rowOf [b]=(1,k+2):=by simp only [rowOf,hk];rw [iP (by omega)]);rw [e] at hle;simp at hle
  |cons c r'=>(have e:rowOf (b::c::r')=if c.toNat<lo\/hi<c.toNat then (1,k+2) else (2+more k r',k+2):=by simp only [rowOf,hk];rw [iP (by omega)];rfl);rw [e] at hle;dsimp only at hle;by_cases hcc:c.toNat<lo\/hi<c.toNat;{rw [iK hcc] at hle;simp at hle};{rw [iP hcc] at hle;simp only at hle;exact ⟨c,r',rfl,by omega,by omega,by omega,by rw [h2,hk]⟩}
 have more1:∀{r:Bs},1<=more 1 r->∃d r',r=d::r'/\128<=d.toNat/\d.toNat<192:=by
  intro r hr
  cases r with
  |nil=>simp [more] at hr
  |cons d r'=>by_cases hd:cont d=true;{exact ⟨d,r',rfl,(Ag5 d).1 hd⟩};{simp [more,hd] at hr}
 have more2:∀{r:Bs},2<=more 2 r->∃d e r',r=d::e::r'/\128<=d.toNat/\d.toNat<192/\128<=e.toNat/\e.toNat<192:=by
  intro r hr
  cases r with
  |nil=>simp [more] at hr
  | cons d r' =>
   by_cases hd:cont d=true
   ·have hr':1<=more 1 r':=by
     have e2:more 2 (d::r')=more 1 r'+1:=by show (if cont d then more 1 r'+1 else 0)=_;rw [iK hd]
     omega
    obtain ⟨e,r'',rfl,h1⟩:=more1 hr';exact ⟨d,e,r'',rfl,((Ag5 d).1 hd).1,((Ag5 d).1 hd).2,h1⟩
   {simp [more,hd] at hr}
 have fin2:∀{lo hi:Nat},Fg b.toNat=(2,lo,hi)->194<=b.toNat->b.toNat<224->128<=lo->hi<=191 ->
   Scalar ((rest (lead (rowOf (b::r)).2 b.toNat) (r.take ((rowOf (b::r)).2-1)):Nat):Int)/\pt8 ((rest (lead (rowOf (b::r)).2 b.toNat) (r.take ((rowOf (b::r)).2-1)):Nat):Int)=(b::r).take (rowOf (b::r)).2/\sz8 ((rest (lead (rowOf (b::r)).2 b.toNat) (r.take ((rowOf (b::r)).2-1)):Nat):Int)=(rowOf (b::r)).2:=by
  intro lo hi hk g1 g2 g3 g4
  obtain ⟨c,r',rfl,c1,c2,_,hn⟩:=two (k:=0) hk
  rw [hn]
  show Scalar (((b.toNat%32*64+c.toNat%64:Nat)):Int)/\pt8 (((b.toNat%32*64+c.toNat%64:Nat)):Int)=[b,c]/\sz8 (((b.toNat%32*64+c.toNat%64:Nat)):Int)=2
  have hS:Scalar (((b.toNat%32*64+c.toNat%64:Nat)):Int):=.inl (by omega)
  refine ⟨hS,?_,?_⟩
  ·rw [Bk7 (by omega) (by omega),byte_of (b:=b) (by omega),byte_of (b:=c) (by omega)]
  ·rw [Po hS,iP (by omega),iK (by omega)]
 have fin3:∀{lo hi:Nat},Fg b.toNat=(3,lo,hi)->224<=b.toNat->b.toNat<240->128<=lo->hi<=191->(b.toNat=224->160<=lo)->(b.toNat=237->hi<=159) ->
   Scalar ((rest (lead (rowOf (b::r)).2 b.toNat) (r.take ((rowOf (b::r)).2-1)):Nat):Int)/\pt8 ((rest (lead (rowOf (b::r)).2 b.toNat) (r.take ((rowOf (b::r)).2-1)):Nat):Int)=(b::r).take (rowOf (b::r)).2/\sz8 ((rest (lead (rowOf (b::r)).2 b.toNat) (r.take ((rowOf (b::r)).2-1)):Nat):Int)=(rowOf (b::r)).2:=by
  intro lo hi hk g1 g2 g3 g4 g5 g6
  obtain ⟨c,r',rfl,c1,c2,hm,hn⟩:=two (k:=1) hk
  obtain ⟨d,r'',rfl,d1,d2⟩:=more1 hm
  rw [hn]
  show Scalar ((((b.toNat%16*64+c.toNat%64)*64+d.toNat%64:Nat)):Int)/\pt8 ((((b.toNat%16*64+c.toNat%64)*64+d.toNat%64:Nat)):Int)=[b,c,d]/\sz8 ((((b.toNat%16*64+c.toNat%64)*64+d.toNat%64:Nat)):Int)=3
  have hS:Scalar ((((b.toNat%16*64+c.toNat%64)*64+d.toNat%64:Nat)):Int):=by
   unfold Scalar
   by_cases h7:b.toNat=237
   ·have:=g6 h7;omega
   ·omega
  have hlow:2048<=(b.toNat%16*64+c.toNat%64)*64+d.toNat%64:=by
   by_cases h4:b.toNat=224
   ·have:=g5 h4;omega
   ·omega
  refine ⟨hS,?_,?_⟩
  ·rw [Bk6 hS hlow (by omega),byte_of (b:=b) (by omega),byte_of (b:=c) (by omega),byte_of (b:=d) (by omega)]
  ·rw [Po hS,iP (by omega),iP (by omega),iK (by omega)]
 have fin4:∀{lo hi:Nat},Fg b.toNat=(4,lo,hi)->240<=b.toNat->b.toNat<245->128<=lo->hi<=191->(b.toNat=240->144<=lo)->(b.toNat=244->hi<=143) ->
   Scalar ((rest (lead (rowOf (b::r)).2 b.toNat) (r.take ((rowOf (b::r)).2-1)):Nat):Int)/\pt8 ((rest (lead (rowOf (b::r)).2 b.toNat) (r.take ((rowOf (b::r)).2-1)):Nat):Int)=(b::r).take (rowOf (b::r)).2/\sz8 ((rest (lead (rowOf (b::r)).2 b.toNat) (r.take ((rowOf (b::r)).2-1)):Nat):Int)=(rowOf (b::r)).2:=by
  intro lo hi hk g1 g2 g3 g4 g5 g6
  obtain ⟨c,r',rfl,c1,c2,hm,hn⟩:=two (k:=2) hk
  obtain ⟨d,e,r'',rfl,d1,d2,e1,e2⟩:=more2 hm
  rw [hn]
  show Scalar (((((b.toNat%8*64+c.toNat%64)*64+d.toNat%64)*64+e.toNat%64:Nat)):Int)/\pt8 (((((b.toNat%8*64+c.toNat%64)*64+d.toNat%64)*64+e.toNat%64:Nat)):Int)=[b,c,d,e]/\sz8 (((((b.toNat%8*64+c.toNat%64)*64+d.toNat%64)*64+e.toNat%64:Nat)):Int)=4
  have hlow:65536<=((b.toNat%8*64+c.toNat%64)*64+d.toNat%64)*64+e.toNat%64:=by
   by_cases h4:b.toNat=240
   ·have:=g5 h4;omega
   ·omega
  have hhigh:((b.toNat%8*64+c.toNat%64)*64+d.toNat%64)*64+e.toNat%64<1114112:=by
   by_cases h4:b.toNat=244
   ·have:=g6 h4;omega
   ·omega
  have hS:Scalar (((((b.toNat%8*64+c.toNat%64)*64+d.toNat%64)*64+e.toNat%64:Nat)):Int):=.inr (by omega)
  refine ⟨hS,?_,?_⟩
  ·rw [Bk5 hlow hhigh,byte_of (b:=b) (by omega),byte_of (b:=c) (by omega),byte_of (b:=d) (by omega),byte_of (b:=e) (by omega)]
  ·rw [Po hS,iP (by omega),iP (by omega),iP (by omega)]
 by_cases k1:b.toNat<128;{(have hk:Fg b.toNat=(1,0,0):=by unfold Fg;rw [iK k1]);have hn:(rowOf (b::r)).2=1:=(by rw [h2,hk]);rw [hn];show Scalar ((b.toNat:Nat):Int)/\pt8 ((b.toNat:Nat):Int)=[b]/\sz8 ((b.toNat:Nat):Int)=1;have hS:Scalar ((b.toNat:Nat):Int):=.inl (by omega);exact ⟨hS,by rw [Bk8 k1,ofNat_toNat],by rw [Po hS,iK k1]⟩};by_cases k2:b.toNat<194;{exact absurd (by rw [h2];unfold Fg;rw [iP k1,iK k2]) hn0};by_cases k3:b.toNat<224;{exact fin2 (lo:=128) (hi:=191) (by unfold Fg;rw [iP k1,iP k2,iK k3]) (by omega) k3 (by omega) (by omega)};by_cases k4:b.toNat=224;{exact fin3 (lo:=160) (hi:=191) (by unfold Fg;rw [iP k1,iP k2,iP k3,iK k4]) (by omega) (by omega) (by omega) (by omega) (λ_=>by omega) (λh=>by omega)};by_cases k5:b.toNat=237;{exact fin3 (lo:=128) (hi:=159) (by unfold Fg;rw [iP k1,iP k2,iP k3,iP k4,iK k5]) (by omega) (by omega) (by omega) (by omega) (λh=>by omega) (λ_=>by omega)};by_cases k6:b.toNat<240;{exact fin3 (lo:=128) (hi:=191) (by unfold Fg;rw [iP k1,iP k2,iP k3,iP k4,iP k5,iK k6]) (by omega) (by omega) (by omega) (by omega) (λh=>by omega) (λh=>by omega)};by_cases k7:b.toNat=240;{exact fin4 (lo:=144) (hi:=191) (by unfold Fg;rw [iP k1,iP k2,iP k3,iP k4,iP k5,iP k6,iK k7]) (by omega) (by omega) (by omega) (by omega) (λ_=>by omega) (λh=>by omega)};by_cases k8:b.toNat<244;{exact fin4 (lo:=128) (hi:=191) (by unfold Fg;rw [iP k1,iP k2,iP k3,iP k4,iP k5,iP k6,iP k7,iK k8]) (by omega) (by omega) (by omega) (by omega) (λh=>by omega) (λh=>by omega)};by_cases k9:b.toNat=244;{exact fin4 (lo:=128) (hi:=143) (by unfold Fg;rw [iP k1,iP k2,iP k3,iP k4,iP k5,iP k6,iP k7,iP k8,iK k9]) (by omega) (by omega) (by omega) (by omega) (λh=>by omega) (λ_=>by omega)};{exact absurd (by rw [h2];unfold Fg;rw [iP k1,iP k2,iP k3,iP k4,iP k5,iP k6,iP k7,iP k8,iP k9]) hn0}
def Rk (n:Nat):Int:=if n=2 then 192 else if n=3 then 224 else if n=4 then 240 else 0
def Zx (a:Int) (l:Bs):Int:=l.foldl (λa c=>a*64+(c.toNat:Int)-128) a
def Ih (n:Nat):Bs->Int
 |[]=>0
 |b::r=>Zx ((b.toNat:Int)-Rk n) (r.take (n-1))
def Cb9 {a:Int}(h:Scalar a) (r:Bs):Ih (sz8 a) (pt8 a++r)=a:=by obtain ⟨n,rfl⟩:∃n:Nat,a=(n:Int):=qN (by rcases h with h|h<;>omega);have hs:=Po h;by_cases k1:n<128;{rw [iK k1] at hs;rw [hs,Bk8 k1];show Zx (((UInt8.ofNat n).toNat:Int)-0) []=_;rw [Ey (by omega)];show ((n:Int)-0)=n;omega};by_cases k2:n<2048;{rw [iP k1,iK k2] at hs;rw [hs,Bk7 (by omega) k2];show (((UInt8.ofNat (192+n/64)).toNat:Int)-192)*64+((UInt8.ofNat (128+n%64)).toNat:Int)-128=_;rw [Ey (by omega),Ey (by omega)];omega};by_cases k3:n<65536;{rw [iP k1,iP k2,iK k3] at hs;rw [hs,Bk6 h (by omega) k3];show ((((UInt8.ofNat (224+n/4096)).toNat:Int)-224)*64+((UInt8.ofNat (128+n/64%64)).toNat:Int)-128)*64+((UInt8.ofNat (128+n%64)).toNat:Int)-128=_;rw [Ey (by omega),Ey (by omega),Ey (by omega)];omega};{rw [iP k1,iP k2,iP k3] at hs;have h':n<1114112:=(by rcases h with h|h<;>omega);rw [hs,Bk5 (by omega) h'];show (((((UInt8.ofNat (240+n/262144)).toNat:Int)-240)*64+((UInt8.ofNat (128+n/4096%64)).toNat:Int)-128)*64+((UInt8.ofNat (128+n/64%64)).toNat:Int)-128)*64+((UInt8.ofNat (128+n%64)).toNat:Int)-128=_;rw [Ey (by omega),Ey (by omega),Ey (by omega),Ey (by omega)];omega}
def Hit (r:Bs) (n:Nat):Prop:=Scalar (Ih n r)/\r.take (pt8 (Ih n r)).length=pt8 (Ih n r)/\(pt8 (Ih n r)).length=n
def Ct8 {r:Bs}{n:Nat}(h:Hit r n):nx8 r=(Ih n r,n):=by
 obtain ⟨h1,h2,h3⟩:=h;have e:r=pt8 (Ih n r)++r.drop (pt8 (Ih n r)).length:=by
  conv=>lhs;rw [←vG (pt8 (Ih n r)).length r,h2]
 have:=Ct0 h1 (r.drop (pt8 (Ih n r)).length);rw [←e] at this;have hl:(pt8 (Ih n r)).length=sz8 (Ih n r):=Bz2 .u8 _ (λh0=>by
  have h4:sz8 (Ih n r)≠0:=by
   unfold sz8
   rw [iP (by rcases h1 with h|h<;>omega)]
   repeat' split
   all_goals decide
  exact h4 h0)
 rw [this,←hl,h3]
def Cs9 {b:UInt8}{r:Bs}(h:0<=(nx8 (b::r)).1):Hit (b::r) (nx8 (b::r)).2/\Ih (nx8 (b::r)).2 (b::r)=(nx8 (b::r)).1:=by
 obtain ⟨h1,h2,h3⟩:=Cb0 h;have hsz:=Qn b r;(have hl:(pt8 (nx8 (b::r)).1).length=(nx8 (b::r)).2:=by rw [h2,nG];omega);have hm:Ih (nx8 (b::r)).2 (b::r)=(nx8 (b::r)).1:=by
  have:=Cb9 h1 ((b::r).drop (nx8 (b::r)).2)
  rw [h2,vG,h3] at this
  exact this
 refine ⟨⟨?_,?_,?_⟩,hm⟩;{rw [hm];exact h1};{rw [hm,hl];exact h2.symm};{rw [hm,hl]}
def Cs8 {b:UInt8}{r:Bs}(h:¬0<=(nx8 (b::r)).1):nx8 (b::r)=(-1-(b.toNat:Int),1):=by simp only [nx8] at h ⊢;split at h;{rename_i hc;rw [iK hc]};{exact absurd (qV _) h}
end Cdc
end
end Go.Proofs.YtmooldhpiopcgaaGreatDoor
