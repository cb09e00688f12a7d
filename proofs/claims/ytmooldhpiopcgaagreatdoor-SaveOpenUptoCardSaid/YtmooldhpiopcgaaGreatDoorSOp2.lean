/- YtmooldhpiopcgaaGreatDoorSOp2: parts of the proof, put together by program. -/
import Derived.Test.YtmooldhpiopcgaaGreatDoorSOp1
set_option linter.unusedVariables false
set_option linter.defProp false
set_option linter.unusedSimpArgs false
set_option linter.unusedSectionVars false
noncomputable section
namespace Go.Vx
open Go
section
variable {w w':World}{P:Program}
def Q7 {ts e:TypeId}{ie:Inf}{z:Value}(hts:P.underlying ts=some (.slice e)) (he:Aq P e ie) (hz:ie.zero=some z) (hzs:z.cells.size=ie.size){n:Int}{K:Sl->Wp}(h0:0<=n) (hn:n*ie.bytes<=2^48) (hn2:n<=9223372036854775807)
  (hK:∀b w' c,w'.heap[b]?=some (.cells c e (0,0))->c.size=n.toNat*ie.size->(∀i,i<c.size->c[i]?=z.cells[i%ie.size]?)->Ext w w'->b=w.heap.size->K ⟨some (at0 b),n.toNat,n.toNat⟩ w') :
  Dy P (.one (.one .sl)) (Instr.makeSlice ts (.int .i64 n) (.int .i64 n)) K w:=by
 obtain ⟨j,hj,hs,hb,hz'⟩:=he.Al8;have hw:IntKind.i64.wrap n=n:=IntWalk.i64_in _ ⟨by omega,hn2⟩;have hu:=λW=>jZ hts W;have hti:∀W,(typeInfo e).run P W=.ok j W:=λW=>kC W hj;have hsz:∀W,(sizeOf e).run P W=.ok ie.size W:=λW=>he.Gj W;have hzv:∀W,(zeroValue e).run P W=.ok z W:=λW=>he.Ql W hz;have hlarge:(decide (n<0)||decide ((j.bytes:Int)*n>2^48))=false:=by
  rw [hb,Int.mul_comm]
  simp only [lK,oK]
  omega
 obtain ⟨c,hc⟩:∃c:Array Value,c=(Array.range (n.toNat*ie.size)).map (λk=>(if n.toNat*ie.size=0 then (#[]:Array Value) else z.cells)[k%(if n.toNat*ie.size=0 then (#[]:Array Value) else z.cells).size]!):=⟨_,rfl⟩;refine ⟨⟨some (at0 w.heap.size),n.toNat,n.toNat⟩,w.alloc (.cells c e),?_,hK _ _ c (heap_alloc w _) (by rw [hc];simp) (λi hi=>?_) (Ext.alloc w _) rfl⟩;{have hlt:¬n<0:=(by omega);(have hgt:¬((j.bytes:Int)*n>2^48):=by rw [hb,Int.mul_comm];omega);have hgt2:¬(281474976710656<(j.bytes:Int)*n):=(by omega);by_cases hz0:n.toNat*ie.size=0;{simp only [hz0,iT] at hc;simp only [Instr.makeSlice,iH,hu,iI,asInt,asIntOf,iJ,hti,hw,hlarge,jG,pF,hlt,hsz];simp [hgt2,nD,hsz,hz0,newRow,newObj,Sem.run,kZ,hc,RTy.val,Ty.val,Cell.val]};{simp only [hz0,kU] at hc;simp only [Instr.makeSlice,iH,hu,iI,asInt,asIntOf,iJ,hti,hw,hlarge,jG,pF,hlt,hsz];simp [hgt2,nD,hsz,hz0,hzv,newRow,newObj,Sem.run,kZ,hc,RTy.val,Ty.val,Cell.val]}};{rw [hc] at hi ⊢;have hi:i<n.toNat*ie.size:=(by simpa using hi);have hz0:¬n.toNat*ie.size=0:=(by omega);have hpos:0<ie.size:=Nat.pos_of_ne_zero λh=>hz0 (by rw [h];simp);(have hm:i%ie.size<z.cells.size:=by rw [hzs];exact oI _ hpos);simp only [iP hz0];have hg:z.cells[i%ie.size]! = z.cells[i%ie.size]:=pG z.cells _ hm;rw [Array.getElem?_map,pI (by simpa using hi),pI hm];simp only [jL,Array.getElem_range,hzs,hg]}
def Ce2 {ts xt rt e:TypeId}{sz:Nat}(hts:P.underlying ts=some (.slice e)) (hsz:∀w,(sizeOf e).run P w=.ok sz w){b off dl dc:Nat}{c:Array Value}{t:TypeId}{x:Sl}{us:List Value}{K:Int->Wp}
  (hb:w.heap[b]?=some (.cells c t (0,0))) (hfit:off+us.length<=c.size) (hx:SlX w x sz us) (hle:x.len<=dl) (h1:∀v∈us,Eb v=true)
  (hK:∀w',w'.heap[b]?=some (.cells (setRow c off us) t (0,0))->Upd (λk=>k=b) w w'->w'.heap.size=w.heap.size->K x.len w') :
  Dy P (.one (.one (.int .i64))) (Builtin.copy_ #[ts,xt] rt #[.slice (some ⟨b,off,none⟩) dl dc,.slice x.a x.len x.cap]) K w:=by obtain ⟨w1,hr,hu,hb1,hz⟩:=Jr P us b off 0 c t w h1 hb (by omega);refine ⟨x.len,w1,?_,hK w1 (by simpa using hb1) hu hz⟩;have hmin:Nat.min x.len dl=x.len:=nI hle;have hfx:=Gm P hx;simp [Builtin.copy_,jZ hts,Builtin.lenOf,hsz,hmin,hfx,hr,goInt,RTy.val,Ty.val,Cell.val]
end
section
variable {w w':World}{P:Program}
def Ba6 (P:Program){ts xt rt:TypeId}{e xe:TypeId}{i:TypeInfo}{z:Value}(hts:P.underlying ts=some (.slice e)) (hxt:P.underlying xt=some (.slice xe)) (hi:P.info? e=some i) (hz:i.zero=some z)
  {B:Nat} {s x:Sl} {vs us:List Value} (hs:Am w B s e i.size vs) (hx:SlX w x i.size us) (h1:∀v∈us,Eb v=true) (hzl:z.cells.size=i.size)
  (hroom:(s.len+x.len+(s.len+x.len)/4+512)*i.bytes<=2^48) (hb0:0<i.bytes) (hB:B<=w.heap.size) :
  ∃s' w',(Builtin.append_ #[ts,xt] rt #[.slice s.a s.len s.cap,.slice x.a x.len x.cap]).run P w=.ok (.slice s'.a s'.len s'.cap) w'/\Am w' B s' e i.size (vs++us)/\s'.len=s.len+x.len /\
   Upd (λk=>s.blk k) w w'/\(∀k,s'.blk k->s.blk k\/w.heap.size<=k)/\(Ext w w'\/∃b off c,s.a=some ⟨b,off,none⟩/\w.heap[b]?=some (.cells c e (0,0))/\w'.heap[b]?=some (.cells (setRow c (off+s.len*i.size) us) e (0,0))):=by
 have hfx:=Gm P hx
 have hfs:=Gx P hs.in
 have hu1:=λW=>jZ hts W
 have hu2:=λW=>jZ hxt W
 have hsz:∀W,(sizeOf e).run P W=.ok i.size W:=λW=>by simp [sizeOf,kC W hi]
 have hti:∀W,(typeInfo e).run P W=.ok i W:=λW=>kC W hi
 have hzv:∀W,(zeroValue e).run P W=.ok z W:=λW=>by simp [zeroValue,kC W hi,hz]
 have hlen:=hs.len
 have hxlen:=hx.len
 by_cases hneed:s.len+x.len<=s.cap
 ·
  rcases hs.at_ with ⟨ha,hc⟩|⟨b,off,c,ha,hB',hb,hcap,hv⟩
  ·have hl0:x.len=0:=by omega
   have hsl:s.len=0:=by omega
   have hus:us=[]:=by rw [hl0,mW] at hxlen;exact jH.1 hxlen
   refine ⟨⟨none,0,s.cap⟩,w,?_,⟨by simp [hus,hlen,hsl],by simp,.inl ⟨rfl,hc⟩⟩,by simp [hl0,hsl],Upd.refl _ _,(λk hk=>by obtain ⟨p,hp,_⟩:=hk;cases hp),.inl (Ext.refl w)⟩
   have hfx':(Builtin.firstCells i.size 0 (.slice x.a 0 x.cap)).run P w=.ok #[] w:=by rw [hl0,hus] at hfx;exact hfx
   simp [Builtin.append_,hu1,hu2,hsz,Builtin.lenOf,hl0,hsl,ha,hfx',hc]
  ·have hfit:s.len*i.size+us.length<=s.cap*i.size:=by
    rw [hxlen,←mX];exact mY _ hneed
   obtain ⟨w1,hr,hu,hb1,_⟩:=Jr P us b (off+s.len*i.size) 0 c e w h1 hb (by omega)
   refine ⟨⟨s.a,s.len+x.len,s.cap⟩,w1,?_,⟨by simp [hlen,hxlen,mX],hneed,.inr ⟨b,off,setRow c (off+s.len*i.size+0) us,ha,hB',hb1,by rw [size_setRow];exact hcap,?_⟩⟩,rfl,hu.mono λk _ hk=>⟨_,ha,hk.symm⟩,λk hk=>.inl hk,.inr ⟨b,off,c,ha,hb,hb1⟩⟩
   ·simp [Builtin.append_,hu1,hu2,hsz,Builtin.lenOf,hneed,hfx,ha,addr_add,hr]
   ·intro j v hj
    rw [Nat.add_zero]
    by_cases hjl:j<vs.length
    ·rw [mZ hjl] at hj
     rw [Gi _ _ _ _ (by omega)];exact hv j v hj
    ·rw [nC (by omega)] at hj
     have hlt:=(lY.1 hj).1
     rw [show off+j=off+s.len*i.size+(j-vs.length) by omega,Nz _ _ _ _ (by omega) hlt]
     exact hj
 ·
  have hle:=nextslicecap_le (need:=s.len+x.len) (old:=s.cap) (by omega)
  have hroom':¬(Builtin.nextslicecap (s.len+x.len) s.cap*i.bytes>2^48):=by
   have:=mY i.bytes hle
   omega
  obtain ⟨nc,hnc,hncl⟩:∃nc,(Question.appendCap (s.len+x.len) s.cap e).cut (w.tape w.drawn (Question.appendCap (s.len+x.len) s.cap e))=nc/\s.len+x.len<=nc:=⟨_,rfl,by simp only [Question.cut];omega⟩
  have hfx':(Builtin.firstCells i.size x.len (.slice x.a x.len x.cap)).run P w.drew=.ok us.toArray w.drew:=Gm P (hx.ext (Ext.drew w))
  have hfs':(Builtin.firstCells i.size s.len (.slice s.a s.len s.cap)).run P w.drew=.ok vs.toArray w.drew:=Gx P (hs.in.ext (Ext.drew w))
  let row:=vs.toArray++us.toArray++Builtin.zeroCells z.cells (nc-(s.len+x.len))
  have hrow:row.size=nc*i.size:=by
   simp only [row,Array.size_append,List.size_toArray,Builtin.zeroCells,Array.size_map,Array.size_range,hzl,hlen,hxlen]
   rw [←mX,←mX]
   congr 1;omega
  have hext:Ext w (w.drew.alloc (.cells row e)):=(Ext.drew w).trans (Ext.alloc w.drew _)
  refine ⟨⟨some ⟨w.heap.size,0,none⟩,s.len+x.len,nc⟩,w.drew.alloc (.cells row e),?_,⟨by simp [hlen,hxlen,mX],hncl,.inr ⟨w.heap.size,0,row,rfl,hB,heap_alloc w.drew _,by rw [hrow];simp,?_⟩⟩,rfl,
   (Upd.Ae hext),(λk hk=>.inr (by obtain ⟨p,hp,rfl⟩:=hk;cases hp;exact mJ _)),.inl hext⟩
  ·have hb0':¬i.bytes=0:=by omega
   simp [Builtin.append_,hu1,hu2,hsz,Builtin.lenOf,hneed,hti,hb0',hroom',nD,hfs',hfx',hzv,newRow,newObj,Sem.run,Question.forced,hnc,row]
  ·intro j v hj
   rw [kY]
   have hlt:=(lY.1 hj).1
   have:row[j]?=(vs++us)[j]?:=by
    simp only [row]
    rw [mG (by simpa using hlt)]
    simp
   rw [this];exact hj
def Cx8 {c:Cell}{s:Sl}{t:TypeId}{B:Nat}{xs:List c.T}{n:Int}{x:c.T}{K:World->Prop}(h:Am w B s t 1 (xs.map c.val)) (h0:0<=n) (hn:n<s.len)
  (hK:∀w',Am w' B s t 1 ((xs.set n.toNat x).map c.val)->Upd s.blk w w'->w'.heap.size=w.heap.size->K w'):ix s.a s.len n (λp=>stC (p.add (scaled n.toNat 1)) (c.val x) K) w:=by have hl:=h.len1;rw [nO] at hl;rcases h.at_ with ⟨ha,hc⟩|⟨b,off,cs,ha,hB,hb,hcap,hv⟩;{have:=h.le;omega};{have hle:=h.le;refine ⟨⟨b,off,none⟩,⟨ha,h0,hn⟩,?_⟩;dsimp only;rw [addr_add,Fj,kX];refine Dj hb (by omega) λw1 u1 n1 hz=>hK w1 ⟨by simp [hl],h.le,.inr ⟨b,off,_,ha,hB,n1,by simpa using hcap,λi v hi=>?_⟩⟩ (u1.mono λk _ hk=>⟨_,ha,hk.symm⟩) hz;rw [nP,nX] at hi;by_cases hin:n.toNat=i;{rw [iK hin,iK (by omega)] at hi;rw [mV,iK (by omega),iK (by omega)];exact hi};{rw [iP hin] at hi;rw [mV,iP (by omega)];exact hv i v (by rw [nP];exact hi)}}
end
structure Key (κ:Type) [BEq κ] [LawfulBEq κ] where
 kv:κ->Value
 desc:TypeDesc
 same:∀a b:κ,Instr.sameNow desc (kv a) (kv b)=some (a==b)
 check:∀(P:Program) (kt:TypeId) (b:Bool) (n:Nat) (a:κ) (w:World),P.underlying kt=some desc->(Instr.checkKey b (n+1) kt (kv a)).run P w=.ok () w
 bits:∀n a,Instr.sameBits n (kv a) (kv a)=true
def Key.int:Key Int where
 kv:=.int .i64
 desc:=.int .i64
 same a b:=by simp [Instr.sameNow]
 check P kt b n a w h:=by simp [Instr.checkKey,jZ h]
 bits n a:=by cases n<;>simp [Instr.sameBits]
instance Cp2:LawfulBEq ByteArray where
 eq_of_beq {a b} h:=by
  cases a;cases b
  have h:ByteArray.beq _ _=true:=h
  simp only [ByteArray.beq] at h
  simpa using h
 rfl {a}:=by
  cases a
  show ByteArray.beq _ _=true
  simp [ByteArray.beq]
def Key.str:Key ByteArray where
 kv:=.string
 desc:=.string
 same a b:=by simp [Instr.sameNow]
 check P kt b n a w h:=by simp [Instr.checkKey,jZ h]
 bits n a:=by cases n<;>simp [Instr.sameBits]
abbrev Ei (κ:Type):=κ×Value×Nat
section
variable {S S':Nat->Prop}{w w':World}{P:Program}{κ:Type} [BEq κ] [LawfulBEq κ] [DecidableEq κ] {k_:Key κ}
def Ei.ent (k_:Key κ) (x:Ei κ):MapEntry:=⟨k_.kv x.1,x.2.1,x.2.2⟩
structure Oy (k_:Key κ) (w:World) (m:Nat) (es:List (Ei κ)):Prop where
 heap:∃clock,w.heap[m]?=some (.map (es.map (Ei.ent k_)).toArray clock)/\∀x∈es,x.2.2<clock
 keys:(es.map (·.1)).Nodup
 born:(es.map (·.2.2)).Nodup
def Jw (es:List (Ei κ)) (k:κ):Option Value:=(es.find? (·.1==k)).map (·.2.1)
def Oy.upd {m:Nat}{es:List (Ei κ)}(h:Oy k_ w m es) (hu:Upd S w w') (hS:¬S m):Oy k_ w' m es:=by have _d:=(inferInstance:DecidableEq κ);clear _d;obtain ⟨⟨c,h1,h2⟩,h3,h4⟩:=h;exact ⟨⟨c,hu.get h1 hS,h2⟩,h3,h4⟩
def Am4 (k:κ):∀(es:List (Ei κ)) (i:Nat),Instr.findNow k_.desc (k_.kv k) (es.map (Ei.ent k_)) i=some ((es.findIdx? (·.1==k)).map λj=>(i+j,((es[j]?).map (·.2.1)).getD default))
 |[],i=>by simp [Instr.findNow]
 | x::r,i=>by
  simp only [kV,Instr.findNow,Ei.ent,k_.same]
  by_cases hx:x.1=k
  ·subst hx;simp [pJ]
  ·have h1:(k==x.1)=false:=by simp;exact λh=>hx h.symm
   have h2:(x.1==k)=false:=by simpa using hx
   rw [h1]
   simp only
   rw [Am4 k r (i+1),pJ,h2]
   cases r.findIdx? (·.1==k) with
   |none=>simp
   |some j=>simp;omega
def Aq2 (es:List (Ei κ)) (k:κ):Jw es k=(es.findIdx? (·.1==k)).map λj=>((es[j]?).map (·.2.1)).getD default:=by
 have _l:=(inferInstance:LawfulBEq κ);clear _l;have _d:=(inferInstance:DecidableEq κ);clear _d;unfold Jw;induction es with
 |nil=>rfl
 |cons x r ih =>
  rw [pK,pJ];cases x.1==k with
  |true=>simp
  |false=>simp only [kT,kU];rw [ih];cases r.findIdx? (·.1==k)<;>simp
structure Sr (k_:Key κ) (P:Program) (t:TypeId) (z:Value):Prop where
 ok:∃kt et,P.underlying t=some (.map kt et)/\P.underlying kt=some k_.desc/\∀w,(zeroValue et).run P w=.ok z w
def Sr.of {t kt et:TypeId}{i ik ie:Inf}(h:Aq P t i) (hk:Aq P kt ik) (he:Aq P et ie) (hd:i.desc=.map kt et) (hkd:ik.desc=k_.desc){z:Value}(hz:ie.zero=some z):Sr k_ P t z :=
 have _d:=(inferInstance:DecidableEq κ)
 ⟨kt,et,by rw [h.und,hd],by rw [hk.und,hkd],λw=>he.Ql w hz⟩
def Js {kt:TypeId}(h:P.underlying kt=some k_.desc) (k:κ) (es:List (Ei κ)) :
  (Instr.findKey kt (k_.kv k) (es.map (Ei.ent k_))).run P w=.ok ((es.findIdx? (·.1==k)).map λj=>(j,((es[j]?).map (·.2.1)).getD default)) w:=by simp only [Instr.findKey,iH,jZ h,iI,Am4,kY,iJ]
def Aw7 {t:TypeId}{z:Value}(T:Sr k_ P t z){m:Nat}{es:List (Ei κ)}(hm:Oy k_ w m es) (k:κ) :
  (Instr.lookup t (.map (some m)) (k_.kv k) true).run P w=.ok (match Jw es k with|some v=>.tuple #[v,.bool true]|none=>.tuple #[z,.bool false]) w:=by
 obtain ⟨kt,et,h1,h2,h3⟩:=T.ok;obtain ⟨⟨c,hh,_⟩,_,_⟩:=hm;have hg:(getObj m).run P w=.ok (.map (es.map (Ei.ent k_)).toArray c) w:=(by simp [getObj,Sem.run,hh]);have hc:∀b,(Instr.checkKey b 10000 kt (k_.kv k)).run P w=.ok () w:=λb=>k_.check P kt b 9999 k w h2;simp only [Instr.lookup,iH,jZ h1,iI,hg,iJ,hc,Js h2];rw [Aq2];cases es.findIdx? (·.1==k) with
 |none=>simp [h3]
 |some j=>simp
def Yr {t:TypeId}{z:Value}(T:Sr k_ P t z){m:Nat}{es:List (Ei κ)}(hm:Oy k_ w m es) (k:κ) :
  (Instr.lookup t (.map (some m)) (k_.kv k) false).run P w=.ok ((Jw es k).getD z) w:=by
 obtain ⟨kt,et,h1,h2,h3⟩:=T.ok;obtain ⟨⟨c,hh,_⟩,_,_⟩:=hm;have hg:(getObj m).run P w=.ok (.map (es.map (Ei.ent k_)).toArray c) w:=(by simp [getObj,Sem.run,hh]);have hc:∀b,(Instr.checkKey b 10000 kt (k_.kv k)).run P w=.ok () w:=λb=>k_.check P kt b 9999 k w h2;simp only [Instr.lookup,iH,jZ h1,iI,hg,iJ,hc,Js h2];rw [Aq2];cases es.findIdx? (·.1==k) with
 |none=>simp [h3]
 |some j=>simp
def Vj:∀(es:List (Ei κ)) (j:Nat) (v:Value),((es.modify j λx=>(x.1,v,x.2.2)).map (·.1))=es.map (·.1)/\((es.modify j λx=>(x.1,v,x.2.2)).map (·.2.2))=es.map (·.2.2)
 |[],j,v=>by
  have _l:=(inferInstance:LawfulBEq κ)
  clear _l
  have _d:=(inferInstance:DecidableEq κ)
  clear _d
  cases j<;>simp [List.modify]
 |x::r,0,v=>by simp
 |x::r,j+1,v=>by
  have:=Vj r j v
  simp [this.1,this.2]
def Q9:∀(es:List (Ei κ)) (k:κ) (j:Nat) (v:Value),es.findIdx? (·.1==k)=some j->∀k',Jw (es.modify j λx=>(x.1,v,x.2.2)) k'=if k'=k then some v else Jw es k'
 |[],k,j,v,h,k'=>by simp at h
 | x :: r,k,j,v,h,k'=>by
  rw [pJ] at h
  by_cases hx:x.1=k
  ·simp [hx] at h
   subst h
   simp only [List.modify_zero_cons,Jw,pK]
   by_cases hk:k'=k
   ·subst hk;simp [hx]
   ·have:(x.1==k')=false:=by simp;rw [hx];exact λh=>hk h.symm
    simp [this,hk]
  ·have hx':(x.1==k)=false:=by simpa using hx
   simp only [hx',kT,kU] at h
   cases hr:r.findIdx? (·.1==k) with
   |none=>rw [hr] at h;simp at h
   | some i =>
    rw [hr] at h
    simp at h
    subst h
    have ih:=Q9 r k i v hr k'
    simp only [List.modify_succ_cons,Jw,pK]
    by_cases hk:x.1=k'
    ·have hne:¬k'=k:=λh=>hx (hk.trans h)
     simp [hk,hne]
    ·have:(x.1==k')=false:=by simpa using hk
     simp only [this]
     exact ih
def Br4 (es:List (Ei κ)) (k:κ) (v:Value) (b:Nat) (h:es.findIdx? (·.1==k)=none) (k':κ):Jw (es++[(k,v,b)]) k'=if k'=k then some v else Jw es k':=by
 unfold Jw;rw [List.find?_append];by_cases hk:k'=k
 ·subst hk;have:es.find? (·.1==k')=none:=by
   rw [oV]
   rw [pO] at h
   intro x hx;simpa using h x hx
  simp [this]
 {(have:(k==k')=false:=by simp;exact λh=>hk h.symm);simp [this,hk]}
def N7 {t:TypeId}{z:Value}(T:Sr k_ P t z){m:Nat}{es:List (Ei κ)}(hm:Oy k_ w m es) (k:κ) (v:Value) :
  ∃es' w',(Instr.mapUpdate t (.map (some m)) (k_.kv k) v).run P w=.ok () w'/\Oy k_ w' m es'/\(∀k',Jw es' k'=if k'=k then some v else Jw es k')/\Upd (λb=>b=m) w w'/\w'.heap.size=w.heap.size/\es'.length<=es.length+1:=by
 obtain ⟨kt,et,h1,h2,h3⟩:=T.ok;obtain ⟨⟨c,hh,hc'⟩,hk,hb⟩:=hm;have hg:(getObj m).run P w=.ok (.map (es.map (Ei.ent k_)).toArray c) w:=(by simp [getObj,Sem.run,hh]);have hc:∀b,(Instr.checkKey b 10000 kt (k_.kv k)).run P w=.ok () w:=λb=>k_.check P kt b 9999 k w h2;have hset:∀o',(setObj m o').run P w=.ok () { w with heap:=w.heap.setIfInBounds m o' }:=λo'=>(by simp [setObj,Sem.run,hh]);cases hf:es.findIdx? (·.1==k) with
 | none =>
  obtain ⟨u1,u2⟩:=Kz (o':=.map ((es++[(k,v,c)]).map (Ei.ent k_)).toArray (c+1)) hh;refine ⟨es++[(k,v,c)],_,?_,⟨⟨c+1,u2,λx hx=>?_⟩,?_,?_⟩,Br4 es k v c hf,u1,by simp,by simp⟩
  ·simp only [Instr.mapUpdate,iH,jZ h1,iI,hg,hc,Js h2,hf,Option.map_none];have e:((es.map (Ei.ent k_)).toArray.push { key:=k_.kv k,val:=v,born:=c })=((es++[(k,v,c)]).map (Ei.ent k_)).toArray:=by
    apply kK;simp [Ei.ent]
   rw [e];exact hset _
  {rcases jV.1 hx with hx|hx;{have:=hc' x hx;omega};{simp at hx;subst hx;simp}};{rw [oQ,jR];refine ⟨hk,by simp,λa ha b hb'=>?_⟩;simp at hb';subst hb';rw [pO] at hf;obtain ⟨x,hx,rfl⟩:=nT.1 ha;simpa using hf x hx};{rw [oQ,jR];refine ⟨hb,by simp,λa ha b hb'=>?_⟩;simp at hb';subst hb';obtain ⟨x,hx,rfl⟩:=nT.1 ha;have:=hc' x hx;omega}
 | some j =>
  obtain ⟨e1,e2⟩:=Vj es j v;obtain ⟨u1,u2⟩:=Kz (o':=.map ((es.modify j λx=>(x.1,v,x.2.2)).map (Ei.ent k_)).toArray c) hh;have hj:=pR.1 hf;obtain ⟨hjl,hjk,_⟩:=hj;have hjk:es[j].1=k:=(by simpa using hjk);refine ⟨es.modify j λx=>(x.1,v,x.2.2),_,?_,⟨⟨c,u2,λx hx=>?_⟩,by rw [e1];exact hk,by rw [e2];exact hb⟩,Q9 es k j v hf,u1,by simp,by simp⟩
  ·have hkey:((((es.map (Ei.ent k_)).toArray[j]?).map (·.key)).getD (k_.kv k))=k_.kv k:=by
    simp [nP,oP hjl,Ei.ent,hjk]
   have hstay:(Instr.keyThatStays (k_.kv k) (k_.kv k)).run P w=.ok (k_.kv k) w:=by
    simp [Instr.keyThatStays,k_.bits]
   simp only [Instr.mapUpdate,iH,jZ h1,iI,hg,hc,Js h2,hf,jL,hkey,hstay];have e:((es.map (Ei.ent k_)).toArray.modify j λe=>{ e with key:=k_.kv k,val:=v })=((es.modify j λx=>(x.1,v,x.2.2)).map (Ei.ent k_)).toArray:=by
    apply kK
    simp only [Array.toList_modify]
    apply nY
    intro i
    simp only [pU,nP]
    by_cases hij:j=i
    ·subst hij
     simp [oP hjl,Ei.ent,hjk]
    ·simp [hij]
   rw [e];exact hset _
  {have:x.2.2∈(es.modify j λx=>(x.1,v,x.2.2)).map (·.2.2):=pV hx;rw [e2] at this;obtain ⟨y,hy,hxy⟩:=nT.1 this;rw [←hxy];exact hc' y hy}
def Af1:∀(es:List (Ei κ)) (k:κ) (j:Nat),(es.map (·.1)).Nodup->es.findIdx? (·.1==k)=some j->∀k',Jw (es.eraseIdx j) k'=if k'=k then none else Jw es k'
 |[],k,j,_,h,k'=>by simp at h
 | x :: r,k,j,hn,h,k'=>by
  rw [pJ] at h
  simp only [kV,jT] at hn
  by_cases hx:x.1=k
  ·simp [hx] at h
   subst h
   simp only [List.eraseIdx_zero,List.tail_cons]
   by_cases hk:k'=k
   ·subst hk
    simp only [iT]
    unfold Jw
    have:r.find? (·.1==k')=none:=by
     rw [oV]
     intro y hy
     simp
     intro he
     exact hn.1 (by rw [hx,←he];exact pV hy)
    rw [this];rfl
   ·have:(x.1==k')=false:=by simp;rw [hx];exact λh=>hk h.symm
    simp [Jw,pK,this,hk]
  ·have hx':(x.1==k)=false:=by simpa using hx
   simp only [hx',kT,kU] at h
   cases hr:r.findIdx? (·.1==k) with
   |none=>rw [hr] at h;simp at h
   | some i =>
    rw [hr] at h
    simp at h
    subst h
    have ih:=Af1 r k i hn.2 hr k'
    simp only [List.eraseIdx_cons_succ,Jw,pK]
    by_cases hk:x.1=k'
    ·have hne:¬k'=k:=λh=>hx (hk.trans h)
     simp [hk,hne]
    ·have:(x.1==k')=false:=by simpa using hk
     simp only [this]
     exact ih
def Az4 {t kt' rt:TypeId}{z:Value}(T:Sr k_ P t z){m:Nat}{es:List (Ei κ)}(hm:Oy k_ w m es) (k:κ) :
  ∃es' w',(Builtin.delete_ #[t,kt'] rt #[.map (some m),k_.kv k]).run P w=.ok (.tuple #[]) w'/\Oy k_ w' m es'/\(∀k',Jw es' k'=if k'=k then none else Jw es k')/\Upd (λb=>b=m) w w'/\w'.heap.size=w.heap.size/\es'.length<=es.length:=by
 obtain ⟨kt,et,h1,h2,h3⟩:=T.ok;obtain ⟨⟨c,hh,hc'⟩,hk,hb⟩:=hm;have hg:(getObj m).run P w=.ok (.map (es.map (Ei.ent k_)).toArray c) w:=(by simp [getObj,Sem.run,hh]);have hc:∀b,(Instr.checkKey b 10000 kt (k_.kv k)).run P w=.ok () w:=λb=>k_.check P kt b 9999 k w h2;have hset:∀o',(setObj m o').run P w=.ok () { w with heap:=w.heap.setIfInBounds m o' }:=λo'=>(by simp [setObj,Sem.run,hh]);cases hf:es.findIdx? (·.1==k) with
 |none=>obtain ⟨u1,u2⟩:=Kz (o':=.map (es.map (Ei.ent k_)).toArray c) hh;refine ⟨es,_,?_,⟨⟨c,u2,hc'⟩,hk,hb⟩,λk'=>?_,u1,by simp,mJ _⟩;{simp [Builtin.delete_,jZ h1,hg,hc,Js h2,hf,hset]};{by_cases hkk:k'=k;{subst hkk;rw [iK rfl,Aq2,hf];rfl};{rw [iP hkk]}}
 | some j =>
  obtain ⟨hjl,_,_⟩:=pR.1 hf;obtain ⟨u1,u2⟩:=Kz (o':=.map ((es.eraseIdx j).map (Ei.ent k_)).toArray c) hh;refine ⟨es.eraseIdx j,_,?_,⟨⟨c,u2,λx hx=>hc' x (List.mem_of_mem_eraseIdx hx)⟩,?_,?_⟩,Af1 es k j hk hf,u1,by simp,?_⟩
  ·have e:(es.map (Ei.ent k_)).toArray.eraseIdxIfInBounds j=((es.eraseIdx j).map (Ei.ent k_)).toArray:=by
    apply kK
    simp [Array.eraseIdxIfInBounds,hjl,Tf]
   simp [Builtin.delete_,jZ h1,hg,hc,Js h2,hf,hset,Tf]
  {rw [Tf];exact hk.sublist (pW _ _)};{rw [Tf];exact hb.sublist (pW _ _)};{rw [List.length_eraseIdx];split<;>omega}
def Oy.made (m:Nat) (h:w.heap[m]?=some (.map #[] 0)):Oy k_ w m [] :=
 have _d:=(inferInstance:DecidableEq κ)
 ⟨⟨0,h,λ_ hx=>by cases hx⟩,jX,jX⟩
end
abbrev bv (l:List UInt8):List Value:=l.map λb=>.int .u8 (b.toNat:Int)
def Ph (l:List UInt8):∀v∈bv l,Eb v=true:=by intro v hv;obtain ⟨x,_,rfl⟩:=nT.1 hv;rfl
def bytes_eq {a b:ByteArray}:(a.toList==b.toList)=decide (a=b):=by rw [nN,pX,pF,pY,pY];constructor;{intro h;cases a;cases b;simp only at h;congr 1;exact kK h};{intro h;rw [h]}
section
variable {S S':Nat->Prop}{w w':World}{P:Program}
def Bc1 {ts td e:TypeId}(hs:P.underlying ts=some .string) (hd:P.underlying td=some (.slice e)) (he:P.underlying e=some (.int .u8)){s:ByteArray}{K:Sl->Wp}
  (hK:∀s' w',Dx w' s' e 1 (bv s.data.toList)->Ext w w'->(∀k,s'.blk k->w.heap.size<=k)->K s' w'):Dy P (.one (.one .sl)) (convert ts td (.string s)) K w:=by have hr:=run_bytes_of_string (P:=P) w ts td e s hs hd he;refine ⟨⟨some (at0 w.heap.size),s.size,grownCap w s.size 0 e⟩,_,hr,hK _ _ ⟨by rw [nO,mD];exact (kX _).symm,?_,.inr ⟨w.heap.size,0,bytesRow s (grownCap w s.size 0 e),((bytesRow s (grownCap w s.size 0 e)).size,(bytesRow s (grownCap w s.size 0 e)).size+1),rfl,heap_alloc w.drew _,?_,?_⟩⟩ ?_ ?_⟩;{show s.size<=grownCap w s.size 0 e;unfold grownCap;simp only [Question.cut];omega};{(have h1:s.size<=grownCap w s.size 0 e:=by unfold grownCap;simp only [Question.cut];omega);have h2:s.data.size=s.size:=rfl;simp [bytesRow];omega};{intro i v hv;have hlt:=(lY.1 hv).1;simp only [nO,mD] at hlt;rw [kY];unfold bytesRow;rw [mG (by simpa using hlt)];rw [←hv];simp};{exact (Ext.drew w).trans (Ext.alloc w.drew _)};{rintro k ⟨p,hp,rfl⟩;cases hp;exact mJ _}
def Ul {ts tb e:TypeId}(hs:P.underlying tb=some (.slice e)) (he:P.underlying e=some (.int .u8)) (hd:P.underlying ts=some .string){s:Sl}{l:List UInt8}{K:ByteArray->Wp}(h:SlX w s 1 (bv l))
  (hK:K ⟨l.toArray⟩ w):Dy P (.one (.one .str)) (convert tb ts (.slice s.a s.len s.cap)) K w:=by
 (have hl:l.length=s.len:=by have:=h.len;simp at this;omega);rcases h.at_ with ⟨h1,h2⟩|⟨t,h⟩
 ·have hl0:l=[]:=jH.1 (by omega);subst hl0;refine ⟨⟨#[]⟩,w,?_,hK⟩;rw [h1];cases ha:s.a with
  |none=>rw [qA w tb ts e none 0 s.cap hs he hd];rfl
  |some a=>have:=qB (P:=P) w tb ts e a s.cap [] hs he hd (λj hj=>by simp at hj);exact this
 {rcases h.at_ with ⟨ha,hc⟩|⟨b,off,c,fr,ha,hb,hcap,hv⟩;{(have h0:s.len=0:=by have:=h.le;omega);have hl0:l=[]:=jH.1 (by omega);subst hl0;refine ⟨⟨#[]⟩,w,?_,hK⟩;rw [h0,ha,qA w tb ts e none 0 s.cap hs he hd];rfl};{refine ⟨⟨l.toArray⟩,w,?_,hK⟩;rw [ha,←hl];refine qB w tb ts e _ s.cap l hs he hd λj hj=>?_;rw [addr_add];exact cell_of hb (hv j _ (by simp [hj]))}}
def Cp1 {tb e:TypeId}(hs:P.underlying tb=some (.slice e)) (he:P.underlying e=some (.int .u8)){b n m:Nat}{c:Array Value}{t:TypeId}{fr:Nat×Nat}{K:Sl->Wp}(hb:w.heap[b]?=some (.cells c t fr))
  (hK:∀w' fr',w'.heap[b]?=some (.cells c t fr')->Upd (λk=>k=b) w w'->K ⟨some (at0 b),n,m⟩ w'):Dy P (.one (.one .sl)) (convert tb tb (.slice (some (at0 b)) n m)) K w:=by have hsh:w.shape? b=some (t,c.size):=(by simp [World.shape?,hb]);refine ⟨⟨some (at0 b),n,m⟩,w.freeze ⟨b,c.size,none⟩ 1,?_,?_⟩;{simp [convert,jZ hs,jZ he,markStringish,shape,freeze,Sem.run,hsh,RTy.val,Ty.val,Cell.val]};{obtain ⟨lo,hi⟩:=fr;refine hK _ (if lo==hi then (c.size,c.size+1) else (min lo c.size,max hi (c.size+1))) ?_ ⟨rfl,rfl,rfl,by simp [World.freeze],λk hk hn=>?_⟩;{simp [World.freeze,mQ,hb]};{simp only [World.freeze,mQ];rw [iP (by decide)];simp only;rw [mQ,iP (λh=>hn h.symm)]}}
def Az1 {t:TypeId}{ms:Array (String×TypeId)}(hi:P.underlying t=some (.interface ms)) (n:Nat) (d:TypeId) (v:Value) (w:World):(Op.equalIn (n+1) t (.iface d v) .nilIface).run P w=.ok false w:=by simp [Op.equalIn,jZ hi]
def Aq8 {t:TypeId}{ms:Array (String×TypeId)}(hi:P.underlying t=some (.interface ms)) (n:Nat) (w:World):(Op.equalIn (n+1) t .nilIface .nilIface).run P w=.ok true w:=by simp [Op.equalIn,jZ hi]
def Am6 {t:TypeId}{ms:Array (String×TypeId)}(hi:P.underlying t=some (.interface ms)) (d:TypeId) (v:Value) (w:World):(Op.equalIn Op.maxDepth t (.iface d v) .nilIface).run P w=.ok false w:=Az1 hi _ d v w
def Ag0 {t:TypeId}{ms:Array (String×TypeId)}(hi:P.underlying t=some (.interface ms)) (w:World):(Op.equalIn Op.maxDepth t .nilIface .nilIface).run P w=.ok true w:=Aq8 hi _ w
def Ad7 {t:TypeId}{o1:Operand}{d:TypeId}{v:Value}{K:Bool->Wp}(h:K true w) (hi:∃ms,P.underlying t=some (.interface ms)):rdB P (do eqGuard .neq t o1 (.const .nilIface) (.iface d v) .nilIface;binOp .neq t (.iface d v) .nilIface:Sem Value) K w:=by obtain ⟨ms,hi⟩:=hi;refine ⟨true,?_,h⟩;simp [eqGuard,binOp,jZ hi,Op.equal,Am6 hi]
def Sz {t:TypeId}{o1:Operand}{K:Bool->Wp}(h:K false w) (hi:∃ms,P.underlying t=some (.interface ms)):rdB P (do eqGuard .neq t o1 (.const .nilIface) .nilIface .nilIface;binOp .neq t .nilIface .nilIface:Sem Value) K w:=by obtain ⟨ms,hi⟩:=hi;refine ⟨false,?_,h⟩;simp [eqGuard,binOp,jZ hi,Op.equal,Ag0 hi]
def Oi {t:TypeId}{o1:Operand}{d:TypeId}{v:Value}{K:Bool->Wp}(h:K false w) (hi:∃ms,P.underlying t=some (.interface ms)):rdB P (do eqGuard .eql t o1 (.const .nilIface) (.iface d v) .nilIface;binOp .eql t (.iface d v) .nilIface:Sem Value) K w:=by obtain ⟨ms,hi⟩:=hi;refine ⟨false,?_,h⟩;simp [eqGuard,binOp,jZ hi,Op.equal,Am6 hi]
def Yk {t:TypeId}{o1:Operand}{K:Bool->Wp}(h:K true w) (hi:∃ms,P.underlying t=some (.interface ms)):rdB P (do eqGuard .eql t o1 (.const .nilIface) .nilIface .nilIface;binOp .eql t .nilIface .nilIface:Sem Value) K w:=by obtain ⟨ms,hi⟩:=hi;refine ⟨true,?_,h⟩;simp [eqGuard,binOp,jZ hi,Op.equal,Ag0 hi]
def Bs5 {t e:TypeId}{n:Nat}(hu:P.underlying t=some (.pointer e)) (hs:∀w,(Go.sizeOf e).run P w=.ok n w) (hn:n≠0){p q:Option Addr}(hp:∀a,p=some a->∃c u,w.heap[a.block]?=some (.cells c u (0,0))) (hq:∀a,q=some a->∃c u,w.heap[a.block]?=some (.cells c u (0,0))) (k:Nat) :
  (Op.equalIn (k+1) t (.pointer p) (.pointer q)).run P w=.ok (decide (p=q)) w:=by
 cases p with
 |none=>cases q<;>simp [Op.equalIn,jZ hu]
 |some a =>
  cases q with
  |none=>simp [Op.equalIn,jZ hu]
  |some b=>by_cases hab:a=b;{subst hab;simp [Op.equalIn,jZ hu,hs,hn,run_sameAddr_same]};{obtain ⟨c,u,ha⟩:=hp a rfl;obtain ⟨c',u',hb⟩:=hq b rfl;simp [Op.equalIn,jZ hu,hs,hn,hab];exact run_sameAddr_other w hab ha hb}
def By5 {t e:TypeId}{n:Nat}(hu:P.underlying t=some (.pointer e)) (hs:∀w,(Go.sizeOf e).run P w=.ok n w) (hn:n≠0){p q:Option Addr}{o1 o2:Operand}{K:Bool->Wp}(hp:∀a,p=some a->∃c u,w.heap[a.block]?=some (.cells c u (0,0))) (hq:∀a,q=some a->∃c u,w.heap[a.block]?=some (.cells c u (0,0)))
  (h:K (decide (p≠q)) w):rdB P (do eqGuard .neq t o1 o2 (.pointer p) (.pointer q);binOp .neq t (.pointer p) (.pointer q):Sem Value) K w:=by refine ⟨decide (p≠q),?_,h⟩;have e:(Op.equal t (.pointer p) (.pointer q)).run P w=.ok (decide (p=q)) w:=Bs5 hu hs hn hp hq 9999;simp [eqGuard,binOp,e]
def Bg7 {t:TypeId}{ps rs:Array TypeId}{vr:Bool}(hu:P.underlying t=some (.func ps rs vr)) (g:Fn) (a b:Array Value) (n:Nat):(Op.equalIn (n+1) t (.func g a b) .nilFunc).run P w=.ok false w:=by simp [Op.equalIn,jZ hu]
def Ay9 {t:TypeId}{ps rs:Array TypeId}{vr:Bool}(hu:P.underlying t=some (.func ps rs vr)) (n:Nat):(Op.equalIn (n+1) t .nilFunc .nilFunc).run P w=.ok true w:=by simp [Op.equalIn,jZ hu]
def Bp9 {t:TypeId}{ps rs:Array TypeId}{vr:Bool}(hu:P.underlying t=some (.func ps rs vr)){o1:Operand}{g:Fn}{a b:Array Value}{K:Bool->Wp}(h:K true w):rdB P (do eqGuard .neq t o1 (.const .nilFunc) (.func g a b) .nilFunc;binOp .neq t (.func g a b) .nilFunc:Sem Value) K w:=by refine ⟨true,?_,h⟩;have e:(Op.equal t (.func g a b) .nilFunc).run P w=.ok false w:=Bg7 hu g a b 9999;simp [eqGuard,binOp,e]
def Bd4 {t:TypeId}{ps rs:Array TypeId}{vr:Bool}(hu:P.underlying t=some (.func ps rs vr)){o1:Operand}{K:Bool->Wp}(h:K false w):rdB P (do eqGuard .neq t o1 (.const .nilFunc) .nilFunc .nilFunc;binOp .neq t .nilFunc .nilFunc:Sem Value) K w:=by refine ⟨false,?_,h⟩;have e:(Op.equal t .nilFunc .nilFunc).run P w=.ok true w:=Ay9 hu 9999;simp [eqGuard,binOp,e]
end
end Go.Vx
namespace Go.Proofs.YtmooldhpiopcgaaGreatDoor
open Go.Proofs.Tryz
section
namespace Cdc
abbrev Bs:=List UInt8
inductive Enc where
 |u8|le|be|l1
 deriving DecidableEq
def Enc.num:Enc->Int
 |.u8=>1
 |.le=>2
 |.be=>3
 |.l1=>4
def Fg (c:Nat):Nat×Nat×Nat :=
 if c<128 then (1,0,0) else if c<194 then (0,0,0) else if c<224 then (2,128,191) else if c=224 then (3,160,191) else if c=237 then (3,128,159)
 else if c<240 then (3,128,191) else if c=240 then (4,144,191) else if c<244 then (4,128,191) else if c=244 then (4,128,143) else (0,0,0)
def cont (c:UInt8):Bool:=c.toNat/64==2
def more:Nat->Bs->Nat
 |n+1,b::r=>if cont b then more n r+1 else 0
 |_,_=>0
def rowOf:Bs->Nat×Nat
 |[]=>(0,0)
 |b::r=>if (Fg b.toNat).1<2 then ((Fg b.toNat).1,(Fg b.toNat).1) else
  match r with
  |[]=>(1,(Fg b.toNat).1)
  |c::r'=>if c.toNat<(Fg b.toNat).2.1\/(Fg b.toNat).2.2<c.toNat then (1,(Fg b.toNat).1) else (2+more ((Fg b.toNat).1-2) r',(Fg b.toNat).1)
def lead (n c:Nat):Nat:=if n=2 then c%32 else if n=3 then c%16 else if n=4 then c%8 else c
def rest (a:Nat) (l:Bs):Nat:=l.foldl (λa c=>a*64+c.toNat%64) a
def nx8:Bs->Int×Nat
 |[]=>(0,0)
 |b::r=>if (rowOf (b::r)).2=0\/(rowOf (b::r)).1<(rowOf (b::r)).2 then (-1-(b.toNat:Int),1)
  else ((rest (lead (rowOf (b::r)).2 b.toNat) (r.take ((rowOf (b::r)).2-1)):Nat),(rowOf (b::r)).2)
def un (be:Bool) (a b:UInt8):Nat:=if be then b.toNat+a.toNat*256 else a.toNat+b.toNat*256
def Pv (be:Bool):Bs->Int×Nat
 |[]=>(0,0)
 |[b]=>(-1-(b.toNat:Int),1)
 | a::b::r=>if un be a b/1024=54 then
   match r with
   |c::d::_=>if un be c d/1024=55 then (65536+((un be a b%1024*1024+un be c d%1024:Nat):Int),4) else ((un be a b:Nat),2)
   |_=>((un be a b:Nat),2)
  else ((un be a b:Nat),2)
def nx1:Bs->Int×Nat
 |[]=>(0,0)
 |b::_=>((b.toNat:Int),1)
def nx:Enc->Bs->Int×Nat
 |.u8,l=>nx8 l
 |.le,l=>Pv false l
 |.be,l=>Pv true l
 |.l1,l=>nx1 l
def Ar8 (c:Nat):(Fg c).1<=4:=by (unfold Fg;repeat' split);all_goals simp
def Aa6:∀(n:Nat) (l:Bs),more n l<=n/\more n l<=l.length
 |0,l=>by cases l<;>simp [more]
 |n+1,[]=>by simp [more]
 |n+1,b::r=>by
  have:=Aa6 n r
  simp only [more]
  split<;>simp<;>omega
def Al2:∀(n:Nat) (l:Bs) (k:Nat),more n (l.take k)=min k (more n l)
 |0,l,k=>by cases l<;>cases k<;>simp [more]
 |n+1,[],k=>by simp [more]
 |n+1,b::r,0=>by simp [more]
 |n+1,b::r,k+1=>by
  simp only [qC,more]
  split
  ·rw [Al2 n r k];omega
  ·simp
def La (b:UInt8) (r:Bs):(rowOf (b::r)).2=(Fg b.toNat).1:=by simp only [rowOf];(repeat' split);all_goals rfl
def Ad6 (b:UInt8) (r:Bs):(rowOf (b::r)).1<=(b::r).length/\(rowOf (b::r)).1<=max 1 (rowOf (b::r)).2:=by simp only [rowOf];split;{simp;omega};{split;{simp;omega};{rename_i c r';split;{simp;omega};{have:=Aa6 ((Fg b.toNat).1-2) r';simp;omega}}}
def Bd0 (b:UInt8) (r:Bs) (k:Nat):(rowOf (b::r.take k)).1<=(rowOf (b::r)).1/\((rowOf (b::r)).1<=k+1->(rowOf (b::r.take k)).1=(rowOf (b::r)).1):=by
 simp only [rowOf];split;{simp}
 ·rename_i h2;cases r with
  |nil=>simp
  |cons c r' =>
   cases k with
   |zero=>simp only [qE];split;{simp};{simp;omega}
   |succ k=>simp only [qC];split;{simp};{simp only [Al2];omega}
def Qn (b:UInt8) (r:Bs):1<=(nx8 (b::r)).2/\(nx8 (b::r)).2<=(b::r).length/\(nx8 (b::r)).2<=4:=by have h1:=Ad6 b r;have h2:=La b r;have h3:=Ar8 b.toNat;simp only [nx8];split;{simp};{simp only;omega}
def Ca9 (b:UInt8) (r:Bs) (k:Nat) (h:(nx8 (b::r)).2<=k+1):nx8 (b::r.take k)=nx8 (b::r):=by have h1:=Bd0 b r k;have h2:=La b r;have h3:=La b (r.take k);have h4:=Ad6 b r;simp only [nx8] at h ⊢;rw [h3,←h2];split at h;{rename_i hc;have:(rowOf (b::r)).2=0\/(rowOf (b::List.take k r)).1<(rowOf (b::r)).2:=(by omega);rw [iK this,iK hc]};{rename_i hc;simp only at h;rw [iP hc,iP (by omega),List.take_take,nI (by omega)]}
def Al0 (be:Bool) (b:UInt8) (r:Bs):1<=(Pv be (b::r)).2/\(Pv be (b::r)).2<=(b::r).length/\(Pv be (b::r)).2<=4:=by
 cases r with
 |nil=>simp [Pv]
 |cons c r=>simp only [Pv];split;{split;{split<;>simp};{simp}};{simp}
def Ak9 (be:Bool) (b:UInt8) (r:Bs) (k:Nat) (h:(Pv be (b::r)).2<=k+1):Pv be (b::r.take k)=Pv be (b::r):=by
 cases r with
 |nil=>simp [Pv]
 | cons c r =>
  have hs:1<(Pv be (b::c::r)).2:=by
   simp only [Pv]
   split
   ·split
    ·split<;>simp
    ·simp
   ·simp
  obtain ⟨k,rfl⟩:∃k',k=k'+1:=⟨k-1,by omega⟩
  simp only [qC,Pv] at h ⊢
  split
  ·rename_i hu
   rw [iK hu] at h
   match r,k with
   |[],k=>simp
   |[_],0=>simp
   |[_],k+1=>simp
   |c::d::r,0 =>
    simp only at h ⊢
    split at h
    ·simp at h
    ·rename_i h55;simp [h55]
   |c::d::r,1 =>
    simp only at h ⊢
    split at h
    ·simp at h
    ·rename_i h55;simp [h55]
   |c::d::r,k+2=>simp
  ·rfl
def Yo (e:Enc){l:Bs}(h:l≠[]):1<=(nx e l).2/\(nx e l).2<=l.length/\(nx e l).2<=4:=by
 cases l with
 |nil=>exact absurd rfl h
 |cons b r =>
  cases e with
  |u8=>exact Qn b r
  |le=>exact Al0 _ b r
  |be=>exact Al0 _ b r
  |l1=>simp [nx,nx1]
def Cl0 (e:Enc){l:Bs}{k:Nat}(h:l≠[]) (hk:(nx e l).2<=k):nx e (l.take k)=nx e l:=by
 cases l with
 |nil=>exact absurd rfl h
 |cons b r =>
  have hs:=(Yo e h).1;obtain ⟨k,rfl⟩:∃k',k=k'+1:=⟨k-1,by omega⟩;rw [qC];cases e with
  |u8=>exact Ca9 b r k hk
  |le=>exact Ak9 _ b r k hk
  |be=>exact Ak9 _ b r k hk
  |l1=>rfl
def ats (e:Enc) (l:Bs):List (Int×Nat) :=
 if h:l=[] then [] else nx e l::ats e (l.drop (nx e l).2)
termination_by l.length
decreasing_by
  have h1:=Yo e h
  have:0<l.length:=qF.2 h
  simp only [nH];omega
def Nl (e:Enc):ats e []=[]:=by rw [ats];simp
def Ox (e:Enc){l:Bs}(h:l≠[]):ats e l=nx e l::ats e (l.drop (nx e l).2):=by rw [ats];simp [h]
def szs (l:List (Int×Nat)):Nat:=(l.map (·.2)).sum
def Bj1:szs []=0:=rfl
def Qk (x:Int×Nat) (l:List (Int×Nat)):szs (x::l)=x.2+szs l:=by simp [szs]
def Jf (l m:List (Int×Nat)):szs (l++m)=szs l+szs m:=by simp [szs]
def Ch0 (e:Enc):∀(n:Nat) (l:Bs),l.length<=n->szs (ats e l)=l.length:=by
 intro n;induction n with
 |zero=>intro l h;obtain rfl:l=[]:=jH.1 (by omega);simp [Nl,szs]
 |succ n ih=>intro l h;by_cases hl:l=[];{subst hl;simp [Nl,szs]};{have h1:=Yo e hl;have:0<l.length:=qF.2 hl;rw [Ox e hl,Qk,ih _ (by simp only [nH];omega),nH];omega}
def Me (e:Enc) (l:Bs):szs (ats e l)=l.length:=Ch0 e _ l (mJ _)
def As0 (e:Enc):∀(j:Nat) (l:Bs),ats e (l.take (szs ((ats e l).take j)))=(ats e l).take j/\ats e (l.drop (szs ((ats e l).take j)))=(ats e l).drop j:=by
 intro j;induction j with
 |zero=>intro l;simp [szs,Nl]
 | succ j ih =>
  intro l;by_cases hl:l=[];{subst hl;simp [Nl]}
  ·have h1:=Yo e hl;obtain ⟨g1,g2⟩:=ih (l.drop (nx e l).2);rw [Ox e hl];simp only [qC,qG,Qk];generalize hm:szs ((ats e (l.drop (nx e l).2)).take j)=m at g1 g2 ⊢;have hne:l.take ((nx e l).2+m)≠[]:=by
    have:0<l.length:=qF.2 hl
    intro hc
    have:=lW List.length hc
    rw [nG,kW] at this;omega
   constructor;{rw [Ox e hne,Cl0 e hl (by omega),List.drop_take];have:(nx e l).2+m-(nx e l).2=m:=(by omega);rw [this,g1]};{rw [←qH,g2]}
def Cn9 (e:Enc):∀(n:Nat) (l:Bs),l.length<=n->∀x∈ats e l,1<=x.2/\x.2<=4:=by
 intro n;induction n with
 |zero=>intro l h x hx;obtain rfl:l=[]:=jH.1 (by omega);rw [Nl] at hx;cases hx
 |succ n ih=>intro l h x hx;by_cases hl:l=[];{subst hl;rw [Nl] at hx;cases hx};{have h1:=Yo e hl;have:0<l.length:=qF.2 hl;rw [Ox e hl] at hx;rcases iL.1 hx with rfl|hx;{exact ⟨h1.1,h1.2.2⟩};{exact ih _ (by simp only [nH];omega) x hx}}
end Cdc
end
end Go.Proofs.YtmooldhpiopcgaaGreatDoor
namespace Go.Proofs.YtmooldhpiopcgaaGreatDoor.Flp
open Go Cdc
def fi (n:Int):Nat:=FloatKind.f64.nearest n
def dv (a b:Nat):Nat:=(FloatKind.f64.format.div a b).getD 0
def sb (a b:Nat):Nat:=(FloatKind.f64.format.sub a b).getD 0
def ge (a b:Nat):Bool:=FloatKind.f64.format.order a b==some .gt||FloatKind.f64.format.order a b==some .eq
def le (a b:Nat):Bool:=FloatKind.f64.format.order a b==some .lt||FloatKind.f64.format.order a b==some .eq
def B52:Nat:=4503599627370496
def b52:0<B52:=by decide
def Bf9:Ieee.double.infRung=2047*B52:=by decide
def Bx6:Ieee.double.signWeight=2048*B52:=by decide
def Ce9:Ieee.double.binade=B52:=by decide
def Ax0:Ieee.double.leastPlace=-1074:=by decide
def Cm5:(Ieee.double.fractionBits:Int)=52:=rfl
attribute [local irreducible] B52
def Cl1 (neg:Bool) (mag:Nat) (place:Int):∃r,r<=2047*B52/\Ieee.double.nearest neg mag place=Ieee.double.word neg r:=by unfold Ieee.Format.nearest;split;{exact ⟨0,qI _,rfl⟩};{exact ⟨_,by rw [Bf9];exact Nat.min_le_right _ _,rfl⟩}
def Bv2 (neg:Bool){r:Nat}(h:r<2048*B52):(Ieee.double.word neg r)%Ieee.double.signWeight=r:=by unfold Ieee.Format.word;rw [Bx6];split;{rw [Nat.add_mod_left,qJ h]};{exact qJ h}
def Bv3 (neg:Bool){r:Nat}(h:r<2048*B52):(Ieee.double.word neg r/Ieee.double.signWeight%2==1)=neg:=by unfold Ieee.Format.word;rw [Bx6];have hb:=b52;cases neg;{rw [iP (by decide),qK h];rfl};{rw [iK rfl,Nat.add_div_left _ (by omega),qK h];rfl}
def Zn (neg:Bool){r:Nat}(h:r<=2047*B52):(∃m p,Ieee.double.read (Ieee.double.word neg r)=.number neg m p/\(r≠0->m≠0))\/(r=2047*B52/\Ieee.double.read (Ieee.double.word neg r)=.infinity neg):=by have hb:=b52;have hr:r<2048*B52:=(by omega);have e1:=Bv2 neg hr;have e2:=Bv3 neg hr;unfold Ieee.Format.read;simp only [e1,e2];rw [Ce9,Bf9];by_cases h1:r<B52;{rw [iK h1];exact .inl ⟨_,_,rfl,id⟩};rw [iP h1];by_cases h2:r<2047*B52;{rw [iK h2];exact .inl ⟨_,_,rfl,λ_=>by omega⟩};rw [iP h2];have h3:r=2047*B52:=(by omega);rw [iK h3];exact .inr ⟨h3,rfl⟩
def Cy4 (n:Int):fi n=Ieee.double.nearest (n<0) n.natAbs 0:=rfl
def Cu1 (x:Nat):Ieee.Toward.even.cut false x 0<=x+1:=by unfold Ieee.Toward.cut;have:min 0 (x.log2+2)=0:=Nat.zero_min _;simp only [this,Nat.shiftLeft_zero,qL];have h:∀b:Bool,b.toNat<=1:=λb=>(by cases b<;>decide);exact Nat.add_le_add_left (h _) _
def fits {B L c:Nat}(hB:2<B) (hL:L<40) (hc:c<=2*B+1):min ((L+1022)*B+c) (2047*B)≠0/\min ((L+1022)*B+c) (2047*B)<2047*B:=by have h1:(L+1022)*B=L*B+1022*B:=mX _ _ _;have h2:L*B<=40*B:=mY _ (by omega);omega
def Cl2 {mag:Nat}(h:mag≠0) (hl:mag.log2<40):∃c,c<=mag <<< (52-mag.log2)+1/\Ieee.double.nearest false mag 0=Ieee.double.word false (min ((mag.log2+1022)*B52+c) (2047*B52)):=by
 refine ⟨_,Cu1 _,?_⟩;unfold Ieee.Format.nearest;rw [iP h];have el:max ((0:Int)+(mag.log2:Int)-(Ieee.double.fractionBits:Int)) Ieee.double.leastPlace=(mag.log2:Int)-52:=by
  rw [Cm5,Ax0];omega
 simp only [el];rw [Ax0,Ce9,Bf9];rw [show (0-((mag.log2:Int)-52)).toNat=52-mag.log2 by omega,show ((mag.log2:Int)-52-0).toNat=0 by omega,show ((mag.log2:Int)-52 - -1074).toNat=mag.log2+1022 by omega]
def Cr4 {k:Nat}(hz:k≠0) (hl:k.log2<40):k <<< (52-k.log2)<2*B52:=by
 rw [qM];have hlt:k<2^(k.log2+1):=Nat.lt_log2_self;have h2:2^(k.log2+1)*2^(52-k.log2)=2^53:=by
  rw [←Nat.pow_add,show k.log2+1+(52-k.log2)=53 by omega]
 (have h3:(2:Nat)^53=2*B52:=by unfold B52;rfl);rw [←h3,←h2];exact Nat.mul_lt_mul_of_pos_right hlt (Nat.two_pow_pos _)
def Cd4 {n:Int}(h0:0<=n) (h1:n<1099511627776):∃m p,Ieee.double.read (fi n)=.number false m p/\(n≠0->m≠0):=by obtain ⟨k,rfl⟩:=qN h0;have hn:decide ((k:Int)<0)=false:=qO (by omega);rw [Cy4,hn,Int.natAbs_natCast];by_cases hz:k=0;{subst hz;rcases Zn false (r:=0) (qI _) with ⟨m,p,h,_⟩|⟨h,_⟩;{exact ⟨m,p,h,λh=>absurd rfl h⟩};{have:=b52;omega}};have hl:k.log2<40:=(Nat.log2_lt hz).2 (by omega);obtain ⟨c,hc,e⟩:=Cl2 hz hl;have hx:=Cr4 hz hl;(have hB:2<B52:=by unfold B52;decide);obtain ⟨r0,r1⟩:=fits hB hl (c:=c) (by omega);rw [e];rcases Zn false (Nat.le_of_lt r1) with ⟨m,p,h,hm⟩|⟨h,_⟩;{exact ⟨m,p,h,λ_=>hm r0⟩};{omega}
def Bm2 {a b:Int}(ha:0<=a/\a<1099511627776) (hb:0<b/\b<1099511627776):FloatKind.f64.format.div (fi a) (fi b)=some (dv (fi a) (fi b))/\∃d,Ieee.double.read (dv (fi a) (fi b))=d/\((∃s m p,d=.number s m p)\/∃s,d=.infinity s):=by
 obtain ⟨m,p,h1,_⟩:=Cd4 ha.1 ha.2;obtain ⟨m',p',h2,h3⟩:=Cd4 (by omega) hb.2;have h3:=h3 (by omega);have e:FloatKind.f64.format.div (fi a) (fi b)=some (dv (fi a) (fi b))/\∃s x y,dv (fi a) (fi b)=Ieee.double.nearest s x y:=by
  unfold dv
  have hd:FloatKind.f64.format.div (fi a) (fi b)=(((Ieee.double.read (fi a)).quotient (Ieee.double.fractionBits+2) (Ieee.double.read (fi b))).map Ieee.double.write):=rfl
  rw [hd,h1,h2]
  unfold Ieee.Datum.quotient
  simp only [iP h3,jL,jM]
  exact ⟨by first|rfl|trivial,_,_,_,rfl⟩
 refine ⟨e.1,_,rfl,?_⟩;obtain ⟨s,x,y,e⟩:=e.2;rw [e];obtain ⟨r,hr,er⟩:=Cl1 s x y;rw [er];rcases Zn s hr with ⟨m,p,h,_⟩|⟨_,h⟩;{exact .inl ⟨_,_,_,h⟩};{exact .inr ⟨_,h⟩}
def one_num:∃m p,Ieee.double.read 4607182418800017408=.number false m p:=⟨4503599627370496,-52,by decide +kernel⟩
def Ci1 {a b:Int}(ha:0<=a/\a<1099511627776) (hb:0<b/\b<1099511627776):FloatKind.f64.format.sub 4607182418800017408 (dv (fi a) (fi b))=some (sb 4607182418800017408 (dv (fi a) (fi b))):=by obtain ⟨_,d,h1,h2⟩:=Bm2 ha hb;obtain ⟨m,p,h3⟩:=one_num;unfold sb;have hd:FloatKind.f64.format.sub 4607182418800017408 (dv (fi a) (fi b))=(((Ieee.double.read 4607182418800017408).sum (Ieee.double.read (dv (fi a) (fi b))).opposite).map Ieee.double.write):=rfl;rw [hd,h1,h3];rcases h2 with ⟨s,m',p',rfl⟩|⟨s,rfl⟩;{rfl};{rfl}
def zc (l:List UInt8) (a u:Nat):Nat:=((List.range u).filter λj=>l.getD (a+2*j) 1==0).length
def Xz (l:List UInt8) (a u:Nat):zc l a (u+1)=zc l a u+if l.getD (a+2*u) 1=0 then 1 else 0:=by unfold zc;rw [lZ,qP,oC];congr 1;rw [qQ];by_cases h:l.getD (a+2*u) 1=0;{rw [iK h,h];rfl};{rw [iP h,iP (by simpa using h)];rfl}
def Ai4 (l:List UInt8) (a u:Nat):zc l a u<=u:=by unfold zc;have:=qR (λj=>l.getD (a+2*j) 1==0) (List.range u);simpa using this
def hrK:Nat->List UInt8->Nat×Nat
 |0,_=>(0,0)
 |_+1,[]=>(0,0)
 |n+1,b::r=>((if 128<=b.toNat then (nx8 (b::r)).2 else 0)+(hrK n ((b::r).drop (nx8 (b::r)).2)).1,(if (nx8 (b::r)).1<0 then 1 else 0)+(hrK n ((b::r).drop (nx8 (b::r)).2)).2)
def Rz (l:List UInt8):Int×Nat :=
 let u:=l.length/2
 let hi:=dv (fi (zc l 0 u)) (fi u)
 let lo:=dv (fi (zc l 1 u)) (fi u)
 if 0<u/\ge lo 4602678819172646912=true/\le hi 4593671619917905920=true then (2,lo) else
 if 0<u/\ge hi 4602678819172646912=true/\le lo 4593671619917905920=true then (3,hi) else
 let x:=hrK l.length l
 if x.2=0 then (1,4607182418800017408) else
 let good:=dv (fi ((x.1:Int)-x.2)) (fi x.1)
 if ge good 4604930618986332160=true then (1,good) else (4,sb 4607182418800017408 good)
def Ct7 (n:Nat):hrK n []=(0,0):=by cases n<;>rfl
def Bl8:∀(n:Nat) (l:List UInt8),(hrK n l).2<=(hrK n l).1/\(hrK n l).1<=l.length
 |0,l=>⟨mJ _,qI _⟩
 |n+1,[]=>⟨mJ _,qI _⟩
 | n+1,b::r=>by
  obtain ⟨h1,h2⟩:=Bl8 n ((b::r).drop (nx8 (b::r)).2)
  obtain ⟨s1,s2,s3⟩:=Qn b r
  have h3:(nx8 (b::r)).1<0->128<=b.toNat:=λh=>qU λhb=>by
   have hb:b.toNat<128:=by omega
   have e:Fg b.toNat=(1,0,0):=by unfold Fg;rw [iK (by omega)]
   have er:rowOf (b::r)=(1,1):=by simp only [rowOf,e];rfl
   simp only [nx8,er] at h
   rw [iP (by omega)] at h
   have:(0:Int)<=((rest (lead 1 b.toNat) (r.take (1-1)):Nat):Int):=qV _
   omega
  rw [nH] at h2
  simp only [hrK]
  constructor
  ·split
   ·rw [iK (h3 ‹_›)];omega
   ·omega
  ·split<;>omega
end Go.Proofs.YtmooldhpiopcgaaGreatDoor.Flp
set_option maxRecDepth 100000
namespace Go.Proofs.YtmooldhpiopcgaaGreatDoor
open Go.Proofs.Tryz
section
open Go Go.Vx
abbrev c32:List Cell:=[.int .i64,.int .i64,.sl,.bool]
abbrev c39:List Cell:=[.sl,.str,.int .i64,.sl]
abbrev c47:List Cell:=[.ptr,.ptr,.int .i64,.int .i64,.sl,.bool,.sl,.bool]
abbrev c56:List Cell:=[.int .i64,.int .i64,.int .i64]
abbrev c57:List Cell:=[.int .i64,.int .i64,.int .i64]
abbrev c65:List Cell:=[.str,.sl]
abbrev c72:List Cell:=[.int .i64,.sl]
abbrev c81:List Cell:=[.int .i64,.sl]
abbrev c86:List Cell:=[.sl,.sl]
abbrev c89:List Cell:=[.int .i64,.int .i64,.sl]
abbrev Cz8:List Cell:=[.str,.str,.int .i64,.any]
abbrev c107:List Cell:=[.int .i64,.map,.map,.sl,.int .i64,.bool,.map,.int .i64]
abbrev Cz7:List Cell:=[.ptr,.str,.sl,.int .i64,.int .i64,.int .i64,.int .i64,.int .i64,.int .i64]
abbrev c119:List Cell:=[.sl,.sl]
abbrev Cz6:List Cell:=[.int .i64,.sl,.int .i64,.int .i64]
abbrev c127:List Cell:=[.ptr,.str]
abbrev Dt:List Cell:=[.int .i64,.int .i64,.int .i64,.int .i64,.sl]
abbrev c139:List Cell:=[.ptr]
abbrev c141:List Cell:=[.int .i64,.int .i64,.ptr,.sl]
abbrev Cm:List Cell:=[.int .i64,.int .i64,.int .i64,.bool,.bool]
abbrev c146:List Cell:=[.sl,.int .i64,.int .i64,.int .i64,.int .i64,.bool,.bool]
abbrev c154:List Cell:=[.ptr,.ptr]
abbrev c156:List Cell:=[.ptr,.ptr]
abbrev Cz5:List Cell:=[.ptr,.ptr,.ptr,.ptr,.ptr,.ptr,.sl]
abbrev c162:List Cell:=[.int .i64,.int .i64,.str,.str,.int .i64,.int .i64,.bool,.sl,.sl,.int .i64,.sl]
abbrev Cu6:List Cell:=[]
abbrev Cz4:List Cell:=[.ptr,.ptr,.sl,.int .i64,.int .i64,.int .i64,.int .i64,.bool,.bool,.int .i64,.int .i64,.int .i64,.int .i64,.int .i64,.bool,.bool]
abbrev Oc:List Cell:=[.ptr,.any,.int .u64]
abbrev Cz3:List Cell:=[.int .i64,.sl,.sl,.sl,.bool,.sl,.int .i64]
abbrev Qz:List Cell:=[.int .i64,.int .i64,.sl,.bool]
abbrev Cz2:List Cell:=[.ptr,.str,.sl,.int .i64,.int .i64,.int .i64,.int .i64,.int .i64,.int .i64]
abbrev Bq:List Cell:=[.int .i64,.sl,.int .i64,.int .i64,.int .i64,.int .i64,.int .i64]
abbrev Qu:List Cell:=[.str,.str,.str,.sl]
abbrev Sm:List Cell:=[.str,.int .i64]
abbrev Ba1:List Cell:=[.int .i64]
abbrev Cu5:List Cell:=[]
abbrev Kv:List Cell:=[.sl,.int .i64,.int .i64]
abbrev Z7:List Cell:=[.str,.str,.int .i64]
abbrev Cz1:List Cell:=[.int .i64,.int .i64]
abbrev Cz0:List Cell:=[.int .i64,.int .i64,.int .i64,.int .i64,.int .i64]
abbrev Cy9:List Cell:=[.int .u8,.int .u8,.int .u8,.int .u8,.int .u8]
abbrev Cy8:List Cell:=[.int .u8,.int .u8]
def i0:Inf:=⟨t0.desc,t0.size,t0.bytes,t0.zero,(.one .any),(.tup [])⟩
def C0:Aq prog 0 i0:=by constructor<;>kernel_rfl
def i3:Inf:=⟨t3.desc,t3.size,t3.bytes,t3.zero,(.one (.int .i64)),(.one (.one (.int .i64)))⟩
def C3:Aq prog 3 i3:=by constructor<;>kernel_rfl
def i4:Inf:=⟨t4.desc,t4.size,t4.bytes,t4.zero,(.one .bool),(.one (.one .bool))⟩
def C4:Aq prog 4 i4:=by constructor<;>kernel_rfl
def i5:Inf:=⟨t5.desc,t5.size,t5.bytes,t5.zero,(.one (.int .u8)),(.one (.one (.int .u8)))⟩
def C5:Aq prog 5 i5:=by constructor<;>kernel_rfl
def i9:Inf:=⟨t9.desc,t9.size,t9.bytes,t9.zero,(.one .str),(.one (.one .str))⟩
def C9:Aq prog 9 i9:=by constructor<;>kernel_rfl
def i20:Inf:=⟨t20.desc,t20.size,t20.bytes,t20.zero,(.one .any),(.one (.one .any))⟩
def C20:Aq prog 20 i20:=by constructor<;>kernel_rfl
def i21:Inf:=⟨t21.desc,t21.size,t21.bytes,t21.zero,(.one (.int .i32)),(.one (.one (.int .i32)))⟩
def C21:Aq prog 21 i21:=by constructor<;>kernel_rfl
def i24:Inf:=⟨t24.desc,t24.size,t24.bytes,t24.zero,(.one .ptr),(.one (.one .ptr))⟩
def C24:Aq prog 24 i24:=by constructor<;>kernel_rfl
def i26:Inf:=⟨t25.desc,t26.size,t26.bytes,t26.zero,(.one .any),(.one (.one .any))⟩
def C26:Aq prog 26 i26:=by constructor<;>kernel_rfl
def i27:Inf:=⟨t27.desc,t27.size,t27.bytes,t27.zero,(.one .any),(.tup [(.one .ptr),(.one .any)])⟩
def C27:Aq prog 27 i27:=by constructor<;>kernel_rfl
def i29:Inf:=⟨t29.desc,t29.size,t29.bytes,t29.zero,(.one .ptr),(.one (.one .ptr))⟩
def C29:Aq prog 29 i29:=by constructor<;>kernel_rfl
def i30:Inf:=⟨t30.desc,t30.size,t30.bytes,t30.zero,(.one .sl),(.one (.one .sl))⟩
def C30:Aq prog 30 i30:=by constructor<;>kernel_rfl
def i32:Inf:=⟨t31.desc,t32.size,t32.bytes,t32.zero,(.agg c32),(.one (.agg c32))⟩
def C32:Aq prog 32 i32:=by constructor<;>kernel_rfl
def i33:Inf:=⟨t3.desc,t33.size,t33.bytes,t33.zero,(.one (.int .i64)),(.one (.one (.int .i64)))⟩
def C33:Aq prog 33 i33:=by constructor<;>kernel_rfl
def i34:Inf:=⟨t34.desc,t34.size,t34.bytes,t34.zero,(.one .any),(.tup [(.one .ptr),(.agg c32),(.one (.int .i64))])⟩
def C34:Aq prog 34 i34:=by constructor<;>kernel_rfl
def i37:Inf:=⟨t37.desc,t37.size,t37.bytes,t37.zero,(.one .sl),(.one (.one .sl))⟩
def C37:Aq prog 37 i37:=by constructor<;>kernel_rfl
def i39:Inf:=⟨t38.desc,t39.size,t39.bytes,t39.zero,(.agg c39),(.one (.agg c39))⟩
def C39:Aq prog 39 i39:=by constructor<;>kernel_rfl
def i42:Inf:=⟨t42.desc,t42.size,t42.bytes,t42.zero,(.one .any),(.tup [(.one .ptr),(.one .bool)])⟩
def C42:Aq prog 42 i42:=by constructor<;>kernel_rfl
def i47:Inf:=⟨t46.desc,t47.size,t47.bytes,t47.zero,(.agg c47),(.one (.agg c47))⟩
def C47:Aq prog 47 i47:=by constructor<;>kernel_rfl
def i48:Inf:=⟨t48.desc,t48.size,t48.bytes,t48.zero,(.one .any),(.tup [(.one (.int .i64)),(.one (.int .i64))])⟩
def C48:Aq prog 48 i48:=by constructor<;>kernel_rfl
def i51:Inf:=⟨t51.desc,t51.size,t51.bytes,t51.zero,(.one .ptr),(.one (.one .ptr))⟩
def C51:Aq prog 51 i51:=by constructor<;>kernel_rfl
def i56:Inf:=⟨t56.desc,t56.size,t56.bytes,t56.zero,(.agg c56),(.one (.agg c56))⟩
def C56:Aq prog 56 i56:=by constructor<;>kernel_rfl
def i57:Inf:=⟨t56.desc,t57.size,t57.bytes,t57.zero,(.agg c57),(.one (.agg c57))⟩
def C57:Aq prog 57 i57:=by constructor<;>kernel_rfl
def i60:Inf:=⟨t60.desc,t60.size,t60.bytes,t60.zero,(.one .any),(.tup [(.agg c57),(.one .any)])⟩
def C60:Aq prog 60 i60:=by constructor<;>kernel_rfl
def i65:Inf:=⟨t64.desc,t65.size,t65.bytes,t65.zero,(.agg c65),(.one (.agg c65))⟩
def C65:Aq prog 65 i65:=by constructor<;>kernel_rfl
def i69:Inf:=⟨t69.desc,t69.size,t69.bytes,t69.zero,(.one .sl),(.one (.one .sl))⟩
def C69:Aq prog 69 i69:=by constructor<;>kernel_rfl
def i70:Inf:=⟨t70.desc,t70.size,t70.bytes,t70.zero,(.one .sl),(.one (.one .sl))⟩
def C70:Aq prog 70 i70:=by constructor<;>kernel_rfl
def i72:Inf:=⟨t71.desc,t72.size,t72.bytes,t72.zero,(.agg c72),(.one (.agg c72))⟩
def C72:Aq prog 72 i72:=by constructor<;>kernel_rfl
def i79:Inf:=⟨t79.desc,t79.size,t79.bytes,t79.zero,(.one .sl),(.one (.one .sl))⟩
def C79:Aq prog 79 i79:=by constructor<;>kernel_rfl
def i81:Inf:=⟨t80.desc,t81.size,t81.bytes,t81.zero,(.agg c81),(.one (.agg c81))⟩
def C81:Aq prog 81 i81:=by constructor<;>kernel_rfl
def i84:Inf:=⟨t84.desc,t84.size,t84.bytes,t84.zero,(.one .sl),(.one (.one .sl))⟩
def C84:Aq prog 84 i84:=by constructor<;>kernel_rfl
def i86:Inf:=⟨t85.desc,t86.size,t86.bytes,t86.zero,(.agg c86),(.one (.agg c86))⟩
def C86:Aq prog 86 i86:=by constructor<;>kernel_rfl
def i89:Inf:=⟨t88.desc,t89.size,t89.bytes,t89.zero,(.agg c89),(.one (.agg c89))⟩
def C89:Aq prog 89 i89:=by constructor<;>kernel_rfl
def i90:Inf:=⟨t90.desc,t90.size,t90.bytes,t90.zero,(.one .sl),(.one (.one .sl))⟩
def C90:Aq prog 90 i90:=by constructor<;>kernel_rfl
def i92:Inf:=⟨t92.desc,t92.size,t92.bytes,t92.zero,(.one .any),(.tup [(.one .ptr),(.one (.int .i64))])⟩
def C92:Aq prog 92 i92:=by constructor<;>kernel_rfl
def i94:Inf:=⟨t94.desc,t94.size,t94.bytes,t94.zero,(.one .any),(.tup [(.one .sl),(.one .any)])⟩
def C94:Aq prog 94 i94:=by constructor<;>kernel_rfl
def i99:Inf:=⟨t99.desc,t99.size,t99.bytes,t99.zero,(.one .ptr),(.one (.one .ptr))⟩
def C99:Aq prog 99 i99:=by constructor<;>kernel_rfl
def i101:Inf:=⟨t100.desc,t101.size,t101.bytes,t101.zero,(.agg Cz8),(.one (.agg Cz8))⟩
def Dx3:Aq prog 101 i101:=by constructor<;>kernel_rfl
def i103:Inf:=⟨t102.desc,t103.size,t103.bytes,t103.zero,(.one .map),(.one (.one .map))⟩
def Cw1:Aq prog 103 i103:=by constructor<;>kernel_rfl
def i104:Inf:=⟨t104.desc,t104.size,t104.bytes,t104.zero,(.one .sl),(.one (.one .sl))⟩
def Cw0:Aq prog 104 i104:=by constructor<;>kernel_rfl
def i105:Inf:=⟨t105.desc,t105.size,t105.bytes,t105.zero,(.one .map),(.one (.one .map))⟩
def Da9:Aq prog 105 i105:=by constructor<;>kernel_rfl
def i107:Inf:=⟨t106.desc,t107.size,t107.bytes,t107.zero,(.agg c107),(.one (.agg c107))⟩
def Dx2:Aq prog 107 i107:=by constructor<;>kernel_rfl
def i110:Inf:=⟨t109.desc,t110.size,t110.bytes,t110.zero,(.agg Cz7),(.one (.agg Cz7))⟩
def Dx1:Aq prog 110 i110:=by constructor<;>kernel_rfl
def i112:Inf:=⟨t112.desc,t112.size,t112.bytes,t112.zero,(.one .any),(.one (.one .any))⟩
def Da8:Aq prog 112 i112:=by constructor<;>kernel_rfl
def i113:Inf:=⟨t113.desc,t113.size,t113.bytes,t113.zero,(.one .any),(.tup [(.one (.int .i64)),(.one .any)])⟩
def Dx0:Aq prog 113 i113:=by constructor<;>kernel_rfl
def i117:Inf:=⟨t117.desc,t117.size,t117.bytes,t117.zero,(.one .sl),(.one (.one .sl))⟩
def Cv9:Aq prog 117 i117:=by constructor<;>kernel_rfl
def i119:Inf:=⟨t119.desc,t119.size,t119.bytes,t119.zero,(.agg c119),(.one (.agg c119))⟩
def Dw9:Aq prog 119 i119:=by constructor<;>kernel_rfl
def i120:Inf:=⟨t120.desc,t120.size,t120.bytes,t120.zero,(.one .sl),(.one (.one .sl))⟩
def Cv8:Aq prog 120 i120:=by constructor<;>kernel_rfl
def i121:Inf:=⟨t121.desc,t121.size,t121.bytes,t121.zero,(.one .ptr),(.one (.one .ptr))⟩
def Cv7:Aq prog 121 i121:=by constructor<;>kernel_rfl
def i123:Inf:=⟨t122.desc,t123.size,t123.bytes,t123.zero,(.agg Cz6),(.one (.agg Cz6))⟩
def Da7:Aq prog 123 i123:=by constructor<;>kernel_rfl
def i127:Inf:=⟨t126.desc,t127.size,t127.bytes,t127.zero,(.agg c127),(.one (.agg c127))⟩
def Dw8:Aq prog 127 i127:=by constructor<;>kernel_rfl
def i128:Inf:=⟨t128.desc,t128.size,t128.bytes,t128.zero,(.one .any),(.tup [(.agg c127),(.one (.int .i64))])⟩
def Dw7:Aq prog 128 i128:=by constructor<;>kernel_rfl
def i132:Inf:=⟨t131.desc,t132.size,t132.bytes,t132.zero,(.agg Dt),(.one (.agg Dt))⟩
def Co5:Aq prog 132 i132:=by constructor<;>kernel_rfl
def i133:Inf:=⟨t133.desc,t133.size,t133.bytes,t133.zero,(.one .any),(.tup [(.agg Dt),(.one .bool)])⟩
def Dw6:Aq prog 133 i133:=by constructor<;>kernel_rfl
def i136:Inf:=⟨t135.desc,t136.size,t136.bytes,t136.zero,(.one .any),(.one (.one .any))⟩
def Dw5:Aq prog 136 i136:=by constructor<;>kernel_rfl
def i137:Inf:=⟨t137.desc,t137.size,t137.bytes,t137.zero,(.one .ptr),(.one (.one .ptr))⟩
def Dw4:Aq prog 137 i137:=by constructor<;>kernel_rfl
def i139:Inf:=⟨t138.desc,t139.size,t139.bytes,t139.zero,(.agg c139),(.one (.agg c139))⟩
def Dw3:Aq prog 139 i139:=by constructor<;>kernel_rfl
def i141:Inf:=⟨t140.desc,t141.size,t141.bytes,t141.zero,(.agg c141),(.one (.agg c141))⟩
def Dw2:Aq prog 141 i141:=by constructor<;>kernel_rfl
def i144:Inf:=⟨t143.desc,t144.size,t144.bytes,t144.zero,(.agg Cm),(.one (.agg Cm))⟩
def Dw1:Aq prog 144 i144:=by constructor<;>kernel_rfl
def i146:Inf:=⟨t145.desc,t146.size,t146.bytes,t146.zero,(.agg c146),(.one (.agg c146))⟩
def Da6:Aq prog 146 i146:=by constructor<;>kernel_rfl
def i147:Inf:=⟨t147.desc,t147.size,t147.bytes,t147.zero,(.one .any),(.one (.one .any))⟩
def Da5:Aq prog 147 i147:=by constructor<;>kernel_rfl
def i153:Inf:=⟨t153.desc,t153.size,t153.bytes,t153.zero,(.one .ptr),(.one (.one .ptr))⟩
def Dw0:Aq prog 153 i153:=by constructor<;>kernel_rfl
def i154:Inf:=⟨t154.desc,t154.size,t154.bytes,t154.zero,(.agg c154),(.one (.agg c154))⟩
def Dv9:Aq prog 154 i154:=by constructor<;>kernel_rfl
def i155:Inf:=⟨t155.desc,t155.size,t155.bytes,t155.zero,(.one .ptr),(.one (.one .ptr))⟩
def Dv8:Aq prog 155 i155:=by constructor<;>kernel_rfl
def i156:Inf:=⟨t156.desc,t156.size,t156.bytes,t156.zero,(.agg c156),(.one (.agg c156))⟩
def Dv7:Aq prog 156 i156:=by constructor<;>kernel_rfl
def i158:Inf:=⟨t157.desc,t158.size,t158.bytes,t158.zero,(.agg Cz5),(.one (.agg Cz5))⟩
def Dv6:Aq prog 158 i158:=by constructor<;>kernel_rfl
def i162:Inf:=⟨t161.desc,t162.size,t162.bytes,t162.zero,(.agg c162),(.one (.agg c162))⟩
def Da4:Aq prog 162 i162:=by constructor<;>kernel_rfl
def i165:Inf:=⟨t165.desc,t165.size,t165.bytes,t165.zero,(.one .sl),(.one (.one .sl))⟩
def Da3:Aq prog 165 i165:=by constructor<;>kernel_rfl
def i172:Inf:=⟨t171.desc,t172.size,t172.bytes,t172.zero,(.one .any),(.one (.one .any))⟩
def Dv5:Aq prog 172 i172:=by constructor<;>kernel_rfl
def i176:Inf:=⟨t176.desc,t176.size,t176.bytes,t176.zero,(.one .ptr),(.one (.one .ptr))⟩
def Cv6:Aq prog 176 i176:=by constructor<;>kernel_rfl
def i177:Inf:=⟨t177.desc,t177.size,t177.bytes,t177.zero,(.one .ptr),(.one (.one .ptr))⟩
def Cv5:Aq prog 177 i177:=by constructor<;>kernel_rfl
def i180:Inf:=⟨t179.desc,t180.size,t180.bytes,t180.zero,(.agg Cu6),(.one (.agg Cu6))⟩
def Dv4:Aq prog 180 i180:=by constructor<;>kernel_rfl
def i182:Inf:=⟨t182.desc,t182.size,t182.bytes,t182.zero,(.one .any),(.one (.one .any))⟩
def Cv4:Aq prog 182 i182:=by constructor<;>kernel_rfl
def i183:Inf:=⟨t183.desc,t183.size,t183.bytes,t183.zero,(.one .any),(.one (.one .any))⟩
def Dv3:Aq prog 183 i183:=by constructor<;>kernel_rfl
def i184:Inf:=⟨t184.desc,t184.size,t184.bytes,t184.zero,(.one .any),(.one (.one .any))⟩
def Dv2:Aq prog 184 i184:=by constructor<;>kernel_rfl
def i186:Inf:=⟨t185.desc,t186.size,t186.bytes,t186.zero,(.agg Cz4),(.one (.agg Cz4))⟩
def Dv1:Aq prog 186 i186:=by constructor<;>kernel_rfl
def i190:Inf:=⟨t190.desc,t190.size,t190.bytes,t190.zero,(.one .any),(.tup [(.one .ptr),(.one (.int .i64))])⟩
def Dv0:Aq prog 190 i190:=by constructor<;>kernel_rfl
def i196:Inf:=⟨t196.desc,t196.size,t196.bytes,t196.zero,(.one .any),(.tup [(.agg c146),(.one .bool)])⟩
def Du9:Aq prog 196 i196:=by constructor<;>kernel_rfl
def i198:Inf:=⟨t198.desc,t198.size,t198.bytes,t198.zero,(.one .any),(.tup [(.agg c146),(.agg c146)])⟩
def Du8:Aq prog 198 i198:=by constructor<;>kernel_rfl
def i201:Inf:=⟨t201.desc,t201.size,t201.bytes,t201.zero,(.one .any),(.tup [(.agg c139),(.one (.int .i64))])⟩
def Du7:Aq prog 201 i201:=by constructor<;>kernel_rfl
def i204:Inf:=⟨t203.desc,t204.size,t204.bytes,t204.zero,(.one .any),(.one (.one .any))⟩
def Du6:Aq prog 204 i204:=by constructor<;>kernel_rfl
def i214:Inf:=⟨t214.desc,t214.size,t214.bytes,t214.zero,(.one .any),(.tup [(.one .any),(.one .bool)])⟩
def Du5:Aq prog 214 i214:=by constructor<;>kernel_rfl
def i216:Inf:=⟨t216.desc,t216.size,t216.bytes,t216.zero,(.one .any),(.one (.one .any))⟩
def Du4:Aq prog 216 i216:=by constructor<;>kernel_rfl
def i217:Inf:=⟨t217.desc,t217.size,t217.bytes,t217.zero,(.one .any),(.one (.one .any))⟩
def Du3:Aq prog 217 i217:=by constructor<;>kernel_rfl
def i218:Inf:=⟨t218.desc,t218.size,t218.bytes,t218.zero,(.one .sl),(.one (.one .sl))⟩
def Du2:Aq prog 218 i218:=by constructor<;>kernel_rfl
def i223:Inf:=⟨t222.desc,t223.size,t223.bytes,t223.zero,(.agg Oc),(.one (.agg Oc))⟩
def Du1:Aq prog 223 i223:=by constructor<;>kernel_rfl
def i226:Inf:=⟨t5.desc,t226.size,t226.bytes,t226.zero,(.one (.int .u8)),(.one (.one (.int .u8)))⟩
def Du0:Aq prog 226 i226:=by constructor<;>kernel_rfl
def i230:Inf:=⟨t230.desc,t230.size,t230.bytes,t230.zero,(.one (.int .u64)),(.one (.one (.int .u64)))⟩
def Dt9:Aq prog 230 i230:=by constructor<;>kernel_rfl
def i235:Inf:=⟨t235.desc,t235.size,t235.bytes,t235.zero,(.one .sl),(.one (.one .sl))⟩
def Cv3:Aq prog 235 i235:=by constructor<;>kernel_rfl
def i236:Inf:=⟨t236.desc,t236.size,t236.bytes,t236.zero,(.one .sl),(.one (.one .sl))⟩
def Cv2:Aq prog 236 i236:=by constructor<;>kernel_rfl
def i237:Inf:=⟨t237.desc,t237.size,t237.bytes,t237.zero,(.one .sl),(.one (.one .sl))⟩
def Cv1:Aq prog 237 i237:=by constructor<;>kernel_rfl
def i239:Inf:=⟨t238.desc,t239.size,t239.bytes,t239.zero,(.agg Cz3),(.one (.agg Cz3))⟩
def Dt8:Aq prog 239 i239:=by constructor<;>kernel_rfl
def i240:Inf:=⟨t31.desc,t240.size,t240.bytes,t240.zero,(.agg Qz),(.one (.agg Qz))⟩
def Dt7:Aq prog 240 i240:=by constructor<;>kernel_rfl
def i241:Inf:=⟨t241.desc,t241.size,t241.bytes,t241.zero,(.one .any),(.tup [(.one .ptr),(.agg Qz),(.one (.int .i64))])⟩
def Dt6:Aq prog 241 i241:=by constructor<;>kernel_rfl
def i245:Inf:=⟨t244.desc,t245.size,t245.bytes,t245.zero,(.agg Cz2),(.one (.agg Cz2))⟩
def Dt5:Aq prog 245 i245:=by constructor<;>kernel_rfl
def i247:Inf:=⟨t246.desc,t247.size,t247.bytes,t247.zero,(.agg Bq),(.one (.agg Bq))⟩
def Dt4:Aq prog 247 i247:=by constructor<;>kernel_rfl
def i252:Inf:=⟨t251.desc,t252.size,t252.bytes,t252.zero,(.agg Qu),(.one (.agg Qu))⟩
def Dt3:Aq prog 252 i252:=by constructor<;>kernel_rfl
def i255:Inf:=⟨t254.desc,t255.size,t255.bytes,t255.zero,(.agg Sm),(.one (.agg Sm))⟩
def Da2:Aq prog 255 i255:=by constructor<;>kernel_rfl
def i257:Inf:=⟨t257.desc,t257.size,t257.bytes,t257.zero,(.one .any),(.tup [(.one .sl),(.one (.int .i64)),(.one (.int .i64))])⟩
def Dt2:Aq prog 257 i257:=by constructor<;>kernel_rfl
def i259:Inf:=⟨t259.desc,t259.size,t259.bytes,t259.zero,(.one .any),(.tup [(.one .ptr),(.one .ptr)])⟩
def Dt1:Aq prog 259 i259:=by constructor<;>kernel_rfl
def i263:Inf:=⟨t262.desc,t263.size,t263.bytes,t263.zero,(.agg Ba1),(.one (.agg Ba1))⟩
def Dt0:Aq prog 263 i263:=by constructor<;>kernel_rfl
def i264:Inf:=⟨t179.desc,t264.size,t264.bytes,t264.zero,(.agg Cu5),(.one (.agg Cu5))⟩
def Ds9:Aq prog 264 i264:=by constructor<;>kernel_rfl
def i271:Inf:=⟨t271.desc,t271.size,t271.bytes,t271.zero,(.one .any),(.tup [(.one .any),(.one .bool)])⟩
def Ds8:Aq prog 271 i271:=by constructor<;>kernel_rfl
def i273:Inf:=⟨t273.desc,t273.size,t273.bytes,t273.zero,(.one .any),(.tup [(.one (.int .i64)),(.one (.int .u8)),(.one (.int .u8))])⟩
def Ds7:Aq prog 273 i273:=by constructor<;>kernel_rfl
def i276:Inf:=⟨t275.desc,t276.size,t276.bytes,t276.zero,(.one .any),(.one (.one .any))⟩
def Ds6:Aq prog 276 i276:=by constructor<;>kernel_rfl
def i278:Inf:=⟨t278.desc,t278.size,t278.bytes,t278.zero,(.one .any),(.tup [(.one (.int .i64)),(.one .any)])⟩
def Ds5:Aq prog 278 i278:=by constructor<;>kernel_rfl
def i298:Inf:=⟨t297.desc,t298.size,t298.bytes,t298.zero,(.agg Kv),(.one (.agg Kv))⟩
def Da1:Aq prog 298 i298:=by constructor<;>kernel_rfl
def i302:Inf:=⟨t302.desc,t302.size,t302.bytes,t302.zero,(.one .any),(.tup [(.agg c146),(.one .ptr)])⟩
def Ds4:Aq prog 302 i302:=by constructor<;>kernel_rfl
def i304:Inf:=⟨t304.desc,t304.size,t304.bytes,t304.zero,(.one .any),(.one (.one .any))⟩
def Ds3:Aq prog 304 i304:=by constructor<;>kernel_rfl
def i305:Inf:=⟨t305.desc,t305.size,t305.bytes,t305.zero,(.one .any),(.one (.one .any))⟩
def Ds2:Aq prog 305 i305:=by constructor<;>kernel_rfl
def i313:Inf:=⟨t313.desc,t313.size,t313.bytes,t313.zero,(.one .any),(.one (.one .any))⟩
def Ds1:Aq prog 313 i313:=by constructor<;>kernel_rfl
def i314:Inf:=⟨t314.desc,t314.size,t314.bytes,t314.zero,(.one .any),(.tup [(.agg c56),(.one .bool),(.one (.int .i64))])⟩
def Ds0:Aq prog 314 i314:=by constructor<;>kernel_rfl
def i317:Inf:=⟨t316.desc,t317.size,t317.bytes,t317.zero,(.agg Z7),(.one (.agg Z7))⟩
def Da0:Aq prog 317 i317:=by constructor<;>kernel_rfl
def i323:Inf:=⟨t323.desc,t323.size,t323.bytes,t323.zero,(.agg Cz1),(.one (.agg Cz1))⟩
def Dr9:Aq prog 323 i323:=by constructor<;>kernel_rfl
def i324:Inf:=⟨t324.desc,t324.size,t324.bytes,t324.zero,(.one .any),(.tup [(.one .sl),(.one (.int .i64))])⟩
def Dr8:Aq prog 324 i324:=by constructor<;>kernel_rfl
def i326:Inf:=⟨t326.desc,t326.size,t326.bytes,t326.zero,(.one .any),(.tup [(.agg c56),(.one (.int .i64))])⟩
def Dr7:Aq prog 326 i326:=by constructor<;>kernel_rfl
def i331:Inf:=⟨t331.desc,t331.size,t331.bytes,t331.zero,(.agg Cz0),(.one (.agg Cz0))⟩
def Dr6:Aq prog 331 i331:=by constructor<;>kernel_rfl
def i348:Inf:=⟨t348.desc,t348.size,t348.bytes,t348.zero,(.agg Cy9),(.one (.agg Cy9))⟩
def Dr5:Aq prog 348 i348:=by constructor<;>kernel_rfl
def i352:Inf:=⟨t352.desc,t352.size,t352.bytes,t352.zero,(.agg Cy8),(.one (.agg Cy8))⟩
def Dr4:Aq prog 352 i352:=by constructor<;>kernel_rfl
def tab:Tab:=⟨[(0,i0),(3,i3),(4,i4),(5,i5),(9,i9),(20,i20),(21,i21),(24,i24),(26,i26),(27,i27),(29,i29),(30,i30),(32,i32),(33,i33),(34,i34),(37,i37),(39,i39),(42,i42),(47,i47),(48,i48),(51,i51),(56,i56),(57,i57),(60,i60),(65,i65),(69,i69),(70,i70),(72,i72),(79,i79),(81,i81),(84,i84),(86,i86),(89,i89),(90,i90),(92,i92),(94,i94),(99,i99),(101,i101),(103,i103),(104,i104),(105,i105),(107,i107),(110,i110),(112,i112),(113,i113),(117,i117),(119,i119),(120,i120),(121,i121),(123,i123),(127,i127),(128,i128),(132,i132),(133,i133),(136,i136),(137,i137),(139,i139),(141,i141),(144,i144),(146,i146),(147,i147),(153,i153),(154,i154),(155,i155),(156,i156),(158,i158),(162,i162),(165,i165),(172,i172),(176,i176),(177,i177),(180,i180),(182,i182),(183,i183),(184,i184),(186,i186),(190,i190),(196,i196),(198,i198),(201,i201),(204,i204),(214,i214),(216,i216),(217,i217),(218,i218),(223,i223),(226,i226),(230,i230),(235,i235),(236,i236),(237,i237),(239,i239),(240,i240),(241,i241),(245,i245),(247,i247),(252,i252),(255,i255),(257,i257),(259,i259),(263,i263),(264,i264),(271,i271),(273,i273),(276,i276),(278,i278),(298,i298),(302,i302),(304,i304),(305,i305),(313,i313),(314,i314),(317,i317),(323,i323),(324,i324),(326,i326),(331,i331),(348,i348),(352,i352)],[14,15,16,17,18,19,20,21,22,23,24,25,26,27,28,29,30,31,32,33,34,35,36,37,38,39,40,41,42,43,44,45,46,47,48,49,50,51,53,54,55,56,57,58,59,60,61,62,63,64,65,67,68,69,70,71,72,73,74,75,76,77,78,79,80,81,82,83,84,85,86,88,89,90,92,93,94,95,96,97,100,101,104,107,108,109,110,111,112,113,114,115,116,117,118,119,120,121,122,123,124,125,126,127,128,129,130,134,135,137,138,139,140,141,142,143,144,145,146,147,148,149,150,151,152,153,155,156,157,158,159,160,165,168,169,184,185,186,187,188,189,190,191,192,193,194,195,196,197,198,199,202,210,211,212,213,214,216,217,218,219,220,223,224,225,226,227,228,229,230,231,232,259,280,281,282,283]⟩
def Cy3:Bn5 prog [14,15,16,17,18,19,20,21,22,23,24,25,26,27,28,29,30,31,32,33,34,35,36,37,38,39,40,41,42,43,44,45,46,47,48,49,50,51,53,54,55,56,57,58,59,60,61,62,63,64,65,67,68,69,70,71,72,73,74,75,76,77,78,79,80,81,82,83,84,85,86,88,89,90,92,93,94,95,96,97,100,101,104,107,108,109,110,111,112,113,114,115,116,117,118,119,120,121,122,123,124,125,126,127,128,129,130,134,135,137,138,139,140,141,142,143,144,145,146,147,148,149,150,151,152,153,155,156,157,158,159,160,165,168,169,184,185,186,187,188,189,190,191,192,193,194,195,196,197,198,199,202,210,211,212,213,214,216,217,218,219,220,223,224,225,226,227,228,229,230,231,232,259,280,281,282,283]:=by repeat (first|refine ⟨by kernel_rfl,?_⟩|exact trivial)
def Ap:tab.Ok prog:=⟨⟨C0,C3,C4,C5,C9,C20,C21,C24,C26,C27,C29,C30,C32,C33,C34,C37,C39,C42,C47,C48,C51,C56,C57,C60,C65,C69,C70,C72,C79,C81,C84,C86,C89,C90,C92,C94,C99,Dx3,Cw1,Cw0,Da9,Dx2,Dx1,Da8,Dx0,Cv9,Dw9,Cv8,Cv7,Da7,Dw8,Dw7,Co5,Dw6,Dw5,Dw4,Dw3,Dw2,Dw1,Da6,Da5,Dw0,Dv9,Dv8,Dv7,Dv6,Da4,Da3,Dv5,Cv6,Cv5,Dv4,Cv4,Dv3,Dv2,Dv1,Dv0,Du9,Du8,Du7,Du6,Du5,Du4,Du3,Du2,Du1,Du0,Dt9,Cv3,Cv2,Cv1,Dt8,Dt7,Dt6,Dt5,Dt4,Dt3,Da2,Dt2,Dt1,Dt0,Ds9,Ds8,Ds7,Ds6,Ds5,Da1,Ds4,Ds3,Ds2,Ds1,Ds0,Da0,Dr9,Dr8,Dr7,Dr6,Dr5,Dr4,trivial⟩,Cy3,by kernel_rfl⟩
@[reducible] def _root_.Go.Vx.Sl.v (s:Sl):Value:=.slice s.a s.len s.cap
abbrev rI:RTy:=.one (.one (.int .i64))
abbrev rB:RTy:=.one (.one .bool)
abbrev rS:RTy:=.one (.one .sl)
abbrev rP:RTy:=.one (.one .ptr)
abbrev vA (c:List Cell) (x:Cells.T c):Value:=.agg (Cells.vals c x).toArray
abbrev ad (b o:Nat):Addr:=⟨b,o,none⟩
abbrev ixl (c:Cell) (s:Sl) (n:Int) (z:Nat) (K:c.T->World->Prop):World->Prop:=ix s.a s.len n λp=>ld c (p.add (scaled (Int.toNat n) z)) K
abbrev ixf (c:Cell) (s:Sl) (n:Int) (z j:Nat) (K:c.T->World->Prop):World->Prop:=ix s.a s.len n λp=>ld c ((p.add (scaled (Int.toNat n) z)).add j) K
abbrev ixs (c:List Cell) (s:Sl) (n:Int) (z:Nat) (K:Cells.T c->World->Prop):World->Prop:=ix s.a s.len n λp=>lds c (p.add (scaled (Int.toNat n) z)) K
abbrev cI:Cell:=.int .i64
abbrev vI (n:Int):Value:=.int .i64 n
abbrev I4:=Int×Int×Int×Int×Unit
abbrev I3:=Int×Int×Int×Unit
abbrev jB (b:(Bool×Unit->World->Prop)->World->Prop) (r:Bool×Unit->World->Prop):World->Prop:=join b r
abbrev sB (b:Bool×Unit->(Bool×Unit->World->Prop)->World->Prop) (x:Bool×Unit):World->Prop:=Jh b x
abbrev jI (b:(Int×Unit->World->Prop)->World->Prop) (r:Int×Unit->World->Prop):World->Prop:=join b r
abbrev sI (b:Int×Unit->(Int×Unit->World->Prop)->World->Prop) (x:Int×Unit):World->Prop:=Jh b x
abbrev jU (b:(Unit->World->Prop)->World->Prop) (r:Unit->World->Prop):World->Prop:=join b r
abbrev sU (b:Unit->(Unit->World->Prop)->World->Prop) (x:Unit):World->Prop:=Jh b x
abbrev jS (b:(Sl×Unit->World->Prop)->World->Prop) (r:Sl×Unit->World->Prop):World->Prop:=join b r
abbrev sS (b:Sl×Unit->(Sl×Unit->World->Prop)->World->Prop) (x:Sl×Unit):World->Prop:=Jh b x
abbrev jN (b:(Int×Int×Unit->World->Prop)->World->Prop) (r:Int×Int×Unit->World->Prop):World->Prop:=join b r
abbrev sN (b:Int×Int×Unit->(Int×Int×Unit->World->Prop)->World->Prop) (x:Int×Int×Unit):World->Prop:=Jh b x
abbrev lI (p:Addr) (K:Int->World->Prop):World->Prop:=ld (.int .i64) p K
abbrev ixI (s:Sl) (n:Int) (z:Nat) (K:Int->World->Prop):World->Prop:=ix s.a s.len n λp=>ld (.int .i64) (p.add (scaled (Int.toNat n) z)) K
abbrev cN (f:FuncId) (a:Array Value) (K:Int->World->Prop):World->Prop:=Aa prog f a (.one (.one (.int .i64))) K
abbrev cB (f:FuncId) (a:Array Value) (K:Bool->World->Prop):World->Prop:=Aa prog f a (.one (.one .bool)) K
abbrev cS (f:FuncId) (a:Array Value) (K:Sl->World->Prop):World->Prop:=Aa prog f a (.one (.one .sl)) K
abbrev aA (p:Addr) (x:Int) (K:Wp):Wp:=keep (λw=>w.cell? p=some (Cell.val (.int .i64) x)) K
abbrev aC (p:Addr) (x:Sl) (K:Wp):Wp:=keep (λw=>w.cell? p=some (Cell.val .sl x)) K
abbrev aB (c:List Cell) (p:Addr) (x:Cells.T c) (K:Wp):Wp:=keep (λw=>Ez w p 0 (Cells.vals c x)) K
abbrev aF:=Int×Int×Int×Bool×Bool×Unit
abbrev aG:=Int×Sl×Int×Int×Int×Int×Int×Unit
abbrev aH:=Int×Int×Sl×Bool×Unit
abbrev aI:=Int×Int×Unit
abbrev aJ:=Int×Sl×Unit
abbrev aK:=Sl×Int×Int×Int×Int×Bool×Bool×Unit
abbrev aN:=Option Addr×Unit
abbrev aO:=Int×Int×Int×Int×Sl×Unit
abbrev aP:=Option Addr×ByteArray×Unit
abbrev aQ:=Int×Value×Unit
abbrev aS:=Int×Int×ByteArray×ByteArray×Int×Int×Bool×Sl×Sl×Int×Sl×Unit
abbrev aT:=Option Addr×Value×Int×Unit
abbrev aU:=I3×Value×Unit
abbrev aV:=ByteArray×ByteArray×ByteArray×Sl×Unit
abbrev aW:=I3×Bool×Int×Unit
abbrev aX:=Sl×Value×Unit
abbrev aY:=Option Addr×Int×Unit
abbrev aZ:=Option Addr×Value×Unit
abbrev bC:=Int×Int×Int×Unit
abbrev bD:=Option Addr×aH×Int×Unit
abbrev bG:=aP×Int×Unit
abbrev bH:RTy:=.tup []
abbrev bI:RTy:=.tup [(.one cI),(.one cI)]
abbrev bJ:RTy:=.tup [(.one (.int .i64)),(.one (.int .i64))]
abbrev bK:RTy:=.tup [(.agg c57),(.one .any)]
abbrev bM:RTy:=.tup [(.one cI),(.one .any)]
abbrev bP:RTy:=.tup [(.agg c127),(.one cI)]
abbrev bQ:RTy:=.tup [(.agg c56),(.one .bool),(.one cI)]
abbrev bT:RTy:=.tup [(.one .sl),(.one .any)]
abbrev bU:RTy:=.tup [(.one .any),(.one .bool)]
abbrev bV:RTy:=.tup [(.one .ptr),(.one .any)]
abbrev bY:RTy:=.tup [(.one .ptr),(.one cI)]
abbrev bZ:RTy:=.tup [(.one .ptr),(.agg c32),(.one cI)]
abbrev cO:RTy:=.tup [(.one (.int .i64)),(.one .any)]
abbrev cZ:RTy:=.tup [(.agg Dt),(.one .bool)]
abbrev dA:RTy:=.tup [(.one .ptr),(.one (.int .i64))]
abbrev dB:RTy:=.tup [(.one .ptr),(.agg Qz),(.one cI)]
abbrev dD:RTy:=.tup [(.one .ptr),(.agg c32),(.one (.int .i64))]
abbrev dG:Obj:=.cells #[(vI 0),(.slice none 0 0),(vI 0),(vI 0),(vI 0),(vI 0),(vI 0)] 247
abbrev dH:Obj:=.cells #[(vI 0),(vI 0),(vI 0)] 57
abbrev dI:Obj:=.cells #[(vI 0),(vI 0),(vI 0),(.bool false),(.bool false)] 144
abbrev dJ:Obj:=.cells #[(vI 0),(vI 0),(vI 0)] 56
abbrev dK:Obj:=.cells #[(vI 0),(vI 0),(vI 0),(vI 0),(.slice none 0 0)] 132
abbrev dL:Obj:=.cells #[(vI 0),(vI 0),(.slice none 0 0),(.bool false)] 32
abbrev dM:Obj:=.cells #[(.slice none 0 0),(vI 0),(vI 0),(vI 0),(vI 0),(.bool false),(.bool false)] 146
abbrev dN:Obj:=.cells #[(.slice none 0 0)] 30
abbrev dO:Obj:=.cells #[(vI 0)] 3
abbrev dP:Obj:=.cells #[(vI 0),(vI 0),(.slice none 0 0),(.bool false)] 240
abbrev dQ:Obj:=.cells #[(.slice none 0 0),(vI 0),(vI 0)] 298
abbrev dR (p:Option Addr):Value:=.pointer p
abbrev dS:Value:=.slice none 0 0
abbrev dU (b:Nat):Value:=.pointer (some (at0 b))
abbrev iF (w:World) (P:Wp):Prop:=∀w',Ext w w'->P w'
abbrev xM:=Option Addr
abbrev xP:=List Int
abbrev xQ:=Go.Vx.St (λ_=>False)
def tied {T:Tab}{P:Program}(ok:T.Ok P){f:FuncId}{fn:Func}(hf:P.funcs[f]?=some fn) (h:Hint) (l:List Value){t:RTy}{K:t.T->Wp}{w:World}{Q:World->Prop}(q:Q w) (e:Cq3 T P fn h l t K=Q:=by kernel_rfl):Aa P f l.toArray t K w:=Ac0 ok hf h l t K w (by rw [e];exact q)
def F15 (x:ByteArray) (K:Bool->Wp):Wp:=jB (λy=>sif (((ByteArray.size x:Nat):Int)==0) (y (true,())) (sif (decide (((ByteArray.size x:Nat):Int)>=32)) (y (true,())) (Aa prog 50 #[(.string x),(.string { data:=#[126] })] rB λ(z:Bool)=>y (z,())))) λa=>sif a.1 (K false) (Aa prog 51 #[(.string x),(.func (.func 52) #[] #[])] rI λ(b:Int)=>K (decide (b<0)))
def mR (l:List (Nat×Nat)):Nat:=l.foldr (λx n=>2^x.2-2^x.1+n) 0
def lR (n:Nat):List Nat:=List.range n
def hR (n:Nat):Hint:=.region [] (.ops n .done)
def hO (n:Nat):RS:=.ops n .done
def hS (a b:Hint):Hint:=.seq none a b
def hC (a b:Hint):Hint:=.cond none a b
def hL:Hint:=.leaf
def hJ (x:Nat×List (Nat×Ty)) (a b:Hint):Hint:=.seq (some x) a b
def tB:Ty:=.one .bool
def tI:Ty:=.one (.int .i64)
def tS:Ty:=.one .sl
def tP:Ty:=.one .ptr
def dV:Hint:=hC (hS (hR 1) hL) hL
def dX:Hint:=hS (hR 2) hL
def dY:RS:=.skips 2 (hO 2)
def dZ:Hint:=hS (hR 3) hL
def eF:Hint:=hS (hR 4) hL
def eG:Hint:=hC hL hL
def eH:Hint:=hS (hR 1) hL
def eP:Hint:=.region (lR 7) (hO 7)
def eU:RS:=.split 66 (.skips 2 (hO 7)) (.ops 4 (.split 70 (hO 5) (.skips 3 (hO 2))))
def eX:Hint:=hS (hR 6) hL
def eY:RS:=.skips 4 (hO 1)
def fA:Hint:=hS (hR 2) (hC dX hL)
def fB:Hint:=hS (hR 5) hL
def fC:Hint:=hS (hR 2) dV
def fD:RS:=.skips 2 (hO 1)
def fE:RS:=.skips 4 (hO 2)
def fF:Hint:=hS (.region [0,1,2,3] (hO 4)) hL
def fG:Hint:=.region (lR 8) (hO 8)
def fH:Hint:=hS (hR 2) (hC dZ hL)
def fJ:Hint:=hS (hR 4) eG
def fK:RS:=.skips 2 (.ops 2 (.skips 4 (.ops 2 eY)))
def fM:RS:=.skips 3 (hO 1)
def fO:RS:=.alt none (.plain (hO 6)) (.ops 4 (.alt none (.plain (hO 2)) .stop))
def fP:RS:=.alt none (.plain (hO 2)) (.ops 1 (.alt none (.plain (hO 1)) .stop))
def fQ:RS:=.skips 4 (.ops 2 fE)
def fU:Hint:=hS (hR 7) hL
def fV:Hint:=.region [] (.op (some (.tup [(.one .str),tP])) (hO 2))
def fZ:Hint:=.region [] (.op (some (.tup [(.one .any),tB])) (hO 2))
def gB:Hint:=hS (hR 2) (hC (hS (.region (lR 6) (hO 6)) hL) hL)
def gI:Hint:=hC dX hL
def gJ:Hint:=hC (hR 2) hL
def gK:RS:=.split 63 (.skips 11 (hO 1)) (.ops 3 eU)
def gQ:Hint:=hS (hR 1) (hS fC eF)
def gU:Hint:=hS (hR 1) fB
def gV:Hint:=hC dZ hL
def gX:RS:=.skips 6 (hO 1)
def gY:RS:=.skips 6 (hO 2)
def gZ:RS:=.skips 5 (hO 1)
def iC:Hint:=hS (.region (lR 12) (hO 12)) hL
def h15:Hint:=(hS (hR 1) (hS (hJ (32760,[(14,tB)]) (.region [] (.ops 4 (.split 6 (.skips 3 (.ops 2 fD)) (.ops 5 (.split 11 fD (hO 3)))))) dV) eF))
def j15 {a0 K w}(h:F15 a0 K w):Aa prog 15 #[(.string a0)] rB K w:=tied Ap func15 h15 _ h
def F17 (x:Int) (K:aZ->Wp):Wp:=jB (λy=>sif (decide (x<0)) (y (true,())) (y ((decide (x>1048576)),()))) λz=>sif z.1 (Ak (.cells #[(.string { data:=#[110,101,119] }),(.string { data:=#[] }),(vI 0),(.iface 33 (vI 1))] 101) λa=>K (none,(.iface 99 (dR (some (at0 a)))),())) (Ak (.map #[] 0) λb=>Ak (.map #[] 0) λc=>Ak (.cells #[(vI x),(.map (some b)),(.map (some c)),dS,(vI 0),(.bool false),(.map none),(vI 0)] 107) λd=>K ((some (at0 d)),.nilIface,()))
def h17:Hint:=(hS (hR 2) (hS (hJ (1008,[(9,tB)]) (.region [] (.ops 3 (.split 6 fD (hO 3)))) (hC eX hL)) fU))
def j17 {a0 K w}(h:F17 a0 K w):Aa prog 17 #[(vI a0)] bV K w:=tied Ap func17 h17 _ h
def F18 (f:xM) (c:ByteArray) (z:Int) (i:Int) (K:bD->Wp):Wp:=Ak dL λx=>Ak dL λb=>cB 15 #[(.string c)] λq=>sif (!q) (drew<|lds c32 (at0 b) λ(r:aH)=>Ah (at0 x) (vA c32 r) 4<|lds c32 (at0 x) λ(s:aH)=>K (none,s,164,())) (jB (λl=>sif (decide (z<0)) (l (true,())) (l ((decide (z>4)),()))) λt=>sif t.1 (drew<|lds c32 (at0 b) λ(u:aH)=>Ah (at0 x) (vA c32 u) 4<|lds c32 (at0 x) λ(A:aH)=>K (none,A,10,())) (jB (λm=>sif (decide (i<0)) (m (true,())) (m ((decide (i>65536)),()))) λB=>sif B.1 (drew<|lds c32 (at0 b) λ(C:aH)=>Ah (at0 x) (vA c32 C) 4<|lds c32 (at0 x) λ(D:aH)=>K (none,D,1,())) (Aa prog 34 #[(dR f),(.string c)] bK λ(d:aU)=>Ak dH λj=>Ah (at0 j) (vA c57 d.1) 3<|cB 53 #[d.2.1,(.iface 33 (vI 162))] λE=>sif E (Ak (.cells (Value.cells (.agg #[(dR f),(.string c),dS,(vI 0),(vI 0),(vI 0),(vI 0),(vI 0),(vI 0)])) 110) λF=>Ah (at0 x) (.agg #[(vI (if 1>z then 1 else z)),(vI 0),dS,(.bool true)]) 4<|lds c32 (at0 x) λ(G:aH)=>K ((some (at0 F)),G,0,())) (rdB prog (do eqGuard .neq 26 (Operand.tmp 56) (Operand.const Value.nilIface) d.2.1 .nilIface;binOp .neq 26 d.2.1 .nilIface:Sem Value) λr19=>sif r19 (drew<|lds c32 (at0 b) λ(n:aH)=>cN 54 #[d.2.1] λH=>aB c32 (at0 b) n<|Ah (at0 x) (vA c32 n) 4<|lds c32 (at0 x) λ(I:aH)=>K (none,I,H,())) (Aa prog 49 #[(dR f),(.string c)] bT λ(y:aX)=>rdB prog (do eqGuard .neq 26 (Operand.tmp 67) (Operand.const Value.nilIface) y.2.1 .nilIface;binOp .neq 26 y.2.1 .nilIface:Sem Value) λr24=>sif r24 (drew<|lds c32 (at0 b) λ(o:aH)=>cN 54 #[y.2.1] λJ=>aB c32 (at0 b) o<|Ah (at0 x) (vA c32 o) 4<|lds c32 (at0 x) λ(L:aH)=>K (none,L,J,())) (jN (λg=>Aa prog 24 #[y.1.v] bI λ(k:aI)=>jB (λp=>sif (z==0) (p ((k.1 !=0),())) (p (false,()))) λM=>sif M.1 (g (k.1,k.2.1,())) (sif (z==0) (Aa prog 55 #[y.1.v] bM λ(N:aQ)=>g (N.1,0,())) (cS 25 #[(vI z)] λO=>cB 56 #[y.1.v,O.v] λP=>sif P (cS 25 #[(vI z)] λQ=>g (z,((Q.len:Nat):Int),())) (g (z,0,()))))) λe=>sif (decide ((W64 (((y.1.len:Nat):Int)-e.2.1))>i)) (drew<|lds c32 (at0 b) λ(R:aH)=>Ah (at0 x) (vA c32 R) 4<|lds c32 (at0 x) λ(S:aH)=>K (none,S,50,())) (drew<|slc y.1.a 0 e.2.1 ((y.1.cap:Nat):Int) y.1.cap 1 λT=>lds c57 (at0 j) λ(h:I3)=>cS 57 #[T.v] λU=>aB c57 (at0 j) h<|Ak (.cells (Value.cells (.agg #[(dR f),(.string c),U.v,(vI h.1),(vI h.2.1),(vI h.2.2.1),(vI 0),(vI 0),(vI 0)])) 110) λV=>slc y.1.a e.2.1 ((y.1.len:Nat):Int) ((y.1.cap:Nat):Int) y.1.cap 1 λW=>cS 57 #[W.v] λX=>Ah (at0 x) (.agg #[(vI e.1),(vI e.2.1),X.v,(.bool false)]) 4<|lds c32 (at0 x) λ(Y:aH)=>K ((some (at0 V)),Y,0,()))))))))
def h18:Hint:=(hS (hR 3) (hS (hR 1) (hS (.block (hS (hR 4) (hC fF (hJ (0x7f000000,[(24,tB)]) (.region [] (.ops 3 (.split 27 dY (hO 4)))) (hC fF (hJ (0x7f00000000,[(32,tB)]) (.region [] (.ops 3 (.split 35 dY (hO 4)))) (hC fF hL))))))) (hS (hR 9) (hS (hS (hR 3) (hC (hS (hR 10) hL) hL)) (hS gB (hS (hR 8) (hS gB (hS (hR 1) (hJ (0x3fffffff000000000000038004,[(2,tI),(15,tI)]) (hS (hR 7) (.block (hJ ((mR [(77,84)]),[(77,tB)]) (.region [] (.ops 3 (.split 80 (hO 4) dY))) (hC (hR 4) (hS (hR 3) (hC (hR 6) (hS (hR 5) (hC (hR 4) hL)))))))) (hS (hS (hR 6) (hC fF hL)) (hS (.region [0,1,2,3,4,6,5,7,8,9] (hO 10)) (hS (hR 11) hL)))))))))))))
def j18 {a0 a1 a2 a3 K w}(h:F18 a0 a1 a2 a3 K w):Aa prog 18 #[(dR a0),(.string a1),(vI a2),(vI a3)] bZ K w:=tied Ap func18 h18 _ h
def F19 (x:xM) (K:Int->Wp):Wp:=nn x λy=>ld cI (y.add 7) λ(z:Int)=>K z
def h19:Hint:=gU
def j19 {a0 K w}(h:F19 a0 K w):Aa prog 19 #[(dR a0)] rI K w:=tied Ap func19 h19 _ h
def F27 (x:xM) (q:xM) (r:Bool) (K:Int->Wp):Wp:=join (S:=Addr×Value×Unit) (λd=>drew<|nn x λb=>ld (.ptr) b λ(z:xM)=>nn x λc=>ld (.str) (c.add 1) λ(a:ByteArray)=>both (Ak dH λe=>keep (λw=>w.cell? (c.add 1)=some (Cell.val (.str) a))<|keep (λw=>w.cell? b=some (Cell.val (.ptr) z))<|Aa prog 34 #[(dR z),(.string a)] bK λ(f:aU)=>Ah (at0 e) (vA c57 f.1) 3<|d ((at0 e),f.2.1,()))<|Aa prog 34 #[(dR z),(.string a)] bK λ(g:aU)=>both (Ak dH λh=>keep (λw=>w.cell? (c.add 1)=some (Cell.val (.str) a))<|keep (λw=>w.cell? b=some (Cell.val (.ptr) z))<|Ah (at0 h) (vA c57 g.1) 3<|d ((at0 h),g.2.1,()))<|nothing) λy=>jB (λi=>rdB prog (do eqGuard .neq 26 (Operand.tmp 21) (Operand.const Value.nilIface) y.2.1 .nilIface;binOp .neq 26 y.2.1 .nilIface:Sem Value) λr13=>sif r13 (cB 53 #[y.2.1,(.iface 33 (vI 162))] λs=>i ((!s),())) (i (false,()))) λt=>sif t.1 (cN 54 #[y.2.1] λu=>K u) (jU (λj=>jB (λk=>drew<|rdB prog (do eqGuard .eql 26 (Operand.tmp 31) (Operand.const Value.nilIface) y.2.1 .nilIface;binOp .eql 26 y.2.1 .nilIface:Sem Value) λr20=>sif r20 (lds c57 y.1 λ(l:I3)=>nn x λv=>lds c57 (v.add 6) λ(m:I3)=>rdB prog (do eqGuard .eql 57 (Operand.tmp 34) (Operand.tmp 38) (vA c57 l) (vA c57 m);binOp .eql 57 (vA c57 l) (vA c57 m):Sem Value) λr24=>k (r24,())) (k (false,()))) λA=>sif A.1 (lds c57 y.1 λ(B:I3)=>nn x λC=>Ah (C.add 3) (vA c57 B) 3<|j ()) (j ())) λM=>jB (λn=>drew<|sif (!r) (lds c57 y.1 λ(o:I3)=>nn x λD=>lds c57 (D.add 3) λ(p:I3)=>rdB prog (do eqGuard .neq 57 (Operand.tmp 48) (Operand.tmp 52) (vA c57 o) (vA c57 p);binOp .neq 57 (vA c57 o) (vA c57 p):Sem Value) λr32=>n (r32,())) (n (false,()))) λE=>sif E.1 (K 170) (drew<|nn x λF=>ld (.str) (F.add 1) λ(G:ByteArray)=>nn x λH=>nn x λI=>Aa prog 58 #[(dR x),(.string G),(dR q),(dR (some (H.add 6))),(dR (some (I.add 3)))] (.one (.one .any)) λ(J:Value)=>cN 54 #[J] λL=>K L))
def h27:Hint:=(hS (hR 1) (hJ (2097024,[(7,(.one .addr)),(8,(.one .any))]) (.region [0,1,2,3,4,5,6,7,8,9,10,11,13,14] (.float [12] (.ops 8 fO))) (hS (hJ (534773760,[(28,tB)]) (.region [] (.ops 3 (.split 23 (hO 5) eY))) gV) (hJ (0x1fff80000000,[]) (hJ (0x1ff80000000,[(40,tB)]) (.region (lR 10) (.ops 3 (.split 33 (hO 7) gX))) (hC (hR 5) hL)) (hS (hJ ((mR [(45,55)]),[(54,tB)]) (.region (lR 10) (.ops 3 (.split 47 (hO 7) gX))) dV) (hS (.region (lR 14) (hO 14)) dZ))))))
def j27 {a0 a1 a2 K w}(h:F27 a0 a1 a2 K w):Aa prog 27 #[(dR a0),(dR a1),(.bool a2)] rI K w:=tied Ap func27 h27 _ h
def F31 (y:xM) (K:I3->Wp):Wp:=Ak dH λx=>nn y λz=>lds c57 (z.add 3) λ(a:I3)=>Ah (at0 x) (vA c57 a) 3<|lds c57 (at0 x) λ(b:I3)=>K b
def h31:Hint:=gU
def j31 {a0 K w}(h:F31 a0 K w):Aa prog 31 #[(dR a0)] (.one (.agg c57)) K w:=tied Ap func31 h31 _ h
def F32 (x:xM) (y:ByteArray) (d:Sl) (K:Value->Wp):Wp:=nn x λl=>ld (.map) (l.add 1) λ(m:Option Nat)=>rdT prog rP (Instr.lookup 103 (.map m) (.string y) false) λ(z:xM)=>nn x λn=>lI n λo=>jI (λp=>nn x λq=>ld (.map) (q.add 1) λ(r:Option Nat)=>Dy prog rP (Instr.range 103 (.map r)) λ(e:xM)=>sI (λb f=>Aw2 prog (Instr.next (dR e) false 0) λr13 rest14=>sif r13 (Dy prog (.tup [(.one .str),(.one .ptr)]) (Instr.entry (dR e)) λ(c:ByteArray×xM×Unit)=>rdB prog (do eqGuard .neq 121 (Operand.tmp 30) (Operand.tmp 31) (dR c.2.1) (dR z);binOp .neq 121 (dR c.2.1) (dR z):Sem Value) λr16=>sif r16 (nn c.2.1 λs=>ld (.sl) (s.add 1) λ(t:Sl)=>f ((W64 (b.1-((t.len:Nat):Int))),())) (f (b.1,()))) (p (b.1,()))) (o,())) λu=>nn x λA=>ld (.bool) (A.add 5) λ(B:Bool)=>sif B (Ak (.cells #[(.string { data:=#[112,117,116] }),(.string y),(vI 0),(.iface 33 (vI 165))] 101) λC=>K (.iface 99 (dR (some (at0 C))))) (cB 60 #[(.string y)] λD=>sif (!D) (Ak (.cells #[(.string { data:=#[112,117,116] }),(.string y),(vI 0),(.iface 33 (vI 164))] 101) λE=>K (.iface 99 (dR (some (at0 E))))) (jB (λg=>jB (λh=>sif (Option.isNone z) (nn x λF=>ld (.map) (F.add 1) λ(G:Option Nat)=>rdN prog (Builtin.len_ #[103] 3 #[(.map G)]) λH=>h ((decide (H>=16)),())) (h (false,()))) λi=>sif i.1 (g (i.1,())) (g ((decide (((d.len:Nat):Int)>u.1)),()))) λI=>sif I.1 (Ak (.cells #[(.string { data:=#[112,117,116] }),(.string y),(vI 0),(.iface 33 (vI 161))] 101) λJ=>K (.iface 99 (dR (some (at0 J))))) (join (S:=xM×Unit) (λj=>sif (Option.isNone z) (Aa prog 61 #[(dR x)] rP λ(k:xM)=>nn x λL=>ld (.map) (L.add 1) λ(M:Option Nat)=>Av3 prog (Instr.mapUpdate 103 (.map M) (.string y) (dR k))<|j (k,())) (j (z,()))) λa=>Aa prog 62 #[(dR x)] bH λ(T:(Unit))=>cS 63 #[d.v] λN=>nn a.1 λO=>stC (O.add 1) N.v<|Aa prog 64 #[(dR a.1)] bH λ(U:(Unit))=>nn a.1 λP=>ld cI (P.add 3) λ(Q:Int)=>nn a.1 λR=>stC (R.add 3) (vI (W64 (Q+1)))<|K .nilIface)))
def h32:Hint:=(hS (hR 1) (hS (hR 7) (hS (hR 5) (hJ (0xffffe00500,[(8,tI)]) (hS (hR 5) (.block (.loop 0xfffc000500 [(8,tI)] (hS (hR 2) (hS eG (.block (hS fV (hS (hR 3) (hC (hR 8) hL))))))))) (hS (.block (hS (hR 5) (hC eX (hS (hR 4) (hC eX (hJ ((mR [(59,74)]),[(59,tB)]) (hJ ((mR [(59,70)]),[(59,tB)]) (.region [] (.ops 3 (.split 62 (hO 8) gY))) (hC hL (hR 5))) (hC eX hL))))))) (hJ ((mR [(7,8),(79,89)]),[(7,tP)]) (hS (hR 2) (hC (hS (hR 3) (hR 7)) hL)) (hS (hR 2) (hS (hR 6) (hS (hR 2) (hS (hR 8) eH))))))))))
def j32 {a0 a1 a2 K w}(h:F32 a0 a1 a2 K w):Aa prog 32 #[(dR a0),(.string a1),a2.v] (.one (.one .any)) K w:=tied Ap func32 h32 _ h
def F34 (c:xM) (d:ByteArray) (K:aU->Wp):Wp:=Ak (.cells #[(dR c)] 24) λz=>Ak (.cells #[(.string d)] 9) λa=>Ak dH λx=>Ak dH λb=>ld (.ptr) (at0 z) λ(e:xM)=>ld (.str) (at0 a) λ(f:ByteArray)=>Aa prog 65 #[(dR e),(.string { data:=#[115,116,97,109,112] }),(.string f),(.func (Fn.func 66) #[] #[(dR (some (at0 z))),(dR (some (at0 a))),(dR (some (at0 b)))]),.nilFunc] (.one (.one .any)) λ(y:Value)=>rdB prog (do eqGuard .neq 26 (Operand.tmp 12) (Operand.const Value.nilIface) y .nilIface;binOp .neq 26 y .nilIface:Sem Value) λr8=>sif r8 (Ah (at0 x) (.agg #[(vI 0),(vI 0),(vI 0)]) 3<|lds c57 (at0 x) λ(g:I3)=>K (g,y,())) (lds c57 (at0 b) λ(h:I3)=>Ah (at0 x) (vA c57 h) 3<|lds c57 (at0 x) λ(i:I3)=>K (i,.nilIface,()))
def h34:Hint:=(hS (hR 4) (hS (hR 1) (hS (hR 5) (hS (hS (hR 2) (hC eF hL)) dZ))))
def j34 {a0 a1 K w}(h:F34 a0 a1 K w):Aa prog 34 #[(dR a0),(.string a1)] bK K w:=tied Ap func34 h34 _ h
def F35 (y:xM) (e:Sl) (K:Unit->Wp):Wp:=Ak (.map #[] 0) λh=>nn y λi=>stC (i.add 6) (.map (some h))<|nn y λj=>stC (j.add 7) (vI 0)<|sI (λz k=>sif (decide (z.1<((e.len:Nat):Int))) (jU (λf=>ixs Dt e z.1 5 λ(l:aO)=>Ak dK λx=>Ah (at0 x) (vA Dt l) 5<|drew<|nn y λg=>ld (.map) (g.add 6) λ(a:Option Nat)=>lI (at0 x) λb=>rdT prog cZ (Instr.lookup 105 (.map a) (vI b) true) λ(c:(aO×Bool×Unit))=>Ak dK λm=>keep (λw=>(Instr.lookup 105 (.map a) (vI b) true).run prog w=.ok (RTy.val cZ c) w)<|aA (at0 x) b<|keep (λw=>w.cell? (g.add 6)=some (Cell.val (.map) a))<|Ah (at0 m) (vA Dt c.1) 5<|jB (λd=>sif c.2.1 (d (true,())) (lI (ad x 1) λn=>sif (decide (n<1)) (d (true,())) (lI (ad x 1) λo=>d ((decide (o>5)),())))) λp=>sif p.1 (f ()) (ld (.sl) ((ad x 3).add 1) λ(q:Sl)=>cS 68 #[q.v] λr=>stC ((ad x 3).add 1) r.v<|drew<|nn y λs=>ld (.map) (s.add 6) λ(t:Option Nat)=>lI (at0 x) λu=>lds Dt (at0 x) λ(A:aO)=>Av3 prog (Instr.mapUpdate 105 (.map t) (vI u) (vA Dt A))<|f ())) λB=>k ((W64 (z.1+1)),())) (K ())) (0,())
def h35:Hint:=(hS (hR 9) (hS (hR 3) (.block (.loop 0xfffffffffe00e0 [(17,tI)] (hS (hR 1) (hS eG (hJ (0x7ffffffff800e0,[]) (.block (hS (hR 4) (hS (hS (.region (lR 13) (hO 13)) (hJ (0x3ff80000000,[(41,tB)]) (.region [] (.ops 2 (.split 32 (.skips 3 (.ops 2 fM)) (.ops 5 (.split 37 fM (hO 4)))))) eG)) (hS (hR 7) fG)))) (hR 2))))))))
def j35 {a0 a1 K w}(h:F35 a0 a1 K w):Aa prog 35 #[(dR a0),a1.v] bH K w:=tied Ap func35 h35 _ h
def F36 (y:xM) (z:ByteArray) (K:Int->Wp):Wp:=cB 15 #[(.string z)] λa=>sif (!a) (K 164) (nn y λb=>ld (.ptr) b λ(c:xM)=>Aa prog 34 #[(dR c),(.string z)] bK λ(x:aU)=>Ak dH λd=>Ah (at0 d) (vA c57 x.1) 3<|rdB prog (do eqGuard .eql 26 (Operand.tmp 19) (Operand.const Value.nilIface) x.2.1 .nilIface;binOp .eql 26 x.2.1 .nilIface:Sem Value) λr6=>sif r6 (K 163) (cB 53 #[x.2.1,(.iface 33 (vI 162))] λe=>sif (!e) (cN 54 #[x.2.1] λf=>K f) (nn y λg=>stC (g.add 1) (.string z)<|nn y λh=>Ah (h.add 3) (.agg #[(vI 0),(vI 0),(vI 0)]) 3<|nn y λi=>Ah (i.add 6) (.agg #[(vI 0),(vI 0),(vI 0)]) 3<|K 0)))
def h36:Hint:=(hS (hR 1) (hS (hS (hR 3) dV) (hS (hR 12) (hS fC (hS (hS (hR 4) gV) (hS (hR 15) eH))))))
def j36 {a0 a1 K w}(h:F36 a0 a1 K w):Aa prog 36 #[(dR a0),(.string a1)] rI K w:=tied Ap func36 h36 _ h
def F37 (y:xM) (z:ByteArray) (a:xM) (b:Bool) (K:Int->Wp):Wp:=cB 15 #[(.string z)] λe=>sif (!e) (K 164) (nn y λf=>ld (.str) (f.add 1) λ(g:ByteArray)=>sif (ByteArray.toList z==ByteArray.toList g) (cN 27 #[(dR y),(dR a),(.bool b)] λh=>K h) (nn y λi=>ld (.ptr) i λ(j:xM)=>Aa prog 34 #[(dR j),(.string z)] bK λ(x:aU)=>Ak dH λk=>Ah (at0 k) (vA c57 x.1) 3<|jB (λc=>rdB prog (do eqGuard .eql 26 (Operand.tmp 38) (Operand.const Value.nilIface) x.2.1 .nilIface;binOp .eql 26 x.2.1 .nilIface:Sem Value) λr11=>sif r11 (c ((!b),())) (c (false,()))) λl=>sif l.1 (K 163) (jB (λd=>rdB prog (do eqGuard .neq 26 (Operand.tmp 45) (Operand.const Value.nilIface) x.2.1 .nilIface;binOp .neq 26 x.2.1 .nilIface:Sem Value) λr14=>sif r14 (cB 53 #[x.2.1,(.iface 33 (vI 162))] λm=>d ((!m),())) (d (false,()))) λn=>sif n.1 (cN 54 #[x.2.1] λo=>K o) (Ak dH λp=>Ak dH λq=>Aa prog 58 #[(dR y),(.string z),(dR a),(dR (some (at0 p))),(dR (some (at0 q)))] (.one (.one .any)) λ(r:Value)=>cN 54 #[r] λs=>K s))))
def h37:Hint:=(hS (hR 1) (hS (.block (hS (hR 4) (hC eH (hS (hR 7) (hC fB hL))))) (hS (hS (hR 12) (.block (hJ (0xfe000000000,[(37,tB)]) (.region [] (.ops 3 (.split 40 (hO 4) dY))) (hC eH (hJ ((mR [(44,53)]),[(44,tB)]) (.region [] (.ops 3 (.split 47 (hO 6) fE))) gV))))) (hS (hR 2) eX))))
def j37 {a0 a1 a2 a3 K w}(h:F37 a0 a1 a2 a3 K w):Aa prog 37 #[(dR a0),(.string a1),(dR a2),(.bool a3)] rI K w:=tied Ap func37 h37 _ h
def F40 (x:xM) (f:aJ) (K:Unit->Wp):Wp:=Ak (.cells #[(vI f.1),f.2.1.v] 72) λb=>nn x λk=>ld (.bool) (k.add 5) λ(l:Bool)=>sif l (K ()) (jU (λm=>drew<|nn x λn=>ld (.sl) (n.add 3) λ(c:Sl)=>lI (at0 b) λz=>nn x λo=>ld (.sl) (o.add 3) λ(g:Sl)=>slc c.a 0 (if ((g.len:Nat):Int)<(if 0>z then 0 else z) then ((g.len:Nat):Int) else (if 0>z then 0 else z)) ((c.cap:Nat):Int) c.cap 1 λh=>sI (λe p=>sif (decide (e.1<((h.len:Nat):Int))) (ixl (.any) h e.1 1 λ(q:Value)=>nn x λr=>ld (.map) (r.add 2) λ(s:Option Nat)=>Cj prog (do let d ←Deferred.ofValue q #[(.map s)];invoke d.target d.args:Sem Next) bH λ(R:(Unit))=>p ((W64 (e.1+1)),())) (m ())) (0,())) λS=>jU (λt=>nn x λu=>ld (.map) (u.add 2) λ(A:Option Nat)=>cS 71 #[(.map A)] λi=>sI (λy B=>sif (decide (y.1<((i.len:Nat):Int))) (ixl (.str) i y.1 1 λ(C:ByteArray)=>jI (λj=>ld (.sl) (ad b 1) λ(D:Sl)=>sif (decide (y.1<((D.len:Nat):Int))) (ld (.sl) (ad b 1) λ(E:Sl)=>ixI E y.1 1 λF=>j (F,())) (j (0,()))) λG=>nn x λH=>ld (.map) (H.add 2) λ(I:Option Nat)=>rdT prog rP (Instr.lookup 103 (.map I) (.string C) false) λ(J:xM)=>Aa prog 72 #[(dR J),(vI G.1)] bH λ(T:(Unit))=>B ((W64 (y.1+1)),())) (t ())) (0,())) λU=>nn x λL=>ld (.map) (L.add 2) λ(M:Option Nat)=>Aa prog 73 #[(.map M)] (.one (.one .map)) λ(N:Option Nat)=>nn x λO=>stC (O.add 1) (.map N)<|nn x λP=>stC (P.add 3) dS<|nn x λQ=>stC (Q.add 5) (.bool true)<|K ())
def h40:Hint:=(hS (hR 1) (hS fJ (hJ (0x7fffffe020,[]) (hS (.region (lR 16) (hO 16)) (.block (.loop 0x7ff0000020 [(28,tI)] (hS (hR 1) (hS eG (hS (.block (hS (hR 3) (hR 6))) (hR 2))))))) (hJ (0x1fffffff80000001c0,[]) (hS (hR 7) (.block (.loop 0x1fffffe000000001c0 [(45,tI)] (hS (hR 1) (hS eG (hS (.block (hS (hR 5) (hS (hR 1) (hJ (0xffc000000000100,[(8,tI)]) (hS (hR 5) (hC (hR 6) hL)) (hR 8))))) (hR 2))))))) (hS (hR 13) (hR 4))))))
def j40 {a0 a1 K w}(h:F40 a0 a1 K w):Aa prog 40 #[(dR a0),(vA c72 a1)] bH K w:=tied Ap func40 h40 _ h
def F42 (x:xM) (K:Unit->Wp):Wp:=nn x λy=>ld (.bool) (y.add 5) λ(z:Bool)=>sif z (nn x λa=>stC (a.add 5) (.bool false)<|nn x λb=>stC (b.add 6) (.map none)<|nn x λc=>stC (c.add 7) (vI 0)<|K ()) (K ())
def h42:Hint:=(hS (hR 4) (hC (hR 12) hL))
def j42 {a0 K w}(h:F42 a0 K w):Aa prog 42 #[(dR a0)] bH K w:=tied Ap func42 h42 _ h
def F43 (y:xM) (K:Int->Wp):Wp:=cB 74 #[(dR y)] λd=>sif d (K 165) (jB (λe=>cS 59 #[(dR y)] λa=>Jh (S:=Bool×Int×Unit) (λx f=>sif (decide (x.2.1<((a.len:Nat):Int))) (jB (λb=>ixl (.str) a x.2.1 1 λ(c:ByteArray)=>Aa prog 50 #[(.string c),(.string { data:=#[126] })] rB λ(g:Bool)=>sif (!g) (b (x.1,())) (Aa prog 75 #[(dR y),(.string c)] (.one (.one .any)) λ(z:Value)=>rdB prog (do eqGuard .neq 26 (Operand.tmp 22) (Operand.const Value.nilIface) z .nilIface;binOp .neq 26 z .nilIface:Sem Value) λr13=>sif r13 (cN 54 #[z] λh=>K h) (b (true,())))) λi=>f (i.1,(W64 (x.2.1+1)),())) (e (x.1,()))) (false,0,())) λj=>sif (!j.1) (K 0) (Aa prog 76 #[(dR y)] (.one (.one .any)) λ(k:Value)=>cN 54 #[k] λl=>K l))
def h43:Hint:=(hS (hR 1) (hS fC (hS (hR 1) (hJ (0x7fffe6c,[(3,tB)]) (hS (hR 4) (.block (.loop 0x7fff06c [(3,tB),(12,tI)] (hS (hR 1) (hS eG (hJ (67092588,[(3,tB)]) (.block (hS (hR 3) (hS (hS (hR 3) eG) (hS (hS (hR 4) fH) (hR 1))))) (hR 2))))))) (hS fC eF)))))
def j43 {a0 K w}(h:F43 a0 K w):Aa prog 43 #[(dR a0)] rI K w:=tied Ap func43 h43 _ h
def F49 (b:xM) (c:ByteArray) (K:aX->Wp):Wp:=Ak (.cells #[(dR b)] 24) λy=>Ak (.cells #[(.string c)] 9) λz=>Ak dN λa=>ld (.ptr) (at0 y) λ(d:xM)=>ld (.str) (at0 z) λ(e:ByteArray)=>Aa prog 65 #[(dR d),(.string { data:=#[114,101,97,100] }),(.string e),(.func (Fn.func 87) #[] #[(dR (some (at0 y))),(dR (some (at0 z))),(dR (some (at0 a)))]),.nilFunc] (.one (.one .any)) λ(x:Value)=>rdB prog (do eqGuard .neq 26 (Operand.tmp 12) (Operand.const Value.nilIface) x .nilIface;binOp .neq 26 x .nilIface:Sem Value) λr7=>sif r7 (K (⟨none,0,0⟩,x,())) (ld (.sl) (at0 a) λ(f:Sl)=>K (f,.nilIface,()))
def h49:Hint:=(hS (hR 4) (hS (hR 1) (hS (hR 5) (hS fH dZ))))
def j49 {a0 a1 K w}(h:F49 a0 a1 K w):Aa prog 49 #[(dR a0),(.string a1)] bT K w:=tied Ap func49 h49 _ h
def F50 (x:ByteArray) (y:ByteArray) (K:Bool->Wp):Wp:=cB 88 #[(.string x),(.string y)] λz=>K z
def h50:Hint:=(hS (hR 1) eF)
def j50 {a0 a1 K w}(h:F50 a0 a1 K w):Aa prog 50 #[(.string a0),(.string a1)] rB K w:=tied Ap func50 h50 _ h
def F51 (x:ByteArray) (y:Value) (K:Int->Wp):Wp:=cN 89 #[(.string x),y,(.bool true)] λz=>K z
def h51:Hint:=(hS (hR 1) eF)
def j51 {a0 a1 K w}(h:F51 a0 a1 K w):Aa prog 51 #[(.string a0),a1] rI K w:=tied Ap func51 h51 _ h
def F52 (x:Int) (K:Bool->Wp):Wp:=jB (λy=>jB (λz=>sif (decide (x>=97)) (z ((decide (x<=122)),())) (z (false,()))) λa=>sif a.1 (y (a.1,())) (jB (λb=>sif (decide (x>=65)) (b ((decide (x<=90)),())) (b (false,()))) λc=>sif c.1 (y (c.1,())) (sif (decide (x>=48)) (y ((decide (x<=57)),())) (y (false,()))))) λd=>sif d.1 (K false) (Aa prog 90 #[(.string { data:=#[46,95,45,126] }),(.int .i32 x)] rB λ(e:Bool)=>K (!e))
def h52:Hint:=(hS (hR 1) (hS (.block (hJ (4194296,[(3,tB)]) (hJ (1016,[(3,tB)]) (.region [] (.ops 3 (.split 6 (hO 4) dY))) (hC hL (hJ (64520,[(3,tB)]) (.region [] (.ops 3 (.split 12 (hO 4) dY))) (hC hL (.region [] (.ops 3 (.split 18 (hO 4) dY))))))) dV)) eF))
def j52 {a0 K w}(h:F52 a0 K w):Aa prog 52 #[(.int .i32 a0)] rB K w:=tied Ap func52 h52 _ h
def F53 (y:Value) (x:Value) (K:Bool->Wp):Wp:=jB (λz=>rdB prog (do eqGuard .eql 26 (Operand.tmp 6) (Operand.const Value.nilIface) y .nilIface;binOp .eql 26 y .nilIface:Sem Value) λr3=>sif r3 (z (true,())) (rdB prog (do eqGuard .eql 26 (Operand.tmp 9) (Operand.const Value.nilIface) x .nilIface;binOp .eql 26 x .nilIface:Sem Value) λr4=>z (r4,()))) λa=>sif a.1 (rdB prog (do eqGuard .eql 26 (Operand.tmp 12) (Operand.tmp 13) y x;binOp .eql 26 y x:Sem Value) λr5=>K r5) (Cj prog (callFunc 91 #[x]) (.one (.one .any)) λ(b:Value)=>Cj prog (invoke (.fn (.method "Comparable") #[]) (#[b]++#[])) rB λ(c:Bool)=>cB 92 #[y,x,(.bool c)] λd=>K d)
def h53:Hint:=(hS (hR 1) (hS (hJ (4032,[(11,tB)]) (.region [] (.ops 3 (.split 8 fD (hO 3)))) (hC eF hL)) (hS (hR 4) fB)))
def j53 {a0 a1 K w}(h:F53 a0 a1 K w):Aa prog 53 #[a0,a1] rB K w:=tied Ap func53 h53 _ h
def F54 (x:Value) (K:Int->Wp):Wp:=Ak (.cells #[(dR none)] 99) λy=>Ak (.cells #[(vI 0)] 33) λz=>rdB prog (do eqGuard .eql 26 (Operand.tmp 6) (Operand.const Value.nilIface) x .nilIface;binOp .eql 26 x .nilIface:Sem Value) λr3=>sif r3 (K 0) (jB (λa=>cB 93 #[x,(.iface 176 (dR (some (at0 y))))] λb=>sif b (ld (.ptr) (at0 y) λ(c:xM)=>nn c λd=>ld (.any) (d.add 3) λ(e:Value)=>cB 93 #[e,(.iface 177 (dR (some (at0 z))))] λf=>a (f,())) (a (false,()))) λg=>sif g.1 (lI (at0 z) λh=>K h) (K 160))
def h54:Hint:=(hS (hR 1) (hS (hR 1) (hS (hR 1) (hS (.block (hS (hR 3) (hC eH (hJ (0xfff00,[(8,tB)]) (.region [] (.ops 4 (.split 12 (hO 8) gY))) gI)))) eH))))
def j54 {a0 K w}(h:F54 a0 K w):Aa prog 54 #[a0] rI K w:=tied Ap func54 h54 _ h
def F56 (x:Sl) (y:Sl) (K:Bool->Wp):Wp:=sif (decide (((x.len:Nat):Int)>=((y.len:Nat):Int))) (slc x.a 0 ((y.len:Nat):Int) ((x.cap:Nat):Int) x.cap 1 λz=>cB 96 #[z.v,y.v] λb=>K b) (K false)
def h56:Hint:=(hS (hR 1) (hS (.region [] (.ops 6 (.split 10 (hO 8) gY))) hL))
def j56 {a0 a1 K w}(h:F56 a0 a1 K w):Aa prog 56 #[a0.v,a1.v] rB K w:=tied Ap func56 h56 _ h
def F57 (x:Sl) (K:Sl->Wp):Wp:=sif (Option.isNone x.a) (K ⟨none,0,0⟩) (Ak (.cells #[] 5) λy=>Dy prog rS (Builtin.append_ #[30,30] 30 #[(.slice (some (at0 y)) 0 0),x.v]) λ(z:Sl)=>K z)
def h57:Hint:=gQ
def j57 {a0 K w}(h:F57 a0 K w):Aa prog 57 #[a0.v] rS K w:=tied Ap func57 h57 _ h
def F58 (y:xM) (a:ByteArray) (b:xM) (z:xM) (c:xM) (K:Value->Wp):Wp:=Aa prog 97 #[(dR y),(.string a),(dR b),(dR z)] (.one (.one .any)) λ(x:Value)=>rdB prog (do eqGuard .neq 26 (Operand.tmp 17) (Operand.const Value.nilIface) x .nilIface;binOp .neq 26 x .nilIface:Sem Value) λr2=>sif r2 (K x) (nn z λd=>lds c57 d λ(e:I3)=>nn c λf=>Ah f (vA c57 e) 3<|nn y λg=>ld (.ptr) g λ(h:xM)=>Aa prog 76 #[(dR h)] (.one (.one .any)) λ(i:Value)=>K i)
def h58:Hint:=(hS (hR 1) (hS (hR 6) (hS fA (hS (hR 6) eX))))
def j58 {a0 a1 a2 a3 a4 K w}(h:F58 a0 a1 a2 a3 a4 K w):Aa prog 58 #[(dR a0),(.string a1),(dR a2),(dR a3),(dR a4)] (.one (.one .any)) K w:=tied Ap func58 h58 _ h
def F59 (x:xM) (K:Sl->Wp):Wp:=nn x λy=>ld (.bool) (y.add 5) λ(z:Bool)=>sif z (K ⟨none,0,0⟩) (nn x λa=>ld (.map) (a.add 1) λ(b:Option Nat)=>cS 71 #[(.map b)] λc=>K c)
def h59:Hint:=(hS (hR 1) (hS (hS (hR 4) dV) eX))
def j59 {a0 K w}(h:F59 a0 K w):Aa prog 59 #[(dR a0)] rS K w:=tied Ap func59 h59 _ h
def F60 (a:ByteArray) (K:Bool->Wp):Wp:=jB (λc=>sif (((ByteArray.size a:Nat):Int)==0) (c (true,())) (c ((decide (((ByteArray.size a:Nat):Int)>32)),()))) λj=>sif j.1 (K false) (jU (λk=>Dy prog rS (convert 9 30 (.string a)) λd=>sI (λb l=>sif (decide (b.1<((d.len:Nat):Int))) (jU (λe=>ixl (.int .u8) d b.1 1 λ(x:Int)=>jB (λy=>jB (λf=>sif (decide (97<=x)) (f ((decide (x<=122)),())) (f (false,()))) λg=>sif g.1 (y (g.1,())) (jB (λh=>sif (decide (65<=x)) (h ((decide (x<=90)),())) (h (false,()))) λi=>sif i.1 (y (i.1,())) (sif (decide (48<=x)) (y ((decide (x<=57)),())) (y (false,()))))) λm=>sif m.1 (e ()) (jB (λz=>sif (x==46) (z ((x==46),())) (sif (x==95) (z ((x==95),())) (sif (x==45) (z ((x==45),())) (z ((x==126),()))))) λn=>sif n.1 (e ()) (K false))) λo=>l ((W64 (b.1+1)),())) (k ())) (0,())) λp=>K true)
def h60:Hint:=(hS (hR 1) (hS (hJ (8160,[(12,tB)]) (.region [] (.ops 4 (.split 8 fM (hO 4)))) dV) (hJ (0x1ffffffffe014,[]) (hS (hR 4) (.block (.loop 0x1ffffffff0014 [(16,tI)] (hS (hR 1) (hS eG (hJ (0xfffffffc0014,[]) (.block (hS (hR 3) (.block (hJ (0x7ffff00000,[(20,tB)]) (hJ (0x7f00000,[(20,tB)]) (.region [] (.ops 3 (.split 23 (hO 4) dY))) (hC hL (hJ (8456765440,[(20,tB)]) (.region [] (.ops 3 (.split 29 (hO 4) dY))) (hC hL (.region [] (.ops 3 (.split 35 (hO 4) dY))))))) (hC hL (hJ (0xff8000000000,[(39,tB)]) (hS (hR 3) (hC hL (hS (hR 3) (hC hL (hS (hR 3) (hC hL (hR 3))))))) (hC hL eH))))))) (hR 2))))))) eH)))
def j60 {a0 K w}(h:F60 a0 K w):Aa prog 60 #[(.string a0)] rB K w:=tied Ap func60 h60 _ h
def F61 (x:xM) (K:xM->Wp):Wp:=nn x λy=>ld cI (y.add 4) λ(z:Int)=>nn x λa=>stC (a.add 4) (vI (W64 (z+1)))<|nn x λb=>ld cI (b.add 4) λ(c:Int)=>Ak (.cells #[(vI c),dS,(vI 0),(vI 0)] 123) λd=>K (some (at0 d))
def h61:Hint:=(hS (hR 1) (hS (hR 8) fU))
def j61 {a0 K w}(h:F61 a0 K w):Aa prog 61 #[(dR a0)] rP K w:=tied Ap func61 h61 _ h
def F62 (x:xM) (K:Unit->Wp):Wp:=nn x λy=>ld (.map) (y.add 1) λ(z:Option Nat)=>Aa prog 73 #[(.map z)] (.one (.one .map)) λ(a:Option Nat)=>nn x λb=>stC (b.add 2) (.map a)<|nn x λc=>stC (c.add 3) dS<|K ()
def h62:Hint:=(hR 13)
def j62 {a0 K w}(h:F62 a0 K w):Aa prog 62 #[(dR a0)] bH K w:=tied Ap func62 h62 _ h
def F63 (x:Sl) (K:Sl->Wp):Wp:=sif (Option.isNone x.a) (K ⟨none,0,0⟩) (Ak (.cells #[] 5) λy=>Dy prog rS (Builtin.append_ #[30,30] 30 #[(.slice (some (at0 y)) 0 0),x.v]) λ(z:Sl)=>K z)
def h63:Hint:=gQ
def j63 {a0 K w}(h:F63 a0 K w):Aa prog 63 #[a0.v] rS K w:=tied Ap func63 h63 _ h
def F64 (x:xM) (K:Unit->Wp):Wp:=nn x λy=>ld (.sl) (y.add 1) λ(z:Sl)=>nn x λa=>stC (a.add 2) (vI ((z.len:Nat):Int))<|K ()
def h64:Hint:=(hR 9)
def j64 {a0 K w}(h:F64 a0 K w):Aa prog 64 #[(dR a0)] bH K w:=tied Ap func64 h64 _ h
def F65 (y:xM) (e:ByteArray) (f:ByteArray) (b:Value) (c:Value) (K:Value->Wp):Wp:=nn y λj=>ld (.bool) (j.add 5) λ(k:Bool)=>sif k (Ak (.cells #[(.string e),(.string f),(vI 0),(.iface 33 (vI 165))] 101) λl=>K (.iface 99 (dR (some (at0 l))))) (nn y λm=>ld cI (m.add 7) λ(n:Int)=>nn y λo=>stC (o.add 7) (vI (W64 (n+1)))<|nn y λp=>ld cI (p.add 7) λ(g:Int)=>nn y λq=>ld (.map) (q.add 6) λ(r:Option Nat)=>rdT prog (.one (.agg Dt)) (Instr.lookup 105 (.map r) (vI g) false) λ(s:aO)=>Ak dK λz=>Ah (at0 z) (vA Dt s) 5<|jI (λx=>lI (ad z 1) λa=>sif (a==1) (x (160,())) (sif (a==2) (rdB prog (do eqGuard .neq 182 (Operand.tmp 50) (Operand.const Value.nilFunc) c .nilFunc;binOp .neq 182 c .nilFunc:Sem Value) λr16=>sif r16 (lI (ad z 2) λt=>Cj prog (do let d ←Deferred.ofValue c #[(vI t)];invoke d.target d.args:Sem Next) rI λ(u:Int)=>x (u,())) (x (160,()))) (sif (a==4) (lds c72 (ad z 3) λ(v:aJ)=>Aa prog 40 #[(dR y),(vA c72 v)] bH λ(D:(Unit))=>x (165,())) (sif (a==5) (Cj prog (do let d ←Deferred.ofValue b #[];invoke d.target d.args:Sem Next) rI λ(E:Int)=>lds c72 (ad z 3) λ(A:aJ)=>Aa prog 40 #[(dR y),(vA c72 A)] bH λ(F:(Unit))=>x (165,())) (sif (a==3) (Cj prog (do let d ←Deferred.ofValue b #[];invoke d.target d.args:Sem Next) rI λ(h:Int)=>sif (h !=0) (x (h,())) (x (160,()))) (Cj prog (do let d ←Deferred.ofValue b #[];invoke d.target d.args:Sem Next) rI λ(B:Int)=>x (B,()))))))) λi=>sif (i.1==0) (K .nilIface) (Ak (.cells #[(.string e),(.string f),(vI g),(.iface 33 (vI i.1))] 101) λC=>K (.iface 99 (dR (some (at0 C))))))
def h65:Hint:=(hS (hR 1) (hS (hS (hR 4) (hC fU hL)) (hS (hR 8) (hS (hR 5) (hS (hR 8) (hS (hR 1) (hJ (0x1ffffffffc0000006000,[(13,tI)]) (hS (hR 2) (.block (hS (hR 2) (hC hL (hS (hR 2) (hC (hS (hR 2) (hC (hR 5) hL)) (hS (hR 2) (hC (hS (hR 4) (hR 1)) (hS (hR 2) (hC (hS (hR 2) (hS (hR 4) (hR 1))) (hS (hR 2) (hC (hS (hR 3) (hS (hR 2) gJ)) (hR 3))))))))))))) (hS fC (hS (hR 9) hL)))))))))
def j65 {a0 a1 a2 a3 a4 K w}(h:F65 a0 a1 a2 a3 a4 K w):Aa prog 65 #[(dR a0),(.string a1),(.string a2),a3,a4] (.one (.one .any)) K w:=tied Ap func65 h65 _ h
def F66 (k:Addr) (l:Addr) (y:Addr) (K:Int->Wp):Wp:=ld (.ptr) k λ(m:xM)=>ld (.str) l λ(n:ByteArray)=>Aa prog 67 #[(dR m),(.string n)] bP λ(c:bG)=>Ak (.cells #[(dR none),(.string { data:=#[] })] 127) λx=>Ah (at0 x) (vA c127 c.1) 2<|jU (λg=>sif (c.2.1==0) (drew<|ld (.ptr) (at0 x) λ(h:xM)=>nn h λi=>lI i λj=>ld (.ptr) (at0 x) λ(d:xM)=>nn d λe=>ld (.sl) (e.add 1) λ(f:Sl)=>ld (.ptr) (at0 x) λ(z:xM)=>nn z λa=>ld cI (a.add 3) λ(b:Int)=>Ah y (.agg #[(vI 0),(vI 0),(vI 0)]) 3<|aA (a.add 3) b<|keep (λw=>w.cell? (at0 x)=some (Cell.val (.ptr) z))<|aC (e.add 1) f<|keep (λw=>w.cell? (at0 x)=some (Cell.val (.ptr) d))<|aA i j<|keep (λw=>w.cell? (at0 x)=some (Cell.val (.ptr) h))<|chk (0<=(0:Int)/\0<((3:Nat):Int))<|stC (y.add (scaled (Int.toNat 0) 1)) (vI j)<|aA (a.add 3) b<|keep (λw=>w.cell? (at0 x)=some (Cell.val (.ptr) z))<|aC (e.add 1) f<|keep (λw=>w.cell? (at0 x)=some (Cell.val (.ptr) d))<|chk (0<=(1:Int)/\1<((3:Nat):Int))<|stC (y.add (scaled (Int.toNat 1) 1)) (vI ((f.len:Nat):Int))<|aA (a.add 3) b<|keep (λw=>w.cell? (at0 x)=some (Cell.val (.ptr) z))<|chk (0<=(2:Int)/\2<((3:Nat):Int))<|stC (y.add (scaled (Int.toNat 2) 1)) (vI b)<|g ()) (g ())) λo=>K c.2.1
def h66:Hint:=(hS (hR 1) (hS (hR 9) (hJ (8589930496,[]) (hS (hR 2) (hC (.region (lR 23) (hO 23)) hL)) dX)))
def j66 {v0 v1 v2 K w}(h:F66 v0 v1 v2 K w):Aa prog 66 #[(dR (some v0)),(dR (some v1)),(dR (some v2))] rI K w:=tied Ap func66 h66 _ h
def F67 (a:xM) (y:ByteArray) (K:bG->Wp):Wp:=Ak (.cells #[(dR none),(.string { data:=#[] })] 127) λx=>cB 60 #[(.string y)] λb=>sif (!b) (Ah (at0 x) (.agg #[(dR none),(.string { data:=#[] })]) 2<|lds c127 (at0 x) λ(c:aP)=>K (c,164,())) (nn a λd=>ld (.map) (d.add 1) λ(e:Option Nat)=>rdT prog rP (Instr.lookup 103 (.map e) (.string y) false) λ(z:xM)=>sif (Option.isNone z) (Ah (at0 x) (.agg #[(dR none),(.string { data:=#[] })]) 2<|lds c127 (at0 x) λ(f:aP)=>K (f,162,())) (Ah (at0 x) (.agg #[(dR z),(.string y)]) 2<|lds c127 (at0 x) λ(g:aP)=>K (g,0,())))
def h67:Hint:=(hS (hR 2) (hS (hS (hR 3) gV) (hS (hR 7) (hS fH fB))))
def j67 {a0 a1 K w}(h:F67 a0 a1 K w):Aa prog 67 #[(dR a0),(.string a1)] bP K w:=tied Ap func67 h67 _ h
def F68 (x:Sl) (K:Sl->Wp):Wp:=sif (Option.isNone x.a) (K ⟨none,0,0⟩) (Ak (.cells #[] 3) λy=>Dy prog rS (Builtin.append_ #[70,70] 70 #[(.slice (some (at0 y)) 0 0),x.v]) λ(z:Sl)=>K z)
def h68:Hint:=gQ
def j68 {a0 K w}(h:F68 a0 K w):Aa prog 68 #[a0.v] rS K w:=tied Ap func68 h68 _ h
def F71 (a:Option Nat) (K:Sl->Wp):Wp:=jS (λb=>Dy prog rP (Instr.range 103 (.map a)) λ(x:xM)=>sS (λy c=>Aw2 prog (Instr.next (dR x) false 0) λr6 rest7=>sif r6 (Dy prog (.tup [(.one .str),(.one .ptr)]) (Instr.entry (dR x)) λ(d:ByteArray×xM×Unit)=>Ak (.cells #[(.string d.1)] 9) λe=>Dy prog rS (Builtin.append_ #[117,117] 117 #[y.1.v,(.slice (some (at0 e)) 1 1)]) λ(f:Sl)=>c (f,())) (b (y.1,()))) (⟨none,0,0⟩,())) λz=>Aa prog 101 #[z.1.v] bH λ(g:(Unit))=>K z.1
def h71:Hint:=(hS (hR 1) (hS (hR 1) (hJ (32760,[(3,tS)]) (hS (hR 2) (.block (.loop 32664 [(3,tS)] (hS (hR 2) (hS eG (.block (hS fV (hR 5)))))))) (hS (hR 2) dX))))
def j71 {a0 K w}(h:F71 a0 K w):Aa prog 71 #[(.map a0)] rS K w:=tied Ap func71 h71 _ h
def F72 (y:xM) (x:Int) (K:Unit->Wp):Wp:=drew<|nn y λe=>ld cI (e.add 2) λ(c:Int)=>nn y λf=>ld (.sl) (f.add 1) λ(z:Sl)=>nn y λg=>ld cI (g.add 2) λ(b:Int)=>nn y λh=>ld (.sl) (h.add 1) λ(d:Sl)=>slc d.a 0 (W64 (c+(if (W64 (((z.len:Nat):Int)-b))<(if 0>x then 0 else x) then (W64 (((z.len:Nat):Int)-b)) else (if 0>x then 0 else x)))) (W64 (c+(if (W64 (((z.len:Nat):Int)-b))<(if 0>x then 0 else x) then (W64 (((z.len:Nat):Int)-b)) else (if 0>x then 0 else x)))) d.cap 1 λi=>nn y λj=>stC (j.add 1) i.v<|Aa prog 64 #[(dR y)] bH λ(k:(Unit))=>K ()
def h72:Hint:=(hS (.region (lR 19) (hO 19)) (hS (hR 11) (hR 2)))
def j72 {a0 a1 K w}(h:F72 a0 a1 K w):Aa prog 72 #[(dR a0),(vI a1)] bH K w:=tied Ap func72 h72 _ h
def F73 (x:Option Nat) (K:Option Nat->Wp):Wp:=sif (Option.isNone x) (K none) (Cj prog (callFunc 102 #[(.iface 103 (.map x))]) (.one (.one .any)) λ(y:Value)=>Dy prog (.one (.one .map)) (Instr.typeAssert y 20 103 false) λ(z:Option Nat)=>K z)
def h73:Hint:=(hS (hR 1) (hS fC fB))
def j73 {a0 K w}(h:F73 a0 K w):Aa prog 73 #[(.map a0)] (.one (.one .map)) K w:=tied Ap func73 h73 _ h
def F74 (x:xM) (K:Bool->Wp):Wp:=nn x λy=>ld (.bool) (y.add 5) λ(z:Bool)=>K z
def h74:Hint:=gU
def j74 {a0 K w}(h:F74 a0 K w):Aa prog 74 #[(dR a0)] rB K w:=tied Ap func74 h74 _ h
def F75 (z:xM) (a:ByteArray) (K:Value->Wp):Wp:=Ak (.cells #[(dR z)] 24) λx=>Ak (.cells #[(.string a)] 9) λy=>ld (.ptr) (at0 x) λ(b:xM)=>ld (.str) (at0 y) λ(c:ByteArray)=>Aa prog 65 #[(dR b),(.string { data:=#[114,101,109,111,118,101] }),(.string c),(.func (Fn.func 103) #[] #[(dR (some (at0 x))),(dR (some (at0 y)))]),.nilFunc] (.one (.one .any)) λ(d:Value)=>K d
def h75:Hint:=(hS (hR 3) fB)
def j75 {a0 a1 K w}(h:F75 a0 a1 K w):Aa prog 75 #[(dR a0),(.string a1)] (.one (.one .any)) K w:=tied Ap func75 h75 _ h
def F76 (y:xM) (K:Value->Wp):Wp:=Ak (.cells #[(dR y)] 24) λx=>ld (.ptr) (at0 x) λ(z:xM)=>Aa prog 65 #[(dR z),(.string { data:=#[115,121,110,99,100,105,114] }),(.string { data:=#[] }),(.func (Fn.func 106) #[] #[(dR (some (at0 x)))]),.nilFunc] (.one (.one .any)) λ(a:Value)=>K a
def h76:Hint:=(hS (hR 2) eF)
def j76 {a0 K w}(h:F76 a0 K w):Aa prog 76 #[(dR a0)] (.one (.one .any)) K w:=tied Ap func76 h76 _ h
def F87 (a:Addr) (b:Addr) (c:Addr) (K:Int->Wp):Wp:=ld (.ptr) a λ(d:xM)=>ld (.str) b λ(e:ByteArray)=>Aa prog 67 #[(dR d),(.string e)] bP λ(x:bG)=>Ak (.cells #[(dR none),(.string { data:=#[] })] 127) λy=>Ah (at0 y) (vA c127 x.1) 2<|jU (λz=>sif (x.2.1==0) (ld (.ptr) (at0 y) λ(f:xM)=>nn f λg=>ld (.sl) (g.add 1) λ(h:Sl)=>cS 63 #[h.v] λi=>stC c i.v<|z ()) (z ())) λj=>K x.2.1
def h87:Hint:=(hS (hR 1) (hS (hR 9) (hJ (0xff000,[]) (hS (hR 2) (hC (hR 7) hL)) dX)))
def j87 {v0 v1 v2 K w}(h:F87 v0 v1 v2 K w):Aa prog 87 #[(dR (some v0)),(dR (some v1)),(dR (some v2))] rI K w:=tied Ap func87 h87 _ h
def F88 (x:ByteArray) (y:ByteArray) (K:Bool->Wp):Wp:=sif (decide (((ByteArray.size x:Nat):Int)>=((ByteArray.size y:Nat):Int))) (chk (0<=(W64 (((ByteArray.size x:Nat):Int)-((ByteArray.size y:Nat):Int)))/\(W64 (((ByteArray.size x:Nat):Int)-((ByteArray.size y:Nat):Int)))<=((x.size:Nat):Int)/\((x.size:Nat):Int)<=((x.size:Nat):Int))<|K (ByteArray.toList (x.extract (Int.toNat (W64 (((ByteArray.size x:Nat):Int)-((ByteArray.size y:Nat):Int)))) (Int.toNat ((x.size:Nat):Int)))==ByteArray.toList y)) (K false)
def h88:Hint:=(hS (hR 1) (hS (.region [] (.ops 6 (.split 10 (hO 11) (.skips 9 (hO 2))))) hL))
def j88 {a0 a1 K w}(h:F88 a0 a1 K w):Aa prog 88 #[(.string a0),(.string a1)] rB K w:=tied Ap func88 h88 _ h
def F89 (a:ByteArray) (b:Value) (x:Bool) (K:Int->Wp):Wp:=jU (λy=>Dy prog rP (Instr.range 9 (.string a)) λ(c:xM)=>sU (λg e=>Bl3 prog (Instr.next (dR c) true 0) (λf c7=>sif true (Cj prog (do let d ←Deferred.ofValue b #[(.int .i32 c7)];invoke d.target d.args:Sem Next) rB λ(z:Bool)=>rdB prog (do eqGuard .eql 4 (Operand.tmp 17) (Operand.tmp 18) (.bool z) (.bool x);binOp .eql 4 (.bool z) (.bool x):Sem Value) λr9=>sif r9 (K f) (e ())) (y ())) (sif false (λ_=>False) (y ()))) ()) λh=>K (-1)
def h89:Hint:=(hS (hR 1) (hJ (2097088,[]) (hS (hR 2) (.block (.loop 2095552 [] (hS (hR 2) (hS eG (.block (hS (hR 4) (hS (hR 5) gI)))))))) eH))
def j89 {a0 a1 a2 K w}(h:F89 a0 a1 a2 K w):Aa prog 89 #[(.string a0),a1,(.bool a2)] rI K w:=tied Ap func89 h89 _ h
def F90 (x:ByteArray) (y:Int) (K:Bool->Wp):Wp:=cN 130 #[(.string x),(.int .i32 y)] λz=>K (decide (z>=0))
def h90:Hint:=gU
def j90 {a0 a1 K w}(h:F90 a0 a1 K w):Aa prog 90 #[(.string a0),(.int .i32 a1)] rB K w:=tied Ap func90 h90 _ h
def F92 (i:Value) (y:Value) (b:Bool) (K:Bool->Wp):Wp:=Jh (S:=Value×Unit) (λx j=>jB (λc=>sif b (rdB prog (do eqGuard .eql 26 (Operand.tmp 16) (Operand.tmp 17) x.1 y;binOp .eql 26 x.1 y:Sem Value) λr5=>c (r5,())) (c (false,()))) λk=>sif k.1 (K true) (Dy prog bU (Instr.typeAssert x.1 26 213 true) λ(d:(Value×Bool×Unit))=>jB (λe=>sif d.2.1 (Cj prog (invoke (.fn (.method "Is") #[]) (#[d.1]++#[y])) rB λ(l:Bool)=>e (l,())) (e (false,()))) λm=>sif m.1 (K true) (Dy prog bU (Instr.typeAssert x.1 26 216 true) λ(f:Value×Bool×Unit)=>sif f.2.1 (Cj prog (invoke (.fn (.method "Unwrap") #[]) (#[f.1]++#[])) (.one (.one .any)) λ(z:Value)=>rdB prog (do eqGuard .eql 26 (Operand.tmp 37) (Operand.const Value.nilIface) z .nilIface;binOp .eql 26 z .nilIface:Sem Value) λr12=>sif r12 (K false) (j (z,()))) (Dy prog bU (Instr.typeAssert x.1 26 217 true) λ(g:Value×Bool×Unit)=>sif g.2.1 (jU (λn=>Cj prog (invoke (.fn (.method "Unwrap") #[]) (#[g.1]++#[])) rS λ(h:Sl)=>sI (λa o=>sif (decide (a.1<((h.len:Nat):Int))) (ixl (.any) h a.1 1 λ(p:Value)=>cB 92 #[p,y,(.bool b)] λq=>sif q (K true) (o ((W64 (a.1+1)),()))) (n ())) (0,())) λr=>K false) (K false))))) (i,())
def h92:Hint:=(hS (hR 1) (.block (.loop 0x3ffffffffff7c1 [(0,(.one .any))] (.block (hS (hJ (0xfc000,[(19,tB)]) (.region [] (.ops 2 (.split 15 (hO 4) fM))) dV) (hS (hS (hR 7) (hJ (0x7e000000,[(30,tB)]) (.region [] (.ops 2 (.split 26 (hO 4) fM))) dV)) (hS (hR 1) (.block (hS fZ (hC (hS (hR 1) (hS (hR 3) fC)) (hS fZ (hC (hS (hR 1) (hJ (0x3ffc0000001040,[]) (hS (hR 4) (.block (.loop 0x3fe00000001040 [(45,tI)] (hS (hR 1) (hS eG (hS (.block (hS (hR 3) (hS (hR 4) dV))) (hR 2))))))) eH)) (hS (hR 1) eH)))))))))))))
def j92 {a0 a1 a2 K w}(h:F92 a0 a1 a2 K w):Aa prog 92 #[a0,a1,(.bool a2)] rB K w:=tied Ap func92 h92 _ h
def F93 (z:Value) (x:Value) (K:Bool->Wp):Wp:=rdB prog (do eqGuard .eql 26 (Operand.tmp 8) (Operand.const Value.nilIface) z .nilIface;binOp .eql 26 z .nilIface:Sem Value) λr1=>sif r1 (K false) (jU (λe=>rdB prog (do eqGuard .eql 20 (Operand.tmp 10) (Operand.const Value.nilIface) x .nilIface;binOp .eql 20 x .nilIface:Sem Value) λr4=>sif r4 (λ_=>False) (e ())) λt=>Cj prog (callFunc 131 #[x]) (.one (.agg Oc)) λ(f:aT)=>Ak (.cells #[(dR none),(dR none),(.int .u64 0)] 223) λy=>Ah (at0 y) (vA Oc f) 3<|lds Oc (at0 y) λ(g:aT)=>Cj prog (callFunc 132 #[(vA Oc g)]) (.one (.one .any)) λ(b:Value)=>jU (λh=>jB (λc=>Cj prog (invoke (.fn (.method "Kind") #[]) (#[b]++#[])) (.one (.one (.int .u8))) λ(i:Int)=>sif (i !=22) (c (true,())) (lds Oc (at0 y) λ(j:aT)=>Cj prog (callFunc 133 #[(vA Oc j)]) rB λ(k:Bool)=>c (k,()))) λl=>sif l.1 (λ_=>False) (h ())) λu=>Cj prog (invoke (.fn (.method "Elem") #[]) (#[b]++#[])) (.one (.one .any)) λ(a:Value)=>jU (λm=>jB (λd=>Cj prog (invoke (.fn (.method "Kind") #[]) (#[a]++#[])) (.one (.one (.int .u8))) λ(n:Int)=>sif (n !=20) (ld (.any) (at0 0) λ(o:Value)=>Cj prog (invoke (.fn (.method "Implements") #[]) (#[a]++#[o])) rB λ(p:Bool)=>d ((!p),())) (d (false,()))) λq=>sif q.1 (λ_=>False) (m ())) λv=>lds Oc (at0 y) λ(r:aT)=>cB 134 #[z,x,(vA Oc r),a] λs=>K s)
def h93:Hint:=(hS (hR 1) (hS fC (hJ (7168,[]) (hS (hR 2) gJ) (hS (hR 4) (hS (hR 3) (hJ (33423360,[]) (hJ (0xfe0000,[(23,tB)]) (.region [] (.ops 4 (.split 20 fD (hO 3)))) gJ) (hS (hR 3) (hJ (0x1ff8000000,[]) (hJ (0xff8000000,[(35,tB)]) (.region [] (.ops 4 (.split 30 (hO 5) eY))) gJ) eX))))))))
def j93 {a0 a1 K w}(h:F93 a0 a1 K w):Aa prog 93 #[a0,a1] rB K w:=tied Ap func93 h93 _ h
def F96 (x:Sl) (y:Sl) (K:Bool->Wp):Wp:=Dy prog (.one (.one .str)) (convert 30 9 x.v) λz=>Dy prog (.one (.one .str)) (convert 30 9 y.v) λa=>K (ByteArray.toList z==ByteArray.toList a)
def h96:Hint:=(hS (hR 1) eX)
def j96 {a0 a1 K w}(h:F96 a0 a1 K w):Aa prog 96 #[a0.v,a1.v] rB K w:=tied Ap func96 h96 _ h
def F97 (E:xM) (c:ByteArray) (F:xM) (G:xM) (K:Value->Wp):Wp:=Ak (.cells #[(dR E)] 29) λz=>Ak (.cells #[.nilIface] 26) λx=>chk (((ByteArray.size c+ByteArray.size ({ data:=#[126] }):Nat):Int)<=IntKind.max .i64)<|Ak (.cells #[(.string { data:=#[] })] 9) λy=>stC (at0 y) (.string (c++({ data:=#[126] })))<|drew<|ld (.ptr) (at0 z) λ(H:xM)=>nn H λI=>ld (.ptr) I λ(J:xM)=>ld (.str) (at0 y) λ(L:ByteArray)=>Aa prog 137 #[(dR J),(.string L)] (.one (.one .any)) λ(i:Value)=>chk (Eb i=true)<|stC (at0 x) i<|jU (λd=>ld (.any) (at0 x) λ(M:Value)=>cB 53 #[M,(.iface 33 (vI 163))] λN=>sif N (drew<|ld (.ptr) (at0 z) λ(O:xM)=>nn O λP=>ld (.ptr) P λ(Q:xM)=>ld (.str) (at0 y) λ(R:ByteArray)=>Aa prog 75 #[(dR Q),(.string R)] (.one (.one .any)) λ(j:Value)=>chk (Eb j=true)<|stC (at0 x) j<|ld (.any) (at0 x) λ(k:Value)=>rdB prog (do eqGuard .eql 26 (Operand.tmp 29) (Operand.const Value.nilIface) k .nilIface;binOp .eql 26 k .nilIface:Sem Value) λr19=>sif r19 (drew<|ld (.ptr) (at0 z) λ(T:xM)=>nn T λU=>ld (.ptr) U λ(V:xM)=>ld (.str) (at0 y) λ(W:ByteArray)=>Aa prog 137 #[(dR V),(.string W)] (.one (.one .any)) λ(l:Value)=>chk (Eb l=true)<|stC (at0 x) l<|d ()) (d ())) (d ())) λiq=>ld (.any) (at0 x) λ(m:Value)=>rdB prog (do eqGuard .neq 26 (Operand.tmp 37) (Operand.const Value.nilIface) m .nilIface;binOp .neq 26 m .nilIface:Sem Value) λr26=>sif r26 (ld (.any) (at0 x) λ(n:Value)=>chk (Eb n=true)<|stC (at0 x) n<|Xk prog { target:=.fn (Fn.func 136) #[(dR (some (at0 x))),(dR (some (at0 z))),(dR (some (at0 y)))],args:=#[]++#[] }<|ld (.any) (at0 x) λ(X:Value)=>K X) (ld (.ptr) (at0 z) λ(Y:xM)=>ld (.str) (at0 y) λ(Z:ByteArray)=>Aa prog 138 #[(dR Y),(.string Z),(dR F)] (.one (.one .any)) λ(o:Value)=>chk (Eb o=true)<|stC (at0 x) o<|ld (.any) (at0 x) λ(p:Value)=>rdB prog (do eqGuard .neq 26 (Operand.tmp 44) (Operand.const Value.nilIface) p .nilIface;binOp .neq 26 p .nilIface:Sem Value) λr33=>sif r33 (ld (.any) (at0 x) λ(q:Value)=>chk (Eb q=true)<|stC (at0 x) q<|Xk prog { target:=.fn (Fn.func 136) #[(dR (some (at0 x))),(dR (some (at0 z))),(dR (some (at0 y)))],args:=#[]++#[] }<|ld (.any) (at0 x) λ(ah:Value)=>K ah) (drew<|ld (.ptr) (at0 z) λ(aj:xM)=>nn aj λak=>ld (.ptr) ak λ(au:xM)=>ld (.str) (at0 y) λ(ay:ByteArray)=>Aa prog 139 #[(dR au),(.string ay)] (.one (.one .any)) λ(r:Value)=>chk (Eb r=true)<|stC (at0 x) r<|ld (.any) (at0 x) λ(s:Value)=>rdB prog (do eqGuard .neq 26 (Operand.tmp 53) (Operand.const Value.nilIface) s .nilIface;binOp .neq 26 s .nilIface:Sem Value) λr42=>sif r42 (ld (.any) (at0 x) λ(t:Value)=>chk (Eb t=true)<|stC (at0 x) t<|Xk prog { target:=.fn (Fn.func 136) #[(dR (some (at0 x))),(dR (some (at0 z))),(dR (some (at0 y)))],args:=#[]++#[] }<|ld (.any) (at0 x) λ(bg:Value)=>K bg) (join (S:=Addr×Unit) (λu=>drew<|ld (.ptr) (at0 z) λ(e:xM)=>nn e λf=>ld (.ptr) f λ(a:xM)=>ld (.str) (at0 y) λ(b:ByteArray)=>both (Ak dH λv=>keep (λw=>w.cell? (at0 y)=some (Cell.val (.str) b))<|keep (λw=>w.cell? f=some (Cell.val (.ptr) a))<|keep (λw=>w.cell? (at0 z)=some (Cell.val (.ptr) e))<|Aa prog 34 #[(dR a),(.string b)] bK λ(g:aU)=>Ah (at0 v) (vA c57 g.1) 3<|chk (Eb g.2.1=true)<|stC (at0 x) g.2.1<|u ((at0 v),()))<|Aa prog 34 #[(dR a),(.string b)] bK λ(h:aU)=>both (Ak dH λA=>keep (λw=>w.cell? (at0 y)=some (Cell.val (.str) b))<|keep (λw=>w.cell? f=some (Cell.val (.ptr) a))<|keep (λw=>w.cell? (at0 z)=some (Cell.val (.ptr) e))<|Ah (at0 A) (vA c57 h.1) 3<|chk (Eb h.2.1=true)<|stC (at0 x) h.2.1<|u ((at0 A),()))<|nothing) λbn=>ld (.any) (at0 x) λ(B:Value)=>rdB prog (do eqGuard .neq 26 (Operand.tmp 65) (Operand.const Value.nilIface) B .nilIface;binOp .neq 26 B .nilIface:Sem Value) λr56=>sif r56 (ld (.any) (at0 x) λ(C:Value)=>chk (Eb C=true)<|stC (at0 x) C<|Xk prog { target:=.fn (Fn.func 136) #[(dR (some (at0 x))),(dR (some (at0 z))),(dR (some (at0 y)))],args:=#[]++#[] }<|ld (.any) (at0 x) λ(cu:Value)=>K cu) (lds c57 bn.1 λ(dh:I3)=>nn G λdw=>Ah dw (vA c57 dh) 3<|drew<|ld (.ptr) (at0 z) λ(eu:xM)=>nn eu λgq=>ld (.ptr) gq λ(gu:xM)=>ld (.str) (at0 y) λ(gy:ByteArray)=>Aa prog 140 #[(dR gu),(.string gy),(.string c)] (.one (.one .any)) λ(D:Value)=>chk (Eb D=true)<|stC (at0 x) D<|Xk prog { target:=.fn (Fn.func 136) #[(dR (some (at0 x))),(dR (some (at0 z))),(dR (some (at0 y)))],args:=#[]++#[] }<|ld (.any) (at0 x) λ(ig:Value)=>K ig))))
def h97:Hint:=(hS (hR 2) (hS (hR 4) (hS (.later (hO 1)) (hS eP (hJ (0x1ffff00000,[]) (hS (hR 3) (hC (hS eP (hS (hR 2) (hC eP hL))) hL)) (hS fA (hS (hS (hR 5) fA) (hS (hS eP fA) (hJ (0x1ff00000000000400,[(10,(.one .addr))]) (.region [0,1,2,3,4,5,6,7,8,10,11] (.float [9] (.ops 5 fO))) (hS fA (hS (hR 4) (hS fG hL))))))))))))
def j97 {a0 a1 a2 a3 K w}(h:F97 a0 a1 a2 a3 K w):Aa prog 97 #[(dR a0),(.string a1),(dR a2),(dR a3)] (.one (.one .any)) K w:=tied Ap func97 h97 _ h
def F103 (y:Addr) (z:Addr) (K:Int->Wp):Wp:=ld (.ptr) y λ(b:xM)=>ld (.str) z λ(c:ByteArray)=>Aa prog 67 #[(dR b),(.string c)] bP λ(x:bG)=>Ak (.cells #[(dR none),(.string { data:=#[] })] 127) λd=>Ah (at0 d) (vA c127 x.1) 2<|jU (λa=>sif (x.2.1==0) (ld (.ptr) y λ(e:xM)=>Aa prog 104 #[(dR e),(.func (Fn.func 105) #[] #[(dR (some z))])] bH λ(f:(Unit))=>a ()) (a ())) λg=>K x.2.1
def Dq8:Hint:=(hS (hR 1) (hS (hR 9) (hJ (63488,[]) (hS (hR 2) (hC (hR 3) hL)) (hS (hR 2) hL))))
def j103 {v0 v1 K w}(h:F103 v0 v1 K w):Aa prog 103 #[(dR (some v0)),(dR (some v1))] rI K w:=tied Ap func103 Dq8 _ h
def F104 (x:xM) (y:Value) (K:Unit->Wp):Wp:=nn x λz=>ld (.map) (z.add 1) λ(a:Option Nat)=>Cj prog (do let d ←Deferred.ofValue y #[(.map a)];invoke d.target d.args:Sem Next) bH λ(h:(Unit))=>nn x λb=>ld (.sl) (b.add 3) λ(c:Sl)=>chk (Qm [y]=true)<|Ak (.cells #[y] 147) λe=>Dy prog rS (Builtin.append_ #[104,104] 104 #[c.v,(.slice (some (at0 e)) 1 1)]) λ(f:Sl)=>nn x λg=>stC (g.add 3) f.v<|K ()
def Dq7:Hint:=(hS (hR 6) (hR 11))
def j104 {a0 a1 K w}(h:F104 a0 a1 K w):Aa prog 104 #[(dR a0),a1] bH K w:=tied Ap func104 Dq7 _ h
def F105 (x:Option Nat) (y:Addr) (K:Unit->Wp):Wp:=ld (.str) y λ(z:ByteArray)=>Dy prog bH (Builtin.delete_ #[103,9] 0 #[(.map x),(.string z)]) λ(a:(Unit))=>K ()
def Dq6:Hint:=(hR 3)
def j105 {a0 v0 K w}(h:F105 a0 v0 K w):Aa prog 105 #[(.map a0),(dR (some v0))] bH K w:=tied Ap func105 Dq6 _ h
def F106 (x:Addr) (K:Int->Wp):Wp:=ld (.ptr) x λ(y:xM)=>Aa prog 62 #[(dR y)] bH λ(z:(Unit))=>K 0
def Dq5:Hint:=(hS (hR 1) (hS (hR 2) (hS (hR 1) hL)))
def j106 {v0 K w}(h:F106 v0 K w):Aa prog 106 #[(dR (some v0))] rI K w:=tied Ap func106 Dq5 _ h
def F130 (x:ByteArray) (a:Int) (K:Int->Wp):Wp:=jB (λc=>sif (decide (0<=a)) (c ((decide (a<128)),())) (c (false,()))) λh=>sif h.1 (cN 159 #[(.string x),(.int .u8 (IntKind.wrap .u8 a))] λi=>K i) (sif (a==65533) (jU (λd=>Dy prog rP (Instr.range 9 (.string x)) λ(j:xM)=>sU (λv k=>Bl3 prog (Instr.next (dR j) true 0) (λl c10=>sif true (sif (c10==65533) (K l) (k ())) (d ())) (sif false (λ_=>False) (d ()))) ()) λA=>K (-1)) (cB 160 #[(.int .i32 a)] λm=>sif (!m) (K (-1)) (Dy prog (.one (.one .str)) (convert 21 9 (.int .i32 a)) λy=>jU (λn=>sI (λz B=>sif (decide (z.1<((ByteArray.size x:Nat):Int))) (jI (λe=>drew<|Ao6 x z.1 λo=>Ao6 y (W64 (((ByteArray.size y:Nat):Int)-1)) λp=>sif (((o.toNat:Nat):Int) !=((p.toNat:Nat):Int)) (drew<|chk (0<=(W64 (z.1+1))/\(W64 (z.1+1))<=((x.size:Nat):Int)/\((x.size:Nat):Int)<=((x.size:Nat):Int))<|Ao6 y (W64 (((ByteArray.size y:Nat):Int)-1)) λq=>cN 159 #[(.string (x.extract (Int.toNat (W64 (z.1+1))) (Int.toNat ((x.size:Nat):Int)))),(.int .u8 ((q.toNat:Nat):Int))] λf=>sif (decide (f<0)) (K (-1)) (e ((W64 (z.1+(W64 (f+1)))),()))) (e (z.1,()))) λg=>jU (λr=>sI (λb s=>sif (decide (b.1<((ByteArray.size y:Nat):Int))) (drew<|Ao6 x (W64 (g.1-b.1)) λt=>Ao6 y (W64 ((W64 (((ByteArray.size y:Nat):Int)-1))-b.1)) λu=>sif (((t.toNat:Nat):Int) !=((u.toNat:Nat):Int)) (λ_=>False) (s ((W64 (b.1+1)),()))) (r ())) (1,())) λC=>K (W64 (g.1-(W64 (((ByteArray.size y:Nat):Int)-1))))) (n ())) ((W64 (((ByteArray.size y:Nat):Int)-1)),())) λD=>K (-1))))
def Dp1:Hint:=(hS (hR 1) (.block (hJ ((mR [(160,167)]),[(160,tB)]) (.region [] (.ops 3 (.split 163 (hO 4) (.skips 2 (hO 2))))) (hC (hS (hR 5) hL) (hS (hR 3) (hC (hJ ((mR [(4,7),(174,183)]),[]) (hS (hR 2) (.block (.loop (mR [(4,7),(176,183)]) [] (hS (hR 2) (hS (hC hL hL) (.block (hS (hR 4) (hS (hR 2) (hC (hS (hR 2) hL) hL))))))))) (hS (hR 1) hL)) (hS (hR 4) (hC (hS (hR 1) hL) (.scope (hS (hR 3) (hS (hR 4) (hS (hR 2) (hS (hR 1) (hJ (0x7ffffffffffffffffff801e10,[]) (.block (.loop 0x7ffffffffffffffffff801e10 [(9,tI)] (hS (hS (hR 4) (hC hL hL)) (.block (.scope (hJ (0xfffff8000a10,[(9,tI)]) (hS (.region (lR 7) (hO 7)) (hC (hS (.region (lR 9) (hO 9)) (hS (hS (hR 2) (hC (hS (hR 1) hL) hL)) (hR 5))) hL)) (hJ (0x1ffff000000001000,[]) (hS (hR 1) (.block (.loop 0x1ffff000000001000 [(12,tI)] (hS (hS (hR 4) (hC hL hL)) (hS (.block (hS (.region (lR 11) (hO 11)) (hC hL hL))) (hR 3)))))) (hS (hS (hR 4) hL) hL)))))))) (hS (hS (hR 1) hL) hL)))))))))))))))
def j130 {a0 a1 K w}(h:F130 a0 a1 K w):Aa prog 130 #[(.string a0),(.int .i32 a1)] rI K w:=tied Ap func130 Dp1 _ h
def F134 (l:Value) (c:Value) (y:aT) (d:Value) (K:Bool->Wp):Wp:=Ak (.cells #[(dR y.1),y.2.1,(.int .u64 y.2.2.1)] 223) λe=>Jh (S:=Value×Unit) (λx m=>Cj prog (callFunc 91 #[x.1]) (.one (.one .any)) λ(n:Value)=>Cj prog (invoke (.fn (.method "AssignableTo") #[]) (#[n]++#[d])) rB λ(o:Bool)=>sif o (lds Oc (at0 e) λ(p:aT)=>Cj prog (callFunc 163 #[(vA Oc p)]) (.one (.agg Oc)) λ(q:aT)=>Cj prog (callFunc 131 #[x.1]) (.one (.agg Oc)) λ(r:aT)=>Cj prog (callFunc 164 #[(vA Oc q),(vA Oc r)]) bH λ(C:(Unit))=>K true) (Dy prog bU (Instr.typeAssert x.1 26 270 true) λ(f:(Value×Bool×Unit))=>jB (λg=>sif f.2.1 (Cj prog (invoke (.fn (.method "As") #[]) (#[f.1]++#[c])) rB λ(s:Bool)=>g (s,())) (g (false,()))) λt=>sif t.1 (K true) (Dy prog bU (Instr.typeAssert x.1 26 216 true) λ(h:Value×Bool×Unit)=>sif h.2.1 (Cj prog (invoke (.fn (.method "Unwrap") #[]) (#[h.1]++#[])) (.one (.one .any)) λ(z:Value)=>rdB prog (do eqGuard .eql 26 (Operand.tmp 42) (Operand.const Value.nilIface) z .nilIface;binOp .eql 26 z .nilIface:Sem Value) λr16=>sif r16 (K false) (m (z,()))) (Dy prog bU (Instr.typeAssert x.1 26 217 true) λ(i:Value×Bool×Unit)=>sif i.2.1 (jU (λu=>Cj prog (invoke (.fn (.method "Unwrap") #[]) (#[i.1]++#[])) rS λ(j:Sl)=>sI (λa v=>sif (decide (a.1<((j.len:Nat):Int))) (jU (λk=>ixl (.any) j a.1 1 λ(b:Value)=>rdB prog (do eqGuard .eql 26 (Operand.tmp 54) (Operand.const Value.nilIface) b .nilIface;binOp .eql 26 b .nilIface:Sem Value) λr27=>sif r27 (k ()) (lds Oc (at0 e) λ(A:aT)=>cB 134 #[b,c,(vA Oc A),d] λB=>sif B (K true) (k ()))) λD=>v ((W64 (a.1+1)),())) (u ())) (0,())) λE=>K false) (K false))))) (l,())
def Dp0:Hint:=(hS (hR 2) (.block (.loop 0x3fffffffffffdf01 [(0,(.one .any))] (.block (hS (hS (hR 4) (hC (hS (hR 5) (hS (hR 1) hL)) hL)) (hS (hS (hR 7) (hJ (0xfc0000000,[(35,tB)]) (.region [] (.ops 2 (.split 31 (hO 4) (.skips 3 (hO 1))))) (hC (hS (hR 1) hL) hL))) (hS (hR 1) (.block (hS (.region [] (.op (some (.tup [(.one .any),tB])) (hO 2))) (hC (hS (hR 1) (hS (hR 3) (hS (hR 2) (hC (hS (hR 1) hL) hL)))) (hS (.region [] (.op (some (.tup [(.one .any),tB])) (hO 2))) (hC (hS (hR 1) (hJ (0x3fff800000004100,[]) (hS (hR 4) (.block (.loop 0x3ffc000000004100 [(50,tI)] (hS (hR 1) (hS (hC hL hL) (hJ (0x1ff0000000004100,[]) (.block (hS (hR 3) (hS (hS (hR 2) (hC hL hL)) (hS (hR 5) (hC (hS (hR 1) hL) hL))))) (hR 2))))))) (hS (hR 1) hL))) (hS (hR 1) (hS (hR 1) hL))))))))))))))
def j134 {a0 a1 a2 a3 K w}(h:F134 a0 a1 a2 a3 K w):Aa prog 134 #[a0,a1,(vA Oc a2),a3] rB K w:=tied Ap func134 Dp0 _ h
def F136 (y:Addr) (z:Addr) (a:Addr) (K:Unit->Wp):Wp:=ld (.any) y λ(x:Value)=>rdB prog (do eqGuard .neq 26 (Operand.tmp 3) (Operand.const Value.nilIface) x .nilIface;binOp .neq 26 x .nilIface:Sem Value) λr2=>sif r2 (drew<|ld (.ptr) z λ(b:xM)=>nn b λc=>ld (.ptr) c λ(d:xM)=>ld (.str) a λ(e:ByteArray)=>Aa prog 75 #[(dR d),(.string e)] (.one (.one .any)) λ(f:Value)=>K ()) (K ())
def Cy1:Hint:=(hS (hR 2) (hC (.region (lR 6) (hO 6)) hL))
def F137 (z:xM) (a:ByteArray) (K:Value->Wp):Wp:=Ak (.cells #[(dR z)] 24) λx=>Ak (.cells #[(.string a)] 9) λy=>ld (.ptr) (at0 x) λ(b:xM)=>ld (.str) (at0 y) λ(c:ByteArray)=>Aa prog 65 #[(dR b),(.string { data:=#[109,97,107,101] }),(.string c),(.func (Fn.func 166) #[] #[(dR (some (at0 x))),(dR (some (at0 y)))]),.nilFunc] (.one (.one .any)) λ(d:Value)=>K d
def Do8:Hint:=(hS (hR 3) (hS (hR 5) hL))
def j137 {a0 a1 K w}(h:F137 a0 a1 K w):Aa prog 137 #[(dR a0),(.string a1)] (.one (.one .any)) K w:=tied Ap func137 Do8 _ h
def F138 (l:xM) (m:ByteArray) (n:xM) (K:Value->Wp):Wp:=Ak (.cells #[(dR l)] 29) λb=>Ak (.cells #[(.string m)] 9) λg=>Ak (.cells #[.nilIface] 26) λy=>ld (.ptr) (at0 b) λ(o:xM)=>nn o λp=>ld (.sl) (p.add 2) λ(q:Sl)=>cS 57 #[q.v] λr=>Ak dN λx=>stC (at0 x) r.v<|Aa prog 168 #[(dR n),(vI 1024)] (.one (.one .any)) λ(s:Value)=>Xp (S:=Sl×Unit) prog (Slots.vals [(20,(.one .sl))]) s (λc d h (t:Sl×Unit)=>Cf2 c d<|ld (.sl) (at0 x) λ(u:Sl)=>Dy prog rS (Builtin.append_ #[30,30] 30 #[u.v,t.1.v]) λ(A:Sl)=>stC (at0 x) A.v<|ld (.sl) (at0 x) λ(B:Sl)=>sif (decide (((B.len:Nat):Int)>=1024)) (drew<|ld (.ptr) (at0 b) λ(C:xM)=>nn C λD=>ld (.ptr) D λ(E:xM)=>ld (.str) (at0 g) λ(F:ByteArray)=>ld (.sl) (at0 x) λ(i:Sl)=>slc i.a 0 1024 ((i.cap:Nat):Int) i.cap 1 λG=>Aa prog 169 #[(dR E),(.string F),G.v] bM λ(e:aQ)=>rdB prog (do eqGuard .neq 26 (Operand.tmp 38) (Operand.const Value.nilIface) e.2.1 .nilIface;binOp .neq 26 e.2.1 .nilIface:Sem Value) λr25=>sif r25 (chk (Eb e.2.1=true)<|stC (at0 y) e.2.1<|Ag2 c d (some .ret) h) (ld (.sl) (at0 x) λ(f:Sl)=>slc f.a 1024 ((f.len:Nat):Int) ((f.cap:Nat):Int) f.cap 1 λH=>cS 57 #[H.v] λI=>stC (at0 x) I.v<|Ag2 c d none h)) (Ag2 c d none h)) λz=>aft (ld (.sl) (at0 x) λ(J:Sl)=>sif (((J.len:Nat):Int)==0) (chk (Eb .nilIface=true)<|stC (at0 y) .nilIface<|Sj z<|ld (.any) (at0 y) λ(L:Value)=>K L) (drew<|ld (.ptr) (at0 b) λ(M:xM)=>nn M λN=>ld (.ptr) N λ(O:xM)=>ld (.str) (at0 g) λ(P:ByteArray)=>ld (.sl) (at0 x) λ(Q:Sl)=>Aa prog 169 #[(dR O),(.string P),Q.v] bM λ(j:aQ)=>chk (Eb j.2.1=true)<|stC (at0 y) j.2.1<|Sj z<|ld (.any) (at0 y) λ(R:Value)=>K R)) (λT=>onE T 0 (ld (.sl) (at0 x) λ(U:Sl)=>sif (((U.len:Nat):Int)==0) (chk (Eb .nilIface=true)<|stC (at0 y) .nilIface<|Sj z<|ld (.any) (at0 y) λ(V:Value)=>K V) (drew<|ld (.ptr) (at0 b) λ(W:xM)=>nn W λX=>ld (.ptr) X λ(Y:xM)=>ld (.str) (at0 g) λ(Z:ByteArray)=>ld (.sl) (at0 x) λ(ah:Sl)=>Aa prog 169 #[(dR Y),(.string Z),ah.v] bM λ(k:aQ)=>chk (Eb k.2.1=true)<|stC (at0 y) k.2.1<|Sj z<|ld (.any) (at0 y) λ(aj:Value)=>K aj)) (λ_=>False)) (Sj z<|ld (.any) (at0 y) λ(ak:Value)=>K ak)
def Do7:Hint:=(hS (hR 3) (hS (hR 7) (hS (hS (hR 2) (.block (.range [(20,tS)] (hR 1) (.block (hS (hR 4) (hS (hR 3) (hC (hS (hS (.region (lR 13) (hO 13)) (hS (hR 2) (hC (hS (hR 2) hL) hL))) (hR 4)) hL))))))) (hS (hS (hR 3) (hC (hS (hR 1) hL) hL)) (hS (.region (lR 12) (hO 12)) (hS (hR 2) hL))))))
def j138 {a0 a1 a2 K w}(h:F138 a0 a1 a2 K w):Aa prog 138 #[(dR a0),(.string a1),(dR a2)] (.one (.one .any)) K w:=tied Ap func138 Do7 _ h
def F139 (z:xM) (a:ByteArray) (K:Value->Wp):Wp:=Ak (.cells #[(dR z)] 24) λx=>Ak (.cells #[(.string a)] 9) λy=>ld (.ptr) (at0 x) λ(b:xM)=>ld (.str) (at0 y) λ(c:ByteArray)=>Aa prog 65 #[(dR b),(.string { data:=#[115,121,110,99] }),(.string c),(.func (Fn.func 170) #[] #[(dR (some (at0 x))),(dR (some (at0 y)))]),.nilFunc] (.one (.one .any)) λ(d:Value)=>K d
def Do6:Hint:=(hS (hR 3) (hS (hR 5) hL))
def Dh9 {a0 a1 K w}(h:F139 a0 a1 K w):Aa prog 139 #[(dR a0),(.string a1)] (.one (.one .any)) K w:=tied Ap func139 Do6 _ h
def F140 (z:xM) (a:ByteArray) (b:ByteArray) (K:Value->Wp):Wp:=Ak (.cells #[(dR z)] 24) λx=>Ak (.cells #[(.string a)] 9) λy=>Ak (.cells #[(.string b)] 9) λc=>ld (.ptr) (at0 x) λ(d:xM)=>ld (.str) (at0 y) λ(e:ByteArray)=>Aa prog 65 #[(dR d),(.string { data:=#[114,101,110,97,109,101] }),(.string e),(.func (Fn.func 171) #[] #[(dR (some (at0 c))),(dR (some (at0 x))),(dR (some (at0 y)))]),.nilFunc] (.one (.one .any)) λ(f:Value)=>K f
def Do5:Hint:=(hS (hR 4) (hS (hR 5) hL))
def Dh8 {a0 a1 a2 K w}(h:F140 a0 a1 a2 K w):Aa prog 140 #[(dR a0),(.string a1),(.string a2)] (.one (.one .any)) K w:=tied Ap func140 Do5 _ h
def F166 (x:Addr) (z:Addr) (K:Int->Wp):Wp:=ld (.ptr) x λ(b:xM)=>ld (.str) z λ(c:ByteArray)=>Aa prog 67 #[(dR b),(.string c)] bP λ(y:bG)=>Ak (.cells #[(dR none),(.string { data:=#[] })] 127) λd=>Ah (at0 d) (vA c127 y.1) 2<|sif (y.2.1==164) (K y.2.1) (sif (y.2.1==0) (K 163) (ld (.ptr) x λ(e:xM)=>nn e λf=>ld (.map) (f.add 1) λ(g:Option Nat)=>rdN prog (Builtin.len_ #[103] 3 #[(.map g)]) λh=>sif (decide (h>=16)) (K 161) (ld (.ptr) x λ(i:xM)=>Aa prog 61 #[(dR i)] rP λ(j:xM)=>Ak (.cells #[(dR none)] 121) λa=>stC (at0 a) (dR j)<|ld (.ptr) x λ(k:xM)=>Aa prog 104 #[(dR k),(.func (Fn.func 167) #[] #[(dR (some (at0 a))),(dR (some z))])] bH λ(l:(Unit))=>K 0)))
def Dn1:Hint:=(hS (hR 1) (hS (hS (hR 9) (.block (hS (hR 3) (hC (hS (hR 2) hL) (hS (hR 3) (hC (hS (hR 1) hL) (hS (hR 7) (hC (hS (hR 1) hL) hL)))))))) (hS (hR 4) (hS (hR 3) (hS (hR 1) hL)))))
def Dg4 {v0 v1 K w}(h:F166 v0 v1 K w):Aa prog 166 #[(dR (some v0)),(dR (some v1))] rI K w:=tied Ap func166 Dn1 _ h
def F167 (x:Option Nat) (y:Addr) (z:Addr) (K:Unit->Wp):Wp:=ld (.str) z λ(a:ByteArray)=>ld (.ptr) y λ(b:xM)=>Av3 prog (Instr.mapUpdate 103 (.map x) (.string a) (dR b))<|K ()
def Dn0:Hint:=(hR 4)
def Dg3 {a0 v0 v1 K w}(h:F167 a0 v0 v1 K w):Aa prog 167 #[(.map a0),(dR (some v0)),(dR (some v1))] bH K w:=tied Ap func167 Dn0 _ h
def F169 (d:xM) (e:ByteArray) (f:Sl) (K:aQ->Wp):Wp:=Ak (.cells #[(dR d)] 24) λy=>Ak (.cells #[(.string e)] 9) λz=>Ak (.cells #[f.v] 30) λb=>Ak dO λx=>stC (at0 x) (vI 0)<|Ak (.cells #[.nilFunc] 305) λa=>chk (Eb (.func (Fn.func 201) #[] #[(dR (some (at0 y))),(dR (some (at0 z))),(dR (some (at0 x)))])=true)<|stC (at0 a) (.func (Fn.func 201) #[] #[(dR (some (at0 y))),(dR (some (at0 z))),(dR (some (at0 x)))])<|ld (.ptr) (at0 y) λ(g:xM)=>ld (.str) (at0 z) λ(h:ByteArray)=>Aa prog 65 #[(dR g),(.string { data:=#[97,112,112,101,110,100] }),(.string h),(.func (Fn.func 203) #[] #[(dR (some (at0 a))),(dR (some (at0 b)))]),(.func (Fn.func 204) #[] #[(dR (some (at0 a))),(dR (some (at0 b)))])] (.one (.one .any)) λ(i:Value)=>jU (λc=>ld (.ptr) (at0 y) λ(j:xM)=>nn j λk=>ld (.bool) (k.add 5) λ(l:Bool)=>sif l (stC (at0 x) (vI 0)<|c ()) (c ())) λn=>lI (at0 x) λm=>K (m,i,())
def Dm8:Hint:=(hS (hR 5) (hS (hR 2) (hS (hR 3) (hS (hR 6) (hJ (1966080,[]) (hS (hR 4) (hC (hR 1) hL)) (hS (hR 4) hL))))))
def Dg1 {a0 a1 a2 K w}(h:F169 a0 a1 a2 K w):Aa prog 169 #[(dR a0),(.string a1),a2.v] bM K w:=tied Ap func169 Dm8 _ h
def F170 (a:Addr) (b:Addr) (K:Int->Wp):Wp:=ld (.ptr) a λ(c:xM)=>ld (.str) b λ(d:ByteArray)=>Aa prog 67 #[(dR c),(.string d)] bP λ(x:bG)=>Ak (.cells #[(dR none),(.string { data:=#[] })] 127) λy=>Ah (at0 y) (vA c127 x.1) 2<|jU (λz=>sif (x.2.1==0) (ld (.ptr) (at0 y) λ(e:xM)=>Aa prog 64 #[(dR e)] bH λ(f:(Unit))=>z ()) (z ())) λg=>K x.2.1
def Dm7:Hint:=(hS (hR 1) (hS (hR 9) (hJ (63488,[]) (hS (hR 2) (hC (hR 3) hL)) (hS (hR 2) hL))))
def Dg0 {v0 v1 K w}(h:F170 v0 v1 K w):Aa prog 170 #[(dR (some v0)),(dR (some v1))] rI K w:=tied Ap func170 Dm7 _ h
def F171 (x:Addr) (z:Addr) (a:Addr) (K:Int->Wp):Wp:=ld (.str) x λ(e:ByteArray)=>cB 60 #[(.string e)] λf=>sif (!f) (K 164) (ld (.ptr) z λ(g:xM)=>ld (.str) a λ(h:ByteArray)=>Aa prog 67 #[(dR g),(.string h)] bP λ(y:bG)=>Ak (.cells #[(dR none),(.string { data:=#[] })] 127) λb=>Ah (at0 b) (vA c127 y.1) 2<|jU (λc=>jB (λd=>sif (y.2.1==0) (ld (.str) a λ(i:ByteArray)=>ld (.str) x λ(j:ByteArray)=>d ((!(ByteArray.toList i==ByteArray.toList j)),())) (d (false,()))) λk=>sif k.1 (ld (.ptr) z λ(l:xM)=>Aa prog 104 #[(dR l),(.func (Fn.func 172) #[] #[(dR (some (at0 b))),(dR (some x))])] bH λ(m:(Unit))=>c ()) (c ())) λn=>K y.2.1)
def Dm6:Hint:=(hS (hR 1) (hS (hS (hR 3) (hC (hS (hR 1) hL) hL)) (hS (hR 9) (hJ (33521664,[]) (hJ (4161536,[(21,tB)]) (.region [] (.ops 3 (.split 17 (hO 4) (.skips 3 (hO 1))))) (hC (hR 3) hL)) (hS (hR 2) hL)))))
def Df9 {v0 v1 v2 K w}(h:F171 v0 v1 v2 K w):Aa prog 171 #[(dR (some v0)),(dR (some v1)),(dR (some v2))] rI K w:=tied Ap func171 Dm6 _ h
def F172 (x:Option Nat) (y:Addr) (z:Addr) (K:Unit->Wp):Wp:=ld (.str) (y.add 1) λ(a:ByteArray)=>Dy prog bH (Builtin.delete_ #[103,9] 0 #[(.map x),(.string a)]) λ(d:(Unit))=>ld (.str) z λ(b:ByteArray)=>ld (.ptr) y λ(c:xM)=>Av3 prog (Instr.mapUpdate 103 (.map x) (.string b) (dR c))<|K ()
def Dm5:Hint:=(hS (hR 4) (hR 5))
def Df8 {a0 v0 v1 K w}(h:F172 a0 v0 v1 K w):Aa prog 172 #[(.map a0),(dR (some v0)),(dR (some v1))] bH K w:=tied Ap func172 Dm5 _ h
def F201 (x:Sl) (c:Addr) (h:Addr) (z:Addr) (K:Int->Wp):Wp:=ld (.ptr) c λ(i:xM)=>ld (.str) h λ(j:ByteArray)=>Aa prog 67 #[(dR i),(.string j)] bP λ(b:bG)=>Ak (.cells #[(dR none),(.string { data:=#[] })] 127) λy=>Ah (at0 y) (vA c127 b.1) 2<|sif (b.2.1 !=0) (K b.2.1) (ld (.ptr) c λ(k:xM)=>cN 202 #[(dR k)] λd=>stC z (vI (if d<((x.len:Nat):Int) then d else ((x.len:Nat):Int)))<|drew<|ld (.ptr) (at0 y) λ(e:xM)=>ld (.ptr) (at0 y) λ(l:xM)=>nn l λm=>ld (.sl) (m.add 1) λ(n:Sl)=>lI z λo=>slc x.a 0 o ((x.cap:Nat):Int) x.cap 1 λp=>Dy prog rS (Builtin.append_ #[30,30] 30 #[n.v,p.v]) λ(q:Sl)=>keep (λw=>w.cell? (at0 y)=some (Cell.val (.ptr) e))<|nn e λr=>stC (r.add 1) q.v<|jU (λf=>lI z λs=>sif (decide (s>0)) (ld (.ptr) (at0 y) λ(g:xM)=>nn g λt=>ld cI (t.add 3) λ(u:Int)=>nn g λA=>stC (A.add 3) (vI (W64 (u+1)))<|f ()) (f ())) λC=>lI z λB=>sif (decide (B<((x.len:Nat):Int))) (K 161) (K 0))
def Dl0:Hint:=(hS (hR 1) (hS (hR 9) (hS (hS (hR 2) (hC (hS (hR 2) hL) hL)) (hS (hR 6) (hS (.region (lR 14) (hO 14)) (hJ (0x1ff800000000,[]) (hS (hR 2) (hC (hR 9) hL)) (hS (hS (hR 4) (hC (hS (hR 1) hL) hL)) (hS (hR 1) hL))))))))
def De3 {a0 v0 v1 v2 K w}(h:F201 a0 v0 v1 v2 K w):Aa prog 201 #[a0.v,(dR (some v0)),(dR (some v1)),(dR (some v2))] rI K w:=tied Ap func201 Dl0 _ h
def F202 (x:xM) (K:Int->Wp):Wp:=nn x λb=>lI b λc=>jI (λd=>nn x λe=>ld (.map) (e.add 1) λ(f:Option Nat)=>Dy prog rP (Instr.range 103 (.map f)) λ(y:xM)=>sI (λz g=>Aw2 prog (Instr.next (dR y) false 0) λr10 rest11=>sif r10 (Dy prog (.tup [(.one .str),(.one .ptr)]) (Instr.entry (dR y)) λ(h:ByteArray×xM×Unit)=>nn h.2.1 λi=>ld (.sl) (i.add 1) λ(j:Sl)=>g ((W64 (z.1-((j.len:Nat):Int))),())) (d (z.1,()))) (c,())) λa=>K (if 0>a.1 then 0 else a.1)
def Dk9:Hint:=(hS (hR 1) (hS (hR 5) (hJ (67107880,[(3,tI)]) (hS (hR 5) (.block (.loop 67076136 [(3,tI)] (hS (hR 2) (hS (hC hL hL) (.block (hS (.region [] (.op (some (.tup [(.one .str),tP])) (hO 2))) (hR 8)))))))) (hS (hR 3) hL))))
def De2 {a0 K w}(h:F202 a0 K w):Aa prog 202 #[(dR a0)] rI K w:=tied Ap func202 Dk9 _ h
def F203 (x:Addr) (y:Addr) (K:Int->Wp):Wp:=ld (.any) x λ(z:Value)=>ld (.sl) y λ(a:Sl)=>Cj prog (do let d ←Deferred.ofValue z #[a.v];invoke d.target d.args:Sem Next) rI λ(b:Int)=>K b
def Dk8:Hint:=(hS (hR 1) (hS (hR 4) hL))
def De1 {v0 v1 K w}(h:F203 v0 v1 K w):Aa prog 203 #[(dR (some v0)),(dR (some v1))] rI K w:=tied Ap func203 Dk8 _ h
def F204 (x:Int) (f:Addr) (b:Addr) (K:Int->Wp):Wp:=drew<|ld (.any) f λ(g:Value)=>ld (.sl) b λ(y:Sl)=>ld (.sl) b λ(c:Sl)=>slc y.a 0 (if ((c.len:Nat):Int)<(if 0>x then 0 else x) then ((c.len:Nat):Int) else (if 0>x then 0 else x)) ((y.cap:Nat):Int) y.cap 1 λh=>Cj prog (do let d ←Deferred.ofValue g #[h.v];invoke d.target d.args:Sem Next) rI λ(z:Int)=>jB (λe=>sif (z !=0) (e ((z !=161),())) (e (false,()))) λi=>sif i.1 (K z) (K 160)
def Dk7:Hint:=(hS (hR 1) (hS (hS (.region (lR 10) (hO 10)) (hJ (2064384,[(20,tB)]) (.region [] (.ops 3 (.split 17 (hO 3) (.skips 2 (hO 1))))) (hC (hS (hR 2) hL) hL))) (hS (hR 1) hL)))
def De0 {a0 v0 v1 K w}(h:F204 a0 v0 v1 K w):Aa prog 204 #[(vI a0),(dR (some v0)),(dR (some v1))] rI K w:=tied Ap func204 Dk7 _ h
def F254 (x:xM) (K:Value->Wp):Wp:=nn x λy=>ld (.any) (y.add 3) λ(z:Value)=>K z
def Di7:Hint:=(hS (hR 1) (hS (hR 5) hL))
def Dc0 {a0 K w}(h:F254 a0 K w):Aa prog 254 #[(dR a0)] (.one (.one .any)) K w:=tied Ap func254 Di7 _ h
end
end Go.Proofs.YtmooldhpiopcgaaGreatDoor
namespace Go.Proofs.YtmooldhpiopcgaaGreatDoor.Dsk
abbrev Nm:=ByteArray
structure Fl where
 data:List UInt8
 synced:Nat
 count:Int
inductive Iq where
 |mk (n:Nm) (i:Nat)
 |rm (n:Nm)
 |mv (a b:Nm) (i:Nat)
abbrev Dir:=Nm->Option Nat
def Eo (f:Dir) (k:Nm) (v:Option Nat):Dir:=λx=>if x=k then v else f x
def Iq.on:Iq->Dir->Dir
 |.mk n i,f=>Eo f n (some i)
 |.rm n,f=>Eo f n none
 |.mv a b i,f=>Eo (Eo f a none) b (some i)
def Gf:List Iq->Dir->Dir
 |[],f=>f
 |a::r,f=>Gf r (a.on f)
structure Ce where
 kind:Int
 part:Int
 names:Int
 bytes:List Int
structure Dk where
 space:Int
 files:List Fl
 lasts:Dir
 acts:List Iq
 down:Bool
 plan:Int->Option Ce
 steps:Int
def Dk.seen (D:Dk):Dir:=Gf D.acts D.lasts
def Lists (f:Dir) (l:List Nm):Prop:=l.Nodup/\∀n,n∈l↔(f n).isSome=true
def Sv (l:List Nm):List Nm:=((l.map λn=>n.data.toList).mergeSort λx y=>decide (x<=y)).map λl=>⟨l.toArray⟩
open Classical in
def names (f:Dir):List Nm:=if h:∃l,Lists f l then Sv h.choose else []
def Fa (b:UInt8):Bool:=decide ((97<=b.toNat/\b.toNat<=122)\/(65<=b.toNat/\b.toNat<=90)\/(48<=b.toNat/\b.toNat<=57)\/b.toNat=46\/b.toNat=95\/b.toNat=45\/b.toNat=126)
def Bl (n:Nm):Bool:=n.size !=0&&decide (n.size<=32)&&n.data.toList.all Fa
def fl (D:Dk) (i:Nat):Fl:=D.files.getD i ⟨[],0,0⟩
def Fq:List Int->Int
 |[]=>0
 |x::r=>x+Fq r
def weigh (D:Dk) (o:Option Nat) (n:Nm):Int:=match D.seen n with|some i=>if some i=o then 0 else (fl D i).data.length|none=>0
def Cb (D:Dk) (o:Option Nat):Int:=Fq ((names D.seen).map (weigh D o))
def room (D:Dk):Int:=max (D.space-Cb D none) 0
def find (D:Dk) (n:Nm):Option Nat×Int :=
 if Bl n=false then (none,164) else match D.seen n with|none=>(none,162)|some i=>(some i,0)
def Ju (l:List Fl) (i:Nat) (f:Fl->Fl):List Fl:=l.modify i f
def settle (D:Dk):Dk:={ D with lasts:=D.seen,acts:=[] }
def Lc (D:Dk) (n:Nm) (b:List UInt8):Dk×Int :=
 if D.down=true then (D,165) else if Bl n=false then (D,164) else
 if (D.seen n=none/\16<=(names D.seen).length)\/(b.length:Int)>D.space-Cb D (D.seen n) then (D,161) else
 match D.seen n with
 |some i=>({ settle D with files:=Ju D.files i λf=>⟨b,b.length,f.count+1⟩ },0)
 |none=>({ D with lasts:=Eo D.seen n (some D.files.length),acts:=[],files:=D.files++[⟨b,b.length,1⟩] },0)
def mkR (n:Nm) (D:Dk):Dk×Int :=
 let r:=find D n
 if r.2=164 then (D,164) else if r.2=0 then (D,163) else if 16<=(names D.seen).length then (D,161) else
 ({ D with files:=D.files++[⟨[],0,0⟩],acts:=D.acts++[.mk n D.files.length] },0)
def apR (n:Nm) (b:List UInt8) (D:Dk):Dk×Int×Int :=
 match find D n with
 |(none,e)=>(D,e,0)
 |(some i,_) =>
  let k:Int:=if room D<(b.length:Int) then room D else b.length
  ({ D with files:=Ju D.files i λf=>⟨f.data++b.take k.toNat,f.synced,if k>0 then f.count+1 else f.count⟩ },if k<b.length then 161 else 0,k)
def Vs (n:Nm) (b:List UInt8) (k:Int) (D:Dk):Dk×Int×Int :=
 let r:=apR n (b.take (min (max k 0) b.length).toNat) D
 (r.1,if r.2.1≠0/\r.2.1≠161 then r.2.1 else 160,r.2.2)
def syR (n:Nm) (D:Dk):Dk×Int :=
 match find D n with
 |(none,e)=>(D,e)
 |(some i,_)=>({ D with files:=Ju D.files i λf=>⟨f.data,f.data.length,f.count⟩ },0)
def mvR (a b:Nm) (D:Dk):Dk×Int :=
 if Bl b=false then (D,164) else
 match find D a with
 |(none,e)=>(D,e)
 |(some i,_)=>if a=b then (D,0) else ({ D with acts:=D.acts++[.mv a b i] },0)
def rmR (n:Nm) (D:Dk):Dk×Int :=
 match find D n with
 |(none,e)=>(D,e)
 |(some _,_)=>({ D with acts:=D.acts++[.rm n] },0)
def Fl.cut (f:Fl) (more:Int):Fl :=
 let n:=f.synced+(min (max more 0).toNat (f.data.length-f.synced))
 ⟨f.data.take n,n,f.count⟩
def Fv (f:Dir) (bytes:List Int):List Nm->Nat->List Fl->List Fl
 |[],_,l=>l
 |n::r,i,l=>Fv f bytes r (i+1) (Ju l ((f n).getD 0) λx=>x.cut (bytes.getD i 0))
def crash (D:Dk) (nm:Int) (bytes:List Int):Dk :=
 if D.down=true then D else
 let l:=Gf (D.acts.take (min (max nm 0).toNat D.acts.length)) D.lasts
 { D with lasts:=l,acts:=[],files:=Fv l bytes (names l) 0 D.files,down:=true }
def restart (D:Dk):Dk:=if D.down=true then { D with down:=false,plan:=λ_=>none,steps:=0 } else D
def Hf:List (Int×Ce)->(Int->Option Ce)->(Int->Option Ce)
 |[],f=>f
 |x::r,f=>Hf r (if (f x.1).isSome=true\/x.2.kind<1\/x.2.kind>5 then f else λk=>if k=x.1 then some x.2 else f k)
def plan (D:Dk) (l:List (Int×Ce)):Dk:={ D with plan:=Hf l λ_=>none,steps:=0 }
def Uk {α:Type}(D1:Dk) (a:α) (act:Dk->Dk×Int×α) (part:Option (Int->Dk->Dk×Int×α)) (f:Ce):Dk×Int×α :=
 if f.kind=1 then (D1,160,a) else
 if f.kind=2 then (part.map λp=>p f.part D1).getD (D1,160,a) else
 if f.kind=4 then (crash D1 f.names f.bytes,165,a) else
 if f.kind=5 then (crash (act D1).1 f.names f.bytes,165,(act D1).2.2) else
 if f.kind=3 then ((act D1).1,if (act D1).2.1≠0 then (act D1).2.1 else 160,(act D1).2.2) else
 act D1
def step {α:Type}(D:Dk) (a:α) (act:Dk->Dk×Int×α) (part:Option (Int->Dk->Dk×Int×α)):Dk×Int×α :=
 if D.down=true then (D,165,a) else
 match D.plan (D.steps+1) with
 |none=>act { D with steps:=D.steps+1 }
 |some f=>Uk { D with steps:=D.steps+1 } a act part f
def u (f:Dk->Dk×Int) (D:Dk):Dk×Int×Unit:=((f D).1,(f D).2,())
def rdR (n:Nm) (D:Dk):Dk×Int×List UInt8 :=
 match find D n with
 |(none,e)=>(D,e,[])
 |(some i,_)=>(D,0,(fl D i).data)
def stR (n:Nm) (D:Dk):Dk×Int×Int×Int×Int :=
 match find D n with
 |(none,e)=>(D,e,0,0,0)
 |(some i,_)=>(D,0,(i:Int)+1,(fl D i).data.length,(fl D i).count)
def Bz (D:Dk) (n:Nm):Dk×Int×Unit:=step D () (u (mkR n)) none
def Ef (D:Dk) (n:Nm):Dk×Int×Unit:=step D () (u (syR n)) none
def Bg (D:Dk):Dk×Int×Unit:=step D () (u λD=>(settle D,0)) none
def Dc (D:Dk) (a b:Nm):Dk×Int×Unit:=step D () (u (mvR a b)) none
def Au (D:Dk) (n:Nm):Dk×Int×Unit:=step D () (u (rmR n)) none
def Aw (D:Dk) (n:Nm):Dk×Int×List UInt8:=let r:=step D [] (rdR n) none;(r.1,r.2.1,if r.2.1=0 then r.2.2 else [])
def Aj (D:Dk) (n:Nm):Dk×Int×Int×Int×Int:=let r:=step D (0,0,0) (stR n) none;(r.1,r.2.1,if r.2.1=0 then r.2.2 else (0,0,0))
def Bv (D:Dk) (n:Nm) (b:List UInt8):Dk×Int×Int:=let r:=step D 0 (apR n b) (some (Vs n b));(r.1,r.2.1,if r.1.down=true then 0 else r.2.2)
end Go.Proofs.YtmooldhpiopcgaaGreatDoor.Dsk
namespace Go.Proofs.YtmooldhpiopcgaaGreatDoor
open Go.Proofs.Tryz
section
namespace Dq
open Go Go.Vx Dsk
abbrev sv (s:Sl):Value:=.slice s.a s.len s.cap
abbrev iv (l:xP):List Value:=l.map (Value.int .i64)
abbrev Ints (w:World) (s:Sl) (l:xP):Prop:=Dx w s 3 1 (iv l)
abbrev Bytes (w:World) (s:Sl) (l:List UInt8):Prop:=SlX w s 1 (bv l)
abbrev Dl (w:World) (B:Nat) (s:Sl) (l:List UInt8):Prop:=Am w B s 5 1 (bv l)
def Bf5 (l:xP):∀v∈iv l,Eb v=true:=by intro v hv;obtain ⟨x,_,rfl⟩:=nT.1 hv;rfl
def EB:Fh prog 30 5 1 1:=Fh.of (z:=.int .u8 0) C30 C5 rfl rfl rfl (by decide)
def EI:Fh prog 70 3 1 8:=Fh.of (z:=vI 0) C70 C3 rfl rfl rfl (by decide)
def ES:Fh prog 117 9 1 16:=Fh.of (z:=.string ⟨#[]⟩) Cv9 C9 rfl rfl rfl (by decide)
def EA:Fh prog 104 147 1 8:=Fh.of (z:=.nilFunc) Cw0 Da5 rfl rfl rfl (by decide)
def uB:prog.underlying 30=some (.slice 5):=C30.und
def ub:prog.underlying 5=some (.int .u8):=C5.und
def uI:prog.underlying 70=some (.slice 3):=C70.und
def uS:prog.underlying 117=some (.slice 9):=Cv9.und
def us:prog.underlying 9=some .string:=C9.und
def uA:prog.underlying 104=some (.slice 147):=Cw0.und
def uE:∃ms,prog.underlying 26=some (.interface ms):=⟨_,C26.und⟩
def uD:prog.underlying 103=some (.map 9 121):=Cw1.und
def MD:Sr Key.str prog 103 (.pointer none):=Sr.of Cw1 C9 Cv7 rfl rfl rfl
def MP:Sr Key.int prog 105 (.agg #[vI 0,vI 0,vI 0,vI 0,.slice none 0 0]):=Sr.of Da9 C3 Co5 rfl rfl rfl
structure Fp (w:World) (m:Nat) (fb:List Nat) (f:Dir):Prop where
 ex:∃es,Oy Key.str w m es/\∀k,Jw es k=(f k).map λi=>Value.pointer (some (at0 (fb.getD i 0)))
 ids:∀k i,f k=some i->i<fb.length
abbrev Uj (i:Nat) (s:Sl) (f:Fl):Obj:=.cells #[.int .i64 ((i:Int)+1),sv s,.int .i64 (f.synced:Int),.int .i64 f.count] 123 (0,0)
structure Ht (w:World) (fb:List Nat) (ds:List Sl) (fs:List Fl):Prop where
 lf:fb.length=fs.length
 ld:ds.length=fs.length
 nd:fb.Nodup
 dd:∀(i j:Nat) (s t:Sl),i<j->ds[i]?=some s->ds[j]?=some t->∀k,s.blk k->¬t.blk k
 at_:∀(i b:Nat) (s:Sl) (f:Fl),fb[i]?=some b->ds[i]?=some s->fs[i]?=some f->w.heap[b]?=some (Uj i s f)/\Dl w 0 s f.data
def Pm (w:World) (F:Nat->Prop) (fb:List Nat) (v:Value):Iq->Prop
 |.rm n=>∃b,v=.func (.func 105) #[] #[dU b]/\w.heap[b]?=some (.cells #[.string n] 9 (0,0))/\F b
 |.mk n i=>∃b1 b2,v=.func (.func 167) #[] #[dU b1,dU b2]/\w.heap[b1]?=some (.cells #[.pointer (some (at0 (fb.getD i 0)))] 121 (0,0))/\w.heap[b2]?=some (.cells #[.string n] 9 (0,0))/\F b1/\F b2/\i<fb.length
 |.mv a b i=>∃b1 b2,v=.func (.func 172) #[] #[dU b1,dU b2]/\w.heap[b1]?=some (.cells #[.pointer (some (at0 (fb.getD i 0))),.string a] 127 (0,0))/\w.heap[b2]?=some (.cells #[.string b] 9 (0,0))/\F b1/\F b2/\i<fb.length
structure As5 (w:World) (F:Nat->Prop) (fb:List Nat) (sa:Sl) (vs:List Value) (as_:List Iq):Prop where
 row:Am w 0 sa 147 1 vs
 len:vs.length=as_.length
 at_:∀(i:Nat) (v:Value) (a:Iq),vs[i]?=some v->as_[i]?=some a->Pm w F fb v a
def Ot (w:World) (F:Nat->Prop) (k:Int):Option Value->Option Ce->Prop
 |none,none=>True
 |some v,some f=>∃s:Sl,v=.agg #[.int .i64 k,.int .i64 f.kind,.int .i64 f.part,.int .i64 f.names,sv s]/\Ints w s f.bytes/\(∀k,s.blk k->F k)/\f.bytes.length<=2^60
 |_,_=>False
def Qx (w:World) (F:Nat->Prop) (pl:Option Nat) (p:Int->Option Ce):Prop :=
 (pl=none/\∀k,p k=none)\/∃m es,pl=some m/\F m/\Oy Key.int w m es/\∀k,Ot w F k (Jw es k) (p k)
abbrev Z5 (D:Dk) (ms ml:Nat) (sa:Sl) (pl:Option Nat):Obj:=.cells #[.int .i64 D.space,.map (some ms),.map (some ml),sv sa,.int .i64 (D.files.length:Int),.bool D.down,.map pl,.int .i64 D.steps] 107 (0,0)
structure Ej (w:World) (d:Nat) (F:Nat->Prop) (D:Dk) (ms ml:Nat) (sa:Sl) (pl:Option Nat) (vs:List Value) (fb:List Nat) (ds:List Sl):Prop where
 box:w.heap[d]?=some (Z5 D ms ml sa pl)
 seen:Fp w ms fb D.seen
 lasts:Fp w ml fb D.lasts
 files:Ht w fb ds D.files
 acts:As5 w F fb sa vs D.acts
 plan:Qx w F pl D.plan
 ne:ms≠ml
 nes:pl≠some ms
 nel:pl≠some ml
 fd:F d
 fms:F ms
 fml:F ml
 ffb:∀b∈fb,F b
 fds:∀s∈ds,∀k,s.blk k->F k
 fsa:∀k,sa.blk k->F k
 lt:∀k,F k->k<w.heap.size
def Dn (w:World) (d:Nat) (F:Nat->Prop) (D:Dk):Prop:=∃ms ml sa pl vs fb ds,Ej w d F D ms ml sa pl vs fb ds
section
variable {w w':World}{S F F':Nat->Prop}{d m:Nat}{f:Dir}{fb:List Nat}{ds:List Sl}{fs:List Fl}{sa:Sl}{vs:List Value}{D:Dk}{pl:Option Nat}{p:Int->Option Ce}
def Oy.Aa7 {κ:Type} [BEq κ] [LawfulBEq κ] {k_:Key κ}{es:List (Ei κ)}(h:Oy k_ w m es):∃o c,w.heap[m]?=some (.map o c):=by obtain ⟨⟨c,h1,_⟩,_,_⟩:=h;exact ⟨_,c,h1⟩
def Et.map {o:Array MapEntry}{c:Nat}{t:TypeId}(h:w.heap[m]?=some (.map o c)):Et w (λk=>k=m) t:=by rintro k rfl c' fr hc;rw [h] at hc;cases hc
def Fp.upd (h:Fp w m fb f) (u:Upd S w w') (hS:¬S m):Fp w' m fb f:=by obtain ⟨⟨es,h1,h2⟩,h3⟩:=h;exact ⟨⟨es,h1.upd u hS,h2⟩,h3⟩
def Fp.Ep (h:Fp w m fb f):∃o c,w.heap[m]?=some (.map o c):=by obtain ⟨⟨es,h1,_⟩,_⟩:=h;exact Oy.Aa7 h1
def Ht.upd (h:Ht w fb ds fs) (u:Upd S w w') (h1:∀b∈fb,¬S b) (h2:∀s∈ds,∀k,s.blk k->¬S k):Ht w' fb ds fs :=
 ⟨h.lf,h.ld,h.nd,h.dd,λi b s f hb hs hf=>let ⟨g1,g2⟩:=h.at_ i b s f hb hs hf;⟨u.get g1 (h1 b (lU hb)),g2.upd u λk _ hk=>h2 s (lU hs) k hk⟩⟩
def Ht.Aq5 (h:Ht w fb ds fs){i:Nat}{s:Sl}(hs:ds[i]?=some s):∃b f,fb[i]?=some b/\fs[i]?=some f/\w.heap[b]?=some (Uj i s f)/\Dl w 0 s f.data:=by have hlt:=(lY.1 hs).1;have h1:=h.lf;have h2:=h.ld;obtain ⟨b,hb⟩:∃b,fb[i]?=some b:=⟨_,oP (by omega)⟩;obtain ⟨f,hf⟩:∃f,fs[i]?=some f:=⟨_,oP (by omega)⟩;exact ⟨b,f,hb,hf,h.at_ i b s f hb hs hf⟩
def Ht.Zy (h:Ht w fb ds fs){b:Nat}(hb:b∈fb):∃i s f,fb[i]?=some b/\ds[i]?=some s/\fs[i]?=some f/\w.heap[b]?=some (Uj i s f)/\Dl w 0 s f.data:=by obtain ⟨i,hi,hb⟩:=qW.1 hb;have h1:=h.lf;have h2:=h.ld;obtain ⟨s,hs⟩:∃s,ds[i]?=some s:=⟨_,oP (by omega)⟩;obtain ⟨f,hf⟩:∃f,fs[i]?=some f:=⟨_,oP (by omega)⟩;have hb':fb[i]?=some b:=(by rw [oP hi,hb]);exact ⟨i,s,f,hb',hs,hf,h.at_ i b s f hb' hs hf⟩
def Ht.ty (h:Ht w fb ds fs) (u:Upd S w w') (h1:Et w S 123) (h2:Et w S 5):Ht w' fb ds fs:=by refine h.upd u (λb hb hS=>?_) λs hs k hk hS=>?_;{obtain ⟨i,s,f,_,_,_,g,_⟩:=h.Zy hb;exact h1 b hS _ _ g};{obtain ⟨i,hi,hs'⟩:=qW.1 hs;obtain ⟨b,f,_,_,_,g⟩:=h.Aq5 (i:=i) (s:=s) (by rw [oP hi,hs']);obtain ⟨c,fr,hc⟩:=g.in.Bf hk;exact h2 k hS _ _ hc}
def Pm.upd {v:Value}{a:Iq}(h:Pm w F fb v a) (u:Upd S w w') (hS:∀k,F k->¬S k) (hF:∀k,F k->F' k):Pm w' F' fb v a:=by
 cases a with
 |rm n=>obtain ⟨b,h1,h2,h3⟩:=h;exact ⟨b,h1,u.get h2 (hS b h3),hF b h3⟩
 |mk n i=>obtain ⟨b1,b2,h1,h2,h3,h4,h5,h6⟩:=h;exact ⟨b1,b2,h1,u.get h2 (hS _ h4),u.get h3 (hS _ h5),hF _ h4,hF _ h5,h6⟩
 |mv a b i=>obtain ⟨b1,b2,h1,h2,h3,h4,h5,h6⟩:=h;exact ⟨b1,b2,h1,u.get h2 (hS _ h4),u.get h3 (hS _ h5),hF _ h4,hF _ h5,h6⟩
def Pm.ty {v:Value}{a:Iq}(h:Pm w F fb v a) (u:Upd S w w') (h1:Et w S 9) (h2:Et w S 121) (h3:Et w S 127) (hF:∀k,F k->F' k):Pm w' F' fb v a:=by
 cases a with
 |rm n=>obtain ⟨b,g1,g2,g3⟩:=h;exact ⟨b,g1,u.get g2 λhS=>h1 _ hS _ _ g2,hF _ g3⟩
 |mk n i=>obtain ⟨b1,b2,g1,g2,g3,g4,g5,g6⟩:=h;exact ⟨b1,b2,g1,u.get g2 λhS=>h2 _ hS _ _ g2,u.get g3 λhS=>h1 _ hS _ _ g3,hF _ g4,hF _ g5,g6⟩
 |mv a b i=>obtain ⟨b1,b2,g1,g2,g3,g4,g5,g6⟩:=h;exact ⟨b1,b2,g1,u.get g2 λhS=>h3 _ hS _ _ g2,u.get g3 λhS=>h1 _ hS _ _ g3,hF _ g4,hF _ g5,g6⟩
def As5.ty {as_:List Iq}(h:As5 w F fb sa vs as_) (u:Upd S w w') (h0:Et w S 147) (h1:Et w S 9) (h2:Et w S 121) (h3:Et w S 127) (hF:∀k,F k->F' k):As5 w' F' fb sa vs as_ :=
 ⟨h.row.ty u h0,h.len,λi v a hv ha=>(h.at_ i v a hv ha).ty u h1 h2 h3 hF⟩
def Ot.upd {k:Int}{v:Option Value}{g:Option Ce}(h:Ot w F k v g) (u:Upd S w w') (hS:Et w S 3) (hF:∀k,F k->F' k):Ot w' F' k v g:=by
 match v,g,h with
 |none,none,_=>trivial
 |some v,some g,⟨s,h1,h2,h3,h4⟩=>exact ⟨s,h1,h2.ty u hS,λk hk=>hF k (h3 k hk),h4⟩
def Qx.upd (h:Qx w F pl p) (u:Upd S w w') (h1:∀m,pl=some m->¬S m) (hS:Et w S 3) (hF:∀k,F k->F' k):Qx w' F' pl p:=by rcases h with h|⟨m,es,g1,g2,g3,g4⟩;{exact .inl h};{exact .inr ⟨m,es,g1,hF m g2,g3.upd u (h1 m g1),λk=>(g4 k).upd u hS hF⟩}
def Ot.old {k:Int}{v:Option Value}{g:Option Ce}(h:Ot w F k v g) (u:Upd S w w') (hS:∀k,F k->¬S k):Ot w' F k v g:=by
 match v,g,h with
 |none,none,_=>trivial
 |some v,some g,⟨s,h1,h2,h3,h4⟩=>exact ⟨s,h1,h2.upd u λk hk=>hS k (h3 k hk),h3,h4⟩
def Qx.Ep (h:Qx w F (some m) p):∃o c,w.heap[m]?=some (.map o c):=by rcases h with ⟨h,_⟩|⟨m',es,g1,_,g3,_⟩;{cases h};{cases g1;exact Oy.Aa7 g3}
def Dn.frame (h:Dn w d F D) (u:Upd S w w') (hS:∀k,F k->¬S k):Dn w' d F D:=by
 obtain ⟨ms,ml,sa,pl,vs,fb,ds,A⟩:=h;refine ⟨ms,ml,sa,pl,vs,fb,ds,u.get A.box (hS _ A.fd),A.seen.upd u (hS _ A.fms),A.lasts.upd u (hS _ A.fml),A.files.upd u (λb hb=>hS _ (A.ffb b hb)) (λs hs k hk=>hS _ (A.fds s hs k hk)),
  ⟨A.acts.row.upd u λk _ hk=>hS _ (A.fsa k hk),A.acts.len,λi v a hv ha=>(A.acts.at_ i v a hv ha).upd u hS λ_ h=>h⟩,?_,A.ne,A.nes,A.nel,A.fd,A.fms,A.fml,A.ffb,A.fds,A.fsa,λk hk=>mP (A.lt k hk) u.size⟩
 rcases A.plan with h|⟨m,es,g1,g2,g3,g4⟩;{exact .inl h};{exact .inr ⟨m,es,g1,g2,g3.upd u (hS m g2),λk=>(g4 k).old u hS⟩}
def Dn.ext (h:Dn w d F D) (e:Ext w w'):Dn w' d F D:=h.frame e λ_ _=>id
def Dn.lt (h:Dn w d F D):∀k,F k->k<w.heap.size:=by obtain ⟨ms,ml,sa,pl,vs,fb,ds,A⟩:=h;exact A.lt
def Dn.fd (h:Dn w d F D):F d:=by obtain ⟨ms,ml,sa,pl,vs,fb,ds,A⟩:=h;exact A.fd
def Ej.Cn7 {ms ml:Nat}{D':Dk}(A:Ej w d F D ms ml sa pl vs fb ds) (u:Upd (λk=>k=d) w w') (hb:w'.heap[d]?=some (Z5 D' ms ml sa pl)) (h1:D'.files=D.files) (h2:D'.lasts=D.lasts) (h3:D'.acts=D.acts) (h4:D'.plan=D.plan):Ej w' d F D' ms ml sa pl vs fb ds:=by
 have no:∀t:TypeId,107≠t->Et w (λk=>k=d) t:=λt ht=>Et.box A.box ht;have nm:∀m,(∃o c,w.heap[m]?=some (.map o c))->¬(λk=>k=d) m:=by
  rintro m ⟨o,c,hm⟩ rfl
  rw [A.box] at hm;cases hm
 have hseen:D'.seen=D.seen:=(by simp only [Dk.seen,h2,h3]);refine ⟨hb,?_,?_,?_,?_,?_,A.ne,A.nes,A.nel,A.fd,A.fms,A.fml,A.ffb,A.fds,A.fsa,λk hk=>mP (A.lt k hk) u.size⟩;{rw [hseen];exact A.seen.upd u (nm _ A.seen.Ep)};{rw [h2];exact A.lasts.upd u (nm _ A.lasts.Ep)};{rw [h1];exact A.files.ty u (no _ (by decide)) (no _ (by decide))};{rw [h3];exact A.acts.ty u (no _ (by decide)) (no _ (by decide)) (no _ (by decide)) (no _ (by decide)) λ_ h=>h};{rw [h4];exact A.plan.upd u (λm hm=>nm m (by subst hm;exact A.plan.Ep)) (no _ (by decide)) λ_ h=>h}
end
end Dq
end
section
namespace Dq
open Go Go.Vx Dsk
def Ct3 {a b:Nm}(h:a.data.toList=b.data.toList):a=b:=by cases a;cases b;simp only at h;congr 1;exact kK h
def Cb3 (n:Nm):(⟨n.data.toList.toArray⟩:ByteArray)=n:=by cases n;simp
def Bp1 {l l':List (List UInt8)}(h:l.Perm l'):(l.mergeSort λx y=>decide (x<=y))=l'.mergeSort λx y=>decide (x<=y):=by
 have tr:∀a b c:List UInt8,decide (a<=b)=true->decide (b<=c)=true->decide (a<=c)=true:=λa b c h1 h2=>by
  simp only [pF] at *;exact List.le_trans h1 h2
 have to:∀a b:List UInt8,(decide (a<=b)||decide (b<=a))=true:=λa b=>by
  simp only [jO,pF];exact List.le_total a b
 refine List.Perm.eq_of_pairwise (le:=λx y=>decide (x<=y)=true) (λa b _ _ h1 h2=>?_) (qX tr to l) (qX tr to l') (((qY l _).trans h).trans (qY l' _).symm);simp only [pF] at h1 h2;exact List.le_antisymm h1 h2
def Bx2 {l l':List Nm}(h:l.Perm l'):Sv l=Sv l':=by unfold Sv;rw [Bp1 (h.map _)]
def Ue (l:List Nm):(Sv l).Perm l:=by
 have h:=(qY (l.map λn=>n.data.toList) (λx y=>decide (x<=y))).map λl:List UInt8=>(⟨l.toArray⟩:ByteArray);have e:(l.map λn:Nm=>n.data.toList).map (λl:List UInt8=>(⟨l.toArray⟩:ByteArray))=l:=by
  rw [qZ]
  conv=>rhs;rw [←rC l]
  exact rD λn _=>Cb3 n
 rw [e] at h;exact h
def Qq {f:Dir}{l l':List Nm}(h:Lists f l) (h':Lists f l'):l.Perm l':=(oN h.1 h'.1).2 λn=>(h.2 n).trans (h'.2 n).symm
def Vk {f:Dir}{l:List Nm}(h:Lists f l):names f=Sv l:=by unfold names;have hx:∃l,Lists f l:=⟨l,h⟩;rw [dif_pos hx];exact Bx2 (Qq (f:=f) hx.choose_spec h)
def Aw3 {f:Dir}{l:List Nm}(h:Lists f l):Lists f (names f):=by rw [Vk h];have hp:=Ue l;exact ⟨hp.nodup_iff.2 h.1,λn=>(hp.mem_iff).trans (h.2 n)⟩
def Qg {f:Dir}{l:List Nm}(h:Lists f l):(names f).length=l.length:=by rw [Vk h];exact (Ue l).length_eq
def Aj7 {l l':xP}(h:l.Perm l'):Fq l=Fq l':=by
 induction h with
 |nil=>rfl
 |cons x _ ih=>simp only [Fq,ih]
 |swap x y l=>simp only [Fq];omega
 |trans _ _ h1 h2=>exact h1.trans h2
def Uy (l l':xP):Fq (l++l')=Fq l+Fq l':=by
 induction l with
 |nil=>simp [Fq]
 |cons x r ih=>simp only [jC,Fq,ih];omega
def Z9 {D:Dk}{o:Option Nat}{l:List Nm}(h:Lists D.seen l):Cb D o=Fq (l.map (weigh D o)):=by unfold Cb;rw [Vk h];exact Aj7 ((Ue l).map _)
def Pn (D:Dk) (o:Option Nat) (n:Nm):0<=weigh D o n:=by unfold weigh;split;{split<;>omega};{omega}
def Ou {l:xP}(h:∀x∈l,0<=x):0<=Fq l:=by
 induction l with
 |nil=>exact kJ 0
 |cons x r ih=>have h1:=h x iM;have h2:=ih λy hy=>h y (iO _ hy);simp only [Fq];omega
def Yg {l:xP}{B:Int}(h:∀x∈l,x<=B):Fq l<=(l.length:Int)*B:=by
 induction l with
 |nil=>simp [Fq]
 |cons x r ih=>have h1:=h x iM;have h2:=ih λy hy=>h y (iO _ hy);simp only [Fq,kE,rE,Int.add_mul,Int.natCast_one,Int.one_mul];omega
section
variable {κ:Type} [BEq κ] [LawfulBEq κ]
def Ax6 {es:List (Ei κ)}(hn:(es.map (·.1)).Nodup):∀x∈es,Jw es x.1=some x.2.1:=by
 induction es with
 |nil=>intro x hx;cases hx
 | cons y r ih =>
  intro x hx;simp only [kV,jT] at hn;unfold Jw;rw [pK];rcases iL.1 hx with e|hx;{subst e;simp}
  ·have hne:(y.1==x.1)=false:=by
    simp only [rF,ne_eq]
    intro e
    exact hn.1 (by rw [e];exact nT.2 ⟨x,hx,rfl⟩)
   rw [hne];exact ih hn.2 x hx
def Cb8 {es:List (Ei κ)}{k:κ}{v:Value}(h:Jw es k=some v):∃x∈es,x.1=k/\x.2.1=v:=by unfold Jw at h;obtain ⟨x,hx,rfl⟩:=rG.1 h;exact ⟨x,oZ hx,by simpa using List.find?_some hx,rfl⟩
end
end Dq
end
section
namespace Dq
open Go Go.Vx Dsk
structure Good (n:Nat) (f:Dir):Prop where
 ids:∀k i,f k=some i->i<n
 few:∃l,Lists f l/\l.length<=16
 inj:∀a b i,f a=some i->f b=some i->a=b
 okn:∀k i,f k=some i->Bl k=true
structure Bj (D:Dk) (N:Nat):Prop where
 space:0<=D.space/\D.space<=1048576
 fil:∀(i:Nat) (f:Fl),D.files[i]?=some f->f.data.length<=1048576/\f.synced<=f.data.length/\0<=f.count/\f.count<=N
 num:D.files.length<=N
 good:∀k,Good D.files.length (Gf (D.acts.take k) D.lasts)
 steps:0<=D.steps/\D.steps<=N
 acts:D.acts.length<=N
def Bj.seen {D:Dk}{N:Nat}(h:Bj D N):Good D.files.length D.seen:=by
 have:=h.good D.acts.length
 rwa [rH] at this
def Bj.mono {D:Dk}{N M:Nat}(h:Bj D N) (hm:N<=M):Bj D M :=
 ⟨h.space,λi f hf=>let ⟨a,b,c,d⟩:=h.fil i f hf;⟨a,b,c,by omega⟩,mM h.num hm,h.good,⟨h.steps.1,by have:=h.steps.2;omega⟩,mM h.acts hm⟩
def Good.mono {n m:Nat}{f:Dir}(h:Good n f) (hm:n<=m):Good m f:=⟨λk i hi=>mP (h.ids k i hi) hm,h.few,h.inj,h.okn⟩
def Good.names {n:Nat}{f:Dir}(h:Good n f):Lists f (names f)/\(names f).length<=16:=by obtain ⟨l,h1,h2⟩:=h.few;exact ⟨Aw3 h1,by rw [Qg h1];exact h2⟩
def Bj.fl {D:Dk}{N:Nat}(h:Bj D N) (i:Nat):(fl D i).data.length<=1048576/\(fl D i).synced<=(fl D i).data.length:=by
 unfold Dsk.fl;rw [rJ];cases hf:D.files[i]? with
 |none=>simp
 |some f=>have:=h.fil i f hf;exact ⟨this.1,this.2.1⟩
def Bj.weigh {D:Dk}{N:Nat}(h:Bj D N) (o:Option Nat) (n:Nm):Dsk.weigh D o n<=1048576:=by unfold Dsk.weigh;split;{split;{omega};{rename_i i _ _;have:=(h.fl i).1;omega}};{omega}
def Bj.used {D:Dk}{N:Nat}(h:Bj D N) (o:Option Nat):0<=Cb D o/\Cb D o<=16777216:=by
 obtain ⟨h1,h2⟩:=h.seen.names;unfold Cb;refine ⟨Ou λx hx=>?_,?_⟩;{obtain ⟨n,_,rfl⟩:=nT.1 hx;exact Pn D o n}
 ·have:=Yg (l:=(names D.seen).map (Dsk.weigh D o)) (B:=1048576) λx hx=>by
   obtain ⟨n,_,rfl⟩:=nT.1 hx
   exact h.weigh o n
  rw [nO] at this;have h3:((names D.seen).length:Int)<=16:=(by omega);have h4:((names D.seen).length:Int)*1048576<=16*1048576:=rM h3 (by decide);omega
end Dq
end
section
open Go Go.Vx
def Tc {b:Nat}{a:Int}(h0:0<=a) (h:a<2^b):(BitVec.ofInt b a).toNat=a.toNat:=by rw [BitVec.toNat_ofInt];have e:((2^b:Nat):Int)=(2:Int)^b:=(by simp);rw [e,Int.emod_eq_of_lt h0 h]
def As1 {b k:Nat}{a m:Int}(h0:0<=a) (h:a<2^b) (hm:m=2^k-1) (hk:k<=b):((BitVec.toNat (BitVec.ofInt b a &&& BitVec.ofInt b m):Nat):Int)=a%2^k:=by
 (have h1:(1:Int)<=2^k:=by have:(0:Int)<2^k:=rO (by decide);omega);have h2:(2:Int)^k<=2^b:=by
  have:(2:Nat)^k<=2^b:=rQ (by decide) hk
  exact_mod_cast this
 rw [rU,Tc h0 h,Tc (by omega) (by omega)];have:m.toNat=2^k-1:=by
  have e:((2^k:Nat):Int)=(2:Int)^k:=by simp
  omega
 rw [this,Nat.and_two_pow_sub_one_eq_mod];have e:((2^k:Nat):Int)=(2:Int)^k:=(by simp);rw [rV,e,kG h0]
def Av5 {b k:Nat}{a c:Int}(h0:0<=a) (hc0:0<=c) (hc:c<2^k) (h:a*2^k+c<2^b):((BitVec.toNat (BitVec.ofInt b (a*2^k) ||| BitVec.ofInt b c):Nat):Int)=a*2^k+c:=by
 have hp:(0:Int)<2^k:=rO (by decide);have hak:0<=a*2^k:=Int.mul_nonneg h0 (by omega);rw [BitVec.toNat_or,Tc hak (by omega),Tc hc0 (by omega)];have e:((2^k:Nat):Int)=(2:Int)^k:=(by simp);have e1:(a*2^k).toNat=a.toNat <<< k:=by
  rw [qM]
  have:((a*2^k).toNat:Int)=((a.toNat*2^k:Nat):Int):=by
   rw [kG hak,Int.natCast_mul,e,kG h0]
  exact_mod_cast this
 rw [e1,←Nat.shiftLeft_add_eq_or_of_lt (by omega),←e1,rE,kG hak,kG hc0]
def Bq6 {b k:Nat}{a c:Int}(h0:0<=a) (hc0:0<=c) (hc:c<2^k) (h:a*2^k+c<2^b):((BitVec.toNat (BitVec.ofInt b c ||| BitVec.ofInt b (a*2^k)):Nat):Int)=a*2^k+c:=by rw [BitVec.or_comm];exact Av5 h0 hc0 hc h
def Cf8 {a m:Int}(h0:0<=a) (h:a<2^63) (hm:m=1023):((BitVec.toNat (BitVec.ofInt 64 a &&& ~~~(BitVec.ofInt 64 m)):Nat):Int)=a/1024*1024:=by
 subst hm;have e0:(~~~(BitVec.ofInt 64 1023):BitVec 64).toNat=(2^54-1) <<< 10:=(by decide);rw [rU,Tc h0 (by omega),e0];have:a.toNat &&& (2^54-1) <<< 10=(a.toNat >>> 10) <<< 10:=by
  apply Nat.eq_of_testBit_eq
  intro i
  rw [Nat.testBit_and,rW,rW,Nat.testBit_two_pow_sub_one,Nat.testBit_shiftRight]
  by_cases hi:10<=i
  ·have e:10+(i-10)=i:=by omega
   rw [e]
   by_cases h64:i<64
   ·have:i-10<54:=by omega
    simp [hi,this]
   ·have hb:a.toNat.testBit i=false:=Nat.testBit_lt_two_pow (mP (by omega:a.toNat<2^63) (rQ (by decide) (by omega)))
    simp [hb]
  ·simp [hi]
 rw [this,qM,Nat.shiftRight_eq_div_pow];omega
def wrap64 {a:Int}(h0:-(2^63)<=a) (h:a<2^63):W64 a=a:=by simp only [IntKind.wrap,IntKind.signed,IntKind.bits];simp [Int.bmod_def];omega
def iE {a:Int}(h:-(2^63)<=a/\a<2^63):W64 a=a:=wrap64 h.1 h.2
def iD {a b:Int}(h:-9223372036854775808<=a/\a<=9223372036854775807/\a=b):W64 a=b:=by rw [wrap64 (by omega) (by omega)];exact h.2.2
def Bu7 {a:Int}(h0:0<=a) (h:a<256):IntKind.wrap .u8 a=a:=by simp only [IntKind.wrap,IntKind.signed,IntKind.bits];simp;omega
end
end Go.Proofs.YtmooldhpiopcgaaGreatDoor
