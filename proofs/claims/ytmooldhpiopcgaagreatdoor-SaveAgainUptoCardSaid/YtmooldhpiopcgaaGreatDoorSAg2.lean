/- YtmooldhpiopcgaaGreatDoorSAg2: parts of the proof, put together by program. -/
import Derived.Test.YtmooldhpiopcgaaGreatDoorSAg1
set_option linter.unusedVariables false
set_option linter.unusedSimpArgs false
set_option linter.unusedSectionVars false
noncomputable section
namespace Go.Vx
open Go
section
variable {w w':World}{P:Program}
theorem Zc {ts e:TypeId}{ie:Inf}{z:Value}(hts:P.underlying ts=some (.slice e)) (he:Ak P e ie) (hz:ie.zero=some z) (hzs:z.cells.size=ie.size){n:Int}{K:Sl->Wp}(h0:0<=n) (hn:n*ie.bytes<=2^48) (hn2:n<=9223372036854775807)
  (hK:∀b w' c,w'.heap[b]?=some (.cells c e (0,0))->c.size=n.toNat*ie.size->(∀i,i<c.size->c[i]?=z.cells[i%ie.size]?)->Ext w w'->b=w.heap.size->K ⟨some (at0 b),n.toNat,n.toNat⟩ w') :
  Dp P (.one (.one .sl)) (Instr.makeSlice ts (.int .i64 n) (.int .i64 n)) K w:=by
 obtain ⟨j,hj,hs,hb,hz'⟩:=he.Ar1
 have hw:IntKind.i64.wrap n=n:=IntWalk.i64_in _ ⟨by omega,hn2⟩
 have hu:=λW=>run_underlying hts W
 have hti:∀W,(typeInfo e).run P W=.ok j W:=λW=>run_typeInfo W hj
 have hsz:∀W,(sizeOf e).run P W=.ok ie.size W:=λW=>he.Gh W
 have hzv:∀W,(zeroValue e).run P W=.ok z W:=λW=>he.Ob W hz
 have hlarge:(decide (n<0)||decide ((j.bytes:Int)*n>2^48))=false:=by
  rw [hb,Int.mul_comm]
  simp only [Bool.or_eq_false_iff,decide_eq_false_iff_not]
  omega
 obtain ⟨c,hc⟩:∃c:Array Value,c=(Array.range (n.toNat*ie.size)).map (λk=>(if n.toNat*ie.size=0 then (#[]:Array Value) else z.cells)[k%(if n.toNat*ie.size=0 then (#[]:Array Value) else z.cells).size]!):=⟨_,rfl⟩
 refine ⟨⟨some (at0 w.heap.size),n.toNat,n.toNat⟩,w.alloc (.cells c e),?_,hK _ _ c (heap_alloc w _) (by rw [hc];simp) (λi hi=>?_) (Ext.alloc w _) rfl⟩
 ·have hlt:¬n<0:=by omega
  have hgt:¬((j.bytes:Int)*n>2^48):=by rw [hb,Int.mul_comm];omega
  have hgt2:¬(281474976710656<(j.bytes:Int)*n):=by omega
  by_cases hz0:n.toNat*ie.size=0
  ·simp only [hz0,if_true] at hc
   simp only [Instr.makeSlice,Sem.run_bind,hu,Result.andThen_ok,asInt,asIntOf,Sem.run_pure,hti,hw,hlarge,Bool.false_or,decide_eq_true_eq,hlt,hsz]
   simp [hgt2,run_askRoom,hsz,hz0,newRow,newObj,Sem.run,World.alloc_eq,hc,RTy.val,Ty.val,Cell.val]
  ·simp only [hz0,if_false] at hc
   simp only [Instr.makeSlice,Sem.run_bind,hu,Result.andThen_ok,asInt,asIntOf,Sem.run_pure,hti,hw,hlarge,Bool.false_or,decide_eq_true_eq,hlt,hsz]
   simp [hgt2,run_askRoom,hsz,hz0,hzv,newRow,newObj,Sem.run,World.alloc_eq,hc,RTy.val,Ty.val,Cell.val]
 ·rw [hc] at hi ⊢
  have hi:i<n.toNat*ie.size:=by simpa using hi
  have hz0:¬n.toNat*ie.size=0:=by omega
  have hpos:0<ie.size:=Nat.pos_of_ne_zero λh=>hz0 (by rw [h];simp)
  have hm:i%ie.size<z.cells.size:=by rw [hzs];exact Nat.mod_lt _ hpos
  simp only [if_neg hz0]
  have hg:z.cells[i%ie.size]! = z.cells[i%ie.size]:=getElem!_pos z.cells _ hm
  rw [Array.getElem?_map,Array.getElem?_eq_getElem (by simpa using hi),Array.getElem?_eq_getElem hm]
  simp only [Option.map_some,Array.getElem_range,hzs,hg]
theorem Bt0 {ts xt rt e:TypeId}{sz:Nat}(hts:P.underlying ts=some (.slice e)) (hsz:∀w,(sizeOf e).run P w=.ok sz w){b off dl dc:Nat}{c:Array Value}{t:TypeId}{x:Sl}{us:List Value}{K:Int->Wp}
  (hb:w.heap[b]?=some (.cells c t (0,0))) (hfit:off+us.length<=c.size) (hx:SlX w x sz us) (hle:x.len<=dl) (h1:∀v∈us,Du v=true)
  (hK:∀w',w'.heap[b]?=some (.cells (setRow c off us) t (0,0))->Upd (λk=>k=b) w w'->w'.heap.size=w.heap.size->K x.len w') :
  Dp P (.one (.one (.int .i64))) (Builtin.copy_ #[ts,xt] rt #[.slice (some ⟨b,off,none⟩) dl dc,.slice x.a x.len x.cap]) K w:=by
 obtain ⟨w1,hr,hu,hb1,hz⟩:=Iy P us b off 0 c t w h1 hb (by omega)
 refine ⟨x.len,w1,?_,hK w1 (by simpa using hb1) hu hz⟩
 have hmin:Nat.min x.len dl=x.len:=Nat.min_eq_left hle
 have hfx:=Gq P hx
 simp [Builtin.copy_,run_underlying hts,Builtin.lenOf,hsz,hmin,hfx,hr,goInt,RTy.val,Ty.val,Cell.val]
end
section
variable {w w':World}{P:Program}
theorem At5 (P:Program){ts xt rt:TypeId}{e xe:TypeId}{i:TypeInfo}{z:Value}(hts:P.underlying ts=some (.slice e)) (hxt:P.underlying xt=some (.slice xe)) (hi:P.info? e=some i) (hz:i.zero=some z)
  {B:Nat} {s x:Sl} {vs us:List Value} (hs:Au w B s e i.size vs) (hx:SlX w x i.size us) (h1:∀v∈us,Du v=true) (hzl:z.cells.size=i.size)
  (hroom:(s.len+x.len+(s.len+x.len)/4+512)*i.bytes<=2^48) (hb0:0<i.bytes) (hB:B<=w.heap.size) :
  ∃s' w',(Builtin.append_ #[ts,xt] rt #[.slice s.a s.len s.cap,.slice x.a x.len x.cap]).run P w=.ok (.slice s'.a s'.len s'.cap) w'/\Au w' B s' e i.size (vs++us)/\s'.len=s.len+x.len /\
   Upd (λk=>s.blk k) w w'/\(∀k,s'.blk k->s.blk k\/w.heap.size<=k)/\(Ext w w'\/∃b off c,s.a=some ⟨b,off,none⟩/\w.heap[b]?=some (.cells c e (0,0))/\w'.heap[b]?=some (.cells (setRow c (off+s.len*i.size) us) e (0,0))):=by
 have hfx:=Gq P hx
 have hfs:=Gx P hs.in
 have hu1:=λW=>run_underlying hts W
 have hu2:=λW=>run_underlying hxt W
 have hsz:∀W,(sizeOf e).run P W=.ok i.size W:=λW=>by simp [sizeOf,run_typeInfo W hi]
 have hti:∀W,(typeInfo e).run P W=.ok i W:=λW=>run_typeInfo W hi
 have hzv:∀W,(zeroValue e).run P W=.ok z W:=λW=>by simp [zeroValue,run_typeInfo W hi,hz]
 have hlen:=hs.len
 have hxlen:=hx.len
 by_cases hneed:s.len+x.len<=s.cap
 ·
  rcases hs.at_ with ⟨ha,hc⟩|⟨b,off,c,ha,hB',hb,hcap,hv⟩
  ·have hl0:x.len=0:=by omega
   have hsl:s.len=0:=by omega
   have hus:us=[]:=by rw [hl0,Nat.zero_mul] at hxlen;exact List.length_eq_zero_iff.1 hxlen
   refine ⟨⟨none,0,s.cap⟩,w,?_,⟨by simp [hus,hlen,hsl],by simp,.inl ⟨rfl,hc⟩⟩,by simp [hl0,hsl],Upd.refl _ _,(λk hk=>by obtain ⟨p,hp,_⟩:=hk;cases hp),.inl (Ext.refl w)⟩
   have hfx':(Builtin.firstCells i.size 0 (.slice x.a 0 x.cap)).run P w=.ok #[] w:=by rw [hl0,hus] at hfx;exact hfx
   simp [Builtin.append_,hu1,hu2,hsz,Builtin.lenOf,hl0,hsl,ha,hfx',hc]
  ·have hfit:s.len*i.size+us.length<=s.cap*i.size:=by
    rw [hxlen,←Nat.add_mul];exact Nat.mul_le_mul_right _ hneed
   obtain ⟨w1,hr,hu,hb1,_⟩:=Iy P us b (off+s.len*i.size) 0 c e w h1 hb (by omega)
   refine ⟨⟨s.a,s.len+x.len,s.cap⟩,w1,?_,⟨by simp [hlen,hxlen,Nat.add_mul],hneed,.inr ⟨b,off,setRow c (off+s.len*i.size+0) us,ha,hB',hb1,by rw [size_setRow];exact hcap,?_⟩⟩,rfl,hu.mono λk _ hk=>⟨_,ha,hk.symm⟩,λk hk=>.inl hk,.inr ⟨b,off,c,ha,hb,hb1⟩⟩
   ·simp [Builtin.append_,hu1,hu2,hsz,Builtin.lenOf,hneed,hfx,ha,addr_add,hr]
   ·intro j v hj
    rw [Nat.add_zero]
    by_cases hjl:j<vs.length
    ·rw [List.getElem?_append_left hjl] at hj
     rw [Gv _ _ _ _ (by omega)];exact hv j v hj
    ·rw [List.getElem?_append_right (by omega)] at hj
     have hlt:=(List.getElem?_eq_some_iff.1 hj).1
     rw [show off+j=off+s.len*i.size+(j-vs.length) by omega,Om _ _ _ _ (by omega) hlt]
     exact hj
 ·
  have hle:=nextslicecap_le (need:=s.len+x.len) (old:=s.cap) (by omega)
  have hroom':¬(Builtin.nextslicecap (s.len+x.len) s.cap*i.bytes>2^48):=by
   have:=Nat.mul_le_mul_right i.bytes hle
   omega
  obtain ⟨nc,hnc,hncl⟩:∃nc,(Question.appendCap (s.len+x.len) s.cap e).cut (w.tape w.drawn (Question.appendCap (s.len+x.len) s.cap e))=nc/\s.len+x.len<=nc:=⟨_,rfl,by simp only [Question.cut];omega⟩
  have hfx':(Builtin.firstCells i.size x.len (.slice x.a x.len x.cap)).run P w.drew=.ok us.toArray w.drew:=Gq P (hx.ext (Ext.drew w))
  have hfs':(Builtin.firstCells i.size s.len (.slice s.a s.len s.cap)).run P w.drew=.ok vs.toArray w.drew:=Gx P (hs.in.ext (Ext.drew w))
  let row:=vs.toArray++us.toArray++Builtin.zeroCells z.cells (nc-(s.len+x.len))
  have hrow:row.size=nc*i.size:=by
   simp only [row,Array.size_append,List.size_toArray,Builtin.zeroCells,Array.size_map,Array.size_range,hzl,hlen,hxlen]
   rw [←Nat.add_mul,←Nat.add_mul]
   congr 1;omega
  have hext:Ext w (w.drew.alloc (.cells row e)):=(Ext.drew w).trans (Ext.alloc w.drew _)
  refine ⟨⟨some ⟨w.heap.size,0,none⟩,s.len+x.len,nc⟩,w.drew.alloc (.cells row e),?_,⟨by simp [hlen,hxlen,Nat.add_mul],hncl,.inr ⟨w.heap.size,0,row,rfl,hB,heap_alloc w.drew _,by rw [hrow];simp,?_⟩⟩,rfl,
   (Upd.Aj hext),(λk hk=>.inr (by obtain ⟨p,hp,rfl⟩:=hk;cases hp;exact Nat.le_refl _)),.inl hext⟩
  ·have hb0':¬i.bytes=0:=by omega
   simp [Builtin.append_,hu1,hu2,hsz,Builtin.lenOf,hneed,hti,hb0',hroom',run_askRoom,hfs',hfx',hzv,newRow,newObj,Sem.run,Question.forced,hnc,row]
  ·intro j v hj
   rw [Nat.zero_add]
   have hlt:=(List.getElem?_eq_some_iff.1 hj).1
   have:row[j]?=(vs++us)[j]?:=by
    simp only [row]
    rw [Array.getElem?_append_left (by simpa using hlt)]
    simp
   rw [this];exact hj
end
structure Key (κ:Type) [BEq κ] [LawfulBEq κ] where
 kv:κ->Value
 desc:TypeDesc
 same:∀a b:κ,Instr.sameNow desc (kv a) (kv b)=some (a==b)
 check:∀(P:Program) (kt:TypeId) (b:Bool) (n:Nat) (a:κ) (w:World),P.underlying kt=some desc->(Instr.checkKey b (n+1) kt (kv a)).run P w=.ok () w
 bits:∀n a,Instr.sameBits n (kv a) (kv a)=true
def Key.int:Key Int where
 kv:=.int .i64
 desc:=.int .i64
 same a b:=by simp [Instr.sameNow]
 check P kt b n a w h:=by simp [Instr.checkKey,run_underlying h]
 bits n a:=by cases n<;>simp [Instr.sameBits]
instance Cc6:LawfulBEq ByteArray where
 eq_of_beq {a b} h:=by
  cases a;cases b
  have h:ByteArray.beq _ _=true:=h
  simp only [ByteArray.beq] at h
  simpa using h
 rfl {a}:=by
  cases a
  show ByteArray.beq _ _=true
  simp [ByteArray.beq]
def Key.str:Key ByteArray where
 kv:=.string
 desc:=.string
 same a b:=by simp [Instr.sameNow]
 check P kt b n a w h:=by simp [Instr.checkKey,run_underlying h]
 bits n a:=by cases n<;>simp [Instr.sameBits]
abbrev Dv (κ:Type):=κ×Value×Nat
section
variable {S S':Nat->Prop}{w w':World}{P:Program}{κ:Type} [BEq κ] [LawfulBEq κ] [DecidableEq κ] {k_:Key κ}
def Dv.ent (k_:Key κ) (x:Dv κ):MapEntry:=⟨k_.kv x.1,x.2.1,x.2.2⟩
structure Nc (k_:Key κ) (w:World) (m:Nat) (es:List (Dv κ)):Prop where
 heap:∃clock,w.heap[m]?=some (.map (es.map (Dv.ent k_)).toArray clock)/\∀x∈es,x.2.2<clock
 keys:(es.map (·.1)).Nodup
 born:(es.map (·.2.2)).Nodup
def Je (es:List (Dv κ)) (k:κ):Option Value:=(es.find? (·.1==k)).map (·.2.1)
theorem Nc.upd {m:Nat}{es:List (Dv κ)}(h:Nc k_ w m es) (hu:Upd S w w') (hS:¬S m):Nc k_ w' m es:=by
 have _d:=(inferInstance:DecidableEq κ)
 clear _d
 obtain ⟨⟨c,h1,h2⟩,h3,h4⟩:=h
 exact ⟨⟨c,hu.get h1 hS,h2⟩,h3,h4⟩
theorem Af7 (k:κ):∀(es:List (Dv κ)) (i:Nat),Instr.findNow k_.desc (k_.kv k) (es.map (Dv.ent k_)) i=some ((es.findIdx? (·.1==k)).map λj=>(i+j,((es[j]?).map (·.2.1)).getD default))
 |[],i=>by simp [Instr.findNow]
 | x::r,i=>by
  simp only [List.map_cons,Instr.findNow,Dv.ent,k_.same]
  by_cases hx:x.1=k
  ·subst hx;simp [List.findIdx?_cons]
  ·have h1:(k==x.1)=false:=by simp;exact λh=>hx h.symm
   have h2:(x.1==k)=false:=by simpa using hx
   rw [h1]
   simp only
   rw [Af7 k r (i+1),List.findIdx?_cons,h2]
   cases r.findIdx? (·.1==k) with
   |none=>simp
   |some j=>simp;omega
theorem Aj9 (es:List (Dv κ)) (k:κ):Je es k=(es.findIdx? (·.1==k)).map λj=>((es[j]?).map (·.2.1)).getD default:=by
 have _l:=(inferInstance:LawfulBEq κ)
 clear _l
 have _d:=(inferInstance:DecidableEq κ)
 clear _d
 unfold Je
 induction es with
 |nil=>rfl
 | cons x r ih =>
  rw [List.find?_cons,List.findIdx?_cons]
  cases x.1==k with
  |true=>simp
  |false =>
   simp only [Bool.false_eq_true,if_false]
   rw [ih]
   cases r.findIdx? (·.1==k)<;>simp
structure Px (k_:Key κ) (P:Program) (t:TypeId) (z:Value):Prop where
 ok:∃kt et,P.underlying t=some (.map kt et)/\P.underlying kt=some k_.desc/\∀w,(zeroValue et).run P w=.ok z w
theorem Px.of {t kt et:TypeId}{i ik ie:Inf}(h:Ak P t i) (hk:Ak P kt ik) (he:Ak P et ie) (hd:i.desc=.map kt et) (hkd:ik.desc=k_.desc){z:Value}(hz:ie.zero=some z):Px k_ P t z :=
 have _d:=(inferInstance:DecidableEq κ)
 ⟨kt,et,by rw [h.und,hd],by rw [hk.und,hkd],λw=>he.Ob w hz⟩
theorem Iz {kt:TypeId}(h:P.underlying kt=some k_.desc) (k:κ) (es:List (Dv κ)) :
  (Instr.findKey kt (k_.kv k) (es.map (Dv.ent k_))).run P w=.ok ((es.findIdx? (·.1==k)).map λj=>(j,((es[j]?).map (·.2.1)).getD default)) w:=by
 simp only [Instr.findKey,Sem.run_bind,run_underlying h,Result.andThen_ok,Af7,Nat.zero_add,Sem.run_pure]
theorem Aq2 {t:TypeId}{z:Value}(T:Px k_ P t z){m:Nat}{es:List (Dv κ)}(hm:Nc k_ w m es) (k:κ) :
  (Instr.lookup t (.map (some m)) (k_.kv k) true).run P w=.ok (match Je es k with|some v=>.tuple #[v,.bool true]|none=>.tuple #[z,.bool false]) w:=by
 obtain ⟨kt,et,h1,h2,h3⟩:=T.ok
 obtain ⟨⟨c,hh,_⟩,_,_⟩:=hm
 have hg:(getObj m).run P w=.ok (.map (es.map (Dv.ent k_)).toArray c) w:=by simp [getObj,Sem.run,hh]
 have hc:∀b,(Instr.checkKey b 10000 kt (k_.kv k)).run P w=.ok () w:=λb=>k_.check P kt b 9999 k w h2
 simp only [Instr.lookup,Sem.run_bind,run_underlying h1,Result.andThen_ok,hg,Sem.run_pure,hc,Iz h2]
 rw [Aj9]
 cases es.findIdx? (·.1==k) with
 |none=>simp [h3]
 |some j=>simp
theorem Xa {t:TypeId}{z:Value}(T:Px k_ P t z){m:Nat}{es:List (Dv κ)}(hm:Nc k_ w m es) (k:κ) :
  (Instr.lookup t (.map (some m)) (k_.kv k) false).run P w=.ok ((Je es k).getD z) w:=by
 obtain ⟨kt,et,h1,h2,h3⟩:=T.ok
 obtain ⟨⟨c,hh,_⟩,_,_⟩:=hm
 have hg:(getObj m).run P w=.ok (.map (es.map (Dv.ent k_)).toArray c) w:=by simp [getObj,Sem.run,hh]
 have hc:∀b,(Instr.checkKey b 10000 kt (k_.kv k)).run P w=.ok () w:=λb=>k_.check P kt b 9999 k w h2
 simp only [Instr.lookup,Sem.run_bind,run_underlying h1,Result.andThen_ok,hg,Sem.run_pure,hc,Iz h2]
 rw [Aj9]
 cases es.findIdx? (·.1==k) with
 |none=>simp [h3]
 |some j=>simp
theorem Ti:∀(es:List (Dv κ)) (j:Nat) (v:Value),((es.modify j λx=>(x.1,v,x.2.2)).map (·.1))=es.map (·.1)/\((es.modify j λx=>(x.1,v,x.2.2)).map (·.2.2))=es.map (·.2.2)
 |[],j,v=>by
  have _l:=(inferInstance:LawfulBEq κ)
  clear _l
  have _d:=(inferInstance:DecidableEq κ)
  clear _d
  cases j<;>simp [List.modify]
 |x::r,0,v=>by simp
 |x::r,j+1,v=>by
  have:=Ti r j v
  simp [this.1,this.2]
theorem Zf:∀(es:List (Dv κ)) (k:κ) (j:Nat) (v:Value),es.findIdx? (·.1==k)=some j->∀k',Je (es.modify j λx=>(x.1,v,x.2.2)) k'=if k'=k then some v else Je es k'
 |[],k,j,v,h,k'=>by simp at h
 | x :: r,k,j,v,h,k'=>by
  rw [List.findIdx?_cons] at h
  by_cases hx:x.1=k
  ·simp [hx] at h
   subst h
   simp only [List.modify_zero_cons,Je,List.find?_cons]
   by_cases hk:k'=k
   ·subst hk;simp [hx]
   ·have:(x.1==k')=false:=by simp;rw [hx];exact λh=>hk h.symm
    simp [this,hk]
  ·have hx':(x.1==k)=false:=by simpa using hx
   simp only [hx',Bool.false_eq_true,if_false] at h
   cases hr:r.findIdx? (·.1==k) with
   |none=>rw [hr] at h;simp at h
   | some i =>
    rw [hr] at h
    simp at h
    subst h
    have ih:=Zf r k i v hr k'
    simp only [List.modify_succ_cons,Je,List.find?_cons]
    by_cases hk:x.1=k'
    ·have hne:¬k'=k:=λh=>hx (hk.trans h)
     simp [hk,hne]
    ·have:(x.1==k')=false:=by simpa using hk
     simp only [this]
     exact ih
theorem Bi2 (es:List (Dv κ)) (k:κ) (v:Value) (b:Nat) (h:es.findIdx? (·.1==k)=none) (k':κ):Je (es++[(k,v,b)]) k'=if k'=k then some v else Je es k':=by
 unfold Je
 rw [List.find?_append]
 by_cases hk:k'=k
 ·subst hk
  have:es.find? (·.1==k')=none:=by
   rw [List.find?_eq_none]
   rw [List.findIdx?_eq_none_iff] at h
   intro x hx;simpa using h x hx
  simp [this]
 ·have:(k==k')=false:=by simp;exact λh=>hk h.symm
  simp [this,hk]
theorem Ym {t:TypeId}{z:Value}(T:Px k_ P t z){m:Nat}{es:List (Dv κ)}(hm:Nc k_ w m es) (k:κ) (v:Value) :
  ∃es' w',(Instr.mapUpdate t (.map (some m)) (k_.kv k) v).run P w=.ok () w'/\Nc k_ w' m es'/\(∀k',Je es' k'=if k'=k then some v else Je es k')/\Upd (λb=>b=m) w w'/\w'.heap.size=w.heap.size/\es'.length<=es.length+1:=by
 obtain ⟨kt,et,h1,h2,h3⟩:=T.ok
 obtain ⟨⟨c,hh,hc'⟩,hk,hb⟩:=hm
 have hg:(getObj m).run P w=.ok (.map (es.map (Dv.ent k_)).toArray c) w:=by simp [getObj,Sem.run,hh]
 have hc:∀b,(Instr.checkKey b 10000 kt (k_.kv k)).run P w=.ok () w:=λb=>k_.check P kt b 9999 k w h2
 have hset:∀o',(setObj m o').run P w=.ok () { w with heap:=w.heap.setIfInBounds m o' }:=λo'=>by simp [setObj,Sem.run,hh]
 cases hf:es.findIdx? (·.1==k) with
 | none =>
  obtain ⟨u1,u2⟩:=Jp (o':=.map ((es++[(k,v,c)]).map (Dv.ent k_)).toArray (c+1)) hh
  refine ⟨es++[(k,v,c)],_,?_,⟨⟨c+1,u2,λx hx=>?_⟩,?_,?_⟩,Bi2 es k v c hf,u1,by simp,by simp⟩
  ·simp only [Instr.mapUpdate,Sem.run_bind,run_underlying h1,Result.andThen_ok,hg,hc,Iz h2,hf,Option.map_none]
   have e:((es.map (Dv.ent k_)).toArray.push { key:=k_.kv k,val:=v,born:=c })=((es++[(k,v,c)]).map (Dv.ent k_)).toArray:=by
    apply Array.ext';simp [Dv.ent]
   rw [e]
   exact hset _
  ·rcases List.mem_append.1 hx with hx|hx
   ·have:=hc' x hx;omega
   ·simp at hx;subst hx;simp
  ·rw [List.map_append,List.nodup_append]
   refine ⟨hk,by simp,λa ha b hb'=>?_⟩
   simp at hb';subst hb'
   rw [List.findIdx?_eq_none_iff] at hf
   obtain ⟨x,hx,rfl⟩:=List.mem_map.1 ha
   simpa using hf x hx
  ·rw [List.map_append,List.nodup_append]
   refine ⟨hb,by simp,λa ha b hb'=>?_⟩
   simp at hb';subst hb'
   obtain ⟨x,hx,rfl⟩:=List.mem_map.1 ha
   have:=hc' x hx;omega
 | some j =>
  obtain ⟨e1,e2⟩:=Ti es j v
  obtain ⟨u1,u2⟩:=Jp (o':=.map ((es.modify j λx=>(x.1,v,x.2.2)).map (Dv.ent k_)).toArray c) hh
  have hj:=List.findIdx?_eq_some_iff_getElem.1 hf
  obtain ⟨hjl,hjk,_⟩:=hj
  have hjk:es[j].1=k:=by simpa using hjk
  refine ⟨es.modify j λx=>(x.1,v,x.2.2),_,?_,⟨⟨c,u2,λx hx=>?_⟩,by rw [e1];exact hk,by rw [e2];exact hb⟩,Zf es k j v hf,u1,by simp,by simp⟩
  ·have hkey:((((es.map (Dv.ent k_)).toArray[j]?).map (·.key)).getD (k_.kv k))=k_.kv k:=by
    simp [List.getElem?_map,List.getElem?_eq_getElem hjl,Dv.ent,hjk]
   have hstay:(Instr.keyThatStays (k_.kv k) (k_.kv k)).run P w=.ok (k_.kv k) w:=by
    simp [Instr.keyThatStays,k_.bits]
   simp only [Instr.mapUpdate,Sem.run_bind,run_underlying h1,Result.andThen_ok,hg,hc,Iz h2,hf,Option.map_some,hkey,hstay]
   have e:((es.map (Dv.ent k_)).toArray.modify j λe=>{ e with key:=k_.kv k,val:=v })=((es.modify j λx=>(x.1,v,x.2.2)).map (Dv.ent k_)).toArray:=by
    apply Array.ext'
    simp only [Array.toList_modify]
    apply List.ext_getElem?
    intro i
    simp only [List.getElem?_modify,List.getElem?_map]
    by_cases hij:j=i
    ·subst hij
     simp [List.getElem?_eq_getElem hjl,Dv.ent,hjk]
    ·simp [hij]
   rw [e]
   exact hset _
  ·have:x.2.2∈(es.modify j λx=>(x.1,v,x.2.2)).map (·.2.2):=List.mem_map_of_mem hx
   rw [e2] at this
   obtain ⟨y,hy,hxy⟩:=List.mem_map.1 this
   rw [←hxy];exact hc' y hy
theorem Y0:∀(es:List (Dv κ)) (k:κ) (j:Nat),(es.map (·.1)).Nodup->es.findIdx? (·.1==k)=some j->∀k',Je (es.eraseIdx j) k'=if k'=k then none else Je es k'
 |[],k,j,_,h,k'=>by simp at h
 | x :: r,k,j,hn,h,k'=>by
  rw [List.findIdx?_cons] at h
  simp only [List.map_cons,List.nodup_cons] at hn
  by_cases hx:x.1=k
  ·simp [hx] at h
   subst h
   simp only [List.eraseIdx_zero,List.tail_cons]
   by_cases hk:k'=k
   ·subst hk
    simp only [if_true]
    unfold Je
    have:r.find? (·.1==k')=none:=by
     rw [List.find?_eq_none]
     intro y hy
     simp
     intro he
     exact hn.1 (by rw [hx,←he];exact List.mem_map_of_mem hy)
    rw [this];rfl
   ·have:(x.1==k')=false:=by simp;rw [hx];exact λh=>hk h.symm
    simp [Je,List.find?_cons,this,hk]
  ·have hx':(x.1==k)=false:=by simpa using hx
   simp only [hx',Bool.false_eq_true,if_false] at h
   cases hr:r.findIdx? (·.1==k) with
   |none=>rw [hr] at h;simp at h
   | some i =>
    rw [hr] at h
    simp at h
    subst h
    have ih:=Y0 r k i hn.2 hr k'
    simp only [List.eraseIdx_cons_succ,Je,List.find?_cons]
    by_cases hk:x.1=k'
    ·have hne:¬k'=k:=λh=>hx (hk.trans h)
     simp [hk,hne]
    ·have:(x.1==k')=false:=by simpa using hk
     simp only [this]
     exact ih
theorem As4 {t kt' rt:TypeId}{z:Value}(T:Px k_ P t z){m:Nat}{es:List (Dv κ)}(hm:Nc k_ w m es) (k:κ) :
  ∃es' w',(Builtin.delete_ #[t,kt'] rt #[.map (some m),k_.kv k]).run P w=.ok (.tuple #[]) w'/\Nc k_ w' m es'/\(∀k',Je es' k'=if k'=k then none else Je es k')/\Upd (λb=>b=m) w w'/\w'.heap.size=w.heap.size/\es'.length<=es.length:=by
 obtain ⟨kt,et,h1,h2,h3⟩:=T.ok
 obtain ⟨⟨c,hh,hc'⟩,hk,hb⟩:=hm
 have hg:(getObj m).run P w=.ok (.map (es.map (Dv.ent k_)).toArray c) w:=by simp [getObj,Sem.run,hh]
 have hc:∀b,(Instr.checkKey b 10000 kt (k_.kv k)).run P w=.ok () w:=λb=>k_.check P kt b 9999 k w h2
 have hset:∀o',(setObj m o').run P w=.ok () { w with heap:=w.heap.setIfInBounds m o' }:=λo'=>by simp [setObj,Sem.run,hh]
 cases hf:es.findIdx? (·.1==k) with
 | none =>
  obtain ⟨u1,u2⟩:=Jp (o':=.map (es.map (Dv.ent k_)).toArray c) hh
  refine ⟨es,_,?_,⟨⟨c,u2,hc'⟩,hk,hb⟩,λk'=>?_,u1,by simp,Nat.le_refl _⟩
  ·simp [Builtin.delete_,run_underlying h1,hg,hc,Iz h2,hf,hset]
  ·by_cases hkk:k'=k
   ·subst hkk;rw [if_pos rfl,Aj9,hf];rfl
   ·rw [if_neg hkk]
 | some j =>
  obtain ⟨hjl,_,_⟩:=List.findIdx?_eq_some_iff_getElem.1 hf
  obtain ⟨u1,u2⟩:=Jp (o':=.map ((es.eraseIdx j).map (Dv.ent k_)).toArray c) hh
  refine ⟨es.eraseIdx j,_,?_,⟨⟨c,u2,λx hx=>hc' x (List.mem_of_mem_eraseIdx hx)⟩,?_,?_⟩,Y0 es k j hk hf,u1,by simp,?_⟩
  ·have e:(es.map (Dv.ent k_)).toArray.eraseIdxIfInBounds j=((es.eraseIdx j).map (Dv.ent k_)).toArray:=by
    apply Array.ext'
    simp [Array.eraseIdxIfInBounds,hjl,Qh]
   simp [Builtin.delete_,run_underlying h1,hg,hc,Iz h2,hf,hset,Qh]
  ·rw [Qh];exact hk.sublist (List.eraseIdx_sublist _ _)
  ·rw [Qh];exact hb.sublist (List.eraseIdx_sublist _ _)
  ·rw [List.length_eraseIdx];split<;>omega
theorem Nc.made (m:Nat) (h:w.heap[m]?=some (.map #[] 0)):Nc k_ w m [] :=
 have _d:=(inferInstance:DecidableEq κ)
 ⟨⟨0,h,λ_ hx=>by cases hx⟩,List.nodup_nil,List.nodup_nil⟩
end
abbrev bv (l:List UInt8):List Value:=l.map λb=>.int .u8 (b.toNat:Int)
theorem Rn (l:List UInt8):∀v∈bv l,Du v=true:=by
 intro v hv
 obtain ⟨x,_,rfl⟩:=List.mem_map.1 hv
 rfl
theorem bytes_eq {a b:ByteArray}:(a.toList==b.toList)=decide (a=b):=by
 rw [Bool.eq_iff_iff,beq_iff_eq,decide_eq_true_eq,ByteArray.toList_eq,ByteArray.toList_eq]
 constructor
 ·intro h
  cases a;cases b
  simp only at h
  congr 1
  exact Array.ext' h
 ·intro h;rw [h]
section
variable {S S':Nat->Prop}{w w':World}{P:Program}
theorem Au2 {ts td e:TypeId}(hs:P.underlying ts=some .string) (hd:P.underlying td=some (.slice e)) (he:P.underlying e=some (.int .u8)){s:ByteArray}{K:Sl->Wp}
  (hK:∀s' w',Cj w' s' e 1 (bv s.data.toList)->Ext w w'->(∀k,s'.blk k->w.heap.size<=k)->K s' w'):Dp P (.one (.one .sl)) (convert ts td (.string s)) K w:=by
 have hr:=run_bytes_of_string (P:=P) w ts td e s hs hd he
 refine ⟨⟨some (at0 w.heap.size),s.size,grownCap w s.size 0 e⟩,_,hr,hK _ _ ⟨by rw [List.length_map,Array.length_toList];exact (Nat.mul_one _).symm,?_,.inr ⟨w.heap.size,0,bytesRow s (grownCap w s.size 0 e),((bytesRow s (grownCap w s.size 0 e)).size,(bytesRow s (grownCap w s.size 0 e)).size+1),rfl,heap_alloc w.drew _,?_,?_⟩⟩ ?_ ?_⟩
 ·show s.size<=grownCap w s.size 0 e
  unfold grownCap;simp only [Question.cut];omega
 ·have h1:s.size<=grownCap w s.size 0 e:=by unfold grownCap;simp only [Question.cut];omega
  have h2:s.data.size=s.size:=rfl
  simp [bytesRow];omega
 ·intro i v hv
  have hlt:=(List.getElem?_eq_some_iff.1 hv).1
  simp only [List.length_map,Array.length_toList] at hlt
  rw [Nat.zero_add]
  unfold bytesRow
  rw [Array.getElem?_append_left (by simpa using hlt)]
  rw [←hv]
  simp
 ·exact (Ext.drew w).trans (Ext.alloc w.drew _)
 ·rintro k ⟨p,hp,rfl⟩;cases hp;exact Nat.le_refl _
theorem Rl {ts tb e:TypeId}(hs:P.underlying tb=some (.slice e)) (he:P.underlying e=some (.int .u8)) (hd:P.underlying ts=some .string){s:Sl}{l:List UInt8}{K:ByteArray->Wp}(h:SlX w s 1 (bv l))
  (hK:K ⟨l.toArray⟩ w):Dp P (.one (.one .str)) (convert tb ts (.slice s.a s.len s.cap)) K w:=by
 have hl:l.length=s.len:=by have:=h.len;simp at this;omega
 rcases h.at_ with ⟨h1,h2⟩|⟨t,h⟩
 ·have hl0:l=[]:=List.length_eq_zero_iff.1 (by omega)
  subst hl0
  refine ⟨⟨#[]⟩,w,?_,hK⟩
  rw [h1]
  cases ha:s.a with
  |none =>
   rw [run_convert_bytes_string w tb ts e none 0 s.cap hs he hd]
   rfl
  |some a =>
   have:=run_convert_bytes_back (P:=P) w tb ts e a s.cap [] hs he hd (λj hj=>by simp at hj)
   exact this
 ·rcases h.at_ with ⟨ha,hc⟩|⟨b,off,c,fr,ha,hb,hcap,hv⟩
  ·have h0:s.len=0:=by have:=h.le;omega
   have hl0:l=[]:=List.length_eq_zero_iff.1 (by omega)
   subst hl0
   refine ⟨⟨#[]⟩,w,?_,hK⟩
   rw [h0,ha,run_convert_bytes_string w tb ts e none 0 s.cap hs he hd]
   rfl
  ·refine ⟨⟨l.toArray⟩,w,?_,hK⟩
   rw [ha,←hl]
   refine run_convert_bytes_back w tb ts e _ s.cap l hs he hd λj hj=>?_
   rw [addr_add]
   exact cell_of hb (hv j _ (by simp [hj]))
theorem Cc5 {tb e:TypeId}(hs:P.underlying tb=some (.slice e)) (he:P.underlying e=some (.int .u8)){b n m:Nat}{c:Array Value}{t:TypeId}{fr:Nat×Nat}{K:Sl->Wp}(hb:w.heap[b]?=some (.cells c t fr))
  (hK:∀w' fr',w'.heap[b]?=some (.cells c t fr')->Upd (λk=>k=b) w w'->K ⟨some (at0 b),n,m⟩ w'):Dp P (.one (.one .sl)) (convert tb tb (.slice (some (at0 b)) n m)) K w:=by
 have hsh:w.shape? b=some (t,c.size):=by simp [World.shape?,hb]
 refine ⟨⟨some (at0 b),n,m⟩,w.freeze ⟨b,c.size,none⟩ 1,?_,?_⟩
 ·simp [convert,run_underlying hs,run_underlying he,markStringish,shape,freeze,Sem.run,hsh,RTy.val,Ty.val,Cell.val]
 ·obtain ⟨lo,hi⟩:=fr
  refine hK _ (if lo==hi then (c.size,c.size+1) else (min lo c.size,max hi (c.size+1))) ?_ ⟨rfl,rfl,rfl,by simp [World.freeze],λk hk hn=>?_⟩
  ·simp [World.freeze,Array.getElem?_modify,hb]
  ·simp only [World.freeze,Array.getElem?_modify]
   rw [if_neg (by decide)]
   simp only
   rw [Array.getElem?_modify,if_neg (λh=>hn h.symm)]
theorem As3 {t:TypeId}{ms:Array (String×TypeId)}(hi:P.underlying t=some (.interface ms)) (n:Nat) (d:TypeId) (v:Value) (w:World):(Op.equalIn (n+1) t (.iface d v) .nilIface).run P w=.ok false w:=by
 simp [Op.equalIn,run_underlying hi]
theorem Ak3 {t:TypeId}{ms:Array (String×TypeId)}(hi:P.underlying t=some (.interface ms)) (n:Nat) (w:World):(Op.equalIn (n+1) t .nilIface .nilIface).run P w=.ok true w:=by
 simp [Op.equalIn,run_underlying hi]
theorem Af8 {t:TypeId}{ms:Array (String×TypeId)}(hi:P.underlying t=some (.interface ms)) (d:TypeId) (v:Value) (w:World):(Op.equalIn Op.maxDepth t (.iface d v) .nilIface).run P w=.ok false w:=As3 hi _ d v w
theorem Y9 {t:TypeId}{ms:Array (String×TypeId)}(hi:P.underlying t=some (.interface ms)) (w:World):(Op.equalIn Op.maxDepth t .nilIface .nilIface).run P w=.ok true w:=Ak3 hi _ w
theorem O8 {t:TypeId}{o1:Operand}{d:TypeId}{v:Value}{K:Bool->Wp}(h:K true w) (hi:∃ms,P.underlying t=some (.interface ms)):rdB P (do eqGuard .neq t o1 (.const .nilIface) (.iface d v) .nilIface;binOp .neq t (.iface d v) .nilIface:Sem Value) K w:=by
 obtain ⟨ms,hi⟩:=hi
 refine ⟨true,?_,h⟩
 simp [eqGuard,binOp,run_underlying hi,Op.equal,Af8 hi]
theorem Kz {t:TypeId}{o1:Operand}{K:Bool->Wp}(h:K false w) (hi:∃ms,P.underlying t=some (.interface ms)):rdB P (do eqGuard .neq t o1 (.const .nilIface) .nilIface .nilIface;binOp .neq t .nilIface .nilIface:Sem Value) K w:=by
 obtain ⟨ms,hi⟩:=hi
 refine ⟨false,?_,h⟩
 simp [eqGuard,binOp,run_underlying hi,Op.equal,Y9 hi]
theorem Kr {t:TypeId}{o1:Operand}{d:TypeId}{v:Value}{K:Bool->Wp}(h:K false w) (hi:∃ms,P.underlying t=some (.interface ms)):rdB P (do eqGuard .eql t o1 (.const .nilIface) (.iface d v) .nilIface;binOp .eql t (.iface d v) .nilIface:Sem Value) K w:=by
 obtain ⟨ms,hi⟩:=hi
 refine ⟨false,?_,h⟩
 simp [eqGuard,binOp,run_underlying hi,Op.equal,Af8 hi]
theorem O9 {t:TypeId}{o1:Operand}{K:Bool->Wp}(h:K true w) (hi:∃ms,P.underlying t=some (.interface ms)):rdB P (do eqGuard .eql t o1 (.const .nilIface) .nilIface .nilIface;binOp .eql t .nilIface .nilIface:Sem Value) K w:=by
 obtain ⟨ms,hi⟩:=hi
 refine ⟨true,?_,h⟩
 simp [eqGuard,binOp,run_underlying hi,Op.equal,Y9 hi]
theorem Bj0 {t e:TypeId}{n:Nat}(hu:P.underlying t=some (.pointer e)) (hs:∀w,(Go.sizeOf e).run P w=.ok n w) (hn:n≠0){p q:Option Addr}(hp:∀a,p=some a->∃c u,w.heap[a.block]?=some (.cells c u (0,0))) (hq:∀a,q=some a->∃c u,w.heap[a.block]?=some (.cells c u (0,0))) (k:Nat) :
  (Op.equalIn (k+1) t (.pointer p) (.pointer q)).run P w=.ok (decide (p=q)) w:=by
 cases p with
 |none=>cases q<;>simp [Op.equalIn,run_underlying hu]
 | some a =>
  cases q with
  |none=>simp [Op.equalIn,run_underlying hu]
  | some b =>
   by_cases hab:a=b
   ·subst hab
    simp [Op.equalIn,run_underlying hu,hs,hn,run_sameAddr_same]
   ·obtain ⟨c,u,ha⟩:=hp a rfl
    obtain ⟨c',u',hb⟩:=hq b rfl
    simp [Op.equalIn,run_underlying hu,hs,hn,hab]
    exact run_sameAddr_other w hab ha hb
theorem Bo7 {t e:TypeId}{n:Nat}(hu:P.underlying t=some (.pointer e)) (hs:∀w,(Go.sizeOf e).run P w=.ok n w) (hn:n≠0){p q:Option Addr}{o1 o2:Operand}{K:Bool->Wp}(hp:∀a,p=some a->∃c u,w.heap[a.block]?=some (.cells c u (0,0))) (hq:∀a,q=some a->∃c u,w.heap[a.block]?=some (.cells c u (0,0)))
  (h:K (decide (p≠q)) w):rdB P (do eqGuard .neq t o1 o2 (.pointer p) (.pointer q);binOp .neq t (.pointer p) (.pointer q):Sem Value) K w:=by
 refine ⟨decide (p≠q),?_,h⟩
 have e:(Op.equal t (.pointer p) (.pointer q)).run P w=.ok (decide (p=q)) w:=Bj0 hu hs hn hp hq 9999
 simp [eqGuard,binOp,e]
theorem Az3 {t:TypeId}{ps rs:Array TypeId}{vr:Bool}(hu:P.underlying t=some (.func ps rs vr)) (g:Fn) (a b:Array Value) (n:Nat):(Op.equalIn (n+1) t (.func g a b) .nilFunc).run P w=.ok false w:=by
 simp [Op.equalIn,run_underlying hu]
theorem As1 {t:TypeId}{ps rs:Array TypeId}{vr:Bool}(hu:P.underlying t=some (.func ps rs vr)) (n:Nat):(Op.equalIn (n+1) t .nilFunc .nilFunc).run P w=.ok true w:=by
 simp [Op.equalIn,run_underlying hu]
theorem Bg5 {t:TypeId}{ps rs:Array TypeId}{vr:Bool}(hu:P.underlying t=some (.func ps rs vr)){o1:Operand}{g:Fn}{a b:Array Value}{K:Bool->Wp}(h:K true w):rdB P (do eqGuard .neq t o1 (.const .nilFunc) (.func g a b) .nilFunc;binOp .neq t (.func g a b) .nilFunc:Sem Value) K w:=by
 refine ⟨true,?_,h⟩
 have e:(Op.equal t (.func g a b) .nilFunc).run P w=.ok false w:=Az3 hu g a b 9999
 simp [eqGuard,binOp,e]
theorem Aw0 {t:TypeId}{ps rs:Array TypeId}{vr:Bool}(hu:P.underlying t=some (.func ps rs vr)){o1:Operand}{K:Bool->Wp}(h:K false w):rdB P (do eqGuard .neq t o1 (.const .nilFunc) .nilFunc .nilFunc;binOp .neq t .nilFunc .nilFunc:Sem Value) K w:=by
 refine ⟨false,?_,h⟩
 have e:(Op.equal t .nilFunc .nilFunc).run P w=.ok true w:=As1 hu 9999
 simp [eqGuard,binOp,e]
end
end Go.Vx
namespace Go.Proofs.YtmooldhpiopcgaaGreatDoor
namespace Cdc
abbrev Bs:=List UInt8
inductive Enc where
 |u8|le|be|l1
 deriving DecidableEq
def Enc.num:Enc->Int
 |.u8=>1
 |.le=>2
 |.be=>3
 |.l1=>4
def Io (c:Nat):Nat×Nat×Nat :=
 if c<128 then (1,0,0) else if c<194 then (0,0,0) else if c<224 then (2,128,191) else if c=224 then (3,160,191) else if c=237 then (3,128,159)
 else if c<240 then (3,128,191) else if c=240 then (4,144,191) else if c<244 then (4,128,191) else if c=244 then (4,128,143) else (0,0,0)
def cont (c:UInt8):Bool:=c.toNat/64==2
def more:Nat->Bs->Nat
 |n+1,b::r=>if cont b then more n r+1 else 0
 |_,_=>0
def rowOf:Bs->Nat×Nat
 |[]=>(0,0)
 |b::r=>if (Io b.toNat).1<2 then ((Io b.toNat).1,(Io b.toNat).1) else
  match r with
  |[]=>(1,(Io b.toNat).1)
  |c::r'=>if c.toNat<(Io b.toNat).2.1\/(Io b.toNat).2.2<c.toNat then (1,(Io b.toNat).1) else (2+more ((Io b.toNat).1-2) r',(Io b.toNat).1)
def lead (n c:Nat):Nat:=if n=2 then c%32 else if n=3 then c%16 else if n=4 then c%8 else c
def rest (a:Nat) (l:Bs):Nat:=l.foldl (λa c=>a*64+c.toNat%64) a
def nx8:Bs->Int×Nat
 |[]=>(0,0)
 |b::r=>if (rowOf (b::r)).2=0\/(rowOf (b::r)).1<(rowOf (b::r)).2 then (-1-(b.toNat:Int),1)
  else ((rest (lead (rowOf (b::r)).2 b.toNat) (r.take ((rowOf (b::r)).2-1)):Nat),(rowOf (b::r)).2)
def un (be:Bool) (a b:UInt8):Nat:=if be then b.toNat+a.toNat*256 else a.toNat+b.toNat*256
def Lc (be:Bool):Bs->Int×Nat
 |[]=>(0,0)
 |[b]=>(-1-(b.toNat:Int),1)
 | a::b::r=>if un be a b/1024=54 then
   match r with
   |c::d::_=>if un be c d/1024=55 then (65536+((un be a b%1024*1024+un be c d%1024:Nat):Int),4) else ((un be a b:Nat),2)
   |_=>((un be a b:Nat),2)
  else ((un be a b:Nat),2)
def nx1:Bs->Int×Nat
 |[]=>(0,0)
 |b::_=>((b.toNat:Int),1)
def nx:Enc->Bs->Int×Nat
 |.u8,l=>nx8 l
 |.le,l=>Lc false l
 |.be,l=>Lc true l
 |.l1,l=>nx1 l
theorem Al5 (c:Nat):(Io c).1<=4:=by
 unfold Io;repeat' split
 all_goals simp
theorem Aj6:∀(n:Nat) (l:Bs),more n l<=n/\more n l<=l.length
 |0,l=>by cases l<;>simp [more]
 |n+1,[]=>by simp [more]
 |n+1,b::r=>by
  have:=Aj6 n r
  simp only [more]
  split<;>simp<;>omega
theorem Ae6:∀(n:Nat) (l:Bs) (k:Nat),more n (l.take k)=min k (more n l)
 |0,l,k=>by cases l<;>cases k<;>simp [more]
 |n+1,[],k=>by simp [more]
 |n+1,b::r,0=>by simp [more]
 |n+1,b::r,k+1=>by
  simp only [List.take_succ_cons,more]
  split
  ·rw [Ae6 n r k];omega
  ·simp
theorem Oc (b:UInt8) (r:Bs):(rowOf (b::r)).2=(Io b.toNat).1:=by
 simp only [rowOf]
 repeat' split
 all_goals rfl
theorem O6 (b:UInt8) (r:Bs):(rowOf (b::r)).1<=(b::r).length/\(rowOf (b::r)).1<=max 1 (rowOf (b::r)).2:=by
 simp only [rowOf]
 split
 ·simp;omega
 ·split
  ·simp;omega
  ·rename_i c r'
   split
   ·simp;omega
   ·have:=Aj6 ((Io b.toNat).1-2) r'
    simp;omega
theorem Av5 (b:UInt8) (r:Bs) (k:Nat):(rowOf (b::r.take k)).1<=(rowOf (b::r)).1/\((rowOf (b::r)).1<=k+1->(rowOf (b::r.take k)).1=(rowOf (b::r)).1):=by
 simp only [rowOf]
 split
 ·simp
 ·rename_i h2
  cases r with
  |nil=>simp
  | cons c r' =>
   cases k with
   |zero =>
    simp only [List.take_zero]
    split
    ·simp
    ·simp;omega
   |succ k =>
    simp only [List.take_succ_cons]
    split
    ·simp
    ·simp only [Ae6];omega
theorem Q7 (b:UInt8) (r:Bs):1<=(nx8 (b::r)).2/\(nx8 (b::r)).2<=(b::r).length/\(nx8 (b::r)).2<=4:=by
 have h1:=O6 b r
 have h2:=Oc b r
 have h3:=Al5 b.toNat
 simp only [nx8]
 split
 ·simp
 ·simp only;omega
theorem Bq3 (b:UInt8) (r:Bs) (k:Nat) (h:(nx8 (b::r)).2<=k+1):nx8 (b::r.take k)=nx8 (b::r):=by
 have h1:=Av5 b r k
 have h2:=Oc b r
 have h3:=Oc b (r.take k)
 have h4:=O6 b r
 simp only [nx8] at h ⊢
 rw [h3,←h2]
 split at h
 ·rename_i hc
  have:(rowOf (b::r)).2=0\/(rowOf (b::List.take k r)).1<(rowOf (b::r)).2:=by omega
  rw [if_pos this,if_pos hc]
 ·rename_i hc
  simp only at h
  rw [if_neg hc,if_neg (by omega),List.take_take,Nat.min_eq_left (by omega)]
theorem Ae4 (be:Bool) (b:UInt8) (r:Bs):1<=(Lc be (b::r)).2/\(Lc be (b::r)).2<=(b::r).length/\(Lc be (b::r)).2<=4:=by
 cases r with
 |nil=>simp [Lc]
 | cons c r =>
  simp only [Lc]
  split
  ·split
   ·split<;>simp
   ·simp
  ·simp
theorem Ae3 (be:Bool) (b:UInt8) (r:Bs) (k:Nat) (h:(Lc be (b::r)).2<=k+1):Lc be (b::r.take k)=Lc be (b::r):=by
 cases r with
 |nil=>simp [Lc]
 | cons c r =>
  have hs:1<(Lc be (b::c::r)).2:=by
   simp only [Lc]
   split
   ·split
    ·split<;>simp
    ·simp
   ·simp
  obtain ⟨k,rfl⟩:∃k',k=k'+1:=⟨k-1,by omega⟩
  simp only [List.take_succ_cons,Lc] at h ⊢
  split
  ·rename_i hu
   rw [if_pos hu] at h
   match r,k with
   |[],k=>simp
   |[_],0=>simp
   |[_],k+1=>simp
   |c::d::r,0 =>
    simp only at h ⊢
    split at h
    ·simp at h
    ·rename_i h55;simp [h55]
   |c::d::r,1 =>
    simp only at h ⊢
    split at h
    ·simp at h
    ·rename_i h55;simp [h55]
   |c::d::r,k+2=>simp
  ·rfl
theorem Wv (e:Enc){l:Bs}(h:l≠[]):1<=(nx e l).2/\(nx e l).2<=l.length/\(nx e l).2<=4:=by
 cases l with
 |nil=>exact absurd rfl h
 |cons b r =>
  cases e with
  |u8=>exact Q7 b r
  |le=>exact Ae4 _ b r
  |be=>exact Ae4 _ b r
  |l1=>simp [nx,nx1]
theorem By3 (e:Enc){l:Bs}{k:Nat}(h:l≠[]) (hk:(nx e l).2<=k):nx e (l.take k)=nx e l:=by
 cases l with
 |nil=>exact absurd rfl h
 |cons b r =>
  have hs:=(Wv e h).1
  obtain ⟨k,rfl⟩:∃k',k=k'+1:=⟨k-1,by omega⟩
  rw [List.take_succ_cons]
  cases e with
  |u8=>exact Bq3 b r k hk
  |le=>exact Ae3 _ b r k hk
  |be=>exact Ae3 _ b r k hk
  |l1=>rfl
def ats (e:Enc) (l:Bs):List (Int×Nat) :=
 if h:l=[] then [] else nx e l::ats e (l.drop (nx e l).2)
termination_by l.length
decreasing_by
  have h1:=Wv e h
  have:0<l.length:=List.length_pos_iff.2 h
  simp only [List.length_drop];omega
theorem Lu (e:Enc):ats e []=[]:=by rw [ats];simp
theorem Ot (e:Enc){l:Bs}(h:l≠[]):ats e l=nx e l::ats e (l.drop (nx e l).2):=by rw [ats];simp [h]
def szs (l:List (Int×Nat)):Nat:=(l.map (·.2)).sum
theorem Ah7:szs []=0:=rfl
theorem Md (x:Int×Nat) (l:List (Int×Nat)):szs (x::l)=x.2+szs l:=by simp [szs]
theorem Dl (l m:List (Int×Nat)):szs (l++m)=szs l+szs m:=by simp [szs]
theorem Bv6 (e:Enc):∀(n:Nat) (l:Bs),l.length<=n->szs (ats e l)=l.length:=by
 intro n
 induction n with
 |zero=>intro l h;obtain rfl:l=[]:=List.length_eq_zero_iff.1 (by omega);simp [Lu,szs]
 | succ n ih =>
  intro l h
  by_cases hl:l=[]
  ·subst hl;simp [Lu,szs]
  ·have h1:=Wv e hl
   have:0<l.length:=List.length_pos_iff.2 hl
   rw [Ot e hl,Md,ih _ (by simp only [List.length_drop];omega),List.length_drop]
   omega
theorem Jj (e:Enc) (l:Bs):szs (ats e l)=l.length:=Bv6 e _ l (Nat.le_refl _)
theorem Ro (e:Enc):∀(j:Nat) (l:Bs),ats e (l.take (szs ((ats e l).take j)))=(ats e l).take j/\ats e (l.drop (szs ((ats e l).take j)))=(ats e l).drop j:=by
 intro j
 induction j with
 |zero=>intro l;simp [szs,Lu]
 | succ j ih =>
  intro l
  by_cases hl:l=[]
  ·subst hl;simp [Lu]
  ·have h1:=Wv e hl
   obtain ⟨g1,g2⟩:=ih (l.drop (nx e l).2)
   rw [Ot e hl]
   simp only [List.take_succ_cons,List.drop_succ_cons,Md]
   generalize hm:szs ((ats e (l.drop (nx e l).2)).take j)=m at g1 g2 ⊢
   have hne:l.take ((nx e l).2+m)≠[]:=by
    have:0<l.length:=List.length_pos_iff.2 hl
    intro hc
    have:=congrArg List.length hc
    rw [List.length_take,List.length_nil] at this;omega
   constructor
   ·rw [Ot e hne,By3 e hl (by omega),List.drop_take]
    have:(nx e l).2+m-(nx e l).2=m:=by omega
    rw [this,g1]
   ·rw [←List.drop_drop,g2]
theorem Cb3 (e:Enc):∀(n:Nat) (l:Bs),l.length<=n->∀x∈ats e l,1<=x.2/\x.2<=4:=by
 intro n
 induction n with
 |zero=>intro l h x hx;obtain rfl:l=[]:=List.length_eq_zero_iff.1 (by omega);rw [Lu] at hx;cases hx
 | succ n ih =>
  intro l h x hx
  by_cases hl:l=[]
  ·subst hl;rw [Lu] at hx;cases hx
  ·have h1:=Wv e hl
   have:0<l.length:=List.length_pos_iff.2 hl
   rw [Ot e hl] at hx
   rcases List.mem_cons.1 hx with rfl|hx
   ·exact ⟨h1.1,h1.2.2⟩
   ·exact ih _ (by simp only [List.length_drop];omega) x hx
end Cdc
end Go.Proofs.YtmooldhpiopcgaaGreatDoor
namespace Go.Proofs.YtmooldhpiopcgaaGreatDoor.Flp
open Go Cdc
def fi (n:Int):Nat:=FloatKind.f64.nearest n
def dv (a b:Nat):Nat:=(FloatKind.f64.format.div a b).getD 0
def sb (a b:Nat):Nat:=(FloatKind.f64.format.sub a b).getD 0
def ge (a b:Nat):Bool:=FloatKind.f64.format.order a b==some .gt||FloatKind.f64.format.order a b==some .eq
def le (a b:Nat):Bool:=FloatKind.f64.format.order a b==some .lt||FloatKind.f64.format.order a b==some .eq
def B52:Nat:=4503599627370496
theorem b52:0<B52:=by decide
theorem Ay6:Ieee.double.infRung=2047*B52:=by decide
theorem Bn7:Ieee.double.signWeight=2048*B52:=by decide
theorem Bt8:Ieee.double.binade=B52:=by decide
theorem Aq6:Ieee.double.leastPlace=-1074:=by decide
theorem Bz9:(Ieee.double.fractionBits:Int)=52:=rfl
attribute [local irreducible] B52
theorem By4 (neg:Bool) (mag:Nat) (place:Int):∃r,r<=2047*B52/\Ieee.double.nearest neg mag place=Ieee.double.word neg r:=by
 unfold Ieee.Format.nearest
 split
 ·exact ⟨0,Nat.zero_le _,rfl⟩
 ·exact ⟨_,by rw [Ay6];exact Nat.min_le_right _ _,rfl⟩
theorem Bl4 (neg:Bool){r:Nat}(h:r<2048*B52):(Ieee.double.word neg r)%Ieee.double.signWeight=r:=by
 unfold Ieee.Format.word
 rw [Bn7]
 split
 ·rw [Nat.add_mod_left,Nat.mod_eq_of_lt h]
 ·exact Nat.mod_eq_of_lt h
theorem Bl5 (neg:Bool){r:Nat}(h:r<2048*B52):(Ieee.double.word neg r/Ieee.double.signWeight%2==1)=neg:=by
 unfold Ieee.Format.word
 rw [Bn7]
 have hb:=b52
 cases neg
 ·rw [if_neg (by decide),Nat.div_eq_of_lt h];rfl
 ·rw [if_pos rfl,Nat.add_div_left _ (by omega),Nat.div_eq_of_lt h];rfl
theorem Xu (neg:Bool){r:Nat}(h:r<=2047*B52):(∃m p,Ieee.double.read (Ieee.double.word neg r)=.number neg m p/\(r≠0->m≠0))\/(r=2047*B52/\Ieee.double.read (Ieee.double.word neg r)=.infinity neg):=by
 have hb:=b52
 have hr:r<2048*B52:=by omega
 have e1:=Bl4 neg hr
 have e2:=Bl5 neg hr
 unfold Ieee.Format.read
 simp only [e1,e2]
 rw [Bt8,Ay6]
 by_cases h1:r<B52
 ·rw [if_pos h1];exact .inl ⟨_,_,rfl,id⟩
 rw [if_neg h1]
 by_cases h2:r<2047*B52
 ·rw [if_pos h2]
  exact .inl ⟨_,_,rfl,λ_=>by omega⟩
 rw [if_neg h2]
 have h3:r=2047*B52:=by omega
 rw [if_pos h3]
 exact .inr ⟨h3,rfl⟩
theorem Cm0 (n:Int):fi n=Ieee.double.nearest (n<0) n.natAbs 0:=rfl
theorem Cg6 (x:Nat):Ieee.Toward.even.cut false x 0<=x+1:=by
 unfold Ieee.Toward.cut
 have:min 0 (x.log2+2)=0:=Nat.zero_min _
 simp only [this,Nat.shiftLeft_zero,Nat.div_one]
 have h:∀b:Bool,b.toNat<=1:=λb=>by cases b<;>decide
 exact Nat.add_le_add_left (h _) _
theorem fits {B L c:Nat}(hB:2<B) (hL:L<40) (hc:c<=2*B+1):min ((L+1022)*B+c) (2047*B)≠0/\min ((L+1022)*B+c) (2047*B)<2047*B:=by
 have h1:(L+1022)*B=L*B+1022*B:=Nat.add_mul _ _ _
 have h2:L*B<=40*B:=Nat.mul_le_mul_right _ (by omega)
 omega
theorem By5 {mag:Nat}(h:mag≠0) (hl:mag.log2<40):∃c,c<=mag <<< (52-mag.log2)+1/\Ieee.double.nearest false mag 0=Ieee.double.word false (min ((mag.log2+1022)*B52+c) (2047*B52)):=by
 refine ⟨_,Cg6 _,?_⟩
 unfold Ieee.Format.nearest
 rw [if_neg h]
 have el:max ((0:Int)+(mag.log2:Int)-(Ieee.double.fractionBits:Int)) Ieee.double.leastPlace=(mag.log2:Int)-52:=by
  rw [Bz9,Aq6];omega
 simp only [el]
 rw [Aq6,Bt8,Ay6]
 rw [show (0-((mag.log2:Int)-52)).toNat=52-mag.log2 by omega,show ((mag.log2:Int)-52-0).toNat=0 by omega,show ((mag.log2:Int)-52 - -1074).toNat=mag.log2+1022 by omega]
theorem Ce3 {k:Nat}(hz:k≠0) (hl:k.log2<40):k <<< (52-k.log2)<2*B52:=by
 rw [Nat.shiftLeft_eq]
 have hlt:k<2^(k.log2+1):=Nat.lt_log2_self
 have h2:2^(k.log2+1)*2^(52-k.log2)=2^53:=by
  rw [←Nat.pow_add,show k.log2+1+(52-k.log2)=53 by omega]
 have h3:(2:Nat)^53=2*B52:=by unfold B52;rfl
 rw [←h3,←h2]
 exact Nat.mul_lt_mul_of_pos_right hlt (Nat.two_pow_pos _)
theorem Bs7 {n:Int}(h0:0<=n) (h1:n<1099511627776):∃m p,Ieee.double.read (fi n)=.number false m p/\(n≠0->m≠0):=by
 obtain ⟨k,rfl⟩:=Int.eq_ofNat_of_zero_le h0
 have hn:decide ((k:Int)<0)=false:=decide_eq_false (by omega)
 rw [Cm0,hn,Int.natAbs_natCast]
 by_cases hz:k=0
 ·subst hz
  rcases Xu false (r:=0) (Nat.zero_le _) with ⟨m,p,h,_⟩|⟨h,_⟩
  ·exact ⟨m,p,h,λh=>absurd rfl h⟩
  ·have:=b52;omega
 have hl:k.log2<40:=(Nat.log2_lt hz).2 (by omega)
 obtain ⟨c,hc,e⟩:=By5 hz hl
 have hx:=Ce3 hz hl
 have hB:2<B52:=by unfold B52;decide
 obtain ⟨r0,r1⟩:=fits hB hl (c:=c) (by omega)
 rw [e]
 rcases Xu false (Nat.le_of_lt r1) with ⟨m,p,h,hm⟩|⟨h,_⟩
 ·exact ⟨m,p,h,λ_=>hm r0⟩
 ·omega
theorem Bd5 {a b:Int}(ha:0<=a/\a<1099511627776) (hb:0<b/\b<1099511627776):FloatKind.f64.format.div (fi a) (fi b)=some (dv (fi a) (fi b))/\∃d,Ieee.double.read (dv (fi a) (fi b))=d/\((∃s m p,d=.number s m p)\/∃s,d=.infinity s):=by
 obtain ⟨m,p,h1,_⟩:=Bs7 ha.1 ha.2
 obtain ⟨m',p',h2,h3⟩:=Bs7 (by omega) hb.2
 have h3:=h3 (by omega)
 have e:FloatKind.f64.format.div (fi a) (fi b)=some (dv (fi a) (fi b))/\∃s x y,dv (fi a) (fi b)=Ieee.double.nearest s x y:=by
  unfold dv
  have hd:FloatKind.f64.format.div (fi a) (fi b)=(((Ieee.double.read (fi a)).quotient (Ieee.double.fractionBits+2) (Ieee.double.read (fi b))).map Ieee.double.write):=rfl
  rw [hd,h1,h2]
  unfold Ieee.Datum.quotient
  simp only [if_neg h3,Option.map_some,Option.getD_some]
  exact ⟨by first|rfl|trivial,_,_,_,rfl⟩
 refine ⟨e.1,_,rfl,?_⟩
 obtain ⟨s,x,y,e⟩:=e.2
 rw [e]
 obtain ⟨r,hr,er⟩:=By4 s x y
 rw [er]
 rcases Xu s hr with ⟨m,p,h,_⟩|⟨_,h⟩
 ·exact .inl ⟨_,_,_,h⟩
 ·exact .inr ⟨_,h⟩
theorem one_num:∃m p,Ieee.double.read 4607182418800017408=.number false m p:=⟨4503599627370496,-52,by decide +kernel⟩
theorem Bw3 {a b:Int}(ha:0<=a/\a<1099511627776) (hb:0<b/\b<1099511627776):FloatKind.f64.format.sub 4607182418800017408 (dv (fi a) (fi b))=some (sb 4607182418800017408 (dv (fi a) (fi b))):=by
 obtain ⟨_,d,h1,h2⟩:=Bd5 ha hb
 obtain ⟨m,p,h3⟩:=one_num
 unfold sb
 have hd:FloatKind.f64.format.sub 4607182418800017408 (dv (fi a) (fi b))=(((Ieee.double.read 4607182418800017408).sum (Ieee.double.read (dv (fi a) (fi b))).opposite).map Ieee.double.write):=rfl
 rw [hd,h1,h3]
 rcases h2 with ⟨s,m',p',rfl⟩|⟨s,rfl⟩
 ·rfl
 ·rfl
def zc (l:List UInt8) (a u:Nat):Nat:=((List.range u).filter λj=>l.getD (a+2*j) 1==0).length
theorem Bu8 (l:List UInt8) (a u:Nat):zc l a (u+1)=zc l a u+if l.getD (a+2*u) 1=0 then 1 else 0:=by
 unfold zc
 rw [List.range_succ,List.filter_append,List.length_append]
 congr 1
 rw [List.filter_cons]
 by_cases h:l.getD (a+2*u) 1=0
 ·rw [if_pos h,h];rfl
 ·rw [if_neg h,if_neg (by simpa using h)];rfl
theorem Cb9 (l:List UInt8) (a u:Nat):zc l a u<=u:=by
 unfold zc
 have:=List.length_filter_le (λj=>l.getD (a+2*j) 1==0) (List.range u)
 simpa using this
def hrK:Nat->List UInt8->Nat×Nat
 |0,_=>(0,0)
 |_+1,[]=>(0,0)
 |n+1,b::r=>((if 128<=b.toNat then (nx8 (b::r)).2 else 0)+(hrK n ((b::r).drop (nx8 (b::r)).2)).1,(if (nx8 (b::r)).1<0 then 1 else 0)+(hrK n ((b::r).drop (nx8 (b::r)).2)).2)
def Ol (l:List UInt8):Int×Nat :=
 let u:=l.length/2
 let hi:=dv (fi (zc l 0 u)) (fi u)
 let lo:=dv (fi (zc l 1 u)) (fi u)
 if 0<u/\ge lo 4602678819172646912=true/\le hi 4593671619917905920=true then (2,lo) else
 if 0<u/\ge hi 4602678819172646912=true/\le lo 4593671619917905920=true then (3,hi) else
 let x:=hrK l.length l
 if x.2=0 then (1,4607182418800017408) else
 let good:=dv (fi ((x.1:Int)-x.2)) (fi x.1)
 if ge good 4604930618986332160=true then (1,good) else (4,sb 4607182418800017408 good)
theorem Cg3 (n:Nat):hrK n []=(0,0):=by cases n<;>rfl
theorem Bs1:∀(n:Nat) (l:List UInt8),(hrK n l).2<=(hrK n l).1/\(hrK n l).1<=l.length
 |0,l=>⟨Nat.le_refl _,Nat.zero_le _⟩
 |n+1,[]=>⟨Nat.le_refl _,Nat.zero_le _⟩
 | n+1,b::r=>by
  obtain ⟨h1,h2⟩:=Bs1 n ((b::r).drop (nx8 (b::r)).2)
  obtain ⟨s1,s2,s3⟩:=Q7 b r
  have h3:(nx8 (b::r)).1<0->128<=b.toNat:=λh=>Decidable.byContradiction λhb=>by
   have hb:b.toNat<128:=by omega
   have e:Io b.toNat=(1,0,0):=by unfold Io;rw [if_pos (by omega)]
   have er:rowOf (b::r)=(1,1):=by simp only [rowOf,e];rfl
   simp only [nx8,er] at h
   rw [if_neg (by omega)] at h
   have:(0:Int)<=((rest (lead 1 b.toNat) (r.take (1-1)):Nat):Int):=Int.natCast_nonneg _
   omega
  rw [List.length_drop] at h2
  simp only [hrK]
  constructor
  ·split
   ·rw [if_pos (h3 ‹_›)];omega
   ·omega
  ·split<;>omega
theorem Ar2 (l:List UInt8):1<=(Ol l).1/\(Ol l).1<=4:=by
 have h:(Ol l).1=1\/(Ol l).1=2\/(Ol l).1=3\/(Ol l).1=4:=by
  unfold Ol
  simp only
  repeat' split
  ·exact .inr (.inl rfl)
  ·exact .inr (.inr (.inl rfl))
  ·exact .inl rfl
  ·exact .inl rfl
  ·exact .inr (.inr (.inr rfl))
 omega
end Go.Proofs.YtmooldhpiopcgaaGreatDoor.Flp
set_option maxRecDepth 100000
namespace Go.Proofs.YtmooldhpiopcgaaGreatDoor
open Go Go.Vx
abbrev c32:List Cell:=[.int .i64,.int .i64,.sl,.bool]
abbrev c39:List Cell:=[.sl,.str,.int .i64,.sl]
abbrev c47:List Cell:=[.ptr,.ptr,.int .i64,.int .i64,.sl,.bool,.sl,.bool]
abbrev c56:List Cell:=[.int .i64,.int .i64,.int .i64]
abbrev c57:List Cell:=[.int .i64,.int .i64,.int .i64]
abbrev c65:List Cell:=[.str,.sl]
abbrev c72:List Cell:=[.int .i64,.sl]
abbrev c81:List Cell:=[.int .i64,.sl]
abbrev c86:List Cell:=[.sl,.sl]
abbrev c89:List Cell:=[.int .i64,.int .i64,.sl]
abbrev Co0:List Cell:=[.str,.str,.int .i64,.any]
abbrev c107:List Cell:=[.int .i64,.map,.map,.sl,.int .i64,.bool,.map,.int .i64]
abbrev Cn9:List Cell:=[.ptr,.str,.sl,.int .i64,.int .i64,.int .i64,.int .i64,.int .i64,.int .i64]
abbrev c119:List Cell:=[.sl,.sl]
abbrev Cn8:List Cell:=[.int .i64,.sl,.int .i64,.int .i64]
abbrev c127:List Cell:=[.ptr,.str]
abbrev Gj:List Cell:=[.int .i64,.int .i64,.int .i64,.int .i64,.sl]
abbrev c139:List Cell:=[.ptr]
abbrev c141:List Cell:=[.int .i64,.int .i64,.ptr,.sl]
abbrev Bf:List Cell:=[.int .i64,.int .i64,.int .i64,.bool,.bool]
abbrev c146:List Cell:=[.sl,.int .i64,.int .i64,.int .i64,.int .i64,.bool,.bool]
abbrev c154:List Cell:=[.ptr,.ptr]
abbrev c156:List Cell:=[.ptr,.ptr]
abbrev Cn7:List Cell:=[.ptr,.ptr,.ptr,.ptr,.ptr,.ptr,.sl]
abbrev c162:List Cell:=[.int .i64,.int .i64,.str,.str,.int .i64,.int .i64,.bool,.sl,.sl,.int .i64,.sl]
abbrev Ba1:List Cell:=[]
abbrev Cn6:List Cell:=[.ptr,.ptr,.sl,.int .i64,.int .i64,.int .i64,.int .i64,.bool,.bool,.int .i64,.int .i64,.int .i64,.int .i64,.int .i64,.bool,.bool]
abbrev Lj:List Cell:=[.ptr,.any,.int .u64]
abbrev Cn5:List Cell:=[.int .i64,.sl,.sl,.sl,.bool,.sl,.int .i64]
abbrev Ci0:List Cell:=[.int .i64,.int .i64,.sl,.bool]
abbrev Cn4:List Cell:=[.ptr,.str,.sl,.int .i64,.int .i64,.int .i64,.int .i64,.int .i64,.int .i64]
abbrev Cn3:List Cell:=[.int .i64,.sl,.int .i64,.int .i64,.int .i64,.int .i64,.int .i64]
abbrev Cn2:List Cell:=[.str,.str,.str,.sl]
abbrev Cn1:List Cell:=[.str,.int .i64]
abbrev Rz:List Cell:=[.int .i64]
abbrev Bt4:List Cell:=[]
abbrev Cn0:List Cell:=[.sl,.int .i64,.int .i64]
abbrev Cm9:List Cell:=[.str,.str,.int .i64]
abbrev Cm8:List Cell:=[.int .i64,.int .i64]
abbrev Cm7:List Cell:=[.int .i64,.int .i64,.int .i64,.int .i64,.int .i64]
abbrev Cm6:List Cell:=[.int .u8,.int .u8,.int .u8,.int .u8,.int .u8]
abbrev Cm5:List Cell:=[.int .u8,.int .u8]
def i0:Inf:=⟨Tryz.t0.desc,Tryz.t0.size,Tryz.t0.bytes,Tryz.t0.zero,(.one .any),(.tup [])⟩
theorem C0:Ak Tryz.prog 0 i0:=by constructor<;>kernel_rfl
def i3:Inf:=⟨Tryz.t3.desc,Tryz.t3.size,Tryz.t3.bytes,Tryz.t3.zero,(.one (.int .i64)),(.one (.one (.int .i64)))⟩
theorem C3:Ak Tryz.prog 3 i3:=by constructor<;>kernel_rfl
def i4:Inf:=⟨Tryz.t4.desc,Tryz.t4.size,Tryz.t4.bytes,Tryz.t4.zero,(.one .bool),(.one (.one .bool))⟩
theorem C4:Ak Tryz.prog 4 i4:=by constructor<;>kernel_rfl
def i5:Inf:=⟨Tryz.t5.desc,Tryz.t5.size,Tryz.t5.bytes,Tryz.t5.zero,(.one (.int .u8)),(.one (.one (.int .u8)))⟩
theorem C5:Ak Tryz.prog 5 i5:=by constructor<;>kernel_rfl
def i9:Inf:=⟨Tryz.t9.desc,Tryz.t9.size,Tryz.t9.bytes,Tryz.t9.zero,(.one .str),(.one (.one .str))⟩
theorem C9:Ak Tryz.prog 9 i9:=by constructor<;>kernel_rfl
def i20:Inf:=⟨Tryz.t20.desc,Tryz.t20.size,Tryz.t20.bytes,Tryz.t20.zero,(.one .any),(.one (.one .any))⟩
theorem C20:Ak Tryz.prog 20 i20:=by constructor<;>kernel_rfl
def i21:Inf:=⟨Tryz.t21.desc,Tryz.t21.size,Tryz.t21.bytes,Tryz.t21.zero,(.one (.int .i32)),(.one (.one (.int .i32)))⟩
theorem C21:Ak Tryz.prog 21 i21:=by constructor<;>kernel_rfl
def i24:Inf:=⟨Tryz.t24.desc,Tryz.t24.size,Tryz.t24.bytes,Tryz.t24.zero,(.one .ptr),(.one (.one .ptr))⟩
theorem C24:Ak Tryz.prog 24 i24:=by constructor<;>kernel_rfl
def i26:Inf:=⟨Tryz.t25.desc,Tryz.t26.size,Tryz.t26.bytes,Tryz.t26.zero,(.one .any),(.one (.one .any))⟩
theorem C26:Ak Tryz.prog 26 i26:=by constructor<;>kernel_rfl
def i27:Inf:=⟨Tryz.t27.desc,Tryz.t27.size,Tryz.t27.bytes,Tryz.t27.zero,(.one .any),(.tup [(.one .ptr),(.one .any)])⟩
theorem C27:Ak Tryz.prog 27 i27:=by constructor<;>kernel_rfl
def i29:Inf:=⟨Tryz.t29.desc,Tryz.t29.size,Tryz.t29.bytes,Tryz.t29.zero,(.one .ptr),(.one (.one .ptr))⟩
theorem C29:Ak Tryz.prog 29 i29:=by constructor<;>kernel_rfl
def i30:Inf:=⟨Tryz.t30.desc,Tryz.t30.size,Tryz.t30.bytes,Tryz.t30.zero,(.one .sl),(.one (.one .sl))⟩
theorem C30:Ak Tryz.prog 30 i30:=by constructor<;>kernel_rfl
def i32:Inf:=⟨Tryz.t31.desc,Tryz.t32.size,Tryz.t32.bytes,Tryz.t32.zero,(.agg c32),(.one (.agg c32))⟩
theorem C32:Ak Tryz.prog 32 i32:=by constructor<;>kernel_rfl
def i33:Inf:=⟨Tryz.t3.desc,Tryz.t33.size,Tryz.t33.bytes,Tryz.t33.zero,(.one (.int .i64)),(.one (.one (.int .i64)))⟩
theorem C33:Ak Tryz.prog 33 i33:=by constructor<;>kernel_rfl
def i34:Inf:=⟨Tryz.t34.desc,Tryz.t34.size,Tryz.t34.bytes,Tryz.t34.zero,(.one .any),(.tup [(.one .ptr),(.agg c32),(.one (.int .i64))])⟩
theorem C34:Ak Tryz.prog 34 i34:=by constructor<;>kernel_rfl
def i37:Inf:=⟨Tryz.t37.desc,Tryz.t37.size,Tryz.t37.bytes,Tryz.t37.zero,(.one .sl),(.one (.one .sl))⟩
theorem C37:Ak Tryz.prog 37 i37:=by constructor<;>kernel_rfl
def i39:Inf:=⟨Tryz.t38.desc,Tryz.t39.size,Tryz.t39.bytes,Tryz.t39.zero,(.agg c39),(.one (.agg c39))⟩
theorem C39:Ak Tryz.prog 39 i39:=by constructor<;>kernel_rfl
def i42:Inf:=⟨Tryz.t42.desc,Tryz.t42.size,Tryz.t42.bytes,Tryz.t42.zero,(.one .any),(.tup [(.one .ptr),(.one .bool)])⟩
theorem C42:Ak Tryz.prog 42 i42:=by constructor<;>kernel_rfl
def i47:Inf:=⟨Tryz.t46.desc,Tryz.t47.size,Tryz.t47.bytes,Tryz.t47.zero,(.agg c47),(.one (.agg c47))⟩
theorem C47:Ak Tryz.prog 47 i47:=by constructor<;>kernel_rfl
def i48:Inf:=⟨Tryz.t48.desc,Tryz.t48.size,Tryz.t48.bytes,Tryz.t48.zero,(.one .any),(.tup [(.one (.int .i64)),(.one (.int .i64))])⟩
theorem C48:Ak Tryz.prog 48 i48:=by constructor<;>kernel_rfl
def i51:Inf:=⟨Tryz.t51.desc,Tryz.t51.size,Tryz.t51.bytes,Tryz.t51.zero,(.one .ptr),(.one (.one .ptr))⟩
theorem C51:Ak Tryz.prog 51 i51:=by constructor<;>kernel_rfl
def i56:Inf:=⟨Tryz.t56.desc,Tryz.t56.size,Tryz.t56.bytes,Tryz.t56.zero,(.agg c56),(.one (.agg c56))⟩
theorem C56:Ak Tryz.prog 56 i56:=by constructor<;>kernel_rfl
def i57:Inf:=⟨Tryz.t56.desc,Tryz.t57.size,Tryz.t57.bytes,Tryz.t57.zero,(.agg c57),(.one (.agg c57))⟩
theorem C57:Ak Tryz.prog 57 i57:=by constructor<;>kernel_rfl
def i60:Inf:=⟨Tryz.t60.desc,Tryz.t60.size,Tryz.t60.bytes,Tryz.t60.zero,(.one .any),(.tup [(.agg c57),(.one .any)])⟩
theorem C60:Ak Tryz.prog 60 i60:=by constructor<;>kernel_rfl
def i65:Inf:=⟨Tryz.t64.desc,Tryz.t65.size,Tryz.t65.bytes,Tryz.t65.zero,(.agg c65),(.one (.agg c65))⟩
theorem C65:Ak Tryz.prog 65 i65:=by constructor<;>kernel_rfl
def i69:Inf:=⟨Tryz.t69.desc,Tryz.t69.size,Tryz.t69.bytes,Tryz.t69.zero,(.one .sl),(.one (.one .sl))⟩
theorem C69:Ak Tryz.prog 69 i69:=by constructor<;>kernel_rfl
def i70:Inf:=⟨Tryz.t70.desc,Tryz.t70.size,Tryz.t70.bytes,Tryz.t70.zero,(.one .sl),(.one (.one .sl))⟩
theorem C70:Ak Tryz.prog 70 i70:=by constructor<;>kernel_rfl
def i72:Inf:=⟨Tryz.t71.desc,Tryz.t72.size,Tryz.t72.bytes,Tryz.t72.zero,(.agg c72),(.one (.agg c72))⟩
theorem C72:Ak Tryz.prog 72 i72:=by constructor<;>kernel_rfl
def i79:Inf:=⟨Tryz.t79.desc,Tryz.t79.size,Tryz.t79.bytes,Tryz.t79.zero,(.one .sl),(.one (.one .sl))⟩
theorem C79:Ak Tryz.prog 79 i79:=by constructor<;>kernel_rfl
def i81:Inf:=⟨Tryz.t80.desc,Tryz.t81.size,Tryz.t81.bytes,Tryz.t81.zero,(.agg c81),(.one (.agg c81))⟩
theorem C81:Ak Tryz.prog 81 i81:=by constructor<;>kernel_rfl
def i84:Inf:=⟨Tryz.t84.desc,Tryz.t84.size,Tryz.t84.bytes,Tryz.t84.zero,(.one .sl),(.one (.one .sl))⟩
theorem C84:Ak Tryz.prog 84 i84:=by constructor<;>kernel_rfl
def i86:Inf:=⟨Tryz.t85.desc,Tryz.t86.size,Tryz.t86.bytes,Tryz.t86.zero,(.agg c86),(.one (.agg c86))⟩
theorem C86:Ak Tryz.prog 86 i86:=by constructor<;>kernel_rfl
def i89:Inf:=⟨Tryz.t88.desc,Tryz.t89.size,Tryz.t89.bytes,Tryz.t89.zero,(.agg c89),(.one (.agg c89))⟩
theorem C89:Ak Tryz.prog 89 i89:=by constructor<;>kernel_rfl
def i90:Inf:=⟨Tryz.t90.desc,Tryz.t90.size,Tryz.t90.bytes,Tryz.t90.zero,(.one .sl),(.one (.one .sl))⟩
theorem C90:Ak Tryz.prog 90 i90:=by constructor<;>kernel_rfl
def i92:Inf:=⟨Tryz.t92.desc,Tryz.t92.size,Tryz.t92.bytes,Tryz.t92.zero,(.one .any),(.tup [(.one .ptr),(.one (.int .i64))])⟩
theorem C92:Ak Tryz.prog 92 i92:=by constructor<;>kernel_rfl
def i94:Inf:=⟨Tryz.t94.desc,Tryz.t94.size,Tryz.t94.bytes,Tryz.t94.zero,(.one .any),(.tup [(.one .sl),(.one .any)])⟩
theorem C94:Ak Tryz.prog 94 i94:=by constructor<;>kernel_rfl
def i99:Inf:=⟨Tryz.t99.desc,Tryz.t99.size,Tryz.t99.bytes,Tryz.t99.zero,(.one .ptr),(.one (.one .ptr))⟩
theorem C99:Ak Tryz.prog 99 i99:=by constructor<;>kernel_rfl
def i101:Inf:=⟨Tryz.t100.desc,Tryz.t101.size,Tryz.t101.bytes,Tryz.t101.zero,(.agg Co0),(.one (.agg Co0))⟩
theorem Df9:Ak Tryz.prog 101 i101:=by constructor<;>kernel_rfl
def i103:Inf:=⟨Tryz.t102.desc,Tryz.t103.size,Tryz.t103.bytes,Tryz.t103.zero,(.one .map),(.one (.one .map))⟩
theorem Cj2:Ak Tryz.prog 103 i103:=by constructor<;>kernel_rfl
def i104:Inf:=⟨Tryz.t104.desc,Tryz.t104.size,Tryz.t104.bytes,Tryz.t104.zero,(.one .sl),(.one (.one .sl))⟩
theorem Cj1:Ak Tryz.prog 104 i104:=by constructor<;>kernel_rfl
def i105:Inf:=⟨Tryz.t105.desc,Tryz.t105.size,Tryz.t105.bytes,Tryz.t105.zero,(.one .map),(.one (.one .map))⟩
theorem Co7:Ak Tryz.prog 105 i105:=by constructor<;>kernel_rfl
def i107:Inf:=⟨Tryz.t106.desc,Tryz.t107.size,Tryz.t107.bytes,Tryz.t107.zero,(.agg c107),(.one (.agg c107))⟩
theorem Df8:Ak Tryz.prog 107 i107:=by constructor<;>kernel_rfl
def i110:Inf:=⟨Tryz.t109.desc,Tryz.t110.size,Tryz.t110.bytes,Tryz.t110.zero,(.agg Cn9),(.one (.agg Cn9))⟩
theorem Df7:Ak Tryz.prog 110 i110:=by constructor<;>kernel_rfl
def i112:Inf:=⟨Tryz.t112.desc,Tryz.t112.size,Tryz.t112.bytes,Tryz.t112.zero,(.one .any),(.one (.one .any))⟩
theorem Co6:Ak Tryz.prog 112 i112:=by constructor<;>kernel_rfl
def i113:Inf:=⟨Tryz.t113.desc,Tryz.t113.size,Tryz.t113.bytes,Tryz.t113.zero,(.one .any),(.tup [(.one (.int .i64)),(.one .any)])⟩
theorem Df6:Ak Tryz.prog 113 i113:=by constructor<;>kernel_rfl
def i117:Inf:=⟨Tryz.t117.desc,Tryz.t117.size,Tryz.t117.bytes,Tryz.t117.zero,(.one .sl),(.one (.one .sl))⟩
theorem Cj0:Ak Tryz.prog 117 i117:=by constructor<;>kernel_rfl
def i119:Inf:=⟨Tryz.t119.desc,Tryz.t119.size,Tryz.t119.bytes,Tryz.t119.zero,(.agg c119),(.one (.agg c119))⟩
theorem Df5:Ak Tryz.prog 119 i119:=by constructor<;>kernel_rfl
def i120:Inf:=⟨Tryz.t120.desc,Tryz.t120.size,Tryz.t120.bytes,Tryz.t120.zero,(.one .sl),(.one (.one .sl))⟩
theorem Df4:Ak Tryz.prog 120 i120:=by constructor<;>kernel_rfl
def i121:Inf:=⟨Tryz.t121.desc,Tryz.t121.size,Tryz.t121.bytes,Tryz.t121.zero,(.one .ptr),(.one (.one .ptr))⟩
theorem Ci9:Ak Tryz.prog 121 i121:=by constructor<;>kernel_rfl
def i123:Inf:=⟨Tryz.t122.desc,Tryz.t123.size,Tryz.t123.bytes,Tryz.t123.zero,(.agg Cn8),(.one (.agg Cn8))⟩
theorem Co5:Ak Tryz.prog 123 i123:=by constructor<;>kernel_rfl
def i127:Inf:=⟨Tryz.t126.desc,Tryz.t127.size,Tryz.t127.bytes,Tryz.t127.zero,(.agg c127),(.one (.agg c127))⟩
theorem Df3:Ak Tryz.prog 127 i127:=by constructor<;>kernel_rfl
def i128:Inf:=⟨Tryz.t128.desc,Tryz.t128.size,Tryz.t128.bytes,Tryz.t128.zero,(.one .any),(.tup [(.agg c127),(.one (.int .i64))])⟩
theorem Df2:Ak Tryz.prog 128 i128:=by constructor<;>kernel_rfl
def i132:Inf:=⟨Tryz.t131.desc,Tryz.t132.size,Tryz.t132.bytes,Tryz.t132.zero,(.agg Gj),(.one (.agg Gj))⟩
theorem Cb8:Ak Tryz.prog 132 i132:=by constructor<;>kernel_rfl
def i133:Inf:=⟨Tryz.t133.desc,Tryz.t133.size,Tryz.t133.bytes,Tryz.t133.zero,(.one .any),(.tup [(.agg Gj),(.one .bool)])⟩
theorem Df1:Ak Tryz.prog 133 i133:=by constructor<;>kernel_rfl
def i136:Inf:=⟨Tryz.t135.desc,Tryz.t136.size,Tryz.t136.bytes,Tryz.t136.zero,(.one .any),(.one (.one .any))⟩
theorem Df0:Ak Tryz.prog 136 i136:=by constructor<;>kernel_rfl
def i137:Inf:=⟨Tryz.t137.desc,Tryz.t137.size,Tryz.t137.bytes,Tryz.t137.zero,(.one .ptr),(.one (.one .ptr))⟩
theorem De9:Ak Tryz.prog 137 i137:=by constructor<;>kernel_rfl
def i139:Inf:=⟨Tryz.t138.desc,Tryz.t139.size,Tryz.t139.bytes,Tryz.t139.zero,(.agg c139),(.one (.agg c139))⟩
theorem De8:Ak Tryz.prog 139 i139:=by constructor<;>kernel_rfl
def i141:Inf:=⟨Tryz.t140.desc,Tryz.t141.size,Tryz.t141.bytes,Tryz.t141.zero,(.agg c141),(.one (.agg c141))⟩
theorem De7:Ak Tryz.prog 141 i141:=by constructor<;>kernel_rfl
def i144:Inf:=⟨Tryz.t143.desc,Tryz.t144.size,Tryz.t144.bytes,Tryz.t144.zero,(.agg Bf),(.one (.agg Bf))⟩
theorem De6:Ak Tryz.prog 144 i144:=by constructor<;>kernel_rfl
def i146:Inf:=⟨Tryz.t145.desc,Tryz.t146.size,Tryz.t146.bytes,Tryz.t146.zero,(.agg c146),(.one (.agg c146))⟩
theorem Co4:Ak Tryz.prog 146 i146:=by constructor<;>kernel_rfl
def i147:Inf:=⟨Tryz.t147.desc,Tryz.t147.size,Tryz.t147.bytes,Tryz.t147.zero,(.one .any),(.one (.one .any))⟩
theorem Co3:Ak Tryz.prog 147 i147:=by constructor<;>kernel_rfl
def i153:Inf:=⟨Tryz.t153.desc,Tryz.t153.size,Tryz.t153.bytes,Tryz.t153.zero,(.one .ptr),(.one (.one .ptr))⟩
theorem De5:Ak Tryz.prog 153 i153:=by constructor<;>kernel_rfl
def i154:Inf:=⟨Tryz.t154.desc,Tryz.t154.size,Tryz.t154.bytes,Tryz.t154.zero,(.agg c154),(.one (.agg c154))⟩
theorem De4:Ak Tryz.prog 154 i154:=by constructor<;>kernel_rfl
def i155:Inf:=⟨Tryz.t155.desc,Tryz.t155.size,Tryz.t155.bytes,Tryz.t155.zero,(.one .ptr),(.one (.one .ptr))⟩
theorem De3:Ak Tryz.prog 155 i155:=by constructor<;>kernel_rfl
def i156:Inf:=⟨Tryz.t156.desc,Tryz.t156.size,Tryz.t156.bytes,Tryz.t156.zero,(.agg c156),(.one (.agg c156))⟩
theorem De2:Ak Tryz.prog 156 i156:=by constructor<;>kernel_rfl
def i158:Inf:=⟨Tryz.t157.desc,Tryz.t158.size,Tryz.t158.bytes,Tryz.t158.zero,(.agg Cn7),(.one (.agg Cn7))⟩
theorem De1:Ak Tryz.prog 158 i158:=by constructor<;>kernel_rfl
def i162:Inf:=⟨Tryz.t161.desc,Tryz.t162.size,Tryz.t162.bytes,Tryz.t162.zero,(.agg c162),(.one (.agg c162))⟩
theorem De0:Ak Tryz.prog 162 i162:=by constructor<;>kernel_rfl
def i165:Inf:=⟨Tryz.t165.desc,Tryz.t165.size,Tryz.t165.bytes,Tryz.t165.zero,(.one .sl),(.one (.one .sl))⟩
theorem Co2:Ak Tryz.prog 165 i165:=by constructor<;>kernel_rfl
def i172:Inf:=⟨Tryz.t171.desc,Tryz.t172.size,Tryz.t172.bytes,Tryz.t172.zero,(.one .any),(.one (.one .any))⟩
theorem Dd9:Ak Tryz.prog 172 i172:=by constructor<;>kernel_rfl
def i176:Inf:=⟨Tryz.t176.desc,Tryz.t176.size,Tryz.t176.bytes,Tryz.t176.zero,(.one .ptr),(.one (.one .ptr))⟩
theorem Ci8:Ak Tryz.prog 176 i176:=by constructor<;>kernel_rfl
def i177:Inf:=⟨Tryz.t177.desc,Tryz.t177.size,Tryz.t177.bytes,Tryz.t177.zero,(.one .ptr),(.one (.one .ptr))⟩
theorem Ci7:Ak Tryz.prog 177 i177:=by constructor<;>kernel_rfl
def i180:Inf:=⟨Tryz.t179.desc,Tryz.t180.size,Tryz.t180.bytes,Tryz.t180.zero,(.agg Ba1),(.one (.agg Ba1))⟩
theorem Dd8:Ak Tryz.prog 180 i180:=by constructor<;>kernel_rfl
def i182:Inf:=⟨Tryz.t182.desc,Tryz.t182.size,Tryz.t182.bytes,Tryz.t182.zero,(.one .any),(.one (.one .any))⟩
theorem Ci6:Ak Tryz.prog 182 i182:=by constructor<;>kernel_rfl
def i183:Inf:=⟨Tryz.t183.desc,Tryz.t183.size,Tryz.t183.bytes,Tryz.t183.zero,(.one .any),(.one (.one .any))⟩
theorem Dd7:Ak Tryz.prog 183 i183:=by constructor<;>kernel_rfl
def i184:Inf:=⟨Tryz.t184.desc,Tryz.t184.size,Tryz.t184.bytes,Tryz.t184.zero,(.one .any),(.one (.one .any))⟩
theorem Dd6:Ak Tryz.prog 184 i184:=by constructor<;>kernel_rfl
def i186:Inf:=⟨Tryz.t185.desc,Tryz.t186.size,Tryz.t186.bytes,Tryz.t186.zero,(.agg Cn6),(.one (.agg Cn6))⟩
theorem Dd5:Ak Tryz.prog 186 i186:=by constructor<;>kernel_rfl
def i190:Inf:=⟨Tryz.t190.desc,Tryz.t190.size,Tryz.t190.bytes,Tryz.t190.zero,(.one .any),(.tup [(.one .ptr),(.one (.int .i64))])⟩
theorem Dd4:Ak Tryz.prog 190 i190:=by constructor<;>kernel_rfl
def i196:Inf:=⟨Tryz.t196.desc,Tryz.t196.size,Tryz.t196.bytes,Tryz.t196.zero,(.one .any),(.tup [(.agg c146),(.one .bool)])⟩
theorem Dd3:Ak Tryz.prog 196 i196:=by constructor<;>kernel_rfl
def i198:Inf:=⟨Tryz.t198.desc,Tryz.t198.size,Tryz.t198.bytes,Tryz.t198.zero,(.one .any),(.tup [(.agg c146),(.agg c146)])⟩
theorem Dd2:Ak Tryz.prog 198 i198:=by constructor<;>kernel_rfl
def i201:Inf:=⟨Tryz.t201.desc,Tryz.t201.size,Tryz.t201.bytes,Tryz.t201.zero,(.one .any),(.tup [(.agg c139),(.one (.int .i64))])⟩
theorem Dd1:Ak Tryz.prog 201 i201:=by constructor<;>kernel_rfl
def i204:Inf:=⟨Tryz.t203.desc,Tryz.t204.size,Tryz.t204.bytes,Tryz.t204.zero,(.one .any),(.one (.one .any))⟩
theorem Dd0:Ak Tryz.prog 204 i204:=by constructor<;>kernel_rfl
def i214:Inf:=⟨Tryz.t214.desc,Tryz.t214.size,Tryz.t214.bytes,Tryz.t214.zero,(.one .any),(.tup [(.one .any),(.one .bool)])⟩
theorem Dc9:Ak Tryz.prog 214 i214:=by constructor<;>kernel_rfl
def i216:Inf:=⟨Tryz.t216.desc,Tryz.t216.size,Tryz.t216.bytes,Tryz.t216.zero,(.one .any),(.one (.one .any))⟩
theorem Dc8:Ak Tryz.prog 216 i216:=by constructor<;>kernel_rfl
def i217:Inf:=⟨Tryz.t217.desc,Tryz.t217.size,Tryz.t217.bytes,Tryz.t217.zero,(.one .any),(.one (.one .any))⟩
theorem Dc7:Ak Tryz.prog 217 i217:=by constructor<;>kernel_rfl
def i218:Inf:=⟨Tryz.t218.desc,Tryz.t218.size,Tryz.t218.bytes,Tryz.t218.zero,(.one .sl),(.one (.one .sl))⟩
theorem Dc6:Ak Tryz.prog 218 i218:=by constructor<;>kernel_rfl
def i223:Inf:=⟨Tryz.t222.desc,Tryz.t223.size,Tryz.t223.bytes,Tryz.t223.zero,(.agg Lj),(.one (.agg Lj))⟩
theorem Dc5:Ak Tryz.prog 223 i223:=by constructor<;>kernel_rfl
def i226:Inf:=⟨Tryz.t5.desc,Tryz.t226.size,Tryz.t226.bytes,Tryz.t226.zero,(.one (.int .u8)),(.one (.one (.int .u8)))⟩
theorem Dc4:Ak Tryz.prog 226 i226:=by constructor<;>kernel_rfl
def i230:Inf:=⟨Tryz.t230.desc,Tryz.t230.size,Tryz.t230.bytes,Tryz.t230.zero,(.one (.int .u64)),(.one (.one (.int .u64)))⟩
theorem Dc3:Ak Tryz.prog 230 i230:=by constructor<;>kernel_rfl
def i235:Inf:=⟨Tryz.t235.desc,Tryz.t235.size,Tryz.t235.bytes,Tryz.t235.zero,(.one .sl),(.one (.one .sl))⟩
theorem Dc2:Ak Tryz.prog 235 i235:=by constructor<;>kernel_rfl
def i236:Inf:=⟨Tryz.t236.desc,Tryz.t236.size,Tryz.t236.bytes,Tryz.t236.zero,(.one .sl),(.one (.one .sl))⟩
theorem Dc1:Ak Tryz.prog 236 i236:=by constructor<;>kernel_rfl
def i237:Inf:=⟨Tryz.t237.desc,Tryz.t237.size,Tryz.t237.bytes,Tryz.t237.zero,(.one .sl),(.one (.one .sl))⟩
theorem Dc0:Ak Tryz.prog 237 i237:=by constructor<;>kernel_rfl
def i239:Inf:=⟨Tryz.t238.desc,Tryz.t239.size,Tryz.t239.bytes,Tryz.t239.zero,(.agg Cn5),(.one (.agg Cn5))⟩
theorem Db9:Ak Tryz.prog 239 i239:=by constructor<;>kernel_rfl
def i240:Inf:=⟨Tryz.t31.desc,Tryz.t240.size,Tryz.t240.bytes,Tryz.t240.zero,(.agg Ci0),(.one (.agg Ci0))⟩
theorem Db8:Ak Tryz.prog 240 i240:=by constructor<;>kernel_rfl
def i241:Inf:=⟨Tryz.t241.desc,Tryz.t241.size,Tryz.t241.bytes,Tryz.t241.zero,(.one .any),(.tup [(.one .ptr),(.agg Ci0),(.one (.int .i64))])⟩
theorem Db7:Ak Tryz.prog 241 i241:=by constructor<;>kernel_rfl
def i245:Inf:=⟨Tryz.t244.desc,Tryz.t245.size,Tryz.t245.bytes,Tryz.t245.zero,(.agg Cn4),(.one (.agg Cn4))⟩
theorem Db6:Ak Tryz.prog 245 i245:=by constructor<;>kernel_rfl
def i247:Inf:=⟨Tryz.t246.desc,Tryz.t247.size,Tryz.t247.bytes,Tryz.t247.zero,(.agg Cn3),(.one (.agg Cn3))⟩
theorem Db5:Ak Tryz.prog 247 i247:=by constructor<;>kernel_rfl
def i252:Inf:=⟨Tryz.t251.desc,Tryz.t252.size,Tryz.t252.bytes,Tryz.t252.zero,(.agg Cn2),(.one (.agg Cn2))⟩
theorem Db4:Ak Tryz.prog 252 i252:=by constructor<;>kernel_rfl
def i255:Inf:=⟨Tryz.t254.desc,Tryz.t255.size,Tryz.t255.bytes,Tryz.t255.zero,(.agg Cn1),(.one (.agg Cn1))⟩
theorem Db3:Ak Tryz.prog 255 i255:=by constructor<;>kernel_rfl
def i257:Inf:=⟨Tryz.t257.desc,Tryz.t257.size,Tryz.t257.bytes,Tryz.t257.zero,(.one .any),(.tup [(.one .sl),(.one (.int .i64)),(.one (.int .i64))])⟩
theorem Db2:Ak Tryz.prog 257 i257:=by constructor<;>kernel_rfl
def i259:Inf:=⟨Tryz.t259.desc,Tryz.t259.size,Tryz.t259.bytes,Tryz.t259.zero,(.one .any),(.tup [(.one .ptr),(.one .ptr)])⟩
theorem Db1:Ak Tryz.prog 259 i259:=by constructor<;>kernel_rfl
def i263:Inf:=⟨Tryz.t262.desc,Tryz.t263.size,Tryz.t263.bytes,Tryz.t263.zero,(.agg Rz),(.one (.agg Rz))⟩
theorem Db0:Ak Tryz.prog 263 i263:=by constructor<;>kernel_rfl
def i264:Inf:=⟨Tryz.t179.desc,Tryz.t264.size,Tryz.t264.bytes,Tryz.t264.zero,(.agg Bt4),(.one (.agg Bt4))⟩
theorem Da9:Ak Tryz.prog 264 i264:=by constructor<;>kernel_rfl
def i271:Inf:=⟨Tryz.t271.desc,Tryz.t271.size,Tryz.t271.bytes,Tryz.t271.zero,(.one .any),(.tup [(.one .any),(.one .bool)])⟩
theorem Da8:Ak Tryz.prog 271 i271:=by constructor<;>kernel_rfl
def i273:Inf:=⟨Tryz.t273.desc,Tryz.t273.size,Tryz.t273.bytes,Tryz.t273.zero,(.one .any),(.tup [(.one (.int .i64)),(.one (.int .u8)),(.one (.int .u8))])⟩
theorem Da7:Ak Tryz.prog 273 i273:=by constructor<;>kernel_rfl
def i276:Inf:=⟨Tryz.t275.desc,Tryz.t276.size,Tryz.t276.bytes,Tryz.t276.zero,(.one .any),(.one (.one .any))⟩
theorem Da6:Ak Tryz.prog 276 i276:=by constructor<;>kernel_rfl
def i278:Inf:=⟨Tryz.t278.desc,Tryz.t278.size,Tryz.t278.bytes,Tryz.t278.zero,(.one .any),(.tup [(.one (.int .i64)),(.one .any)])⟩
theorem Da5:Ak Tryz.prog 278 i278:=by constructor<;>kernel_rfl
def i298:Inf:=⟨Tryz.t297.desc,Tryz.t298.size,Tryz.t298.bytes,Tryz.t298.zero,(.agg Cn0),(.one (.agg Cn0))⟩
theorem Da4:Ak Tryz.prog 298 i298:=by constructor<;>kernel_rfl
def i302:Inf:=⟨Tryz.t302.desc,Tryz.t302.size,Tryz.t302.bytes,Tryz.t302.zero,(.one .any),(.tup [(.agg c146),(.one .ptr)])⟩
theorem Da3:Ak Tryz.prog 302 i302:=by constructor<;>kernel_rfl
def i304:Inf:=⟨Tryz.t304.desc,Tryz.t304.size,Tryz.t304.bytes,Tryz.t304.zero,(.one .any),(.one (.one .any))⟩
theorem Da2:Ak Tryz.prog 304 i304:=by constructor<;>kernel_rfl
def i305:Inf:=⟨Tryz.t305.desc,Tryz.t305.size,Tryz.t305.bytes,Tryz.t305.zero,(.one .any),(.one (.one .any))⟩
theorem Da1:Ak Tryz.prog 305 i305:=by constructor<;>kernel_rfl
def i313:Inf:=⟨Tryz.t313.desc,Tryz.t313.size,Tryz.t313.bytes,Tryz.t313.zero,(.one .any),(.one (.one .any))⟩
theorem Da0:Ak Tryz.prog 313 i313:=by constructor<;>kernel_rfl
def i314:Inf:=⟨Tryz.t314.desc,Tryz.t314.size,Tryz.t314.bytes,Tryz.t314.zero,(.one .any),(.tup [(.agg c56),(.one .bool),(.one (.int .i64))])⟩
theorem Cz9:Ak Tryz.prog 314 i314:=by constructor<;>kernel_rfl
def i317:Inf:=⟨Tryz.t316.desc,Tryz.t317.size,Tryz.t317.bytes,Tryz.t317.zero,(.agg Cm9),(.one (.agg Cm9))⟩
theorem Cz8:Ak Tryz.prog 317 i317:=by constructor<;>kernel_rfl
def i323:Inf:=⟨Tryz.t323.desc,Tryz.t323.size,Tryz.t323.bytes,Tryz.t323.zero,(.agg Cm8),(.one (.agg Cm8))⟩
theorem Cz7:Ak Tryz.prog 323 i323:=by constructor<;>kernel_rfl
def i324:Inf:=⟨Tryz.t324.desc,Tryz.t324.size,Tryz.t324.bytes,Tryz.t324.zero,(.one .any),(.tup [(.one .sl),(.one (.int .i64))])⟩
theorem Cz6:Ak Tryz.prog 324 i324:=by constructor<;>kernel_rfl
def i326:Inf:=⟨Tryz.t326.desc,Tryz.t326.size,Tryz.t326.bytes,Tryz.t326.zero,(.one .any),(.tup [(.agg c56),(.one (.int .i64))])⟩
theorem Cz5:Ak Tryz.prog 326 i326:=by constructor<;>kernel_rfl
def i331:Inf:=⟨Tryz.t331.desc,Tryz.t331.size,Tryz.t331.bytes,Tryz.t331.zero,(.agg Cm7),(.one (.agg Cm7))⟩
theorem Cz4:Ak Tryz.prog 331 i331:=by constructor<;>kernel_rfl
def i348:Inf:=⟨Tryz.t348.desc,Tryz.t348.size,Tryz.t348.bytes,Tryz.t348.zero,(.agg Cm6),(.one (.agg Cm6))⟩
theorem Cz3:Ak Tryz.prog 348 i348:=by constructor<;>kernel_rfl
def i352:Inf:=⟨Tryz.t352.desc,Tryz.t352.size,Tryz.t352.bytes,Tryz.t352.zero,(.agg Cm5),(.one (.agg Cm5))⟩
theorem Cz2:Ak Tryz.prog 352 i352:=by constructor<;>kernel_rfl
def tab:Tab:=⟨[(0,i0),(3,i3),(4,i4),(5,i5),(9,i9),(20,i20),(21,i21),(24,i24),(26,i26),(27,i27),(29,i29),(30,i30),(32,i32),(33,i33),(34,i34),(37,i37),(39,i39),(42,i42),(47,i47),(48,i48),(51,i51),(56,i56),(57,i57),(60,i60),(65,i65),(69,i69),(70,i70),(72,i72),(79,i79),(81,i81),(84,i84),(86,i86),(89,i89),(90,i90),(92,i92),(94,i94),(99,i99),(101,i101),(103,i103),(104,i104),(105,i105),(107,i107),(110,i110),(112,i112),(113,i113),(117,i117),(119,i119),(120,i120),(121,i121),(123,i123),(127,i127),(128,i128),(132,i132),(133,i133),(136,i136),(137,i137),(139,i139),(141,i141),(144,i144),(146,i146),(147,i147),(153,i153),(154,i154),(155,i155),(156,i156),(158,i158),(162,i162),(165,i165),(172,i172),(176,i176),(177,i177),(180,i180),(182,i182),(183,i183),(184,i184),(186,i186),(190,i190),(196,i196),(198,i198),(201,i201),(204,i204),(214,i214),(216,i216),(217,i217),(218,i218),(223,i223),(226,i226),(230,i230),(235,i235),(236,i236),(237,i237),(239,i239),(240,i240),(241,i241),(245,i245),(247,i247),(252,i252),(255,i255),(257,i257),(259,i259),(263,i263),(264,i264),(271,i271),(273,i273),(276,i276),(278,i278),(298,i298),(302,i302),(304,i304),(305,i305),(313,i313),(314,i314),(317,i317),(323,i323),(324,i324),(326,i326),(331,i331),(348,i348),(352,i352)],[14,15,16,17,18,19,20,21,22,23,24,25,26,27,28,29,30,31,32,33,34,35,36,37,38,39,40,41,42,43,44,45,46,47,48,49,50,51,53,54,55,56,57,58,59,60,61,62,63,64,65,67,68,69,70,71,72,73,74,75,76,77,78,79,80,81,82,83,84,85,86,88,89,90,92,93,94,95,96,97,100,101,104,107,108,109,110,111,112,113,114,115,116,117,118,119,120,121,122,123,124,125,126,127,128,129,130,134,135,137,138,139,140,141,142,143,144,145,146,147,148,149,150,151,152,153,155,156,157,158,159,160,165,168,169,184,185,186,187,188,189,190,191,192,193,194,195,196,197,198,199,202,210,211,212,213,214,216,217,218,219,220,223,224,225,226,227,228,229,230,231,232,259,280,281,282,283]⟩
theorem Cl9:Be2 Tryz.prog [14,15,16,17,18,19,20,21,22,23,24,25,26,27,28,29,30,31,32,33,34,35,36,37,38,39,40,41,42,43,44,45,46,47,48,49,50,51,53,54,55,56,57,58,59,60,61,62,63,64,65,67,68,69,70,71,72,73,74,75,76,77,78,79,80,81,82,83,84,85,86,88,89,90,92,93,94,95,96,97,100,101,104,107,108,109,110,111,112,113,114,115,116,117,118,119,120,121,122,123,124,125,126,127,128,129,130,134,135,137,138,139,140,141,142,143,144,145,146,147,148,149,150,151,152,153,155,156,157,158,159,160,165,168,169,184,185,186,187,188,189,190,191,192,193,194,195,196,197,198,199,202,210,211,212,213,214,216,217,218,219,220,223,224,225,226,227,228,229,230,231,232,259,280,281,282,283]:=by repeat (first|refine ⟨by kernel_rfl,?_⟩|exact trivial)
theorem Am:tab.Ok Tryz.prog:=⟨⟨C0,C3,C4,C5,C9,C20,C21,C24,C26,C27,C29,C30,C32,C33,C34,C37,C39,C42,C47,C48,C51,C56,C57,C60,C65,C69,C70,C72,C79,C81,C84,C86,C89,C90,C92,C94,C99,Df9,Cj2,Cj1,Co7,Df8,Df7,Co6,Df6,Cj0,Df5,Df4,Ci9,Co5,Df3,Df2,Cb8,Df1,Df0,De9,De8,De7,De6,Co4,Co3,De5,De4,De3,De2,De1,De0,Co2,Dd9,Ci8,Ci7,Dd8,Ci6,Dd7,Dd6,Dd5,Dd4,Dd3,Dd2,Dd1,Dd0,Dc9,Dc8,Dc7,Dc6,Dc5,Dc4,Dc3,Dc2,Dc1,Dc0,Db9,Db8,Db7,Db6,Db5,Db4,Db3,Db2,Db1,Db0,Da9,Da8,Da7,Da6,Da5,Da4,Da3,Da2,Da1,Da0,Cz9,Cz8,Cz7,Cz6,Cz5,Cz4,Cz3,Cz2,trivial⟩,Cl9,by kernel_rfl⟩
@[reducible] def _root_.Go.Vx.Sl.v (s:Sl):Value:=.slice s.a s.len s.cap
abbrev rI:RTy:=.one (.one (.int .i64))
abbrev rB:RTy:=.one (.one .bool)
abbrev rS:RTy:=.one (.one .sl)
abbrev rP:RTy:=.one (.one .ptr)
abbrev vA (c:List Cell) (x:Cells.T c):Value:=.agg (Cells.vals c x).toArray
abbrev ad (b o:Nat):Addr:=⟨b,o,none⟩
abbrev ixl (c:Cell) (s:Sl) (n:Int) (z:Nat) (K:c.T->World->Prop):World->Prop:=ix s.a s.len n λp=>ld c (p.add (scaled (Int.toNat n) z)) K
abbrev ixf (c:Cell) (s:Sl) (n:Int) (z j:Nat) (K:c.T->World->Prop):World->Prop:=ix s.a s.len n λp=>ld c ((p.add (scaled (Int.toNat n) z)).add j) K
abbrev ixs (c:List Cell) (s:Sl) (n:Int) (z:Nat) (K:Cells.T c->World->Prop):World->Prop:=ix s.a s.len n λp=>lds c (p.add (scaled (Int.toNat n) z)) K
abbrev cI:Cell:=.int .i64
abbrev vI (n:Int):Value:=.int .i64 n
abbrev I4:=Int×Int×Int×Int×Unit
abbrev I3:=Int×Int×Int×Unit
abbrev jB (b:(Bool×Unit->World->Prop)->World->Prop) (r:Bool×Unit->World->Prop):World->Prop:=join b r
abbrev sB (b:Bool×Unit->(Bool×Unit->World->Prop)->World->Prop) (x:Bool×Unit):World->Prop:=Jv b x
abbrev jI (b:(Int×Unit->World->Prop)->World->Prop) (r:Int×Unit->World->Prop):World->Prop:=join b r
abbrev sI (b:Int×Unit->(Int×Unit->World->Prop)->World->Prop) (x:Int×Unit):World->Prop:=Jv b x
abbrev jU (b:(Unit->World->Prop)->World->Prop) (r:Unit->World->Prop):World->Prop:=join b r
abbrev sU (b:Unit->(Unit->World->Prop)->World->Prop) (x:Unit):World->Prop:=Jv b x
abbrev jS (b:(Sl×Unit->World->Prop)->World->Prop) (r:Sl×Unit->World->Prop):World->Prop:=join b r
abbrev sS (b:Sl×Unit->(Sl×Unit->World->Prop)->World->Prop) (x:Sl×Unit):World->Prop:=Jv b x
abbrev jN (b:(Int×Int×Unit->World->Prop)->World->Prop) (r:Int×Int×Unit->World->Prop):World->Prop:=join b r
abbrev sN (b:Int×Int×Unit->(Int×Int×Unit->World->Prop)->World->Prop) (x:Int×Int×Unit):World->Prop:=Jv b x
abbrev lI (p:Addr) (K:Int->World->Prop):World->Prop:=ld (.int .i64) p K
abbrev ixI (s:Sl) (n:Int) (z:Nat) (K:Int->World->Prop):World->Prop:=ix s.a s.len n λp=>ld (.int .i64) (p.add (scaled (Int.toNat n) z)) K
abbrev cN (f:FuncId) (a:Array Value) (K:Int->World->Prop):World->Prop:=Aa Tryz.prog f a (.one (.one (.int .i64))) K
abbrev cB (f:FuncId) (a:Array Value) (K:Bool->World->Prop):World->Prop:=Aa Tryz.prog f a (.one (.one .bool)) K
abbrev cS (f:FuncId) (a:Array Value) (K:Sl->World->Prop):World->Prop:=Aa Tryz.prog f a (.one (.one .sl)) K
theorem tied {T:Tab}{P:Program}(ok:T.Ok P){f:FuncId}{fn:Func}(hf:P.funcs[f]?=some fn) (h:Hint) (l:List Value){t:RTy}{K:t.T->Wp}{w:World}{Q:World->Prop}(q:Q w) (e:Cd2 T P fn h l t K=Q:=by kernel_rfl):Aa P f l.toArray t K w:=I8 ok hf h l t K w (by rw [e];exact q)
def F15 (a0:ByteArray) (K:Bool->Wp):Wp:=jB (λJ1=>sif (((ByteArray.size a0:Nat):Int)==0) (J1 (true,())) (sif (decide (((ByteArray.size a0:Nat):Int)>=32)) (J1 (true,())) (Aa Tryz.prog 50 #[(.string a0),(.string { data:=#[126] })] rB λ(x3:Bool)=>J1 (x3,())))) λs2=>sif s2.1 (K false) (Aa Tryz.prog 51 #[(.string a0),(.func (.func 52) #[] #[])] rI λ(x4:Int)=>K (decide (x4<0)))
def mR (l:List (Nat×Nat)):Nat:=l.foldr (λx n=>2^x.2-2^x.1+n) 0
def lR (n:Nat):List Nat:=List.range n
def hR (n:Nat):Hint:=.region [] (.ops n .done)
def hO (n:Nat):RS:=.ops n .done
def hS (a b:Hint):Hint:=.seq none a b
def hC (a b:Hint):Hint:=.cond none a b
def hL:Hint:=.leaf
def hJ (x:Nat×List (Nat×Ty)) (a b:Hint):Hint:=.seq (some x) a b
def tB:Ty:=.one .bool
def tI:Ty:=.one (.int .i64)
def tS:Ty:=.one .sl
def tP:Ty:=.one .ptr
def h15:Hint:=(hS (hR 1) (hS (hJ (32760,[(14,tB)]) (.region [] (.ops 4 (.split 6 (.skips 3 (.ops 2 (.skips 2 (hO 1)))) (.ops 5 (.split 11 (.skips 2 (hO 1)) (hO 3)))))) (hC (hS (hR 1) hL) hL)) (hS (hR 4) hL)))
theorem j15 {a0:ByteArray}{K:Bool->Wp}{w:World}(h:F15 a0 K w):Aa Tryz.prog 15 #[(.string a0)] rB K w:=tied Am Tryz.func15 h15 _ h
def F17 (a0:Int) (K:(Option Addr×Value×Unit)->Wp):Wp:=jB (λJ1=>sif (decide (a0<0)) (J1 (true,())) (J1 ((decide (a0>1048576)),()))) λs2=>sif s2.1 (Ad (.cells #[(.string { data:=#[110,101,119] }),(.string { data:=#[] }),(vI 0),(.iface 33 (vI 1))] 101) λb3=>K (none,(.iface 99 (.pointer (some (at0 b3)))),())) (Ad (.map #[] 0) λb4=>Ad (.map #[] 0) λb5=>Ad (.cells #[(vI a0),(.map (some b4)),(.map (some b5)),(.slice none 0 0),(vI 0),(.bool false),(.map none),(vI 0)] 107) λb6=>K ((some (at0 b6)),.nilIface,()))
def h17:Hint:=(hS (hR 2) (hS (hJ (1008,[(9,tB)]) (.region [] (.ops 3 (.split 6 (.skips 2 (hO 1)) (hO 3)))) (hC (hS (hR 6) hL) hL)) (hS (hR 7) hL)))
theorem j17 {a0:Int}{K:(Option Addr×Value×Unit)->Wp}{w:World}(h:F17 a0 K w):Aa Tryz.prog 17 #[(vI a0)] (.tup [(.one .ptr),(.one .any)]) K w:=tied Am Tryz.func17 h17 _ h
def F18 (a0:Option Addr) (a1:ByteArray) (a2:Int) (a3:Int) (K:(Option Addr×(Int×Int×Sl×Bool×Unit)×Int×Unit)->Wp):Wp:=Ad (.cells #[(vI 0),(vI 0),(.slice none 0 0),(.bool false)] 32) λb1=>Ad (.cells #[(vI 0),(vI 0),(.slice none 0 0),(.bool false)] 32) λb2=>cB 15 #[(.string a1)] λx3=>sif (!x3) (drew<|lds c32 (at0 b2) λ(x4:(Int×Int×Sl×Bool×Unit))=>Ae (at0 b1) (vA c32 x4) 4<|lds c32 (at0 b1) λ(x5:(Int×Int×Sl×Bool×Unit))=>K (none,x5,164,())) (jB (λJ6=>sif (decide (a2<0)) (J6 (true,())) (J6 ((decide (a2>4)),()))) λs7=>sif s7.1 (drew<|lds c32 (at0 b2) λ(x8:(Int×Int×Sl×Bool×Unit))=>Ae (at0 b1) (vA c32 x8) 4<|lds c32 (at0 b1) λ(x9:(Int×Int×Sl×Bool×Unit))=>K (none,x9,10,())) (jB (λJ10=>sif (decide (a3<0)) (J10 (true,())) (J10 ((decide (a3>65536)),()))) λs11=>sif s11.1 (drew<|lds c32 (at0 b2) λ(x12:(Int×Int×Sl×Bool×Unit))=>Ae (at0 b1) (vA c32 x12) 4<|lds c32 (at0 b1) λ(x13:(Int×Int×Sl×Bool×Unit))=>K (none,x13,1,())) (Aa Tryz.prog 34 #[(.pointer a0),(.string a1)] (.tup [(.agg c57),(.one .any)]) λ(x14:(I3×Value×Unit))=>Ad (.cells #[(vI 0),(vI 0),(vI 0)] 57) λb15=>Ae (at0 b15) (vA c57 x14.1) 3<|cB 53 #[x14.2.1,(.iface 33 (vI 162))] λx16=>sif x16 (Ad (.cells (Value.cells (.agg #[(.pointer a0),(.string a1),(.slice none 0 0),(vI 0),(vI 0),(vI 0),(vI 0),(vI 0),(vI 0)])) 110) λb17=>Ae (at0 b1) (.agg #[(vI (if 1>a2 then 1 else a2)),(vI 0),(.slice none 0 0),(.bool true)]) 4<|lds c32 (at0 b1) λ(x18:(Int×Int×Sl×Bool×Unit))=>K ((some (at0 b17)),x18,0,())) (rdB Tryz.prog (do eqGuard .neq 26 (Operand.tmp 56) (Operand.const Value.nilIface) x14.2.1 .nilIface;binOp .neq 26 x14.2.1 .nilIface:Sem Value) λr19=>sif r19 (drew<|lds c32 (at0 b2) λ(x20:(Int×Int×Sl×Bool×Unit))=>cN 54 #[x14.2.1] λx21=>keep (λw=>Aw w (at0 b2) 0 (Cells.vals c32 x20))<|Ae (at0 b1) (vA c32 x20) 4<|lds c32 (at0 b1) λ(x22:(Int×Int×Sl×Bool×Unit))=>K (none,x22,x21,())) (Aa Tryz.prog 49 #[(.pointer a0),(.string a1)] (.tup [(.one .sl),(.one .any)]) λ(x23:(Sl×Value×Unit))=>rdB Tryz.prog (do eqGuard .neq 26 (Operand.tmp 67) (Operand.const Value.nilIface) x23.2.1 .nilIface;binOp .neq 26 x23.2.1 .nilIface:Sem Value) λr24=>sif r24 (drew<|lds c32 (at0 b2) λ(x25:(Int×Int×Sl×Bool×Unit))=>cN 54 #[x23.2.1] λx26=>keep (λw=>Aw w (at0 b2) 0 (Cells.vals c32 x25))<|Ae (at0 b1) (vA c32 x25) 4<|lds c32 (at0 b1) λ(x27:(Int×Int×Sl×Bool×Unit))=>K (none,x27,x26,())) (jN (λJ28=>Aa Tryz.prog 24 #[x23.1.v] (.tup [(.one cI),(.one cI)]) λ(x30:(Int×Int×Unit))=>jB (λJ31=>sif (a2==0) (J31 ((x30.1 !=0),())) (J31 (false,()))) λs32=>sif s32.1 (J28 (x30.1,x30.2.1,())) (sif (a2==0) (Aa Tryz.prog 55 #[x23.1.v] (.tup [(.one cI),(.one .any)]) λ(x33:(Int×Value×Unit))=>J28 (x33.1,0,())) (cS 25 #[(vI a2)] λx34=>cB 56 #[x23.1.v,x34.v] λx35=>sif x35 (cS 25 #[(vI a2)] λx36=>J28 (a2,((x36.len:Nat):Int),())) (J28 (a2,0,()))))) λs29=>sif (decide ((IntKind.wrap .i64 (((x23.1.len:Nat):Int)-s29.2.1))>a3)) (drew<|lds c32 (at0 b2) λ(x37:(Int×Int×Sl×Bool×Unit))=>Ae (at0 b1) (vA c32 x37) 4<|lds c32 (at0 b1) λ(x38:(Int×Int×Sl×Bool×Unit))=>K (none,x38,50,())) (drew<|slc x23.1.a 0 s29.2.1 ((x23.1.cap:Nat):Int) x23.1.cap 1 λx39=>lds c57 (at0 b15) λ(x40:I3)=>cS 57 #[x39.v] λx41=>keep (λw=>Aw w (at0 b15) 0 (Cells.vals c57 x40))<|Ad (.cells (Value.cells (.agg #[(.pointer a0),(.string a1),x41.v,(vI x40.1),(vI x40.2.1),(vI x40.2.2.1),(vI 0),(vI 0),(vI 0)])) 110) λb42=>slc x23.1.a s29.2.1 ((x23.1.len:Nat):Int) ((x23.1.cap:Nat):Int) x23.1.cap 1 λx43=>cS 57 #[x43.v] λx44=>Ae (at0 b1) (.agg #[(vI s29.1),(vI s29.2.1),x44.v,(.bool false)]) 4<|lds c32 (at0 b1) λ(x45:(Int×Int×Sl×Bool×Unit))=>K ((some (at0 b42)),x45,0,()))))))))
def h18:Hint:=(hS (hR 3) (hS (hR 1) (hS (.block (hS (hR 4) (hC (hS (.region [0,1,2,3] (hO 4)) hL) (hJ (0x7f000000,[(24,tB)]) (.region [] (.ops 3 (.split 27 (.skips 2 (hO 2)) (hO 4)))) (hC (hS (.region [0,1,2,3] (hO 4)) hL) (hJ (0x7f00000000,[(32,tB)]) (.region [] (.ops 3 (.split 35 (.skips 2 (hO 2)) (hO 4)))) (hC (hS (.region [0,1,2,3] (hO 4)) hL) hL))))))) (hS (hR 9) (hS (hS (hR 3) (hC (hS (hR 10) hL) hL)) (hS (hS (hR 2) (hC (hS (.region (lR 6) (hO 6)) hL) hL)) (hS (hR 8) (hS (hS (hR 2) (hC (hS (.region (lR 6) (hO 6)) hL) hL)) (hS (hR 1) (hJ (0x3fffffff000000000000038004,[(2,tI),(15,tI)]) (hS (hR 7) (.block (hJ ((mR [(77,84)]),[(77,tB)]) (.region [] (.ops 3 (.split 80 (hO 4) (.skips 2 (hO 2))))) (hC (hR 4) (hS (hR 3) (hC (hR 6) (hS (hR 5) (hC (hR 4) hL)))))))) (hS (hS (hR 6) (hC (hS (.region [0,1,2,3] (hO 4)) hL) hL)) (hS (.region [0,1,2,3,4,6,5,7,8,9] (hO 10)) (hS (hR 11) hL)))))))))))))
theorem j18 {a0:Option Addr}{a1:ByteArray}{a2:Int}{a3:Int}{K:(Option Addr×(Int×Int×Sl×Bool×Unit)×Int×Unit)->Wp}{w:World}(h:F18 a0 a1 a2 a3 K w):Aa Tryz.prog 18 #[(.pointer a0),(.string a1),(vI a2),(vI a3)] (.tup [(.one .ptr),(.agg c32),(.one cI)]) K w:=tied Am Tryz.func18 h18 _ h
def F27 (a0:Option Addr) (a1:Option Addr) (a2:Bool) (K:Int->Wp):Wp:=join (S:=Addr×Value×Unit) (λJ1=>drew<|nn a0 λp3=>ld (.ptr) p3 λ(x4:Option Addr)=>nn a0 λp5=>ld (.str) (p5.add 1) λ(x6:ByteArray)=>both (Ad (.cells #[(vI 0),(vI 0),(vI 0)] 57) λb7=>keep (λw=>w.cell? (p5.add 1)=some (Cell.val (.str) x6))<|keep (λw=>w.cell? p3=some (Cell.val (.ptr) x4))<|Aa Tryz.prog 34 #[(.pointer x4),(.string x6)] (.tup [(.agg c57),(.one .any)]) λ(x8:(I3×Value×Unit))=>Ae (at0 b7) (vA c57 x8.1) 3<|J1 ((at0 b7),x8.2.1,()))<|Aa Tryz.prog 34 #[(.pointer x4),(.string x6)] (.tup [(.agg c57),(.one .any)]) λ(x9:(I3×Value×Unit))=>both (Ad (.cells #[(vI 0),(vI 0),(vI 0)] 57) λb10=>keep (λw=>w.cell? (p5.add 1)=some (Cell.val (.str) x6))<|keep (λw=>w.cell? p3=some (Cell.val (.ptr) x4))<|Ae (at0 b10) (vA c57 x9.1) 3<|J1 ((at0 b10),x9.2.1,()))<|nothing) λs2=>jB (λJ11=>rdB Tryz.prog (do eqGuard .neq 26 (Operand.tmp 21) (Operand.const Value.nilIface) s2.2.1 .nilIface;binOp .neq 26 s2.2.1 .nilIface:Sem Value) λr13=>sif r13 (cB 53 #[s2.2.1,(.iface 33 (vI 162))] λx14=>J11 ((!x14),())) (J11 (false,()))) λs12=>sif s12.1 (cN 54 #[s2.2.1] λx15=>K x15) (jU (λJ16=>jB (λJ18=>drew<|rdB Tryz.prog (do eqGuard .eql 26 (Operand.tmp 31) (Operand.const Value.nilIface) s2.2.1 .nilIface;binOp .eql 26 s2.2.1 .nilIface:Sem Value) λr20=>sif r20 (lds c57 s2.1 λ(x21:I3)=>nn a0 λp22=>lds c57 (p22.add 6) λ(x23:I3)=>rdB Tryz.prog (do eqGuard .eql 57 (Operand.tmp 34) (Operand.tmp 38) (vA c57 x21) (vA c57 x23);binOp .eql 57 (vA c57 x21) (vA c57 x23):Sem Value) λr24=>J18 (r24,())) (J18 (false,()))) λs19=>sif s19.1 (lds c57 s2.1 λ(x25:I3)=>nn a0 λp26=>Ae (p26.add 3) (vA c57 x25) 3<|J16 ()) (J16 ())) λs17=>jB (λJ27=>drew<|sif (!a2) (lds c57 s2.1 λ(x29:I3)=>nn a0 λp30=>lds c57 (p30.add 3) λ(x31:I3)=>rdB Tryz.prog (do eqGuard .neq 57 (Operand.tmp 48) (Operand.tmp 52) (vA c57 x29) (vA c57 x31);binOp .neq 57 (vA c57 x29) (vA c57 x31):Sem Value) λr32=>J27 (r32,())) (J27 (false,()))) λs28=>sif s28.1 (K 170) (drew<|nn a0 λp33=>ld (.str) (p33.add 1) λ(x34:ByteArray)=>nn a0 λp35=>nn a0 λp36=>Aa Tryz.prog 58 #[(.pointer a0),(.string x34),(.pointer a1),(.pointer (some (p35.add 6))),(.pointer (some (p36.add 3)))] (.one (.one .any)) λ(x37:Value)=>cN 54 #[x37] λx38=>K x38))
def h27:Hint:=(hS (hR 1) (hJ (2097024,[(7,(.one .addr)),(8,(.one .any))]) (.region [0,1,2,3,4,5,6,7,8,9,10,11,13,14] (.float [12] (.ops 8 (.alt none (.plain (hO 6)) (.ops 4 (.alt none (.plain (hO 2)) .stop)))))) (hS (hJ (534773760,[(28,tB)]) (.region [] (.ops 3 (.split 23 (hO 5) (.skips 4 (hO 1))))) (hC (hS (hR 3) hL) hL)) (hJ (0x1fff80000000,[]) (hJ (0x1ff80000000,[(40,tB)]) (.region (lR 10) (.ops 3 (.split 33 (hO 7) (.skips 6 (hO 1))))) (hC (hR 5) hL)) (hS (hJ ((mR [(45,55)]),[(54,tB)]) (.region (lR 10) (.ops 3 (.split 47 (hO 7) (.skips 6 (hO 1))))) (hC (hS (hR 1) hL) hL)) (hS (.region (lR 14) (hO 14)) (hS (hR 3) hL)))))))
theorem j27 {a0:Option Addr}{a1:Option Addr}{a2:Bool}{K:Int->Wp}{w:World}(h:F27 a0 a1 a2 K w):Aa Tryz.prog 27 #[(.pointer a0),(.pointer a1),(.bool a2)] rI K w:=tied Am Tryz.func27 h27 _ h
def F32 (a0:Option Addr) (a1:ByteArray) (a2:Sl) (K:Value->Wp):Wp:=nn a0 λp1=>ld (.map) (p1.add 1) λ(x2:Option Nat)=>rdT Tryz.prog rP (Instr.lookup 103 (.map x2) (.string a1) false) λ(x3:Option Addr)=>nn a0 λp4=>lI p4 λx5=>jI (λJ6=>nn a0 λp8=>ld (.map) (p8.add 1) λ(x9:Option Nat)=>Dp Tryz.prog rP (Instr.range 103 (.map x9)) λ(x10:Option Addr)=>sI (λs11 again12=>Ap7 Tryz.prog (Instr.next (.pointer x10) false 0) λr13 rest14=>sif r13 (Dp Tryz.prog (.tup [(.one .str),(.one .ptr)]) (Instr.entry (.pointer x10)) λ(x15:ByteArray×Option Addr×Unit)=>rdB Tryz.prog (do eqGuard .neq 121 (Operand.tmp 30) (Operand.tmp 31) (.pointer x15.2.1) (.pointer x3);binOp .neq 121 (.pointer x15.2.1) (.pointer x3):Sem Value) λr16=>sif r16 (nn x15.2.1 λp17=>ld (.sl) (p17.add 1) λ(x18:Sl)=>again12 ((IntKind.wrap .i64 (s11.1-((x18.len:Nat):Int))),())) (again12 (s11.1,()))) (J6 (s11.1,()))) (x5,())) λs7=>nn a0 λp19=>ld (.bool) (p19.add 5) λ(x20:Bool)=>sif x20 (Ad (.cells #[(.string { data:=#[112,117,116] }),(.string a1),(vI 0),(.iface 33 (vI 165))] 101) λb21=>K (.iface 99 (.pointer (some (at0 b21))))) (cB 60 #[(.string a1)] λx22=>sif (!x22) (Ad (.cells #[(.string { data:=#[112,117,116] }),(.string a1),(vI 0),(.iface 33 (vI 164))] 101) λb23=>K (.iface 99 (.pointer (some (at0 b23))))) (jB (λJ24=>jB (λJ26=>sif (Option.isNone x3) (nn a0 λp28=>ld (.map) (p28.add 1) λ(x29:Option Nat)=>rdN Tryz.prog (Builtin.len_ #[103] 3 #[(.map x29)]) λx30=>J26 ((decide (x30>=16)),())) (J26 (false,()))) λs27=>sif s27.1 (J24 (s27.1,())) (J24 ((decide (((a2.len:Nat):Int)>s7.1)),()))) λs25=>sif s25.1 (Ad (.cells #[(.string { data:=#[112,117,116] }),(.string a1),(vI 0),(.iface 33 (vI 161))] 101) λb31=>K (.iface 99 (.pointer (some (at0 b31))))) (join (S:=Option Addr×Unit) (λJ32=>sif (Option.isNone x3) (Aa Tryz.prog 61 #[(.pointer a0)] rP λ(x34:Option Addr)=>nn a0 λp35=>ld (.map) (p35.add 1) λ(x36:Option Nat)=>Ap0 Tryz.prog (Instr.mapUpdate 103 (.map x36) (.string a1) (.pointer x34))<|J32 (x34,())) (J32 (x3,()))) λs33=>Aa Tryz.prog 62 #[(.pointer a0)] (.tup []) λ(x37:(Unit))=>cS 63 #[a2.v] λx38=>nn s33.1 λp39=>stC (p39.add 1) x38.v<|Aa Tryz.prog 64 #[(.pointer s33.1)] (.tup []) λ(x40:(Unit))=>nn s33.1 λp41=>ld cI (p41.add 3) λ(x42:Int)=>nn s33.1 λp43=>stC (p43.add 3) (vI (IntKind.wrap .i64 (x42+1)))<|K .nilIface)))
def h32:Hint:=(hS (hR 1) (hS (hR 7) (hS (hR 5) (hJ (0xffffe00500,[(8,tI)]) (hS (hR 5) (.block (.loop 0xfffc000500 [(8,tI)] (hS (hR 2) (hS (hC hL hL) (.block (hS (.region [] (.op (some (.tup [(.one .str),tP])) (hO 2))) (hS (hR 3) (hC (hR 8) hL))))))))) (hS (.block (hS (hR 5) (hC (hS (hR 6) hL) (hS (hR 4) (hC (hS (hR 6) hL) (hJ ((mR [(59,74)]),[(59,tB)]) (hJ ((mR [(59,70)]),[(59,tB)]) (.region [] (.ops 3 (.split 62 (hO 8) (.skips 6 (hO 2))))) (hC hL (hR 5))) (hC (hS (hR 6) hL) hL))))))) (hJ ((mR [(7,8),(79,89)]),[(7,tP)]) (hS (hR 2) (hC (hS (hR 3) (hR 7)) hL)) (hS (hR 2) (hS (hR 6) (hS (hR 2) (hS (hR 8) (hS (hR 1) hL)))))))))))
theorem j32 {a0:Option Addr}{a1:ByteArray}{a2:Sl}{K:Value->Wp}{w:World}(h:F32 a0 a1 a2 K w):Aa Tryz.prog 32 #[(.pointer a0),(.string a1),a2.v] (.one (.one .any)) K w:=tied Am Tryz.func32 h32 _ h
def F34 (a0:Option Addr) (a1:ByteArray) (K:(I3×Value×Unit)->Wp):Wp:=Ad (.cells #[(.pointer a0)] 24) λb1=>Ad (.cells #[(.string a1)] 9) λb2=>Ad (.cells #[(vI 0),(vI 0),(vI 0)] 57) λb3=>Ad (.cells #[(vI 0),(vI 0),(vI 0)] 57) λb4=>ld (.ptr) (at0 b1) λ(x5:Option Addr)=>ld (.str) (at0 b2) λ(x6:ByteArray)=>Aa Tryz.prog 65 #[(.pointer x5),(.string { data:=#[115,116,97,109,112] }),(.string x6),(.func (Fn.func 66) #[] #[(.pointer (some (at0 b1))),(.pointer (some (at0 b2))),(.pointer (some (at0 b4)))]),.nilFunc] (.one (.one .any)) λ(x7:Value)=>rdB Tryz.prog (do eqGuard .neq 26 (Operand.tmp 12) (Operand.const Value.nilIface) x7 .nilIface;binOp .neq 26 x7 .nilIface:Sem Value) λr8=>sif r8 (Ae (at0 b3) (.agg #[(vI 0),(vI 0),(vI 0)]) 3<|lds c57 (at0 b3) λ(x9:I3)=>K (x9,x7,())) (lds c57 (at0 b4) λ(x10:I3)=>Ae (at0 b3) (vA c57 x10) 3<|lds c57 (at0 b3) λ(x11:I3)=>K (x11,.nilIface,()))
def h34:Hint:=(hS (hR 4) (hS (hR 1) (hS (hR 5) (hS (hS (hR 2) (hC (hS (hR 4) hL) hL)) (hS (hR 3) hL)))))
theorem j34 {a0:Option Addr}{a1:ByteArray}{K:(I3×Value×Unit)->Wp}{w:World}(h:F34 a0 a1 K w):Aa Tryz.prog 34 #[(.pointer a0),(.string a1)] (.tup [(.agg c57),(.one .any)]) K w:=tied Am Tryz.func34 h34 _ h
def F35 (a0:Option Addr) (a1:Sl) (K:Unit->Wp):Wp:=Ad (.map #[] 0) λb1=>nn a0 λp2=>stC (p2.add 6) (.map (some b1))<|nn a0 λp3=>stC (p3.add 7) (vI 0)<|sI (λs4 again5=>sif (decide (s4.1<((a1.len:Nat):Int))) (jU (λJ6=>ixs Gj a1 s4.1 5 λ(x9:(Int×Int×Int×Int×Sl×Unit))=>Ad (.cells #[(vI 0),(vI 0),(vI 0),(vI 0),(.slice none 0 0)] 132) λb10=>Ae (at0 b10) (vA Gj x9) 5<|drew<|nn a0 λp11=>ld (.map) (p11.add 6) λ(x12:Option Nat)=>lI (at0 b10) λx13=>rdT Tryz.prog (.tup [(.agg Gj),(.one .bool)]) (Instr.lookup 105 (.map x12) (vI x13) true) λ(x14:((Int×Int×Int×Int×Sl×Unit)×Bool×Unit))=>Ad (.cells #[(vI 0),(vI 0),(vI 0),(vI 0),(.slice none 0 0)] 132) λb15=>keep (λw=>(Instr.lookup 105 (.map x12) (vI x13) true).run Tryz.prog w=.ok (RTy.val (.tup [(.agg Gj),(.one .bool)]) x14) w)<|keep (λw=>w.cell? (at0 b10)=some (Cell.val cI x13))<|keep (λw=>w.cell? (p11.add 6)=some (Cell.val (.map) x12))<|Ae (at0 b15) (vA Gj x14.1) 5<|jB (λJ16=>sif x14.2.1 (J16 (true,())) (lI (ad b10 1) λx18=>sif (decide (x18<1)) (J16 (true,())) (lI (ad b10 1) λx19=>J16 ((decide (x19>5)),())))) λs17=>sif s17.1 (J6 ()) (ld (.sl) ((ad b10 3).add 1) λ(x20:Sl)=>cS 68 #[x20.v] λx21=>stC ((ad b10 3).add 1) x21.v<|drew<|nn a0 λp22=>ld (.map) (p22.add 6) λ(x23:Option Nat)=>lI (at0 b10) λx24=>lds Gj (at0 b10) λ(x25:(Int×Int×Int×Int×Sl×Unit))=>Ap0 Tryz.prog (Instr.mapUpdate 105 (.map x23) (vI x24) (vA Gj x25))<|J6 ())) λs7=>again5 ((IntKind.wrap .i64 (s4.1+1)),())) (K ())) (0,())
def h35:Hint:=(hS (hR 9) (hS (hR 3) (.block (.loop 0xfffffffffe00e0 [(17,tI)] (hS (hR 1) (hS (hC hL hL) (hJ (0x7ffffffff800e0,[]) (.block (hS (hR 4) (hS (hS (.region (lR 13) (hO 13)) (hJ (0x3ff80000000,[(41,tB)]) (.region [] (.ops 2 (.split 32 (.skips 3 (.ops 2 (.skips 3 (hO 1)))) (.ops 5 (.split 37 (.skips 3 (hO 1)) (hO 4)))))) (hC hL hL))) (hS (hR 7) (.region (lR 8) (hO 8)))))) (hR 2))))))))
theorem j35 {a0:Option Addr}{a1:Sl}{K:Unit->Wp}{w:World}(h:F35 a0 a1 K w):Aa Tryz.prog 35 #[(.pointer a0),a1.v] (.tup []) K w:=tied Am Tryz.func35 h35 _ h
def F40 (a0:Option Addr) (a1:(Int×Sl×Unit)) (K:Unit->Wp):Wp:=Ad (.cells #[(vI a1.1),a1.2.1.v] 72) λb1=>nn a0 λp2=>ld (.bool) (p2.add 5) λ(x3:Bool)=>sif x3 (K ()) (jU (λJ4=>drew<|nn a0 λp6=>ld (.sl) (p6.add 3) λ(x7:Sl)=>lI (at0 b1) λx8=>nn a0 λp9=>ld (.sl) (p9.add 3) λ(x10:Sl)=>slc x7.a 0 (if ((x10.len:Nat):Int)<(if 0>x8 then 0 else x8) then ((x10.len:Nat):Int) else (if 0>x8 then 0 else x8)) ((x7.cap:Nat):Int) x7.cap 1 λx11=>sI (λs12 again13=>sif (decide (s12.1<((x11.len:Nat):Int))) (ixl (.any) x11 s12.1 1 λ(x15:Value)=>nn a0 λp16=>ld (.map) (p16.add 2) λ(x17:Option Nat)=>Bg Tryz.prog (do let d ←Deferred.ofValue x15 #[(.map x17)];invoke d.target d.args:Sem Next) (.tup []) λ(x18:(Unit))=>again13 ((IntKind.wrap .i64 (s12.1+1)),())) (J4 ())) (0,())) λs5=>jU (λJ19=>nn a0 λp21=>ld (.map) (p21.add 2) λ(x22:Option Nat)=>cS 71 #[(.map x22)] λx23=>sI (λs24 again25=>sif (decide (s24.1<((x23.len:Nat):Int))) (ixl (.str) x23 s24.1 1 λ(x27:ByteArray)=>jI (λJ28=>ld (.sl) (ad b1 1) λ(x30:Sl)=>sif (decide (s24.1<((x30.len:Nat):Int))) (ld (.sl) (ad b1 1) λ(x31:Sl)=>ixI x31 s24.1 1 λx33=>J28 (x33,())) (J28 (0,()))) λs29=>nn a0 λp34=>ld (.map) (p34.add 2) λ(x35:Option Nat)=>rdT Tryz.prog rP (Instr.lookup 103 (.map x35) (.string x27) false) λ(x36:Option Addr)=>Aa Tryz.prog 72 #[(.pointer x36),(vI s29.1)] (.tup []) λ(x37:(Unit))=>again25 ((IntKind.wrap .i64 (s24.1+1)),())) (J19 ())) (0,())) λs20=>nn a0 λp38=>ld (.map) (p38.add 2) λ(x39:Option Nat)=>Aa Tryz.prog 73 #[(.map x39)] (.one (.one .map)) λ(x40:Option Nat)=>nn a0 λp41=>stC (p41.add 1) (.map x40)<|nn a0 λp42=>stC (p42.add 3) (.slice none 0 0)<|nn a0 λp43=>stC (p43.add 5) (.bool true)<|K ())
def h40:Hint:=(hS (hR 1) (hS (hS (hR 4) (hC hL hL)) (hJ (0x7fffffe020,[]) (hS (.region (lR 16) (hO 16)) (.block (.loop 0x7ff0000020 [(28,tI)] (hS (hR 1) (hS (hC hL hL) (hS (.block (hS (hR 3) (hR 6))) (hR 2))))))) (hJ (0x1fffffff80000001c0,[]) (hS (hR 7) (.block (.loop 0x1fffffe000000001c0 [(45,tI)] (hS (hR 1) (hS (hC hL hL) (hS (.block (hS (hR 5) (hS (hR 1) (hJ (0xffc000000000100,[(8,tI)]) (hS (hR 5) (hC (hR 6) hL)) (hR 8))))) (hR 2))))))) (hS (hR 13) (hR 4))))))
theorem j40 {a0:Option Addr}{a1:(Int×Sl×Unit)}{K:Unit->Wp}{w:World}(h:F40 a0 a1 K w):Aa Tryz.prog 40 #[(.pointer a0),(vA c72 a1)] (.tup []) K w:=tied Am Tryz.func40 h40 _ h
def F42 (a0:Option Addr) (K:Unit->Wp):Wp:=nn a0 λp1=>ld (.bool) (p1.add 5) λ(x2:Bool)=>sif x2 (nn a0 λp3=>stC (p3.add 5) (.bool false)<|nn a0 λp4=>stC (p4.add 6) (.map none)<|nn a0 λp5=>stC (p5.add 7) (vI 0)<|K ()) (K ())
def h42:Hint:=(hS (hR 4) (hC (hR 12) hL))
theorem j42 {a0:Option Addr}{K:Unit->Wp}{w:World}(h:F42 a0 K w):Aa Tryz.prog 42 #[(.pointer a0)] (.tup []) K w:=tied Am Tryz.func42 h42 _ h
def F49 (a0:Option Addr) (a1:ByteArray) (K:(Sl×Value×Unit)->Wp):Wp:=Ad (.cells #[(.pointer a0)] 24) λb1=>Ad (.cells #[(.string a1)] 9) λb2=>Ad (.cells #[(.slice none 0 0)] 30) λb3=>ld (.ptr) (at0 b1) λ(x4:Option Addr)=>ld (.str) (at0 b2) λ(x5:ByteArray)=>Aa Tryz.prog 65 #[(.pointer x4),(.string { data:=#[114,101,97,100] }),(.string x5),(.func (Fn.func 87) #[] #[(.pointer (some (at0 b1))),(.pointer (some (at0 b2))),(.pointer (some (at0 b3)))]),.nilFunc] (.one (.one .any)) λ(x6:Value)=>rdB Tryz.prog (do eqGuard .neq 26 (Operand.tmp 12) (Operand.const Value.nilIface) x6 .nilIface;binOp .neq 26 x6 .nilIface:Sem Value) λr7=>sif r7 (K (⟨none,0,0⟩,x6,())) (ld (.sl) (at0 b3) λ(x8:Sl)=>K (x8,.nilIface,()))
def h49:Hint:=(hS (hR 4) (hS (hR 1) (hS (hR 5) (hS (hS (hR 2) (hC (hS (hR 3) hL) hL)) (hS (hR 3) hL)))))
theorem j49 {a0:Option Addr}{a1:ByteArray}{K:(Sl×Value×Unit)->Wp}{w:World}(h:F49 a0 a1 K w):Aa Tryz.prog 49 #[(.pointer a0),(.string a1)] (.tup [(.one .sl),(.one .any)]) K w:=tied Am Tryz.func49 h49 _ h
def F50 (a0:ByteArray) (a1:ByteArray) (K:Bool->Wp):Wp:=cB 88 #[(.string a0),(.string a1)] λx1=>K x1
def h50:Hint:=(hS (hR 1) (hS (hR 4) hL))
theorem j50 {a0:ByteArray}{a1:ByteArray}{K:Bool->Wp}{w:World}(h:F50 a0 a1 K w):Aa Tryz.prog 50 #[(.string a0),(.string a1)] rB K w:=tied Am Tryz.func50 h50 _ h
def F51 (a0:ByteArray) (a1:Value) (K:Int->Wp):Wp:=cN 89 #[(.string a0),a1,(.bool true)] λx1=>K x1
def h51:Hint:=(hS (hR 1) (hS (hR 4) hL))
theorem j51 {a0:ByteArray}{a1:Value}{K:Int->Wp}{w:World}(h:F51 a0 a1 K w):Aa Tryz.prog 51 #[(.string a0),a1] rI K w:=tied Am Tryz.func51 h51 _ h
def F52 (a0:Int) (K:Bool->Wp):Wp:=jB (λJ1=>jB (λJ3=>sif (decide (a0>=97)) (J3 ((decide (a0<=122)),())) (J3 (false,()))) λs4=>sif s4.1 (J1 (s4.1,())) (jB (λJ5=>sif (decide (a0>=65)) (J5 ((decide (a0<=90)),())) (J5 (false,()))) λs6=>sif s6.1 (J1 (s6.1,())) (sif (decide (a0>=48)) (J1 ((decide (a0<=57)),())) (J1 (false,()))))) λs2=>sif s2.1 (K false) (Aa Tryz.prog 90 #[(.string { data:=#[46,95,45,126] }),(.int .i32 a0)] rB λ(x7:Bool)=>K (!x7))
def h52:Hint:=(hS (hR 1) (hS (.block (hJ (4194296,[(3,tB)]) (hJ (1016,[(3,tB)]) (.region [] (.ops 3 (.split 6 (hO 4) (.skips 2 (hO 2))))) (hC hL (hJ (64520,[(3,tB)]) (.region [] (.ops 3 (.split 12 (hO 4) (.skips 2 (hO 2))))) (hC hL (.region [] (.ops 3 (.split 18 (hO 4) (.skips 2 (hO 2))))))))) (hC (hS (hR 1) hL) hL))) (hS (hR 4) hL)))
theorem j52 {a0:Int}{K:Bool->Wp}{w:World}(h:F52 a0 K w):Aa Tryz.prog 52 #[(.int .i32 a0)] rB K w:=tied Am Tryz.func52 h52 _ h
def F53 (a0:Value) (a1:Value) (K:Bool->Wp):Wp:=jB (λJ1=>rdB Tryz.prog (do eqGuard .eql 26 (Operand.tmp 6) (Operand.const Value.nilIface) a0 .nilIface;binOp .eql 26 a0 .nilIface:Sem Value) λr3=>sif r3 (J1 (true,())) (rdB Tryz.prog (do eqGuard .eql 26 (Operand.tmp 9) (Operand.const Value.nilIface) a1 .nilIface;binOp .eql 26 a1 .nilIface:Sem Value) λr4=>J1 (r4,()))) λs2=>sif s2.1 (rdB Tryz.prog (do eqGuard .eql 26 (Operand.tmp 12) (Operand.tmp 13) a0 a1;binOp .eql 26 a0 a1:Sem Value) λr5=>K r5) (Bg Tryz.prog (callFunc 91 #[a1]) (.one (.one .any)) λ(x6:Value)=>Bg Tryz.prog (invoke (.fn (.method "Comparable") #[]) (#[x6]++#[])) rB λ(x7:Bool)=>cB 92 #[a0,a1,(.bool x7)] λx8=>K x8)
def h53:Hint:=(hS (hR 1) (hS (hJ (4032,[(11,tB)]) (.region [] (.ops 3 (.split 8 (.skips 2 (hO 1)) (hO 3)))) (hC (hS (hR 4) hL) hL)) (hS (hR 4) (hS (hR 5) hL))))
theorem j53 {a0:Value}{a1:Value}{K:Bool->Wp}{w:World}(h:F53 a0 a1 K w):Aa Tryz.prog 53 #[a0,a1] rB K w:=tied Am Tryz.func53 h53 _ h
def F54 (a0:Value) (K:Int->Wp):Wp:=Ad (.cells #[(.pointer none)] 99) λb1=>Ad (.cells #[(vI 0)] 33) λb2=>rdB Tryz.prog (do eqGuard .eql 26 (Operand.tmp 6) (Operand.const Value.nilIface) a0 .nilIface;binOp .eql 26 a0 .nilIface:Sem Value) λr3=>sif r3 (K 0) (jB (λJ4=>cB 93 #[a0,(.iface 176 (.pointer (some (at0 b1))))] λx6=>sif x6 (ld (.ptr) (at0 b1) λ(x7:Option Addr)=>nn x7 λp8=>ld (.any) (p8.add 3) λ(x9:Value)=>cB 93 #[x9,(.iface 177 (.pointer (some (at0 b2))))] λx10=>J4 (x10,())) (J4 (false,()))) λs5=>sif s5.1 (lI (at0 b2) λx11=>K x11) (K 160))
def h54:Hint:=(hS (hR 1) (hS (hR 1) (hS (hR 1) (hS (.block (hS (hR 3) (hC (hS (hR 1) hL) (hJ (0xfff00,[(8,tB)]) (.region [] (.ops 4 (.split 12 (hO 8) (.skips 6 (hO 2))))) (hC (hS (hR 2) hL) hL))))) (hS (hR 1) hL)))))
theorem j54 {a0:Value}{K:Int->Wp}{w:World}(h:F54 a0 K w):Aa Tryz.prog 54 #[a0] rI K w:=tied Am Tryz.func54 h54 _ h
def F56 (a0:Sl) (a1:Sl) (K:Bool->Wp):Wp:=sif (decide (((a0.len:Nat):Int)>=((a1.len:Nat):Int))) (slc a0.a 0 ((a1.len:Nat):Int) ((a0.cap:Nat):Int) a0.cap 1 λx1=>cB 96 #[x1.v,a1.v] λx2=>K x2) (K false)
def h56:Hint:=(hS (hR 1) (hS (.region [] (.ops 6 (.split 10 (hO 8) (.skips 6 (hO 2))))) hL))
theorem j56 {a0:Sl}{a1:Sl}{K:Bool->Wp}{w:World}(h:F56 a0 a1 K w):Aa Tryz.prog 56 #[a0.v,a1.v] rB K w:=tied Am Tryz.func56 h56 _ h
def F57 (a0:Sl) (K:Sl->Wp):Wp:=sif (Option.isNone a0.a) (K ⟨none,0,0⟩) (Ad (.cells #[] 5) λb1=>Dp Tryz.prog rS (Builtin.append_ #[30,30] 30 #[(.slice (some (at0 b1)) 0 0),a0.v]) λ(x2:Sl)=>K x2)
def h57:Hint:=(hS (hR 1) (hS (hS (hR 2) (hC (hS (hR 1) hL) hL)) (hS (hR 4) hL)))
theorem j57 {a0:Sl}{K:Sl->Wp}{w:World}(h:F57 a0 K w):Aa Tryz.prog 57 #[a0.v] rS K w:=tied Am Tryz.func57 h57 _ h
def F58 (a0:Option Addr) (a1:ByteArray) (a2:Option Addr) (a3:Option Addr) (a4:Option Addr) (K:Value->Wp):Wp:=Aa Tryz.prog 97 #[(.pointer a0),(.string a1),(.pointer a2),(.pointer a3)] (.one (.one .any)) λ(x1:Value)=>rdB Tryz.prog (do eqGuard .neq 26 (Operand.tmp 17) (Operand.const Value.nilIface) x1 .nilIface;binOp .neq 26 x1 .nilIface:Sem Value) λr2=>sif r2 (K x1) (nn a3 λp3=>lds c57 p3 λ(x4:I3)=>nn a4 λp5=>Ae p5 (vA c57 x4) 3<|nn a0 λp6=>ld (.ptr) p6 λ(x7:Option Addr)=>Aa Tryz.prog 76 #[(.pointer x7)] (.one (.one .any)) λ(x8:Value)=>K x8)
def h58:Hint:=(hS (hR 1) (hS (hR 6) (hS (hS (hR 2) (hC (hS (hR 2) hL) hL)) (hS (hR 6) (hS (hR 6) hL)))))
theorem j58 {a0:Option Addr}{a1:ByteArray}{a2:Option Addr}{a3:Option Addr}{a4:Option Addr}{K:Value->Wp}{w:World}(h:F58 a0 a1 a2 a3 a4 K w):Aa Tryz.prog 58 #[(.pointer a0),(.string a1),(.pointer a2),(.pointer a3),(.pointer a4)] (.one (.one .any)) K w:=tied Am Tryz.func58 h58 _ h
def F59 (a0:Option Addr) (K:Sl->Wp):Wp:=nn a0 λp1=>ld (.bool) (p1.add 5) λ(x2:Bool)=>sif x2 (K ⟨none,0,0⟩) (nn a0 λp3=>ld (.map) (p3.add 1) λ(x4:Option Nat)=>cS 71 #[(.map x4)] λx5=>K x5)
def h59:Hint:=(hS (hR 1) (hS (hS (hR 4) (hC (hS (hR 1) hL) hL)) (hS (hR 6) hL)))
theorem j59 {a0:Option Addr}{K:Sl->Wp}{w:World}(h:F59 a0 K w):Aa Tryz.prog 59 #[(.pointer a0)] rS K w:=tied Am Tryz.func59 h59 _ h
def F60 (a0:ByteArray) (K:Bool->Wp):Wp:=jB (λJ1=>sif (((ByteArray.size a0:Nat):Int)==0) (J1 (true,())) (J1 ((decide (((ByteArray.size a0:Nat):Int)>32)),()))) λs2=>sif s2.1 (K false) (jU (λJ3=>Dp Tryz.prog rS (convert 9 30 (.string a0)) λx5=>sI (λs6 again7=>sif (decide (s6.1<((x5.len:Nat):Int))) (jU (λJ8=>ixl (.int .u8) x5 s6.1 1 λ(x11:Int)=>jB (λJ12=>jB (λJ14=>sif (decide (97<=x11)) (J14 ((decide (x11<=122)),())) (J14 (false,()))) λs15=>sif s15.1 (J12 (s15.1,())) (jB (λJ16=>sif (decide (65<=x11)) (J16 ((decide (x11<=90)),())) (J16 (false,()))) λs17=>sif s17.1 (J12 (s17.1,())) (sif (decide (48<=x11)) (J12 ((decide (x11<=57)),())) (J12 (false,()))))) λs13=>sif s13.1 (J8 ()) (jB (λJ18=>sif (x11==46) (J18 ((x11==46),())) (sif (x11==95) (J18 ((x11==95),())) (sif (x11==45) (J18 ((x11==45),())) (J18 ((x11==126),()))))) λs19=>sif s19.1 (J8 ()) (K false))) λs9=>again7 ((IntKind.wrap .i64 (s6.1+1)),())) (J3 ())) (0,())) λs4=>K true)
def h60:Hint:=(hS (hR 1) (hS (hJ (8160,[(12,tB)]) (.region [] (.ops 4 (.split 8 (.skips 3 (hO 1)) (hO 4)))) (hC (hS (hR 1) hL) hL)) (hJ (0x1ffffffffe014,[]) (hS (hR 4) (.block (.loop 0x1ffffffff0014 [(16,tI)] (hS (hR 1) (hS (hC hL hL) (hJ (0xfffffffc0014,[]) (.block (hS (hR 3) (.block (hJ (0x7ffff00000,[(20,tB)]) (hJ (0x7f00000,[(20,tB)]) (.region [] (.ops 3 (.split 23 (hO 4) (.skips 2 (hO 2))))) (hC hL (hJ (8456765440,[(20,tB)]) (.region [] (.ops 3 (.split 29 (hO 4) (.skips 2 (hO 2))))) (hC hL (.region [] (.ops 3 (.split 35 (hO 4) (.skips 2 (hO 2))))))))) (hC hL (hJ (0xff8000000000,[(39,tB)]) (hS (hR 3) (hC hL (hS (hR 3) (hC hL (hS (hR 3) (hC hL (hR 3))))))) (hC hL (hS (hR 1) hL)))))))) (hR 2))))))) (hS (hR 1) hL))))
theorem j60 {a0:ByteArray}{K:Bool->Wp}{w:World}(h:F60 a0 K w):Aa Tryz.prog 60 #[(.string a0)] rB K w:=tied Am Tryz.func60 h60 _ h
def F61 (a0:Option Addr) (K:Option Addr->Wp):Wp:=nn a0 λp1=>ld cI (p1.add 4) λ(x2:Int)=>nn a0 λp3=>stC (p3.add 4) (vI (IntKind.wrap .i64 (x2+1)))<|nn a0 λp4=>ld cI (p4.add 4) λ(x5:Int)=>Ad (.cells #[(vI x5),(.slice none 0 0),(vI 0),(vI 0)] 123) λb6=>K (some (at0 b6))
def h61:Hint:=(hS (hR 1) (hS (hR 8) (hS (hR 7) hL)))
theorem j61 {a0:Option Addr}{K:Option Addr->Wp}{w:World}(h:F61 a0 K w):Aa Tryz.prog 61 #[(.pointer a0)] rP K w:=tied Am Tryz.func61 h61 _ h
def F62 (a0:Option Addr) (K:Unit->Wp):Wp:=nn a0 λp1=>ld (.map) (p1.add 1) λ(x2:Option Nat)=>Aa Tryz.prog 73 #[(.map x2)] (.one (.one .map)) λ(x3:Option Nat)=>nn a0 λp4=>stC (p4.add 2) (.map x3)<|nn a0 λp5=>stC (p5.add 3) (.slice none 0 0)<|K ()
def h62:Hint:=(hR 13)
theorem j62 {a0:Option Addr}{K:Unit->Wp}{w:World}(h:F62 a0 K w):Aa Tryz.prog 62 #[(.pointer a0)] (.tup []) K w:=tied Am Tryz.func62 h62 _ h
def F63 (a0:Sl) (K:Sl->Wp):Wp:=sif (Option.isNone a0.a) (K ⟨none,0,0⟩) (Ad (.cells #[] 5) λb1=>Dp Tryz.prog rS (Builtin.append_ #[30,30] 30 #[(.slice (some (at0 b1)) 0 0),a0.v]) λ(x2:Sl)=>K x2)
def h63:Hint:=(hS (hR 1) (hS (hS (hR 2) (hC (hS (hR 1) hL) hL)) (hS (hR 4) hL)))
theorem j63 {a0:Sl}{K:Sl->Wp}{w:World}(h:F63 a0 K w):Aa Tryz.prog 63 #[a0.v] rS K w:=tied Am Tryz.func63 h63 _ h
def F64 (a0:Option Addr) (K:Unit->Wp):Wp:=nn a0 λp1=>ld (.sl) (p1.add 1) λ(x2:Sl)=>nn a0 λp3=>stC (p3.add 2) (vI ((x2.len:Nat):Int))<|K ()
def h64:Hint:=(hR 9)
theorem j64 {a0:Option Addr}{K:Unit->Wp}{w:World}(h:F64 a0 K w):Aa Tryz.prog 64 #[(.pointer a0)] (.tup []) K w:=tied Am Tryz.func64 h64 _ h
def F65 (a0:Option Addr) (a1:ByteArray) (a2:ByteArray) (a3:Value) (a4:Value) (K:Value->Wp):Wp:=nn a0 λp1=>ld (.bool) (p1.add 5) λ(x2:Bool)=>sif x2 (Ad (.cells #[(.string a1),(.string a2),(vI 0),(.iface 33 (vI 165))] 101) λb3=>K (.iface 99 (.pointer (some (at0 b3))))) (nn a0 λp4=>ld cI (p4.add 7) λ(x5:Int)=>nn a0 λp6=>stC (p6.add 7) (vI (IntKind.wrap .i64 (x5+1)))<|nn a0 λp7=>ld cI (p7.add 7) λ(x8:Int)=>nn a0 λp9=>ld (.map) (p9.add 6) λ(x10:Option Nat)=>rdT Tryz.prog (.one (.agg Gj)) (Instr.lookup 105 (.map x10) (vI x8) false) λ(x11:(Int×Int×Int×Int×Sl×Unit))=>Ad (.cells #[(vI 0),(vI 0),(vI 0),(vI 0),(.slice none 0 0)] 132) λb12=>Ae (at0 b12) (vA Gj x11) 5<|jI (λJ13=>lI (ad b12 1) λx15=>sif (x15==1) (J13 (160,())) (sif (x15==2) (rdB Tryz.prog (do eqGuard .neq 182 (Operand.tmp 50) (Operand.const Value.nilFunc) a4 .nilFunc;binOp .neq 182 a4 .nilFunc:Sem Value) λr16=>sif r16 (lI (ad b12 2) λx17=>Bg Tryz.prog (do let d ←Deferred.ofValue a4 #[(vI x17)];invoke d.target d.args:Sem Next) rI λ(x18:Int)=>J13 (x18,())) (J13 (160,()))) (sif (x15==4) (lds c72 (ad b12 3) λ(x19:(Int×Sl×Unit))=>Aa Tryz.prog 40 #[(.pointer a0),(vA c72 x19)] (.tup []) λ(x20:(Unit))=>J13 (165,())) (sif (x15==5) (Bg Tryz.prog (do let d ←Deferred.ofValue a3 #[];invoke d.target d.args:Sem Next) rI λ(x21:Int)=>lds c72 (ad b12 3) λ(x22:(Int×Sl×Unit))=>Aa Tryz.prog 40 #[(.pointer a0),(vA c72 x22)] (.tup []) λ(x23:(Unit))=>J13 (165,())) (sif (x15==3) (Bg Tryz.prog (do let d ←Deferred.ofValue a3 #[];invoke d.target d.args:Sem Next) rI λ(x24:Int)=>sif (x24 !=0) (J13 (x24,())) (J13 (160,()))) (Bg Tryz.prog (do let d ←Deferred.ofValue a3 #[];invoke d.target d.args:Sem Next) rI λ(x25:Int)=>J13 (x25,()))))))) λs14=>sif (s14.1==0) (K .nilIface) (Ad (.cells #[(.string a1),(.string a2),(vI x8),(.iface 33 (vI s14.1))] 101) λb26=>K (.iface 99 (.pointer (some (at0 b26))))))
def h65:Hint:=(hS (hR 1) (hS (hS (hR 4) (hC (hS (hR 7) hL) hL)) (hS (hR 8) (hS (hR 5) (hS (hR 8) (hS (hR 1) (hJ (0x1ffffffffc0000006000,[(13,tI)]) (hS (hR 2) (.block (hS (hR 2) (hC hL (hS (hR 2) (hC (hS (hR 2) (hC (hR 5) hL)) (hS (hR 2) (hC (hS (hR 4) (hR 1)) (hS (hR 2) (hC (hS (hR 2) (hS (hR 4) (hR 1))) (hS (hR 2) (hC (hS (hR 3) (hS (hR 2) (hC (hR 2) hL))) (hR 3))))))))))))) (hS (hS (hR 2) (hC (hS (hR 1) hL) hL)) (hS (hR 9) hL)))))))))
theorem j65 {a0:Option Addr}{a1:ByteArray}{a2:ByteArray}{a3:Value}{a4:Value}{K:Value->Wp}{w:World}(h:F65 a0 a1 a2 a3 a4 K w):Aa Tryz.prog 65 #[(.pointer a0),(.string a1),(.string a2),a3,a4] (.one (.one .any)) K w:=tied Am Tryz.func65 h65 _ h
def F66 (v0:Addr) (v1:Addr) (v2:Addr) (K:Int->Wp):Wp:=ld (.ptr) v0 λ(x1:Option Addr)=>ld (.str) v1 λ(x2:ByteArray)=>Aa Tryz.prog 67 #[(.pointer x1),(.string x2)] (.tup [(.agg c127),(.one cI)]) λ(x3:((Option Addr×ByteArray×Unit)×Int×Unit))=>Ad (.cells #[(.pointer none),(.string { data:=#[] })] 127) λb4=>Ae (at0 b4) (vA c127 x3.1) 2<|jU (λJ5=>sif (x3.2.1==0) (drew<|ld (.ptr) (at0 b4) λ(x7:Option Addr)=>nn x7 λp8=>lI p8 λx9=>ld (.ptr) (at0 b4) λ(x10:Option Addr)=>nn x10 λp11=>ld (.sl) (p11.add 1) λ(x12:Sl)=>ld (.ptr) (at0 b4) λ(x13:Option Addr)=>nn x13 λp14=>ld cI (p14.add 3) λ(x15:Int)=>Ae v2 (.agg #[(vI 0),(vI 0),(vI 0)]) 3<|keep (λw=>w.cell? (p14.add 3)=some (Cell.val cI x15))<|keep (λw=>w.cell? (at0 b4)=some (Cell.val (.ptr) x13))<|keep (λw=>w.cell? (p11.add 1)=some (Cell.val (.sl) x12))<|keep (λw=>w.cell? (at0 b4)=some (Cell.val (.ptr) x10))<|keep (λw=>w.cell? p8=some (Cell.val cI x9))<|keep (λw=>w.cell? (at0 b4)=some (Cell.val (.ptr) x7))<|chk (0<=(0:Int)/\0<((3:Nat):Int))<|stC (v2.add (scaled (Int.toNat 0) 1)) (vI x9)<|keep (λw=>w.cell? (p14.add 3)=some (Cell.val cI x15))<|keep (λw=>w.cell? (at0 b4)=some (Cell.val (.ptr) x13))<|keep (λw=>w.cell? (p11.add 1)=some (Cell.val (.sl) x12))<|keep (λw=>w.cell? (at0 b4)=some (Cell.val (.ptr) x10))<|chk (0<=(1:Int)/\1<((3:Nat):Int))<|stC (v2.add (scaled (Int.toNat 1) 1)) (vI ((x12.len:Nat):Int))<|keep (λw=>w.cell? (p14.add 3)=some (Cell.val cI x15))<|keep (λw=>w.cell? (at0 b4)=some (Cell.val (.ptr) x13))<|chk (0<=(2:Int)/\2<((3:Nat):Int))<|stC (v2.add (scaled (Int.toNat 2) 1)) (vI x15)<|J5 ()) (J5 ())) λs6=>K x3.2.1
def h66:Hint:=(hS (hR 1) (hS (hR 9) (hJ (8589930496,[]) (hS (hR 2) (hC (.region (lR 23) (hO 23)) hL)) (hS (hR 2) hL))))
theorem j66 {v0:Addr}{v1:Addr}{v2:Addr}{K:Int->Wp}{w:World}(h:F66 v0 v1 v2 K w):Aa Tryz.prog 66 #[(.pointer (some v0)),(.pointer (some v1)),(.pointer (some v2))] rI K w:=tied Am Tryz.func66 h66 _ h
def F67 (a0:Option Addr) (a1:ByteArray) (K:((Option Addr×ByteArray×Unit)×Int×Unit)->Wp):Wp:=Ad (.cells #[(.pointer none),(.string { data:=#[] })] 127) λb1=>cB 60 #[(.string a1)] λx2=>sif (!x2) (Ae (at0 b1) (.agg #[(.pointer none),(.string { data:=#[] })]) 2<|lds c127 (at0 b1) λ(x3:(Option Addr×ByteArray×Unit))=>K (x3,164,())) (nn a0 λp4=>ld (.map) (p4.add 1) λ(x5:Option Nat)=>rdT Tryz.prog rP (Instr.lookup 103 (.map x5) (.string a1) false) λ(x6:Option Addr)=>sif (Option.isNone x6) (Ae (at0 b1) (.agg #[(.pointer none),(.string { data:=#[] })]) 2<|lds c127 (at0 b1) λ(x7:(Option Addr×ByteArray×Unit))=>K (x7,162,())) (Ae (at0 b1) (.agg #[(.pointer x6),(.string a1)]) 2<|lds c127 (at0 b1) λ(x8:(Option Addr×ByteArray×Unit))=>K (x8,0,())))
def h67:Hint:=(hS (hR 2) (hS (hS (hR 3) (hC (hS (hR 3) hL) hL)) (hS (hR 7) (hS (hS (hR 2) (hC (hS (hR 3) hL) hL)) (hS (hR 5) hL)))))
theorem j67 {a0:Option Addr}{a1:ByteArray}{K:((Option Addr×ByteArray×Unit)×Int×Unit)->Wp}{w:World}(h:F67 a0 a1 K w):Aa Tryz.prog 67 #[(.pointer a0),(.string a1)] (.tup [(.agg c127),(.one cI)]) K w:=tied Am Tryz.func67 h67 _ h
def F68 (a0:Sl) (K:Sl->Wp):Wp:=sif (Option.isNone a0.a) (K ⟨none,0,0⟩) (Ad (.cells #[] 3) λb1=>Dp Tryz.prog rS (Builtin.append_ #[70,70] 70 #[(.slice (some (at0 b1)) 0 0),a0.v]) λ(x2:Sl)=>K x2)
def h68:Hint:=(hS (hR 1) (hS (hS (hR 2) (hC (hS (hR 1) hL) hL)) (hS (hR 4) hL)))
theorem j68 {a0:Sl}{K:Sl->Wp}{w:World}(h:F68 a0 K w):Aa Tryz.prog 68 #[a0.v] rS K w:=tied Am Tryz.func68 h68 _ h
def F71 (a0:Option Nat) (K:Sl->Wp):Wp:=jS (λJ1=>Dp Tryz.prog rP (Instr.range 103 (.map a0)) λ(x3:Option Addr)=>sS (λs4 again5=>Ap7 Tryz.prog (Instr.next (.pointer x3) false 0) λr6 rest7=>sif r6 (Dp Tryz.prog (.tup [(.one .str),(.one .ptr)]) (Instr.entry (.pointer x3)) λ(x8:ByteArray×Option Addr×Unit)=>Ad (.cells #[(.string x8.1)] 9) λb9=>Dp Tryz.prog rS (Builtin.append_ #[117,117] 117 #[s4.1.v,(.slice (some (at0 b9)) 1 1)]) λ(x10:Sl)=>again5 (x10,())) (J1 (s4.1,()))) (⟨none,0,0⟩,())) λs2=>Aa Tryz.prog 101 #[s2.1.v] (.tup []) λ(x11:(Unit))=>K s2.1
def h71:Hint:=(hS (hR 1) (hS (hR 1) (hJ (32760,[(3,tS)]) (hS (hR 2) (.block (.loop 32664 [(3,tS)] (hS (hR 2) (hS (hC hL hL) (.block (hS (.region [] (.op (some (.tup [(.one .str),tP])) (hO 2))) (hR 5)))))))) (hS (hR 2) (hS (hR 2) hL)))))
theorem j71 {a0:Option Nat}{K:Sl->Wp}{w:World}(h:F71 a0 K w):Aa Tryz.prog 71 #[(.map a0)] rS K w:=tied Am Tryz.func71 h71 _ h
def F72 (a0:Option Addr) (a1:Int) (K:Unit->Wp):Wp:=drew<|nn a0 λp1=>ld cI (p1.add 2) λ(x2:Int)=>nn a0 λp3=>ld (.sl) (p3.add 1) λ(x4:Sl)=>nn a0 λp5=>ld cI (p5.add 2) λ(x6:Int)=>nn a0 λp7=>ld (.sl) (p7.add 1) λ(x8:Sl)=>slc x8.a 0 (IntKind.wrap .i64 (x2+(if (IntKind.wrap .i64 (((x4.len:Nat):Int)-x6))<(if 0>a1 then 0 else a1) then (IntKind.wrap .i64 (((x4.len:Nat):Int)-x6)) else (if 0>a1 then 0 else a1)))) (IntKind.wrap .i64 (x2+(if (IntKind.wrap .i64 (((x4.len:Nat):Int)-x6))<(if 0>a1 then 0 else a1) then (IntKind.wrap .i64 (((x4.len:Nat):Int)-x6)) else (if 0>a1 then 0 else a1)))) x8.cap 1 λx9=>nn a0 λp10=>stC (p10.add 1) x9.v<|Aa Tryz.prog 64 #[(.pointer a0)] (.tup []) λ(x11:(Unit))=>K ()
def h72:Hint:=(hS (.region (lR 19) (hO 19)) (hS (hR 11) (hR 2)))
theorem j72 {a0:Option Addr}{a1:Int}{K:Unit->Wp}{w:World}(h:F72 a0 a1 K w):Aa Tryz.prog 72 #[(.pointer a0),(vI a1)] (.tup []) K w:=tied Am Tryz.func72 h72 _ h
def F73 (a0:Option Nat) (K:Option Nat->Wp):Wp:=sif (Option.isNone a0) (K none) (Bg Tryz.prog (callFunc 102 #[(.iface 103 (.map a0))]) (.one (.one .any)) λ(x1:Value)=>Dp Tryz.prog (.one (.one .map)) (Instr.typeAssert x1 20 103 false) λ(x2:Option Nat)=>K x2)
def h73:Hint:=(hS (hR 1) (hS (hS (hR 2) (hC (hS (hR 1) hL) hL)) (hS (hR 5) hL)))
theorem j73 {a0:Option Nat}{K:Option Nat->Wp}{w:World}(h:F73 a0 K w):Aa Tryz.prog 73 #[(.map a0)] (.one (.one .map)) K w:=tied Am Tryz.func73 h73 _ h
def F75 (a0:Option Addr) (a1:ByteArray) (K:Value->Wp):Wp:=Ad (.cells #[(.pointer a0)] 24) λb1=>Ad (.cells #[(.string a1)] 9) λb2=>ld (.ptr) (at0 b1) λ(x3:Option Addr)=>ld (.str) (at0 b2) λ(x4:ByteArray)=>Aa Tryz.prog 65 #[(.pointer x3),(.string { data:=#[114,101,109,111,118,101] }),(.string x4),(.func (Fn.func 103) #[] #[(.pointer (some (at0 b1))),(.pointer (some (at0 b2)))]),.nilFunc] (.one (.one .any)) λ(x5:Value)=>K x5
def h75:Hint:=(hS (hR 3) (hS (hR 5) hL))
theorem j75 {a0:Option Addr}{a1:ByteArray}{K:Value->Wp}{w:World}(h:F75 a0 a1 K w):Aa Tryz.prog 75 #[(.pointer a0),(.string a1)] (.one (.one .any)) K w:=tied Am Tryz.func75 h75 _ h
def F76 (a0:Option Addr) (K:Value->Wp):Wp:=Ad (.cells #[(.pointer a0)] 24) λb1=>ld (.ptr) (at0 b1) λ(x2:Option Addr)=>Aa Tryz.prog 65 #[(.pointer x2),(.string { data:=#[115,121,110,99,100,105,114] }),(.string { data:=#[] }),(.func (Fn.func 106) #[] #[(.pointer (some (at0 b1)))]),.nilFunc] (.one (.one .any)) λ(x3:Value)=>K x3
def h76:Hint:=(hS (hR 2) (hS (hR 4) hL))
theorem j76 {a0:Option Addr}{K:Value->Wp}{w:World}(h:F76 a0 K w):Aa Tryz.prog 76 #[(.pointer a0)] (.one (.one .any)) K w:=tied Am Tryz.func76 h76 _ h
def F87 (v0:Addr) (v1:Addr) (v2:Addr) (K:Int->Wp):Wp:=ld (.ptr) v0 λ(x1:Option Addr)=>ld (.str) v1 λ(x2:ByteArray)=>Aa Tryz.prog 67 #[(.pointer x1),(.string x2)] (.tup [(.agg c127),(.one cI)]) λ(x3:((Option Addr×ByteArray×Unit)×Int×Unit))=>Ad (.cells #[(.pointer none),(.string { data:=#[] })] 127) λb4=>Ae (at0 b4) (vA c127 x3.1) 2<|jU (λJ5=>sif (x3.2.1==0) (ld (.ptr) (at0 b4) λ(x7:Option Addr)=>nn x7 λp8=>ld (.sl) (p8.add 1) λ(x9:Sl)=>cS 63 #[x9.v] λx10=>stC v2 x10.v<|J5 ()) (J5 ())) λs6=>K x3.2.1
def h87:Hint:=(hS (hR 1) (hS (hR 9) (hJ (0xff000,[]) (hS (hR 2) (hC (hR 7) hL)) (hS (hR 2) hL))))
theorem j87 {v0:Addr}{v1:Addr}{v2:Addr}{K:Int->Wp}{w:World}(h:F87 v0 v1 v2 K w):Aa Tryz.prog 87 #[(.pointer (some v0)),(.pointer (some v1)),(.pointer (some v2))] rI K w:=tied Am Tryz.func87 h87 _ h
def F88 (a0:ByteArray) (a1:ByteArray) (K:Bool->Wp):Wp:=sif (decide (((ByteArray.size a0:Nat):Int)>=((ByteArray.size a1:Nat):Int))) (chk (0<=(IntKind.wrap .i64 (((ByteArray.size a0:Nat):Int)-((ByteArray.size a1:Nat):Int)))/\(IntKind.wrap .i64 (((ByteArray.size a0:Nat):Int)-((ByteArray.size a1:Nat):Int)))<=((a0.size:Nat):Int)/\((a0.size:Nat):Int)<=((a0.size:Nat):Int))<|K (ByteArray.toList (a0.extract (Int.toNat (IntKind.wrap .i64 (((ByteArray.size a0:Nat):Int)-((ByteArray.size a1:Nat):Int)))) (Int.toNat ((a0.size:Nat):Int)))==ByteArray.toList a1)) (K false)
def h88:Hint:=(hS (hR 1) (hS (.region [] (.ops 6 (.split 10 (hO 11) (.skips 9 (hO 2))))) hL))
theorem j88 {a0:ByteArray}{a1:ByteArray}{K:Bool->Wp}{w:World}(h:F88 a0 a1 K w):Aa Tryz.prog 88 #[(.string a0),(.string a1)] rB K w:=tied Am Tryz.func88 h88 _ h
def F89 (a0:ByteArray) (a1:Value) (a2:Bool) (K:Int->Wp):Wp:=jU (λJ1=>Dp Tryz.prog rP (Instr.range 9 (.string a0)) λ(x3:Option Addr)=>sU (λs4 again5=>Bd0 Tryz.prog (Instr.next (.pointer x3) true 0) (λp6 c7=>sif true (Bg Tryz.prog (do let d ←Deferred.ofValue a1 #[(.int .i32 c7)];invoke d.target d.args:Sem Next) rB λ(x8:Bool)=>rdB Tryz.prog (do eqGuard .eql 4 (Operand.tmp 17) (Operand.tmp 18) (.bool x8) (.bool a2);binOp .eql 4 (.bool x8) (.bool a2):Sem Value) λr9=>sif r9 (K p6) (again5 ())) (J1 ())) (sif false (λ_=>False) (J1 ()))) ()) λs2=>K (-1)
def h89:Hint:=(hS (hR 1) (hJ (2097088,[]) (hS (hR 2) (.block (.loop 2095552 [] (hS (hR 2) (hS (hC hL hL) (.block (hS (hR 4) (hS (hR 5) (hC (hS (hR 2) hL) hL))))))))) (hS (hR 1) hL)))
theorem j89 {a0:ByteArray}{a1:Value}{a2:Bool}{K:Int->Wp}{w:World}(h:F89 a0 a1 a2 K w):Aa Tryz.prog 89 #[(.string a0),a1,(.bool a2)] rI K w:=tied Am Tryz.func89 h89 _ h
def F90 (a0:ByteArray) (a1:Int) (K:Bool->Wp):Wp:=cN 130 #[(.string a0),(.int .i32 a1)] λx1=>K (decide (x1>=0))
def h90:Hint:=(hS (hR 1) (hS (hR 5) hL))
theorem j90 {a0:ByteArray}{a1:Int}{K:Bool->Wp}{w:World}(h:F90 a0 a1 K w):Aa Tryz.prog 90 #[(.string a0),(.int .i32 a1)] rB K w:=tied Am Tryz.func90 h90 _ h
def F92 (a0:Value) (a1:Value) (a2:Bool) (K:Bool->Wp):Wp:=Jv (S:=Value×Unit) (λs1 again2=>jB (λJ3=>sif a2 (rdB Tryz.prog (do eqGuard .eql 26 (Operand.tmp 16) (Operand.tmp 17) s1.1 a1;binOp .eql 26 s1.1 a1:Sem Value) λr5=>J3 (r5,())) (J3 (false,()))) λs4=>sif s4.1 (K true) (Dp Tryz.prog (.tup [(.one .any),(.one .bool)]) (Instr.typeAssert s1.1 26 213 true) λ(x6:(Value×Bool×Unit))=>jB (λJ7=>sif x6.2.1 (Bg Tryz.prog (invoke (.fn (.method "Is") #[]) (#[x6.1]++#[a1])) rB λ(x9:Bool)=>J7 (x9,())) (J7 (false,()))) λs8=>sif s8.1 (K true) (Dp Tryz.prog (.tup [(.one .any),(.one .bool)]) (Instr.typeAssert s1.1 26 216 true) λ(x10:Value×Bool×Unit)=>sif x10.2.1 (Bg Tryz.prog (invoke (.fn (.method "Unwrap") #[]) (#[x10.1]++#[])) (.one (.one .any)) λ(x11:Value)=>rdB Tryz.prog (do eqGuard .eql 26 (Operand.tmp 37) (Operand.const Value.nilIface) x11 .nilIface;binOp .eql 26 x11 .nilIface:Sem Value) λr12=>sif r12 (K false) (again2 (x11,()))) (Dp Tryz.prog (.tup [(.one .any),(.one .bool)]) (Instr.typeAssert s1.1 26 217 true) λ(x13:Value×Bool×Unit)=>sif x13.2.1 (jU (λJ14=>Bg Tryz.prog (invoke (.fn (.method "Unwrap") #[]) (#[x13.1]++#[])) rS λ(x16:Sl)=>sI (λs17 again18=>sif (decide (s17.1<((x16.len:Nat):Int))) (ixl (.any) x16 s17.1 1 λ(x20:Value)=>cB 92 #[x20,a1,(.bool a2)] λx21=>sif x21 (K true) (again18 ((IntKind.wrap .i64 (s17.1+1)),()))) (J14 ())) (0,())) λs15=>K false) (K false))))) (a0,())
def h92:Hint:=(hS (hR 1) (.block (.loop 0x3ffffffffff7c1 [(0,(.one .any))] (.block (hS (hJ (0xfc000,[(19,tB)]) (.region [] (.ops 2 (.split 15 (hO 4) (.skips 3 (hO 1))))) (hC (hS (hR 1) hL) hL)) (hS (hS (hR 7) (hJ (0x7e000000,[(30,tB)]) (.region [] (.ops 2 (.split 26 (hO 4) (.skips 3 (hO 1))))) (hC (hS (hR 1) hL) hL))) (hS (hR 1) (.block (hS (.region [] (.op (some (.tup [(.one .any),tB])) (hO 2))) (hC (hS (hR 1) (hS (hR 3) (hS (hR 2) (hC (hS (hR 1) hL) hL)))) (hS (.region [] (.op (some (.tup [(.one .any),tB])) (hO 2))) (hC (hS (hR 1) (hJ (0x3ffc0000001040,[]) (hS (hR 4) (.block (.loop 0x3fe00000001040 [(45,tI)] (hS (hR 1) (hS (hC hL hL) (hS (.block (hS (hR 3) (hS (hR 4) (hC (hS (hR 1) hL) hL)))) (hR 2))))))) (hS (hR 1) hL))) (hS (hR 1) (hS (hR 1) hL))))))))))))))
theorem j92 {a0:Value}{a1:Value}{a2:Bool}{K:Bool->Wp}{w:World}(h:F92 a0 a1 a2 K w):Aa Tryz.prog 92 #[a0,a1,(.bool a2)] rB K w:=tied Am Tryz.func92 h92 _ h
def F93 (a0:Value) (a1:Value) (K:Bool->Wp):Wp:=rdB Tryz.prog (do eqGuard .eql 26 (Operand.tmp 8) (Operand.const Value.nilIface) a0 .nilIface;binOp .eql 26 a0 .nilIface:Sem Value) λr1=>sif r1 (K false) (jU (λJ2=>rdB Tryz.prog (do eqGuard .eql 20 (Operand.tmp 10) (Operand.const Value.nilIface) a1 .nilIface;binOp .eql 20 a1 .nilIface:Sem Value) λr4=>sif r4 (λ_=>False) (J2 ())) λs3=>Bg Tryz.prog (callFunc 131 #[a1]) (.one (.agg Lj)) λ(x5:(Option Addr×Value×Int×Unit))=>Ad (.cells #[(.pointer none),(.pointer none),(.int .u64 0)] 223) λb6=>Ae (at0 b6) (vA Lj x5) 3<|lds Lj (at0 b6) λ(x7:(Option Addr×Value×Int×Unit))=>Bg Tryz.prog (callFunc 132 #[(vA Lj x7)]) (.one (.one .any)) λ(x8:Value)=>jU (λJ9=>jB (λJ11=>Bg Tryz.prog (invoke (.fn (.method "Kind") #[]) (#[x8]++#[])) (.one (.one (.int .u8))) λ(x13:Int)=>sif (x13 !=22) (J11 (true,())) (lds Lj (at0 b6) λ(x14:(Option Addr×Value×Int×Unit))=>Bg Tryz.prog (callFunc 133 #[(vA Lj x14)]) rB λ(x15:Bool)=>J11 (x15,()))) λs12=>sif s12.1 (λ_=>False) (J9 ())) λs10=>Bg Tryz.prog (invoke (.fn (.method "Elem") #[]) (#[x8]++#[])) (.one (.one .any)) λ(x16:Value)=>jU (λJ17=>jB (λJ19=>Bg Tryz.prog (invoke (.fn (.method "Kind") #[]) (#[x16]++#[])) (.one (.one (.int .u8))) λ(x21:Int)=>sif (x21 !=20) (ld (.any) (at0 0) λ(x22:Value)=>Bg Tryz.prog (invoke (.fn (.method "Implements") #[]) (#[x16]++#[x22])) rB λ(x23:Bool)=>J19 ((!x23),())) (J19 (false,()))) λs20=>sif s20.1 (λ_=>False) (J17 ())) λs18=>lds Lj (at0 b6) λ(x24:(Option Addr×Value×Int×Unit))=>cB 134 #[a0,a1,(vA Lj x24),x16] λx25=>K x25)
def h93:Hint:=(hS (hR 1) (hS (hS (hR 2) (hC (hS (hR 1) hL) hL)) (hJ (7168,[]) (hS (hR 2) (hC (hR 2) hL)) (hS (hR 4) (hS (hR 3) (hJ (33423360,[]) (hJ (0xfe0000,[(23,tB)]) (.region [] (.ops 4 (.split 20 (.skips 2 (hO 1)) (hO 3)))) (hC (hR 2) hL)) (hS (hR 3) (hJ (0x1ff8000000,[]) (hJ (0xff8000000,[(35,tB)]) (.region [] (.ops 4 (.split 30 (hO 5) (.skips 4 (hO 1))))) (hC (hR 2) hL)) (hS (hR 6) hL)))))))))
theorem j93 {a0:Value}{a1:Value}{K:Bool->Wp}{w:World}(h:F93 a0 a1 K w):Aa Tryz.prog 93 #[a0,a1] rB K w:=tied Am Tryz.func93 h93 _ h
def F96 (a0:Sl) (a1:Sl) (K:Bool->Wp):Wp:=Dp Tryz.prog (.one (.one .str)) (convert 30 9 a0.v) λx1=>Dp Tryz.prog (.one (.one .str)) (convert 30 9 a1.v) λx2=>K (ByteArray.toList x1==ByteArray.toList x2)
def h96:Hint:=(hS (hR 1) (hS (hR 6) hL))
theorem j96 {a0:Sl}{a1:Sl}{K:Bool->Wp}{w:World}(h:F96 a0 a1 K w):Aa Tryz.prog 96 #[a0.v,a1.v] rB K w:=tied Am Tryz.func96 h96 _ h
def F97 (a0:Option Addr) (a1:ByteArray) (a2:Option Addr) (a3:Option Addr) (K:Value->Wp):Wp:=Ad (.cells #[(.pointer a0)] 29) λb1=>Ad (.cells #[.nilIface] 26) λb2=>chk (((ByteArray.size a1+ByteArray.size ({ data:=#[126] }):Nat):Int)<=IntKind.max .i64)<|Ad (.cells #[(.string { data:=#[] })] 9) λb3=>stC (at0 b3) (.string (a1++({ data:=#[126] })))<|drew<|ld (.ptr) (at0 b1) λ(x4:Option Addr)=>nn x4 λp5=>ld (.ptr) p5 λ(x6:Option Addr)=>ld (.str) (at0 b3) λ(x7:ByteArray)=>Aa Tryz.prog 137 #[(.pointer x6),(.string x7)] (.one (.one .any)) λ(x8:Value)=>chk (Du x8=true)<|stC (at0 b2) x8<|jU (λJ9=>ld (.any) (at0 b2) λ(x11:Value)=>cB 53 #[x11,(.iface 33 (vI 163))] λx12=>sif x12 (drew<|ld (.ptr) (at0 b1) λ(x13:Option Addr)=>nn x13 λp14=>ld (.ptr) p14 λ(x15:Option Addr)=>ld (.str) (at0 b3) λ(x16:ByteArray)=>Aa Tryz.prog 75 #[(.pointer x15),(.string x16)] (.one (.one .any)) λ(x17:Value)=>chk (Du x17=true)<|stC (at0 b2) x17<|ld (.any) (at0 b2) λ(x18:Value)=>rdB Tryz.prog (do eqGuard .eql 26 (Operand.tmp 29) (Operand.const Value.nilIface) x18 .nilIface;binOp .eql 26 x18 .nilIface:Sem Value) λr19=>sif r19 (drew<|ld (.ptr) (at0 b1) λ(x20:Option Addr)=>nn x20 λp21=>ld (.ptr) p21 λ(x22:Option Addr)=>ld (.str) (at0 b3) λ(x23:ByteArray)=>Aa Tryz.prog 137 #[(.pointer x22),(.string x23)] (.one (.one .any)) λ(x24:Value)=>chk (Du x24=true)<|stC (at0 b2) x24<|J9 ()) (J9 ())) (J9 ())) λs10=>ld (.any) (at0 b2) λ(x25:Value)=>rdB Tryz.prog (do eqGuard .neq 26 (Operand.tmp 37) (Operand.const Value.nilIface) x25 .nilIface;binOp .neq 26 x25 .nilIface:Sem Value) λr26=>sif r26 (ld (.any) (at0 b2) λ(x27:Value)=>chk (Du x27=true)<|stC (at0 b2) x27<|Uz Tryz.prog { target:=.fn (Fn.func 136) #[(.pointer (some (at0 b2))),(.pointer (some (at0 b1))),(.pointer (some (at0 b3)))],args:=#[]++#[] }<|ld (.any) (at0 b2) λ(x28:Value)=>K x28) (ld (.ptr) (at0 b1) λ(x29:Option Addr)=>ld (.str) (at0 b3) λ(x30:ByteArray)=>Aa Tryz.prog 138 #[(.pointer x29),(.string x30),(.pointer a2)] (.one (.one .any)) λ(x31:Value)=>chk (Du x31=true)<|stC (at0 b2) x31<|ld (.any) (at0 b2) λ(x32:Value)=>rdB Tryz.prog (do eqGuard .neq 26 (Operand.tmp 44) (Operand.const Value.nilIface) x32 .nilIface;binOp .neq 26 x32 .nilIface:Sem Value) λr33=>sif r33 (ld (.any) (at0 b2) λ(x34:Value)=>chk (Du x34=true)<|stC (at0 b2) x34<|Uz Tryz.prog { target:=.fn (Fn.func 136) #[(.pointer (some (at0 b2))),(.pointer (some (at0 b1))),(.pointer (some (at0 b3)))],args:=#[]++#[] }<|ld (.any) (at0 b2) λ(x35:Value)=>K x35) (drew<|ld (.ptr) (at0 b1) λ(x36:Option Addr)=>nn x36 λp37=>ld (.ptr) p37 λ(x38:Option Addr)=>ld (.str) (at0 b3) λ(x39:ByteArray)=>Aa Tryz.prog 139 #[(.pointer x38),(.string x39)] (.one (.one .any)) λ(x40:Value)=>chk (Du x40=true)<|stC (at0 b2) x40<|ld (.any) (at0 b2) λ(x41:Value)=>rdB Tryz.prog (do eqGuard .neq 26 (Operand.tmp 53) (Operand.const Value.nilIface) x41 .nilIface;binOp .neq 26 x41 .nilIface:Sem Value) λr42=>sif r42 (ld (.any) (at0 b2) λ(x43:Value)=>chk (Du x43=true)<|stC (at0 b2) x43<|Uz Tryz.prog { target:=.fn (Fn.func 136) #[(.pointer (some (at0 b2))),(.pointer (some (at0 b1))),(.pointer (some (at0 b3)))],args:=#[]++#[] }<|ld (.any) (at0 b2) λ(x44:Value)=>K x44) (join (S:=Addr×Unit) (λJ45=>drew<|ld (.ptr) (at0 b1) λ(x47:Option Addr)=>nn x47 λp48=>ld (.ptr) p48 λ(x49:Option Addr)=>ld (.str) (at0 b3) λ(x50:ByteArray)=>both (Ad (.cells #[(vI 0),(vI 0),(vI 0)] 57) λb51=>keep (λw=>w.cell? (at0 b3)=some (Cell.val (.str) x50))<|keep (λw=>w.cell? p48=some (Cell.val (.ptr) x49))<|keep (λw=>w.cell? (at0 b1)=some (Cell.val (.ptr) x47))<|Aa Tryz.prog 34 #[(.pointer x49),(.string x50)] (.tup [(.agg c57),(.one .any)]) λ(x52:(I3×Value×Unit))=>Ae (at0 b51) (vA c57 x52.1) 3<|chk (Du x52.2.1=true)<|stC (at0 b2) x52.2.1<|J45 ((at0 b51),()))<|Aa Tryz.prog 34 #[(.pointer x49),(.string x50)] (.tup [(.agg c57),(.one .any)]) λ(x53:(I3×Value×Unit))=>both (Ad (.cells #[(vI 0),(vI 0),(vI 0)] 57) λb54=>keep (λw=>w.cell? (at0 b3)=some (Cell.val (.str) x50))<|keep (λw=>w.cell? p48=some (Cell.val (.ptr) x49))<|keep (λw=>w.cell? (at0 b1)=some (Cell.val (.ptr) x47))<|Ae (at0 b54) (vA c57 x53.1) 3<|chk (Du x53.2.1=true)<|stC (at0 b2) x53.2.1<|J45 ((at0 b54),()))<|nothing) λs46=>ld (.any) (at0 b2) λ(x55:Value)=>rdB Tryz.prog (do eqGuard .neq 26 (Operand.tmp 65) (Operand.const Value.nilIface) x55 .nilIface;binOp .neq 26 x55 .nilIface:Sem Value) λr56=>sif r56 (ld (.any) (at0 b2) λ(x57:Value)=>chk (Du x57=true)<|stC (at0 b2) x57<|Uz Tryz.prog { target:=.fn (Fn.func 136) #[(.pointer (some (at0 b2))),(.pointer (some (at0 b1))),(.pointer (some (at0 b3)))],args:=#[]++#[] }<|ld (.any) (at0 b2) λ(x58:Value)=>K x58) (lds c57 s46.1 λ(x59:I3)=>nn a3 λp60=>Ae p60 (vA c57 x59) 3<|drew<|ld (.ptr) (at0 b1) λ(x61:Option Addr)=>nn x61 λp62=>ld (.ptr) p62 λ(x63:Option Addr)=>ld (.str) (at0 b3) λ(x64:ByteArray)=>Aa Tryz.prog 140 #[(.pointer x63),(.string x64),(.string a1)] (.one (.one .any)) λ(x65:Value)=>chk (Du x65=true)<|stC (at0 b2) x65<|Uz Tryz.prog { target:=.fn (Fn.func 136) #[(.pointer (some (at0 b2))),(.pointer (some (at0 b1))),(.pointer (some (at0 b3)))],args:=#[]++#[] }<|ld (.any) (at0 b2) λ(x66:Value)=>K x66))))
def h97:Hint:=(hS (hR 2) (hS (hR 4) (hS (.later (hO 1)) (hS (.region (lR 7) (hO 7)) (hJ (0x1ffff00000,[]) (hS (hR 3) (hC (hS (.region (lR 7) (hO 7)) (hS (hR 2) (hC (.region (lR 7) (hO 7)) hL))) hL)) (hS (hS (hR 2) (hC (hS (hR 2) hL) hL)) (hS (hS (hR 5) (hS (hR 2) (hC (hS (hR 2) hL) hL))) (hS (hS (.region (lR 7) (hO 7)) (hS (hR 2) (hC (hS (hR 2) hL) hL))) (hJ (0x1ff00000000000400,[(10,(.one .addr))]) (.region [0,1,2,3,4,5,6,7,8,10,11] (.float [9] (.ops 5 (.alt none (.plain (hO 6)) (.ops 4 (.alt none (.plain (hO 2)) .stop)))))) (hS (hS (hR 2) (hC (hS (hR 2) hL) hL)) (hS (hR 4) (hS (.region (lR 8) (hO 8)) hL))))))))))))
theorem j97 {a0:Option Addr}{a1:ByteArray}{a2:Option Addr}{a3:Option Addr}{K:Value->Wp}{w:World}(h:F97 a0 a1 a2 a3 K w):Aa Tryz.prog 97 #[(.pointer a0),(.string a1),(.pointer a2),(.pointer a3)] (.one (.one .any)) K w:=tied Am Tryz.func97 h97 _ h
def F103 (v0:Addr) (v1:Addr) (K:Int->Wp):Wp:=ld (.ptr) v0 λ(x1:Option Addr)=>ld (.str) v1 λ(x2:ByteArray)=>Aa Tryz.prog 67 #[(.pointer x1),(.string x2)] (.tup [(.agg c127),(.one cI)]) λ(x3:((Option Addr×ByteArray×Unit)×Int×Unit))=>Ad (.cells #[(.pointer none),(.string { data:=#[] })] 127) λb4=>Ae (at0 b4) (vA c127 x3.1) 2<|jU (λJ5=>sif (x3.2.1==0) (ld (.ptr) v0 λ(x7:Option Addr)=>Aa Tryz.prog 104 #[(.pointer x7),(.func (Fn.func 105) #[] #[(.pointer (some v1))])] (.tup []) λ(x8:(Unit))=>J5 ()) (J5 ())) λs6=>K x3.2.1
def Cy8:Hint:=(hS (hR 1) (hS (hR 9) (hJ (63488,[]) (hS (hR 2) (hC (hR 3) hL)) (hS (hR 2) hL))))
theorem j103 {v0:Addr}{v1:Addr}{K:Int->Wp}{w:World}(h:F103 v0 v1 K w):Aa Tryz.prog 103 #[(.pointer (some v0)),(.pointer (some v1))] rI K w:=tied Am Tryz.func103 Cy8 _ h
def F104 (a0:Option Addr) (a1:Value) (K:Unit->Wp):Wp:=nn a0 λp1=>ld (.map) (p1.add 1) λ(x2:Option Nat)=>Bg Tryz.prog (do let d ←Deferred.ofValue a1 #[(.map x2)];invoke d.target d.args:Sem Next) (.tup []) λ(x3:(Unit))=>nn a0 λp4=>ld (.sl) (p4.add 3) λ(x5:Sl)=>chk (Ph [a1]=true)<|Ad (.cells #[a1] 147) λb6=>Dp Tryz.prog rS (Builtin.append_ #[104,104] 104 #[x5.v,(.slice (some (at0 b6)) 1 1)]) λ(x7:Sl)=>nn a0 λp8=>stC (p8.add 3) x7.v<|K ()
def Cy7:Hint:=(hS (hR 6) (hR 11))
theorem j104 {a0:Option Addr}{a1:Value}{K:Unit->Wp}{w:World}(h:F104 a0 a1 K w):Aa Tryz.prog 104 #[(.pointer a0),a1] (.tup []) K w:=tied Am Tryz.func104 Cy7 _ h
def F105 (a0:Option Nat) (v0:Addr) (K:Unit->Wp):Wp:=ld (.str) v0 λ(x1:ByteArray)=>Dp Tryz.prog (.tup []) (Builtin.delete_ #[103,9] 0 #[(.map a0),(.string x1)]) λ(x2:(Unit))=>K ()
def Cy6:Hint:=(hR 3)
theorem j105 {a0:Option Nat}{v0:Addr}{K:Unit->Wp}{w:World}(h:F105 a0 v0 K w):Aa Tryz.prog 105 #[(.map a0),(.pointer (some v0))] (.tup []) K w:=tied Am Tryz.func105 Cy6 _ h
def F106 (v0:Addr) (K:Int->Wp):Wp:=ld (.ptr) v0 λ(x1:Option Addr)=>Aa Tryz.prog 62 #[(.pointer x1)] (.tup []) λ(x2:(Unit))=>K 0
def Cy5:Hint:=(hS (hR 1) (hS (hR 2) (hS (hR 1) hL)))
theorem j106 {v0:Addr}{K:Int->Wp}{w:World}(h:F106 v0 K w):Aa Tryz.prog 106 #[(.pointer (some v0))] rI K w:=tied Am Tryz.func106 Cy5 _ h
def F130 (a0:ByteArray) (a1:Int) (K:Int->Wp):Wp:=jB (λJ1=>sif (decide (0<=a1)) (J1 ((decide (a1<128)),())) (J1 (false,()))) λs2=>sif s2.1 (cN 159 #[(.string a0),(.int .u8 (IntKind.wrap .u8 a1))] λx3=>K x3) (sif (a1==65533) (jU (λJ4=>Dp Tryz.prog rP (Instr.range 9 (.string a0)) λ(x6:Option Addr)=>sU (λs7 again8=>Bd0 Tryz.prog (Instr.next (.pointer x6) true 0) (λp9 c10=>sif true (sif (c10==65533) (K p9) (again8 ())) (J4 ())) (sif false (λ_=>False) (J4 ()))) ()) λs5=>K (-1)) (cB 160 #[(.int .i32 a1)] λx11=>sif (!x11) (K (-1)) (Dp Tryz.prog (.one (.one .str)) (convert 21 9 (.int .i32 a1)) λx12=>jU (λJ13=>sI (λs15 again16=>sif (decide (s15.1<((ByteArray.size a0:Nat):Int))) (jI (λJ17=>drew<|Av1 a0 s15.1 λb19=>Av1 x12 (IntKind.wrap .i64 (((ByteArray.size x12:Nat):Int)-1)) λb20=>sif (((b19.toNat:Nat):Int) !=((b20.toNat:Nat):Int)) (drew<|chk (0<=(IntKind.wrap .i64 (s15.1+1))/\(IntKind.wrap .i64 (s15.1+1))<=((a0.size:Nat):Int)/\((a0.size:Nat):Int)<=((a0.size:Nat):Int))<|Av1 x12 (IntKind.wrap .i64 (((ByteArray.size x12:Nat):Int)-1)) λb21=>cN 159 #[(.string (a0.extract (Int.toNat (IntKind.wrap .i64 (s15.1+1))) (Int.toNat ((a0.size:Nat):Int)))),(.int .u8 ((b21.toNat:Nat):Int))] λx22=>sif (decide (x22<0)) (K (-1)) (J17 ((IntKind.wrap .i64 (s15.1+(IntKind.wrap .i64 (x22+1)))),()))) (J17 (s15.1,()))) λs18=>jU (λJ23=>sI (λs25 again26=>sif (decide (s25.1<((ByteArray.size x12:Nat):Int))) (drew<|Av1 a0 (IntKind.wrap .i64 (s18.1-s25.1)) λb27=>Av1 x12 (IntKind.wrap .i64 ((IntKind.wrap .i64 (((ByteArray.size x12:Nat):Int)-1))-s25.1)) λb28=>sif (((b27.toNat:Nat):Int) !=((b28.toNat:Nat):Int)) (λ_=>False) (again26 ((IntKind.wrap .i64 (s25.1+1)),()))) (J23 ())) (1,())) λs24=>K (IntKind.wrap .i64 (s18.1-(IntKind.wrap .i64 (((ByteArray.size x12:Nat):Int)-1))))) (J13 ())) ((IntKind.wrap .i64 (((ByteArray.size x12:Nat):Int)-1)),())) λs14=>K (-1))))
def Cx6:Hint:=(hS (hR 1) (.block (hJ ((mR [(160,167)]),[(160,tB)]) (.region [] (.ops 3 (.split 163 (hO 4) (.skips 2 (hO 2))))) (hC (hS (hR 5) hL) (hS (hR 3) (hC (hJ ((mR [(4,7),(174,183)]),[]) (hS (hR 2) (.block (.loop (mR [(4,7),(176,183)]) [] (hS (hR 2) (hS (hC hL hL) (.block (hS (hR 4) (hS (hR 2) (hC (hS (hR 2) hL) hL))))))))) (hS (hR 1) hL)) (hS (hR 4) (hC (hS (hR 1) hL) (.scope (hS (hR 3) (hS (hR 4) (hS (hR 2) (hS (hR 1) (hJ (0x7ffffffffffffffffff801e10,[]) (.block (.loop 0x7ffffffffffffffffff801e10 [(9,tI)] (hS (hS (hR 4) (hC hL hL)) (.block (.scope (hJ (0xfffff8000a10,[(9,tI)]) (hS (.region (lR 7) (hO 7)) (hC (hS (.region (lR 9) (hO 9)) (hS (hS (hR 2) (hC (hS (hR 1) hL) hL)) (hR 5))) hL)) (hJ (0x1ffff000000001000,[]) (hS (hR 1) (.block (.loop 0x1ffff000000001000 [(12,tI)] (hS (hS (hR 4) (hC hL hL)) (hS (.block (hS (.region (lR 11) (hO 11)) (hC hL hL))) (hR 3)))))) (hS (hS (hR 4) hL) hL)))))))) (hS (hS (hR 1) hL) hL)))))))))))))))
theorem j130 {a0:ByteArray}{a1:Int}{K:Int->Wp}{w:World}(h:F130 a0 a1 K w):Aa Tryz.prog 130 #[(.string a0),(.int .i32 a1)] rI K w:=tied Am Tryz.func130 Cx6 _ h
def F134 (a0:Value) (a1:Value) (a2:(Option Addr×Value×Int×Unit)) (a3:Value) (K:Bool->Wp):Wp:=Ad (.cells #[(.pointer a2.1),a2.2.1,(.int .u64 a2.2.2.1)] 223) λb1=>Jv (S:=Value×Unit) (λs2 again3=>Bg Tryz.prog (callFunc 91 #[s2.1]) (.one (.one .any)) λ(x4:Value)=>Bg Tryz.prog (invoke (.fn (.method "AssignableTo") #[]) (#[x4]++#[a3])) rB λ(x5:Bool)=>sif x5 (lds Lj (at0 b1) λ(x6:(Option Addr×Value×Int×Unit))=>Bg Tryz.prog (callFunc 163 #[(vA Lj x6)]) (.one (.agg Lj)) λ(x7:(Option Addr×Value×Int×Unit))=>Bg Tryz.prog (callFunc 131 #[s2.1]) (.one (.agg Lj)) λ(x8:(Option Addr×Value×Int×Unit))=>Bg Tryz.prog (callFunc 164 #[(vA Lj x7),(vA Lj x8)]) (.tup []) λ(x9:(Unit))=>K true) (Dp Tryz.prog (.tup [(.one .any),(.one .bool)]) (Instr.typeAssert s2.1 26 270 true) λ(x10:(Value×Bool×Unit))=>jB (λJ11=>sif x10.2.1 (Bg Tryz.prog (invoke (.fn (.method "As") #[]) (#[x10.1]++#[a1])) rB λ(x13:Bool)=>J11 (x13,())) (J11 (false,()))) λs12=>sif s12.1 (K true) (Dp Tryz.prog (.tup [(.one .any),(.one .bool)]) (Instr.typeAssert s2.1 26 216 true) λ(x14:Value×Bool×Unit)=>sif x14.2.1 (Bg Tryz.prog (invoke (.fn (.method "Unwrap") #[]) (#[x14.1]++#[])) (.one (.one .any)) λ(x15:Value)=>rdB Tryz.prog (do eqGuard .eql 26 (Operand.tmp 42) (Operand.const Value.nilIface) x15 .nilIface;binOp .eql 26 x15 .nilIface:Sem Value) λr16=>sif r16 (K false) (again3 (x15,()))) (Dp Tryz.prog (.tup [(.one .any),(.one .bool)]) (Instr.typeAssert s2.1 26 217 true) λ(x17:Value×Bool×Unit)=>sif x17.2.1 (jU (λJ18=>Bg Tryz.prog (invoke (.fn (.method "Unwrap") #[]) (#[x17.1]++#[])) rS λ(x20:Sl)=>sI (λs21 again22=>sif (decide (s21.1<((x20.len:Nat):Int))) (jU (λJ23=>ixl (.any) x20 s21.1 1 λ(x26:Value)=>rdB Tryz.prog (do eqGuard .eql 26 (Operand.tmp 54) (Operand.const Value.nilIface) x26 .nilIface;binOp .eql 26 x26 .nilIface:Sem Value) λr27=>sif r27 (J23 ()) (lds Lj (at0 b1) λ(x28:(Option Addr×Value×Int×Unit))=>cB 134 #[x26,a1,(vA Lj x28),a3] λx29=>sif x29 (K true) (J23 ()))) λs24=>again22 ((IntKind.wrap .i64 (s21.1+1)),())) (J18 ())) (0,())) λs19=>K false) (K false))))) (a0,())
def Cx5:Hint:=(hS (hR 2) (.block (.loop 0x3fffffffffffdf01 [(0,(.one .any))] (.block (hS (hS (hR 4) (hC (hS (hR 5) (hS (hR 1) hL)) hL)) (hS (hS (hR 7) (hJ (0xfc0000000,[(35,tB)]) (.region [] (.ops 2 (.split 31 (hO 4) (.skips 3 (hO 1))))) (hC (hS (hR 1) hL) hL))) (hS (hR 1) (.block (hS (.region [] (.op (some (.tup [(.one .any),tB])) (hO 2))) (hC (hS (hR 1) (hS (hR 3) (hS (hR 2) (hC (hS (hR 1) hL) hL)))) (hS (.region [] (.op (some (.tup [(.one .any),tB])) (hO 2))) (hC (hS (hR 1) (hJ (0x3fff800000004100,[]) (hS (hR 4) (.block (.loop 0x3ffc000000004100 [(50,tI)] (hS (hR 1) (hS (hC hL hL) (hJ (0x1ff0000000004100,[]) (.block (hS (hR 3) (hS (hS (hR 2) (hC hL hL)) (hS (hR 5) (hC (hS (hR 1) hL) hL))))) (hR 2))))))) (hS (hR 1) hL))) (hS (hR 1) (hS (hR 1) hL))))))))))))))
theorem j134 {a0:Value}{a1:Value}{a2:(Option Addr×Value×Int×Unit)}{a3:Value}{K:Bool->Wp}{w:World}(h:F134 a0 a1 a2 a3 K w):Aa Tryz.prog 134 #[a0,a1,(vA Lj a2),a3] rB K w:=tied Am Tryz.func134 Cx5 _ h
def F136 (v0:Addr) (v1:Addr) (v2:Addr) (K:Unit->Wp):Wp:=ld (.any) v0 λ(x1:Value)=>rdB Tryz.prog (do eqGuard .neq 26 (Operand.tmp 3) (Operand.const Value.nilIface) x1 .nilIface;binOp .neq 26 x1 .nilIface:Sem Value) λr2=>sif r2 (drew<|ld (.ptr) v1 λ(x3:Option Addr)=>nn x3 λp4=>ld (.ptr) p4 λ(x5:Option Addr)=>ld (.str) v2 λ(x6:ByteArray)=>Aa Tryz.prog 75 #[(.pointer x5),(.string x6)] (.one (.one .any)) λ(x7:Value)=>K ()) (K ())
def Cl8:Hint:=(hS (hR 2) (hC (.region (lR 6) (hO 6)) hL))
def F137 (a0:Option Addr) (a1:ByteArray) (K:Value->Wp):Wp:=Ad (.cells #[(.pointer a0)] 24) λb1=>Ad (.cells #[(.string a1)] 9) λb2=>ld (.ptr) (at0 b1) λ(x3:Option Addr)=>ld (.str) (at0 b2) λ(x4:ByteArray)=>Aa Tryz.prog 65 #[(.pointer x3),(.string { data:=#[109,97,107,101] }),(.string x4),(.func (Fn.func 166) #[] #[(.pointer (some (at0 b1))),(.pointer (some (at0 b2)))]),.nilFunc] (.one (.one .any)) λ(x5:Value)=>K x5
def Cx3:Hint:=(hS (hR 3) (hS (hR 5) hL))
theorem j137 {a0:Option Addr}{a1:ByteArray}{K:Value->Wp}{w:World}(h:F137 a0 a1 K w):Aa Tryz.prog 137 #[(.pointer a0),(.string a1)] (.one (.one .any)) K w:=tied Am Tryz.func137 Cx3 _ h
def F138 (a0:Option Addr) (a1:ByteArray) (a2:Option Addr) (K:Value->Wp):Wp:=Ad (.cells #[(.pointer a0)] 29) λb1=>Ad (.cells #[(.string a1)] 9) λb2=>Ad (.cells #[.nilIface] 26) λb3=>ld (.ptr) (at0 b1) λ(x4:Option Addr)=>nn x4 λp5=>ld (.sl) (p5.add 2) λ(x6:Sl)=>cS 57 #[x6.v] λx7=>Ad (.cells #[(.slice none 0 0)] 30) λb8=>stC (at0 b8) x7.v<|Aa Tryz.prog 168 #[(.pointer a2),(vI 1024)] (.one (.one .any)) λ(x9:Value)=>Xv (S:=Sl×Unit) Tryz.prog (Slots.vals [(20,(.one .sl))]) x9 (λl10 rc11 R12 (s13:Sl×Unit)=>Cb1 l10 rc11<|ld (.sl) (at0 b8) λ(x15:Sl)=>Dp Tryz.prog rS (Builtin.append_ #[30,30] 30 #[x15.v,s13.1.v]) λ(x16:Sl)=>stC (at0 b8) x16.v<|ld (.sl) (at0 b8) λ(x17:Sl)=>sif (decide (((x17.len:Nat):Int)>=1024)) (drew<|ld (.ptr) (at0 b1) λ(x18:Option Addr)=>nn x18 λp19=>ld (.ptr) p19 λ(x20:Option Addr)=>ld (.str) (at0 b2) λ(x21:ByteArray)=>ld (.sl) (at0 b8) λ(x22:Sl)=>slc x22.a 0 1024 ((x22.cap:Nat):Int) x22.cap 1 λx23=>Aa Tryz.prog 169 #[(.pointer x20),(.string x21),x23.v] (.tup [(.one cI),(.one .any)]) λ(x24:(Int×Value×Unit))=>rdB Tryz.prog (do eqGuard .neq 26 (Operand.tmp 38) (Operand.const Value.nilIface) x24.2.1 .nilIface;binOp .neq 26 x24.2.1 .nilIface:Sem Value) λr25=>sif r25 (chk (Du x24.2.1=true)<|stC (at0 b3) x24.2.1<|Ak6 l10 rc11 (some .ret) R12) (ld (.sl) (at0 b8) λ(x26:Sl)=>slc x26.a 1024 ((x26.len:Nat):Int) ((x26.cap:Nat):Int) x26.cap 1 λx27=>cS 57 #[x27.v] λx28=>stC (at0 b8) x28.v<|Ak6 l10 rc11 none R12)) (Ak6 l10 rc11 none R12)) λD14=>aft (ld (.sl) (at0 b8) λ(x39:Sl)=>sif (((x39.len:Nat):Int)==0) (chk (Du .nilIface=true)<|stC (at0 b3) .nilIface<|Ry D14<|ld (.any) (at0 b3) λ(x40:Value)=>K x40) (drew<|ld (.ptr) (at0 b1) λ(x41:Option Addr)=>nn x41 λp42=>ld (.ptr) p42 λ(x43:Option Addr)=>ld (.str) (at0 b2) λ(x44:ByteArray)=>ld (.sl) (at0 b8) λ(x45:Sl)=>Aa Tryz.prog 169 #[(.pointer x43),(.string x44),x45.v] (.tup [(.one cI),(.one .any)]) λ(x46:(Int×Value×Unit))=>chk (Du x46.2.1=true)<|stC (at0 b3) x46.2.1<|Ry D14<|ld (.any) (at0 b3) λ(x47:Value)=>K x47)) (λi29=>onE i29 0 (ld (.sl) (at0 b8) λ(x30:Sl)=>sif (((x30.len:Nat):Int)==0) (chk (Du .nilIface=true)<|stC (at0 b3) .nilIface<|Ry D14<|ld (.any) (at0 b3) λ(x31:Value)=>K x31) (drew<|ld (.ptr) (at0 b1) λ(x32:Option Addr)=>nn x32 λp33=>ld (.ptr) p33 λ(x34:Option Addr)=>ld (.str) (at0 b2) λ(x35:ByteArray)=>ld (.sl) (at0 b8) λ(x36:Sl)=>Aa Tryz.prog 169 #[(.pointer x34),(.string x35),x36.v] (.tup [(.one cI),(.one .any)]) λ(x37:(Int×Value×Unit))=>chk (Du x37.2.1=true)<|stC (at0 b3) x37.2.1<|Ry D14<|ld (.any) (at0 b3) λ(x38:Value)=>K x38)) (λ_=>False)) (Ry D14<|ld (.any) (at0 b3) λ(x48:Value)=>K x48)
def Cx2:Hint:=(hS (hR 3) (hS (hR 7) (hS (hS (hR 2) (.block (.range [(20,tS)] (hR 1) (.block (hS (hR 4) (hS (hR 3) (hC (hS (hS (.region (lR 13) (hO 13)) (hS (hR 2) (hC (hS (hR 2) hL) hL))) (hR 4)) hL))))))) (hS (hS (hR 3) (hC (hS (hR 1) hL) hL)) (hS (.region (lR 12) (hO 12)) (hS (hR 2) hL))))))
theorem j138 {a0:Option Addr}{a1:ByteArray}{a2:Option Addr}{K:Value->Wp}{w:World}(h:F138 a0 a1 a2 K w):Aa Tryz.prog 138 #[(.pointer a0),(.string a1),(.pointer a2)] (.one (.one .any)) K w:=tied Am Tryz.func138 Cx2 _ h
def F139 (a0:Option Addr) (a1:ByteArray) (K:Value->Wp):Wp:=Ad (.cells #[(.pointer a0)] 24) λb1=>Ad (.cells #[(.string a1)] 9) λb2=>ld (.ptr) (at0 b1) λ(x3:Option Addr)=>ld (.str) (at0 b2) λ(x4:ByteArray)=>Aa Tryz.prog 65 #[(.pointer x3),(.string { data:=#[115,121,110,99] }),(.string x4),(.func (Fn.func 170) #[] #[(.pointer (some (at0 b1))),(.pointer (some (at0 b2)))]),.nilFunc] (.one (.one .any)) λ(x5:Value)=>K x5
def Cx1:Hint:=(hS (hR 3) (hS (hR 5) hL))
theorem Ct0 {a0:Option Addr}{a1:ByteArray}{K:Value->Wp}{w:World}(h:F139 a0 a1 K w):Aa Tryz.prog 139 #[(.pointer a0),(.string a1)] (.one (.one .any)) K w:=tied Am Tryz.func139 Cx1 _ h
def F140 (a0:Option Addr) (a1:ByteArray) (a2:ByteArray) (K:Value->Wp):Wp:=Ad (.cells #[(.pointer a0)] 24) λb1=>Ad (.cells #[(.string a1)] 9) λb2=>Ad (.cells #[(.string a2)] 9) λb3=>ld (.ptr) (at0 b1) λ(x4:Option Addr)=>ld (.str) (at0 b2) λ(x5:ByteArray)=>Aa Tryz.prog 65 #[(.pointer x4),(.string { data:=#[114,101,110,97,109,101] }),(.string x5),(.func (Fn.func 171) #[] #[(.pointer (some (at0 b3))),(.pointer (some (at0 b1))),(.pointer (some (at0 b2)))]),.nilFunc] (.one (.one .any)) λ(x6:Value)=>K x6
def Cx0:Hint:=(hS (hR 4) (hS (hR 5) hL))
theorem Cs9 {a0:Option Addr}{a1:ByteArray}{a2:ByteArray}{K:Value->Wp}{w:World}(h:F140 a0 a1 a2 K w):Aa Tryz.prog 140 #[(.pointer a0),(.string a1),(.string a2)] (.one (.one .any)) K w:=tied Am Tryz.func140 Cx0 _ h
def F166 (v0:Addr) (v1:Addr) (K:Int->Wp):Wp:=ld (.ptr) v0 λ(x1:Option Addr)=>ld (.str) v1 λ(x2:ByteArray)=>Aa Tryz.prog 67 #[(.pointer x1),(.string x2)] (.tup [(.agg c127),(.one cI)]) λ(x3:((Option Addr×ByteArray×Unit)×Int×Unit))=>Ad (.cells #[(.pointer none),(.string { data:=#[] })] 127) λb4=>Ae (at0 b4) (vA c127 x3.1) 2<|sif (x3.2.1==164) (K x3.2.1) (sif (x3.2.1==0) (K 163) (ld (.ptr) v0 λ(x5:Option Addr)=>nn x5 λp6=>ld (.map) (p6.add 1) λ(x7:Option Nat)=>rdN Tryz.prog (Builtin.len_ #[103] 3 #[(.map x7)]) λx8=>sif (decide (x8>=16)) (K 161) (ld (.ptr) v0 λ(x9:Option Addr)=>Aa Tryz.prog 61 #[(.pointer x9)] rP λ(x10:Option Addr)=>Ad (.cells #[(.pointer none)] 121) λb11=>stC (at0 b11) (.pointer x10)<|ld (.ptr) v0 λ(x12:Option Addr)=>Aa Tryz.prog 104 #[(.pointer x12),(.func (Fn.func 167) #[] #[(.pointer (some (at0 b11))),(.pointer (some v1))])] (.tup []) λ(x13:(Unit))=>K 0)))
def Cw1:Hint:=(hS (hR 1) (hS (hS (hR 9) (.block (hS (hR 3) (hC (hS (hR 2) hL) (hS (hR 3) (hC (hS (hR 1) hL) (hS (hR 7) (hC (hS (hR 1) hL) hL)))))))) (hS (hR 4) (hS (hR 3) (hS (hR 1) hL)))))
theorem Cs1 {v0:Addr}{v1:Addr}{K:Int->Wp}{w:World}(h:F166 v0 v1 K w):Aa Tryz.prog 166 #[(.pointer (some v0)),(.pointer (some v1))] rI K w:=tied Am Tryz.func166 Cw1 _ h
def F167 (a0:Option Nat) (v0:Addr) (v1:Addr) (K:Unit->Wp):Wp:=ld (.str) v1 λ(x1:ByteArray)=>ld (.ptr) v0 λ(x2:Option Addr)=>Ap0 Tryz.prog (Instr.mapUpdate 103 (.map a0) (.string x1) (.pointer x2))<|K ()
def Cw0:Hint:=(hR 4)
theorem Cs0 {a0:Option Nat}{v0:Addr}{v1:Addr}{K:Unit->Wp}{w:World}(h:F167 a0 v0 v1 K w):Aa Tryz.prog 167 #[(.map a0),(.pointer (some v0)),(.pointer (some v1))] (.tup []) K w:=tied Am Tryz.func167 Cw0 _ h
def F169 (a0:Option Addr) (a1:ByteArray) (a2:Sl) (K:(Int×Value×Unit)->Wp):Wp:=Ad (.cells #[(.pointer a0)] 24) λb1=>Ad (.cells #[(.string a1)] 9) λb2=>Ad (.cells #[a2.v] 30) λb3=>Ad (.cells #[(vI 0)] 3) λb4=>stC (at0 b4) (vI 0)<|Ad (.cells #[.nilFunc] 305) λb5=>chk (Du (.func (Fn.func 201) #[] #[(.pointer (some (at0 b1))),(.pointer (some (at0 b2))),(.pointer (some (at0 b4)))])=true)<|stC (at0 b5) (.func (Fn.func 201) #[] #[(.pointer (some (at0 b1))),(.pointer (some (at0 b2))),(.pointer (some (at0 b4)))])<|ld (.ptr) (at0 b1) λ(x6:Option Addr)=>ld (.str) (at0 b2) λ(x7:ByteArray)=>Aa Tryz.prog 65 #[(.pointer x6),(.string { data:=#[97,112,112,101,110,100] }),(.string x7),(.func (Fn.func 203) #[] #[(.pointer (some (at0 b5))),(.pointer (some (at0 b3)))]),(.func (Fn.func 204) #[] #[(.pointer (some (at0 b5))),(.pointer (some (at0 b3)))])] (.one (.one .any)) λ(x8:Value)=>jU (λJ9=>ld (.ptr) (at0 b1) λ(x11:Option Addr)=>nn x11 λp12=>ld (.bool) (p12.add 5) λ(x13:Bool)=>sif x13 (stC (at0 b4) (vI 0)<|J9 ()) (J9 ())) λs10=>lI (at0 b4) λx14=>K (x14,x8,())
def Cv8:Hint:=(hS (hR 5) (hS (hR 2) (hS (hR 3) (hS (hR 6) (hJ (1966080,[]) (hS (hR 4) (hC (hR 1) hL)) (hS (hR 4) hL))))))
theorem Cr8 {a0:Option Addr}{a1:ByteArray}{a2:Sl}{K:(Int×Value×Unit)->Wp}{w:World}(h:F169 a0 a1 a2 K w):Aa Tryz.prog 169 #[(.pointer a0),(.string a1),a2.v] (.tup [(.one cI),(.one .any)]) K w:=tied Am Tryz.func169 Cv8 _ h
def F170 (v0:Addr) (v1:Addr) (K:Int->Wp):Wp:=ld (.ptr) v0 λ(x1:Option Addr)=>ld (.str) v1 λ(x2:ByteArray)=>Aa Tryz.prog 67 #[(.pointer x1),(.string x2)] (.tup [(.agg c127),(.one cI)]) λ(x3:((Option Addr×ByteArray×Unit)×Int×Unit))=>Ad (.cells #[(.pointer none),(.string { data:=#[] })] 127) λb4=>Ae (at0 b4) (vA c127 x3.1) 2<|jU (λJ5=>sif (x3.2.1==0) (ld (.ptr) (at0 b4) λ(x7:Option Addr)=>Aa Tryz.prog 64 #[(.pointer x7)] (.tup []) λ(x8:(Unit))=>J5 ()) (J5 ())) λs6=>K x3.2.1
def Cv7:Hint:=(hS (hR 1) (hS (hR 9) (hJ (63488,[]) (hS (hR 2) (hC (hR 3) hL)) (hS (hR 2) hL))))
theorem Cr7 {v0:Addr}{v1:Addr}{K:Int->Wp}{w:World}(h:F170 v0 v1 K w):Aa Tryz.prog 170 #[(.pointer (some v0)),(.pointer (some v1))] rI K w:=tied Am Tryz.func170 Cv7 _ h
def F171 (v0:Addr) (v1:Addr) (v2:Addr) (K:Int->Wp):Wp:=ld (.str) v0 λ(x1:ByteArray)=>cB 60 #[(.string x1)] λx2=>sif (!x2) (K 164) (ld (.ptr) v1 λ(x3:Option Addr)=>ld (.str) v2 λ(x4:ByteArray)=>Aa Tryz.prog 67 #[(.pointer x3),(.string x4)] (.tup [(.agg c127),(.one cI)]) λ(x5:((Option Addr×ByteArray×Unit)×Int×Unit))=>Ad (.cells #[(.pointer none),(.string { data:=#[] })] 127) λb6=>Ae (at0 b6) (vA c127 x5.1) 2<|jU (λJ7=>jB (λJ9=>sif (x5.2.1==0) (ld (.str) v2 λ(x11:ByteArray)=>ld (.str) v0 λ(x12:ByteArray)=>J9 ((!(ByteArray.toList x11==ByteArray.toList x12)),())) (J9 (false,()))) λs10=>sif s10.1 (ld (.ptr) v1 λ(x13:Option Addr)=>Aa Tryz.prog 104 #[(.pointer x13),(.func (Fn.func 172) #[] #[(.pointer (some (at0 b6))),(.pointer (some v0))])] (.tup []) λ(x14:(Unit))=>J7 ()) (J7 ())) λs8=>K x5.2.1)
def Cv6:Hint:=(hS (hR 1) (hS (hS (hR 3) (hC (hS (hR 1) hL) hL)) (hS (hR 9) (hJ (33521664,[]) (hJ (4161536,[(21,tB)]) (.region [] (.ops 3 (.split 17 (hO 4) (.skips 3 (hO 1))))) (hC (hR 3) hL)) (hS (hR 2) hL)))))
theorem Cr6 {v0:Addr}{v1:Addr}{v2:Addr}{K:Int->Wp}{w:World}(h:F171 v0 v1 v2 K w):Aa Tryz.prog 171 #[(.pointer (some v0)),(.pointer (some v1)),(.pointer (some v2))] rI K w:=tied Am Tryz.func171 Cv6 _ h
def F172 (a0:Option Nat) (v0:Addr) (v1:Addr) (K:Unit->Wp):Wp:=ld (.str) (v0.add 1) λ(x1:ByteArray)=>Dp Tryz.prog (.tup []) (Builtin.delete_ #[103,9] 0 #[(.map a0),(.string x1)]) λ(x2:(Unit))=>ld (.str) v1 λ(x3:ByteArray)=>ld (.ptr) v0 λ(x4:Option Addr)=>Ap0 Tryz.prog (Instr.mapUpdate 103 (.map a0) (.string x3) (.pointer x4))<|K ()
def Cv5:Hint:=(hS (hR 4) (hR 5))
theorem Cr5 {a0:Option Nat}{v0:Addr}{v1:Addr}{K:Unit->Wp}{w:World}(h:F172 a0 v0 v1 K w):Aa Tryz.prog 172 #[(.map a0),(.pointer (some v0)),(.pointer (some v1))] (.tup []) K w:=tied Am Tryz.func172 Cv5 _ h
def F201 (a0:Sl) (v0:Addr) (v1:Addr) (v2:Addr) (K:Int->Wp):Wp:=ld (.ptr) v0 λ(x1:Option Addr)=>ld (.str) v1 λ(x2:ByteArray)=>Aa Tryz.prog 67 #[(.pointer x1),(.string x2)] (.tup [(.agg c127),(.one cI)]) λ(x3:((Option Addr×ByteArray×Unit)×Int×Unit))=>Ad (.cells #[(.pointer none),(.string { data:=#[] })] 127) λb4=>Ae (at0 b4) (vA c127 x3.1) 2<|sif (x3.2.1 !=0) (K x3.2.1) (ld (.ptr) v0 λ(x5:Option Addr)=>cN 202 #[(.pointer x5)] λx6=>stC v2 (vI (if x6<((a0.len:Nat):Int) then x6 else ((a0.len:Nat):Int)))<|drew<|ld (.ptr) (at0 b4) λ(x7:Option Addr)=>ld (.ptr) (at0 b4) λ(x8:Option Addr)=>nn x8 λp9=>ld (.sl) (p9.add 1) λ(x10:Sl)=>lI v2 λx11=>slc a0.a 0 x11 ((a0.cap:Nat):Int) a0.cap 1 λx12=>Dp Tryz.prog rS (Builtin.append_ #[30,30] 30 #[x10.v,x12.v]) λ(x13:Sl)=>keep (λw=>w.cell? (at0 b4)=some (Cell.val (.ptr) x7))<|nn x7 λp14=>stC (p14.add 1) x13.v<|jU (λJ15=>lI v2 λx17=>sif (decide (x17>0)) (ld (.ptr) (at0 b4) λ(x18:Option Addr)=>nn x18 λp19=>ld cI (p19.add 3) λ(x20:Int)=>nn x18 λp21=>stC (p21.add 3) (vI (IntKind.wrap .i64 (x20+1)))<|J15 ()) (J15 ())) λs16=>lI v2 λx22=>sif (decide (x22<((a0.len:Nat):Int))) (K 161) (K 0))
def Cv0:Hint:=(hS (hR 1) (hS (hR 9) (hS (hS (hR 2) (hC (hS (hR 2) hL) hL)) (hS (hR 6) (hS (.region (lR 14) (hO 14)) (hJ (0x1ff800000000,[]) (hS (hR 2) (hC (hR 9) hL)) (hS (hS (hR 4) (hC (hS (hR 1) hL) hL)) (hS (hR 1) hL))))))))
theorem Cr2 {a0:Sl}{v0:Addr}{v1:Addr}{v2:Addr}{K:Int->Wp}{w:World}(h:F201 a0 v0 v1 v2 K w):Aa Tryz.prog 201 #[a0.v,(.pointer (some v0)),(.pointer (some v1)),(.pointer (some v2))] rI K w:=tied Am Tryz.func201 Cv0 _ h
def F202 (a0:Option Addr) (K:Int->Wp):Wp:=nn a0 λp1=>lI p1 λx2=>jI (λJ3=>nn a0 λp5=>ld (.map) (p5.add 1) λ(x6:Option Nat)=>Dp Tryz.prog rP (Instr.range 103 (.map x6)) λ(x7:Option Addr)=>sI (λs8 again9=>Ap7 Tryz.prog (Instr.next (.pointer x7) false 0) λr10 rest11=>sif r10 (Dp Tryz.prog (.tup [(.one .str),(.one .ptr)]) (Instr.entry (.pointer x7)) λ(x12:ByteArray×Option Addr×Unit)=>nn x12.2.1 λp13=>ld (.sl) (p13.add 1) λ(x14:Sl)=>again9 ((IntKind.wrap .i64 (s8.1-((x14.len:Nat):Int))),())) (J3 (s8.1,()))) (x2,())) λs4=>K (if 0>s4.1 then 0 else s4.1)
def Cu9:Hint:=(hS (hR 1) (hS (hR 5) (hJ (67107880,[(3,tI)]) (hS (hR 5) (.block (.loop 67076136 [(3,tI)] (hS (hR 2) (hS (hC hL hL) (.block (hS (.region [] (.op (some (.tup [(.one .str),tP])) (hO 2))) (hR 8)))))))) (hS (hR 3) hL))))
theorem Cr1 {a0:Option Addr}{K:Int->Wp}{w:World}(h:F202 a0 K w):Aa Tryz.prog 202 #[(.pointer a0)] rI K w:=tied Am Tryz.func202 Cu9 _ h
def F203 (v0:Addr) (v1:Addr) (K:Int->Wp):Wp:=ld (.any) v0 λ(x1:Value)=>ld (.sl) v1 λ(x2:Sl)=>Bg Tryz.prog (do let d ←Deferred.ofValue x1 #[x2.v];invoke d.target d.args:Sem Next) rI λ(x3:Int)=>K x3
def Cu8:Hint:=(hS (hR 1) (hS (hR 4) hL))
theorem Cr0 {v0:Addr}{v1:Addr}{K:Int->Wp}{w:World}(h:F203 v0 v1 K w):Aa Tryz.prog 203 #[(.pointer (some v0)),(.pointer (some v1))] rI K w:=tied Am Tryz.func203 Cu8 _ h
def F204 (a0:Int) (v0:Addr) (v1:Addr) (K:Int->Wp):Wp:=drew<|ld (.any) v0 λ(x1:Value)=>ld (.sl) v1 λ(x2:Sl)=>ld (.sl) v1 λ(x3:Sl)=>slc x2.a 0 (if ((x3.len:Nat):Int)<(if 0>a0 then 0 else a0) then ((x3.len:Nat):Int) else (if 0>a0 then 0 else a0)) ((x2.cap:Nat):Int) x2.cap 1 λx4=>Bg Tryz.prog (do let d ←Deferred.ofValue x1 #[x4.v];invoke d.target d.args:Sem Next) rI λ(x5:Int)=>jB (λJ6=>sif (x5 !=0) (J6 ((x5 !=161),())) (J6 (false,()))) λs7=>sif s7.1 (K x5) (K 160)
def Cu7:Hint:=(hS (hR 1) (hS (hS (.region (lR 10) (hO 10)) (hJ (2064384,[(20,tB)]) (.region [] (.ops 3 (.split 17 (hO 3) (.skips 2 (hO 1))))) (hC (hS (hR 2) hL) hL))) (hS (hR 1) hL)))
theorem Cq9 {a0:Int}{v0:Addr}{v1:Addr}{K:Int->Wp}{w:World}(h:F204 a0 v0 v1 K w):Aa Tryz.prog 204 #[(vI a0),(.pointer (some v0)),(.pointer (some v1))] rI K w:=tied Am Tryz.func204 Cu7 _ h
def F254 (a0:Option Addr) (K:Value->Wp):Wp:=nn a0 λp1=>ld (.any) (p1.add 3) λ(x2:Value)=>K x2
def Cu5:Hint:=(hS (hR 1) (hS (hR 5) hL))
theorem Cq7 {a0:Option Addr}{K:Value->Wp}{w:World}(h:F254 a0 K w):Aa Tryz.prog 254 #[(.pointer a0)] (.one (.one .any)) K w:=tied Am Tryz.func254 Cu5 _ h
end Go.Proofs.YtmooldhpiopcgaaGreatDoor
namespace Go.Proofs.YtmooldhpiopcgaaGreatDoor.Dsk
abbrev Nm:=ByteArray
structure Fl where
 data:List UInt8
 synced:Nat
 count:Int
inductive Nh where
 |mk (n:Nm) (i:Nat)
 |rm (n:Nm)
 |mv (a b:Nm) (i:Nat)
abbrev Dir:=Nm->Option Nat
def Dn (f:Dir) (k:Nm) (v:Option Nat):Dir:=λx=>if x=k then v else f x
def Nh.on:Nh->Dir->Dir
 |.mk n i,f=>Dn f n (some i)
 |.rm n,f=>Dn f n none
 |.mv a b i,f=>Dn (Dn f a none) b (some i)
def Ez:List Nh->Dir->Dir
 |[],f=>f
 |a::r,f=>Ez r (a.on f)
structure Bq where
 kind:Int
 part:Int
 names:Int
 bytes:List Int
structure Dk where
 space:Int
 files:List Fl
 lasts:Dir
 acts:List Nh
 down:Bool
 plan:Int->Option Bq
 steps:Int
def Dk.seen (D:Dk):Dir:=Ez D.acts D.lasts
def Lists (f:Dir) (l:List Nm):Prop:=l.Nodup/\∀n,n∈l↔(f n).isSome=true
def Rt (l:List Nm):List Nm:=((l.map λn=>n.data.toList).mergeSort λx y=>decide (x<=y)).map λl=>⟨l.toArray⟩
open Classical in
def names (f:Dir):List Nm:=if h:∃l,Lists f l then Rt h.choose else []
def Es (b:UInt8):Bool:=decide ((97<=b.toNat/\b.toNat<=122)\/(65<=b.toNat/\b.toNat<=90)\/(48<=b.toNat/\b.toNat<=57)\/b.toNat=46\/b.toNat=95\/b.toNat=45\/b.toNat=126)
def Ba (n:Nm):Bool:=n.size !=0&&decide (n.size<=32)&&n.data.toList.all Es
def fl (D:Dk) (i:Nat):Fl:=D.files.getD i ⟨[],0,0⟩
def Gz:List Int->Int
 |[]=>0
 |x::r=>x+Gz r
def weigh (D:Dk) (o:Option Nat) (n:Nm):Int:=match D.seen n with|some i=>if some i=o then 0 else (fl D i).data.length|none=>0
def Bv (D:Dk) (o:Option Nat):Int:=Gz ((names D.seen).map (weigh D o))
def room (D:Dk):Int:=max (D.space-Bv D none) 0
def find (D:Dk) (n:Nm):Option Nat×Int :=
 if Ba n=false then (none,164) else match D.seen n with|none=>(none,162)|some i=>(some i,0)
def Ku (l:List Fl) (i:Nat) (f:Fl->Fl):List Fl:=l.modify i f
def settle (D:Dk):Dk:={ D with lasts:=D.seen,acts:=[] }
def Nk (D:Dk) (n:Nm) (b:List UInt8):Dk×Int :=
 if D.down=true then (D,165) else if Ba n=false then (D,164) else
 if (D.seen n=none/\16<=(names D.seen).length)\/(b.length:Int)>D.space-Bv D (D.seen n) then (D,161) else
 match D.seen n with
 |some i=>({ settle D with files:=Ku D.files i λf=>⟨b,b.length,f.count+1⟩ },0)
 |none=>({ D with lasts:=Dn D.seen n (some D.files.length),acts:=[],files:=D.files++[⟨b,b.length,1⟩] },0)
def mkR (n:Nm) (D:Dk):Dk×Int :=
 let r:=find D n
 if r.2=164 then (D,164) else if r.2=0 then (D,163) else if 16<=(names D.seen).length then (D,161) else
 ({ D with files:=D.files++[⟨[],0,0⟩],acts:=D.acts++[.mk n D.files.length] },0)
def apR (n:Nm) (b:List UInt8) (D:Dk):Dk×Int×Int :=
 match find D n with
 |(none,e)=>(D,e,0)
 |(some i,_) =>
  let k:Int:=if room D<(b.length:Int) then room D else b.length
  ({ D with files:=Ku D.files i λf=>⟨f.data++b.take k.toNat,f.synced,if k>0 then f.count+1 else f.count⟩ },if k<b.length then 161 else 0,k)
def Vr (n:Nm) (b:List UInt8) (k:Int) (D:Dk):Dk×Int×Int :=
 let r:=apR n (b.take (min (max k 0) b.length).toNat) D
 (r.1,if r.2.1≠0/\r.2.1≠161 then r.2.1 else 160,r.2.2)
def syR (n:Nm) (D:Dk):Dk×Int :=
 match find D n with
 |(none,e)=>(D,e)
 |(some i,_)=>({ D with files:=Ku D.files i λf=>⟨f.data,f.data.length,f.count⟩ },0)
def mvR (a b:Nm) (D:Dk):Dk×Int :=
 if Ba b=false then (D,164) else
 match find D a with
 |(none,e)=>(D,e)
 |(some i,_)=>if a=b then (D,0) else ({ D with acts:=D.acts++[.mv a b i] },0)
def rmR (n:Nm) (D:Dk):Dk×Int :=
 match find D n with
 |(none,e)=>(D,e)
 |(some _,_)=>({ D with acts:=D.acts++[.rm n] },0)
def Fl.cut (f:Fl) (more:Int):Fl :=
 let n:=f.synced+(min (max more 0).toNat (f.data.length-f.synced))
 ⟨f.data.take n,n,f.count⟩
def Ij (f:Dir) (bytes:List Int):List Nm->Nat->List Fl->List Fl
 |[],_,l=>l
 |n::r,i,l=>Ij f bytes r (i+1) (Ku l ((f n).getD 0) λx=>x.cut (bytes.getD i 0))
def crash (D:Dk) (nm:Int) (bytes:List Int):Dk :=
 if D.down=true then D else
 let l:=Ez (D.acts.take (min (max nm 0).toNat D.acts.length)) D.lasts
 { D with lasts:=l,acts:=[],files:=Ij l bytes (names l) 0 D.files,down:=true }
def restart (D:Dk):Dk:=if D.down=true then { D with down:=false,plan:=λ_=>none,steps:=0 } else D
def La:List (Int×Bq)->(Int->Option Bq)->(Int->Option Bq)
 |[],f=>f
 |x::r,f=>La r (if (f x.1).isSome=true\/x.2.kind<1\/x.2.kind>5 then f else λk=>if k=x.1 then some x.2 else f k)
def plan (D:Dk) (l:List (Int×Bq)):Dk:={ D with plan:=La l λ_=>none,steps:=0 }
def Tq {α:Type}(D1:Dk) (a:α) (act:Dk->Dk×Int×α) (part:Option (Int->Dk->Dk×Int×α)) (f:Bq):Dk×Int×α :=
 if f.kind=1 then (D1,160,a) else
 if f.kind=2 then (part.map λp=>p f.part D1).getD (D1,160,a) else
 if f.kind=4 then (crash D1 f.names f.bytes,165,a) else
 if f.kind=5 then (crash (act D1).1 f.names f.bytes,165,(act D1).2.2) else
 if f.kind=3 then ((act D1).1,if (act D1).2.1≠0 then (act D1).2.1 else 160,(act D1).2.2) else
 act D1
def step {α:Type}(D:Dk) (a:α) (act:Dk->Dk×Int×α) (part:Option (Int->Dk->Dk×Int×α)):Dk×Int×α :=
 if D.down=true then (D,165,a) else
 match D.plan (D.steps+1) with
 |none=>act { D with steps:=D.steps+1 }
 |some f=>Tq { D with steps:=D.steps+1 } a act part f
def u (f:Dk->Dk×Int) (D:Dk):Dk×Int×Unit:=((f D).1,(f D).2,())
def rdR (n:Nm) (D:Dk):Dk×Int×List UInt8 :=
 match find D n with
 |(none,e)=>(D,e,[])
 |(some i,_)=>(D,0,(fl D i).data)
def stR (n:Nm) (D:Dk):Dk×Int×Int×Int×Int :=
 match find D n with
 |(none,e)=>(D,e,0,0,0)
 |(some i,_)=>(D,0,(i:Int)+1,(fl D i).data.length,(fl D i).count)
def Dj (D:Dk) (n:Nm):Dk×Int×Unit:=step D () (u (mkR n)) none
def Dc (D:Dk) (n:Nm):Dk×Int×Unit:=step D () (u (syR n)) none
def Cm (D:Dk):Dk×Int×Unit:=step D () (u λD=>(settle D,0)) none
def Eu (D:Dk) (a b:Nm):Dk×Int×Unit:=step D () (u (mvR a b)) none
def Ea (D:Dk) (n:Nm):Dk×Int×Unit:=step D () (u (rmR n)) none
def Bh (D:Dk) (n:Nm):Dk×Int×List UInt8:=let r:=step D [] (rdR n) none;(r.1,r.2.1,if r.2.1=0 then r.2.2 else [])
def Ai (D:Dk) (n:Nm):Dk×Int×Int×Int×Int:=let r:=step D (0,0,0) (stR n) none;(r.1,r.2.1,if r.2.1=0 then r.2.2 else (0,0,0))
def Bo (D:Dk) (n:Nm) (b:List UInt8):Dk×Int×Int:=let r:=step D 0 (apR n b) (some (Vr n b));(r.1,r.2.1,if r.1.down=true then 0 else r.2.2)
end Go.Proofs.YtmooldhpiopcgaaGreatDoor.Dsk
namespace Go.Proofs.YtmooldhpiopcgaaGreatDoor
namespace Dq
open Go Go.Vx Dsk
abbrev sv (s:Sl):Value:=.slice s.a s.len s.cap
abbrev iv (l:List Int):List Value:=l.map (Value.int .i64)
abbrev Ints (w:World) (s:Sl) (l:List Int):Prop:=Cj w s 3 1 (iv l)
abbrev Bytes (w:World) (s:Sl) (l:List UInt8):Prop:=SlX w s 1 (bv l)
abbrev En (w:World) (B:Nat) (s:Sl) (l:List UInt8):Prop:=Au w B s 5 1 (bv l)
theorem Br7 (l:List Int):∀v∈iv l,Du v=true:=by
 intro v hv
 obtain ⟨x,_,rfl⟩:=List.mem_map.1 hv
 rfl
theorem EB:Ie Tryz.prog 30 5 1 1:=Ie.of (z:=.int .u8 0) C30 C5 rfl rfl rfl (by decide)
theorem EI:Ie Tryz.prog 70 3 1 8:=Ie.of (z:=.int .i64 0) C70 C3 rfl rfl rfl (by decide)
theorem ES:Ie Tryz.prog 117 9 1 16:=Ie.of (z:=.string ⟨#[]⟩) Cj0 C9 rfl rfl rfl (by decide)
theorem EA:Ie Tryz.prog 104 147 1 8:=Ie.of (z:=.nilFunc) Cj1 Co3 rfl rfl rfl (by decide)
theorem uB:Tryz.prog.underlying 30=some (.slice 5):=C30.und
theorem ub:Tryz.prog.underlying 5=some (.int .u8):=C5.und
theorem uI:Tryz.prog.underlying 70=some (.slice 3):=C70.und
theorem uS:Tryz.prog.underlying 117=some (.slice 9):=Cj0.und
theorem us:Tryz.prog.underlying 9=some .string:=C9.und
theorem uA:Tryz.prog.underlying 104=some (.slice 147):=Cj1.und
theorem uE:∃ms,Tryz.prog.underlying 26=some (.interface ms):=⟨_,C26.und⟩
theorem uD:Tryz.prog.underlying 103=some (.map 9 121):=Cj2.und
theorem MD:Px Key.str Tryz.prog 103 (.pointer none):=Px.of Cj2 C9 Ci9 rfl rfl rfl
theorem MP:Px Key.int Tryz.prog 105 (.agg #[.int .i64 0,.int .i64 0,.int .i64 0,.int .i64 0,.slice none 0 0]):=Px.of Co7 C3 Cb8 rfl rfl rfl
structure Fh (w:World) (m:Nat) (fb:List Nat) (f:Dir):Prop where
 ex:∃es,Nc Key.str w m es/\∀k,Je es k=(f k).map λi=>Value.pointer (some (at0 (fb.getD i 0)))
 ids:∀k i,f k=some i->i<fb.length
abbrev Rk (i:Nat) (s:Sl) (f:Fl):Obj:=.cells #[.int .i64 ((i:Int)+1),sv s,.int .i64 (f.synced:Int),.int .i64 f.count] 123 (0,0)
structure Hq (w:World) (fb:List Nat) (ds:List Sl) (fs:List Fl):Prop where
 lf:fb.length=fs.length
 ld:ds.length=fs.length
 nd:fb.Nodup
 dd:∀(i j:Nat) (s t:Sl),i<j->ds[i]?=some s->ds[j]?=some t->∀k,s.blk k->¬t.blk k
 at_:∀(i b:Nat) (s:Sl) (f:Fl),fb[i]?=some b->ds[i]?=some s->fs[i]?=some f->w.heap[b]?=some (Rk i s f)/\En w 0 s f.data
def Np (w:World) (F:Nat->Prop) (fb:List Nat) (v:Value):Nh->Prop
 |.rm n=>∃b,v=.func (.func 105) #[] #[.pointer (some (at0 b))]/\w.heap[b]?=some (.cells #[.string n] 9 (0,0))/\F b
 |.mk n i=>∃b1 b2,v=.func (.func 167) #[] #[.pointer (some (at0 b1)),.pointer (some (at0 b2))]/\w.heap[b1]?=some (.cells #[.pointer (some (at0 (fb.getD i 0)))] 121 (0,0))/\w.heap[b2]?=some (.cells #[.string n] 9 (0,0))/\F b1/\F b2/\i<fb.length
 |.mv a b i=>∃b1 b2,v=.func (.func 172) #[] #[.pointer (some (at0 b1)),.pointer (some (at0 b2))]/\w.heap[b1]?=some (.cells #[.pointer (some (at0 (fb.getD i 0))),.string a] 127 (0,0))/\w.heap[b2]?=some (.cells #[.string b] 9 (0,0))/\F b1/\F b2/\i<fb.length
structure Am0 (w:World) (F:Nat->Prop) (fb:List Nat) (sa:Sl) (vs:List Value) (as_:List Nh):Prop where
 row:Au w 0 sa 147 1 vs
 len:vs.length=as_.length
 at_:∀(i:Nat) (v:Value) (a:Nh),vs[i]?=some v->as_[i]?=some a->Np w F fb v a
def Mc (w:World) (F:Nat->Prop) (k:Int):Option Value->Option Bq->Prop
 |none,none=>True
 |some v,some f=>∃s:Sl,v=.agg #[.int .i64 k,.int .i64 f.kind,.int .i64 f.part,.int .i64 f.names,sv s]/\Ints w s f.bytes/\(∀k,s.blk k->F k)/\f.bytes.length<=2^60
 |_,_=>False
def Ou (w:World) (F:Nat->Prop) (pl:Option Nat) (p:Int->Option Bq):Prop :=
 (pl=none/\∀k,p k=none)\/∃m es,pl=some m/\F m/\Nc Key.int w m es/\∀k,Mc w F k (Je es k) (p k)
abbrev Zv (D:Dk) (ms ml:Nat) (sa:Sl) (pl:Option Nat):Obj:=.cells #[.int .i64 D.space,.map (some ms),.map (some ml),sv sa,.int .i64 (D.files.length:Int),.bool D.down,.map pl,.int .i64 D.steps] 107 (0,0)
structure Dw (w:World) (d:Nat) (F:Nat->Prop) (D:Dk) (ms ml:Nat) (sa:Sl) (pl:Option Nat) (vs:List Value) (fb:List Nat) (ds:List Sl):Prop where
 box:w.heap[d]?=some (Zv D ms ml sa pl)
 seen:Fh w ms fb D.seen
 lasts:Fh w ml fb D.lasts
 files:Hq w fb ds D.files
 acts:Am0 w F fb sa vs D.acts
 plan:Ou w F pl D.plan
 ne:ms≠ml
 nes:pl≠some ms
 nel:pl≠some ml
 fd:F d
 fms:F ms
 fml:F ml
 ffb:∀b∈fb,F b
 fds:∀s∈ds,∀k,s.blk k->F k
 fsa:∀k,sa.blk k->F k
 lt:∀k,F k->k<w.heap.size
def Ce (w:World) (d:Nat) (F:Nat->Prop) (D:Dk):Prop:=∃ms ml sa pl vs fb ds,Dw w d F D ms ml sa pl vs fb ds
section
variable {w w':World}{S F F':Nat->Prop}{d m:Nat}{f:Dir}{fb:List Nat}{ds:List Sl}{fs:List Fl}{sa:Sl}{vs:List Value}{D:Dk}{pl:Option Nat}{p:Int->Option Bq}
theorem Nc.D9 {κ:Type} [BEq κ] [LawfulBEq κ] {k_:Key κ}{es:List (Dv κ)}(h:Nc k_ w m es):∃o c,w.heap[m]?=some (.map o c):=by
 obtain ⟨⟨c,h1,_⟩,_,_⟩:=h
 exact ⟨_,c,h1⟩
theorem Cc.map {o:Array MapEntry}{c:Nat}{t:TypeId}(h:w.heap[m]?=some (.map o c)):Cc w (λk=>k=m) t:=by
 rintro k rfl c' fr hc
 rw [h] at hc;cases hc
theorem Fh.upd (h:Fh w m fb f) (u:Upd S w w') (hS:¬S m):Fh w' m fb f:=by
 obtain ⟨⟨es,h1,h2⟩,h3⟩:=h
 exact ⟨⟨es,h1.upd u hS,h2⟩,h3⟩
theorem Fh.Ed (h:Fh w m fb f):∃o c,w.heap[m]?=some (.map o c):=by
 obtain ⟨⟨es,h1,_⟩,_⟩:=h
 exact Nc.D9 h1
theorem Hq.upd (h:Hq w fb ds fs) (u:Upd S w w') (h1:∀b∈fb,¬S b) (h2:∀s∈ds,∀k,s.blk k->¬S k):Hq w' fb ds fs :=
 ⟨h.lf,h.ld,h.nd,h.dd,λi b s f hb hs hf=>let ⟨g1,g2⟩:=h.at_ i b s f hb hs hf;⟨u.get g1 (h1 b (List.mem_of_getElem? hb)),g2.upd u λk _ hk=>h2 s (List.mem_of_getElem? hs) k hk⟩⟩
theorem Hq.Ak0 (h:Hq w fb ds fs){i:Nat}{s:Sl}(hs:ds[i]?=some s):∃b f,fb[i]?=some b/\fs[i]?=some f/\w.heap[b]?=some (Rk i s f)/\En w 0 s f.data:=by
 have hlt:=(List.getElem?_eq_some_iff.1 hs).1
 have h1:=h.lf
 have h2:=h.ld
 obtain ⟨b,hb⟩:∃b,fb[i]?=some b:=⟨_,List.getElem?_eq_getElem (by omega)⟩
 obtain ⟨f,hf⟩:∃f,fs[i]?=some f:=⟨_,List.getElem?_eq_getElem (by omega)⟩
 exact ⟨b,f,hb,hf,h.at_ i b s f hb hs hf⟩
theorem Hq.Yc (h:Hq w fb ds fs){b:Nat}(hb:b∈fb):∃i s f,fb[i]?=some b/\ds[i]?=some s/\fs[i]?=some f/\w.heap[b]?=some (Rk i s f)/\En w 0 s f.data:=by
 obtain ⟨i,hi,hb⟩:=List.mem_iff_getElem.1 hb
 have h1:=h.lf
 have h2:=h.ld
 obtain ⟨s,hs⟩:∃s,ds[i]?=some s:=⟨_,List.getElem?_eq_getElem (by omega)⟩
 obtain ⟨f,hf⟩:∃f,fs[i]?=some f:=⟨_,List.getElem?_eq_getElem (by omega)⟩
 have hb':fb[i]?=some b:=by rw [List.getElem?_eq_getElem hi,hb]
 exact ⟨i,s,f,hb',hs,hf,h.at_ i b s f hb' hs hf⟩
theorem Hq.ty (h:Hq w fb ds fs) (u:Upd S w w') (h1:Cc w S 123) (h2:Cc w S 5):Hq w' fb ds fs:=by
 refine h.upd u (λb hb hS=>?_) λs hs k hk hS=>?_
 ·obtain ⟨i,s,f,_,_,_,g,_⟩:=h.Yc hb
  exact h1 b hS _ _ g
 ·obtain ⟨i,hi,hs'⟩:=List.mem_iff_getElem.1 hs
  obtain ⟨b,f,_,_,_,g⟩:=h.Ak0 (i:=i) (s:=s) (by rw [List.getElem?_eq_getElem hi,hs'])
  obtain ⟨c,fr,hc⟩:=g.in.Bc hk
  exact h2 k hS _ _ hc
theorem Np.upd {v:Value}{a:Nh}(h:Np w F fb v a) (u:Upd S w w') (hS:∀k,F k->¬S k) (hF:∀k,F k->F' k):Np w' F' fb v a:=by
 cases a with
 |rm n=>obtain ⟨b,h1,h2,h3⟩:=h;exact ⟨b,h1,u.get h2 (hS b h3),hF b h3⟩
 |mk n i=>obtain ⟨b1,b2,h1,h2,h3,h4,h5,h6⟩:=h;exact ⟨b1,b2,h1,u.get h2 (hS _ h4),u.get h3 (hS _ h5),hF _ h4,hF _ h5,h6⟩
 |mv a b i=>obtain ⟨b1,b2,h1,h2,h3,h4,h5,h6⟩:=h;exact ⟨b1,b2,h1,u.get h2 (hS _ h4),u.get h3 (hS _ h5),hF _ h4,hF _ h5,h6⟩
theorem Np.ty {v:Value}{a:Nh}(h:Np w F fb v a) (u:Upd S w w') (h1:Cc w S 9) (h2:Cc w S 121) (h3:Cc w S 127) (hF:∀k,F k->F' k):Np w' F' fb v a:=by
 cases a with
 |rm n=>obtain ⟨b,g1,g2,g3⟩:=h;exact ⟨b,g1,u.get g2 λhS=>h1 _ hS _ _ g2,hF _ g3⟩
 |mk n i=>obtain ⟨b1,b2,g1,g2,g3,g4,g5,g6⟩:=h;exact ⟨b1,b2,g1,u.get g2 λhS=>h2 _ hS _ _ g2,u.get g3 λhS=>h1 _ hS _ _ g3,hF _ g4,hF _ g5,g6⟩
 |mv a b i=>obtain ⟨b1,b2,g1,g2,g3,g4,g5,g6⟩:=h;exact ⟨b1,b2,g1,u.get g2 λhS=>h3 _ hS _ _ g2,u.get g3 λhS=>h1 _ hS _ _ g3,hF _ g4,hF _ g5,g6⟩
theorem Am0.ty {as_:List Nh}(h:Am0 w F fb sa vs as_) (u:Upd S w w') (h0:Cc w S 147) (h1:Cc w S 9) (h2:Cc w S 121) (h3:Cc w S 127) (hF:∀k,F k->F' k):Am0 w' F' fb sa vs as_ :=
 ⟨h.row.ty u h0,h.len,λi v a hv ha=>(h.at_ i v a hv ha).ty u h1 h2 h3 hF⟩
theorem Mc.upd {k:Int}{v:Option Value}{g:Option Bq}(h:Mc w F k v g) (u:Upd S w w') (hS:Cc w S 3) (hF:∀k,F k->F' k):Mc w' F' k v g:=by
 match v,g,h with
 |none,none,_=>trivial
 |some v,some g,⟨s,h1,h2,h3,h4⟩=>exact ⟨s,h1,h2.ty u hS,λk hk=>hF k (h3 k hk),h4⟩
theorem Ou.upd (h:Ou w F pl p) (u:Upd S w w') (h1:∀m,pl=some m->¬S m) (hS:Cc w S 3) (hF:∀k,F k->F' k):Ou w' F' pl p:=by
 rcases h with h|⟨m,es,g1,g2,g3,g4⟩
 ·exact .inl h
 ·exact .inr ⟨m,es,g1,hF m g2,g3.upd u (h1 m g1),λk=>(g4 k).upd u hS hF⟩
theorem Mc.old {k:Int}{v:Option Value}{g:Option Bq}(h:Mc w F k v g) (u:Upd S w w') (hS:∀k,F k->¬S k):Mc w' F k v g:=by
 match v,g,h with
 |none,none,_=>trivial
 |some v,some g,⟨s,h1,h2,h3,h4⟩=>exact ⟨s,h1,h2.upd u λk hk=>hS k (h3 k hk),h3,h4⟩
theorem Ou.Ed (h:Ou w F (some m) p):∃o c,w.heap[m]?=some (.map o c):=by
 rcases h with ⟨h,_⟩|⟨m',es,g1,_,g3,_⟩
 ·cases h
 ·cases g1;exact Nc.D9 g3
theorem Ce.frame (h:Ce w d F D) (u:Upd S w w') (hS:∀k,F k->¬S k):Ce w' d F D:=by
 obtain ⟨ms,ml,sa,pl,vs,fb,ds,A⟩:=h
 refine ⟨ms,ml,sa,pl,vs,fb,ds,u.get A.box (hS _ A.fd),A.seen.upd u (hS _ A.fms),A.lasts.upd u (hS _ A.fml),A.files.upd u (λb hb=>hS _ (A.ffb b hb)) (λs hs k hk=>hS _ (A.fds s hs k hk)),
  ⟨A.acts.row.upd u λk _ hk=>hS _ (A.fsa k hk),A.acts.len,λi v a hv ha=>(A.acts.at_ i v a hv ha).upd u hS λ_ h=>h⟩,?_,A.ne,A.nes,A.nel,A.fd,A.fms,A.fml,A.ffb,A.fds,A.fsa,λk hk=>Nat.lt_of_lt_of_le (A.lt k hk) u.size⟩
 rcases A.plan with h|⟨m,es,g1,g2,g3,g4⟩
 ·exact .inl h
 ·exact .inr ⟨m,es,g1,g2,g3.upd u (hS m g2),λk=>(g4 k).old u hS⟩
theorem Ce.ext (h:Ce w d F D) (e:Ext w w'):Ce w' d F D:=h.frame e λ_ _=>id
theorem Ce.lt (h:Ce w d F D):∀k,F k->k<w.heap.size:=by obtain ⟨ms,ml,sa,pl,vs,fb,ds,A⟩:=h;exact A.lt
theorem Ce.fd (h:Ce w d F D):F d:=by obtain ⟨ms,ml,sa,pl,vs,fb,ds,A⟩:=h;exact A.fd
theorem Dw.Ca9 {ms ml:Nat}{D':Dk}(A:Dw w d F D ms ml sa pl vs fb ds) (u:Upd (λk=>k=d) w w') (hb:w'.heap[d]?=some (Zv D' ms ml sa pl)) (h1:D'.files=D.files) (h2:D'.lasts=D.lasts) (h3:D'.acts=D.acts) (h4:D'.plan=D.plan):Dw w' d F D' ms ml sa pl vs fb ds:=by
 have no:∀t:TypeId,107≠t->Cc w (λk=>k=d) t:=λt ht=>Cc.box A.box ht
 have nm:∀m,(∃o c,w.heap[m]?=some (.map o c))->¬(λk=>k=d) m:=by
  rintro m ⟨o,c,hm⟩ rfl
  rw [A.box] at hm;cases hm
 have hseen:D'.seen=D.seen:=by simp only [Dk.seen,h2,h3]
 refine ⟨hb,?_,?_,?_,?_,?_,A.ne,A.nes,A.nel,A.fd,A.fms,A.fml,A.ffb,A.fds,A.fsa,λk hk=>Nat.lt_of_lt_of_le (A.lt k hk) u.size⟩
 ·rw [hseen];exact A.seen.upd u (nm _ A.seen.Ed)
 ·rw [h2];exact A.lasts.upd u (nm _ A.lasts.Ed)
 ·rw [h1];exact A.files.ty u (no _ (by decide)) (no _ (by decide))
 ·rw [h3];exact A.acts.ty u (no _ (by decide)) (no _ (by decide)) (no _ (by decide)) (no _ (by decide)) λ_ h=>h
 ·rw [h4];exact A.plan.upd u (λm hm=>nm m (by subst hm;exact A.plan.Ed)) (no _ (by decide)) λ_ h=>h
end
end Dq
end Go.Proofs.YtmooldhpiopcgaaGreatDoor
namespace Go.Proofs.YtmooldhpiopcgaaGreatDoor
namespace Dq
open Go Go.Vx Dsk
theorem Cc3 (n:Nm):(⟨n.data.toList.toArray⟩:ByteArray)=n:=by cases n;simp
theorem Bf5 {l l':List (List UInt8)}(h:l.Perm l'):(l.mergeSort λx y=>decide (x<=y))=l'.mergeSort λx y=>decide (x<=y):=by
 have tr:∀a b c:List UInt8,decide (a<=b)=true->decide (b<=c)=true->decide (a<=c)=true:=λa b c h1 h2=>by
  simp only [decide_eq_true_eq] at *;exact List.le_trans h1 h2
 have to:∀a b:List UInt8,(decide (a<=b)||decide (b<=a))=true:=λa b=>by
  simp only [Bool.or_eq_true,decide_eq_true_eq];exact List.le_total a b
 refine List.Perm.eq_of_pairwise (le:=λx y=>decide (x<=y)=true) (λa b _ _ h1 h2=>?_) (List.pairwise_mergeSort tr to l) (List.pairwise_mergeSort tr to l') (((List.mergeSort_perm l _).trans h).trans (List.mergeSort_perm l' _).symm)
 simp only [decide_eq_true_eq] at h1 h2
 exact List.le_antisymm h1 h2
theorem Bn3 {l l':List Nm}(h:l.Perm l'):Rt l=Rt l':=by
 unfold Rt
 rw [Bf5 (h.map _)]
theorem Qq (l:List Nm):(Rt l).Perm l:=by
 have h:=(List.mergeSort_perm (l.map λn=>n.data.toList) (λx y=>decide (x<=y))).map λl:List UInt8=>(⟨l.toArray⟩:ByteArray)
 have e:(l.map λn:Nm=>n.data.toList).map (λl:List UInt8=>(⟨l.toArray⟩:ByteArray))=l:=by
  rw [List.map_map]
  conv=>rhs;rw [←List.map_id l]
  exact List.map_congr_left λn _=>Cc3 n
 rw [e] at h
 exact h
theorem Oh {f:Dir}{l l':List Nm}(h:Lists f l) (h':Lists f l'):l.Perm l':=(List.perm_ext_iff_of_nodup h.1 h'.1).2 λn=>(h.2 n).trans (h'.2 n).symm
theorem Wy {f:Dir}{l:List Nm}(h:Lists f l):names f=Rt l:=by
 unfold names
 have hx:∃l,Lists f l:=⟨l,h⟩
 rw [dif_pos hx]
 exact Bn3 (Oh (f:=f) hx.choose_spec h)
theorem Ap8 {f:Dir}{l:List Nm}(h:Lists f l):Lists f (names f):=by
 rw [Wy h]
 have hp:=Qq l
 exact ⟨hp.nodup_iff.2 h.1,λn=>(hp.mem_iff).trans (h.2 n)⟩
theorem Jc {f:Dir}{l:List Nm}(h:Lists f l):(names f).length=l.length:=by rw [Wy h];exact (Qq l).length_eq
theorem Ac9 {l l':List Int}(h:l.Perm l'):Gz l=Gz l':=by
 induction h with
 |nil=>rfl
 |cons x _ ih=>simp only [Gz,ih]
 |swap x y l=>simp only [Gz];omega
 |trans _ _ h1 h2=>exact h1.trans h2
theorem Yp (l l':List Int):Gz (l++l')=Gz l+Gz l':=by
 induction l with
 |nil=>simp [Gz]
 |cons x r ih=>simp only [List.cons_append,Gz,ih];omega
theorem Bb3 {D:Dk}{o:Option Nat}{l:List Nm}(h:Lists D.seen l):Bv D o=Gz (l.map (weigh D o)):=by
 unfold Bv
 rw [Wy h]
 exact Ac9 ((Qq l).map _)
theorem Nq (D:Dk) (o:Option Nat) (n:Nm):0<=weigh D o n:=by
 unfold weigh
 split
 ·split<;>omega
 ·omega
theorem Ox {l:List Int}(h:∀x∈l,0<=x):0<=Gz l:=by
 induction l with
 |nil=>exact Int.le_refl 0
 |cons x r ih =>
  have h1:=h x List.mem_cons_self
  have h2:=ih λy hy=>h y (List.mem_cons_of_mem _ hy)
  simp only [Gz];omega
theorem Vz {l:List Int}{B:Int}(h:∀x∈l,x<=B):Gz l<=(l.length:Int)*B:=by
 induction l with
 |nil=>simp [Gz]
 |cons x r ih =>
  have h1:=h x List.mem_cons_self
  have h2:=ih λy hy=>h y (List.mem_cons_of_mem _ hy)
  simp only [Gz,List.length_cons,Int.natCast_add,Int.add_mul,Int.natCast_one,Int.one_mul];omega
section
variable {κ:Type} [BEq κ] [LawfulBEq κ]
theorem Ar0 {es:List (Dv κ)}(hn:(es.map (·.1)).Nodup):∀x∈es,Je es x.1=some x.2.1:=by
 induction es with
 |nil=>intro x hx;cases hx
 | cons y r ih =>
  intro x hx
  simp only [List.map_cons,List.nodup_cons] at hn
  unfold Je
  rw [List.find?_cons]
  rcases List.mem_cons.1 hx with e|hx
  ·subst e;simp
  ·have hne:(y.1==x.1)=false:=by
    simp only [beq_eq_false_iff_ne,ne_eq]
    intro e
    exact hn.1 (by rw [e];exact List.mem_map.2 ⟨x,hx,rfl⟩)
   rw [hne]
   exact ih hn.2 x hx
theorem Bq9 {es:List (Dv κ)}{k:κ}{v:Value}(h:Je es k=some v):∃x∈es,x.1=k/\x.2.1=v:=by
 unfold Je at h
 obtain ⟨x,hx,rfl⟩:=Option.map_eq_some_iff.1 h
 exact ⟨x,List.mem_of_find?_eq_some hx,by simpa using List.find?_some hx,rfl⟩
end
end Dq
end Go.Proofs.YtmooldhpiopcgaaGreatDoor
namespace Go.Proofs.YtmooldhpiopcgaaGreatDoor
namespace Dq
open Go Go.Vx Dsk
structure Good (n:Nat) (f:Dir):Prop where
 ids:∀k i,f k=some i->i<n
 few:∃l,Lists f l/\l.length<=16
 inj:∀a b i,f a=some i->f b=some i->a=b
 okn:∀k i,f k=some i->Ba k=true
structure Bl (D:Dk) (N:Nat):Prop where
 space:0<=D.space/\D.space<=1048576
 fil:∀(i:Nat) (f:Fl),D.files[i]?=some f->f.data.length<=1048576/\f.synced<=f.data.length/\0<=f.count/\f.count<=N
 num:D.files.length<=N
 good:∀k,Good D.files.length (Ez (D.acts.take k) D.lasts)
 steps:0<=D.steps/\D.steps<=N
 acts:D.acts.length<=N
theorem Bl.seen {D:Dk}{N:Nat}(h:Bl D N):Good D.files.length D.seen:=by
 have:=h.good D.acts.length
 rwa [List.take_length] at this
theorem Bl.mono {D:Dk}{N M:Nat}(h:Bl D N) (hm:N<=M):Bl D M :=
 ⟨h.space,λi f hf=>let ⟨a,b,c,d⟩:=h.fil i f hf;⟨a,b,c,by omega⟩,Nat.le_trans h.num hm,h.good,⟨h.steps.1,by have:=h.steps.2;omega⟩,Nat.le_trans h.acts hm⟩
theorem Good.mono {n m:Nat}{f:Dir}(h:Good n f) (hm:n<=m):Good m f:=⟨λk i hi=>Nat.lt_of_lt_of_le (h.ids k i hi) hm,h.few,h.inj,h.okn⟩
theorem Good.names {n:Nat}{f:Dir}(h:Good n f):Lists f (names f)/\(names f).length<=16:=by
 obtain ⟨l,h1,h2⟩:=h.few
 exact ⟨Ap8 h1,by rw [Jc h1];exact h2⟩
theorem Bl.fl {D:Dk}{N:Nat}(h:Bl D N) (i:Nat):(fl D i).data.length<=1048576/\(fl D i).synced<=(fl D i).data.length:=by
 unfold Dsk.fl
 rw [List.getD_eq_getElem?_getD]
 cases hf:D.files[i]? with
 |none=>simp
 |some f=>have:=h.fil i f hf;exact ⟨this.1,this.2.1⟩
theorem Bl.weigh {D:Dk}{N:Nat}(h:Bl D N) (o:Option Nat) (n:Nm):Dsk.weigh D o n<=1048576:=by
 unfold Dsk.weigh
 split
 ·split
  ·omega
  ·rename_i i _ _
   have:=(h.fl i).1
   omega
 ·omega
theorem Bl.used {D:Dk}{N:Nat}(h:Bl D N) (o:Option Nat):0<=Bv D o/\Bv D o<=16777216:=by
 obtain ⟨h1,h2⟩:=h.seen.names
 unfold Bv
 refine ⟨Ox λx hx=>?_,?_⟩
 ·obtain ⟨n,_,rfl⟩:=List.mem_map.1 hx
  exact Nq D o n
 ·have:=Vz (l:=(names D.seen).map (Dsk.weigh D o)) (B:=1048576) λx hx=>by
   obtain ⟨n,_,rfl⟩:=List.mem_map.1 hx
   exact h.weigh o n
  rw [List.length_map] at this
  have h3:((names D.seen).length:Int)<=16:=by omega
  have h4:((names D.seen).length:Int)*1048576<=16*1048576:=Int.mul_le_mul_of_nonneg_right h3 (by decide)
  omega
end Dq
end Go.Proofs.YtmooldhpiopcgaaGreatDoor
namespace Go.Proofs.YtmooldhpiopcgaaGreatDoor
namespace Dq
open Go Go.Vx Dsk
section
variable {w w':World}{S F F':Nat->Prop}{d m ms ml:Nat}{f:Dir}{fb:List Nat}{ds:List Sl}{fs:List Fl}{sa:Sl}{vs:List Value}{D:Dk}{pl:Option Nat}{p:Int->Option Bq}{N:Nat}
theorem Tn {n:Nm}{K:Bool->Wp}(hK:∀w',Ext w w'->K (Ba n) w'):Aa Tryz.prog 60 #[.string n] rB K w:=by
 refine j60 ?_
 unfold F60
 refine Bj (decide (n.size=0\/32<n.size),()) (Ac (λh=>⟨Dx (by (try simp only [decide_eq_true_eq,decide_eq_false_iff_not,beq_iff_eq,Bool.not_eq_true,beq_eq_false_iff_ne,ne_eq,Bool.false_eq_true,false_iff,iff_false,true_iff,iff_true,ge_iff_le,gt_iff_lt,Int.not_le,Int.not_lt] at *);first|omega|(constructor<;>intro h9<;>omega)),rfl⟩) (λh=>⟨Dx (by (try simp only [decide_eq_true_eq,decide_eq_false_iff_not,beq_iff_eq,Bool.not_eq_true,beq_eq_false_iff_ne,ne_eq,Bool.false_eq_true,false_iff,iff_false,true_iff,iff_true,ge_iff_le,gt_iff_lt,Int.not_le,Int.not_lt] at *);first|omega|(constructor<;>intro h9<;>omega)),rfl⟩)) (Ac (λhc=>?_) (λhc=>?_))
 ·have hc:n.size=0\/32<n.size:=of_decide_eq_true hc
  have e:Ba n=false:=by
   unfold Ba
   rcases hc with h|h
   ·simp [h]
   ·have:¬n.size<=32:=by omega
    simp [this]
  rw [←e];exact hK w (Ext.refl w)
 have hc:¬(n.size=0\/32<n.size):=of_decide_eq_false hc
 have hlen:n.data.toList.length=n.size:=by simp
 refine Ag (λ_ w'=>Ext w w'/\n.data.toList.all Es=true) ?_ ?_
 ·refine Au2 us uB ub λs w1 i1 e1 hb=>?_
  have hs:=i1.len1
  rw [List.length_map] at hs
  refine Bz (λs' w'=>∃k:Nat,k<=n.size/\s'=((k:Int),())/\Ext w1 w'/\∀b∈n.data.toList.take k,Es b=true) (λs' _=>(n.size-s'.1).toNat) ⟨0,by omega,rfl,Ext.refl _,λb hb=>by simp at hb⟩ ?_
  rintro _ w2 ⟨k,hk,rfl,e2,hall⟩
  dsimp only
  have ek:IntKind.wrap .i64 ((k:Int)+1)=((k+1:Nat):Int):=by rw [IntWalk.i64_in _ ⟨by omega,by omega⟩];omega
  simp only [ek]
  refine Ac (λhd=>?_) (λhd=>?_)
  ·have hd:k<n.size:=by have:=of_decide_eq_true hd;omega
   obtain ⟨b,hb⟩:∃b,n.data.toList[k]?=some b:=⟨_,List.getElem?_eq_getElem (by omega)⟩
   have hx:(n.data.toList.map λb=>(b.toNat:Int))[(k:Int).toNat]?=some (b.toNat:Int):=by
    rw [Int.toNat_natCast,List.getElem?_map,hb];rfl
   have hi2:Cj w2 s 5 1 ((n.data.toList.map λb=>(b.toNat:Int)).map (Cell.int .u8).val):=by
    have:=i1.ext e2
    rw [List.map_map];exact this
   have fin:Es b=true->∀b'∈n.data.toList.take (k+1),Es b'=true:=by
    intro h1 b' hb'
    rw [List.take_add_one,hb] at hb'
    rcases List.mem_append.1 hb' with h|h
    ·exact hall b' h
    ·simp at h;subst h;exact h1
   have hdef:Es b=true↔((97<=b.toNat/\b.toNat<=122)\/(65<=b.toNat/\b.toNat<=90)\/(48<=b.toNat/\b.toNat<=57)\/b.toNat=46\/b.toNat=95\/b.toNat=45\/b.toNat=126):=by unfold Es;exact decide_eq_true_iff
   generalize b.toNat=x at hx hdef
   refine Ag (λ_ w'=>Es b=true/\w2=w') ?_ (λ_ w' ⟨h1,h2⟩=>by subst h2;exact ⟨⟨k+1,hd,rfl,e2,fin h1⟩,by omega⟩)
   refine Zg (c:=.int .u8) (xs:=n.data.toList.map λb=>(b.toNat:Int)) (x:=(x:Int)) hi2 (by omega) hx λ_=>?_
   refine Bj (decide ((97<=x/\x<=122)\/(65<=x/\x<=90)\/(48<=x/\x<=57)),()) ?_ ?_
   ·refine Bj (decide (97<=x/\x<=122),()) (Ac (λh=>⟨Dx (by (try simp only [decide_eq_true_eq,decide_eq_false_iff_not,beq_iff_eq,Bool.not_eq_true,beq_eq_false_iff_ne,ne_eq,Bool.false_eq_true,false_iff,iff_false,true_iff,iff_true,ge_iff_le,gt_iff_lt,Int.not_le,Int.not_lt] at *);first|omega|(constructor<;>intro h9<;>omega)),rfl⟩) (λh=>⟨Dx (by (try simp only [decide_eq_true_eq,decide_eq_false_iff_not,beq_iff_eq,Bool.not_eq_true,beq_eq_false_iff_ne,ne_eq,Bool.false_eq_true,false_iff,iff_false,true_iff,iff_true,ge_iff_le,gt_iff_lt,Int.not_le,Int.not_lt] at *);first|omega|(constructor<;>intro h9<;>omega)),rfl⟩)) (Ac (λh=>?_) (λh=>?_))
    ·have h:=of_decide_eq_true h
     exact ⟨Dx (by simp [h]),rfl⟩
    have h:=of_decide_eq_false h
    refine Bj (decide (65<=x/\x<=90),()) (Ac (λh=>⟨Dx (by (try simp only [decide_eq_true_eq,decide_eq_false_iff_not,beq_iff_eq,Bool.not_eq_true,beq_eq_false_iff_ne,ne_eq,Bool.false_eq_true,false_iff,iff_false,true_iff,iff_true,ge_iff_le,gt_iff_lt,Int.not_le,Int.not_lt] at *);first|omega|(constructor<;>intro h9<;>omega)),rfl⟩) (λh=>⟨Dx (by (try simp only [decide_eq_true_eq,decide_eq_false_iff_not,beq_iff_eq,Bool.not_eq_true,beq_eq_false_iff_ne,ne_eq,Bool.false_eq_true,false_iff,iff_false,true_iff,iff_true,ge_iff_le,gt_iff_lt,Int.not_le,Int.not_lt] at *);first|omega|(constructor<;>intro h9<;>omega)),rfl⟩)) (Ac (λh1=>?_) (λh1=>?_))
    ·have h1:=of_decide_eq_true h1
     exact ⟨Dx (by simp [h1]),rfl⟩
    have h1:=of_decide_eq_false h1
    refine Ac (λh2=>⟨Dx ?_,rfl⟩) (λh2=>⟨Dx ?_,rfl⟩)
    ·simp only [decide_eq_true_eq] at h2 ⊢;omega
    ·simp only [decide_eq_false_iff_not,decide_eq_true_eq,Bool.false_eq_true,false_iff] at h2 ⊢;omega
   ·refine Ac (λh=>⟨hdef.2 (by have:=of_decide_eq_true h;omega),rfl⟩) (λh=>?_)
    have h:=of_decide_eq_false h
    refine Bj (decide (x=46\/x=95\/x=45\/x=126),()) ?_ (Ac (λh1=>⟨hdef.2 (by have:=of_decide_eq_true h1;omega),rfl⟩) (λh1=>?_))
    ·refine Ac (λh1=>?_) (λh1=>Ac (λh2=>?_) (λh2=>Ac (λh3=>?_) (λh3=>?_)))
     ·have h1:(x:Int)=46:=by simpa using h1
      exact ⟨Dx (by simp only [beq_iff_eq,decide_eq_true_eq];omega),rfl⟩
     ·have h1:¬(x:Int)=46:=by simpa using h1
      have h2:(x:Int)=95:=by simpa using h2
      exact ⟨Dx (by simp only [beq_iff_eq,decide_eq_true_eq];omega),rfl⟩
     ·have h1:¬(x:Int)=46:=by simpa using h1
      have h2:¬(x:Int)=95:=by simpa using h2
      have h3:(x:Int)=45:=by simpa using h3
      exact ⟨Dx (by simp only [beq_iff_eq,decide_eq_true_eq];omega),rfl⟩
     ·have h1:¬(x:Int)=46:=by simpa using h1
      have h2:¬(x:Int)=95:=by simpa using h2
      have h3:¬(x:Int)=45:=by simpa using h3
      exact ⟨Dx (by simp only [beq_iff_eq,decide_eq_true_eq];omega),rfl⟩
    ·have h1:=of_decide_eq_false h1
     have hno:¬Es b=true:=λhh=>by have:=hdef.1 hh;omega
     have e:Ba n=false:=by
      unfold Ba
      have:n.data.toList.all Es=false:=by
       cases ha:n.data.toList.all Es with
       |false=>rfl
       |true=>exact absurd (List.all_eq_true.1 ha b (List.mem_of_getElem? hb)) hno
      rw [this,Bool.and_false]
     rw [←e]
     exact hK w2 (e1.trans e2)
  ·have hd:k=n.size:=by have:=of_decide_eq_false hd;omega
   refine ⟨e1.trans e2,List.all_eq_true.2 λb hb=>hall b ?_⟩
   rw [List.take_of_length_le (by omega)];exact hb
 ·rintro _ w1 ⟨e1,hall⟩
  have e:Ba n=true:=by
   unfold Ba
   have h1:¬n.size=0:=λh=>hc (.inl h)
   have h2:n.size<=32:=by omega
   simp [h1,h2,hall]
  rw [←e];exact hK w1 e1
theorem Dw.ext (A:Dw w d F D ms ml sa pl vs fb ds) (e:Ext w w'):Dw w' d F D ms ml sa pl vs fb ds :=
 ⟨e.ext_get A.box,A.seen.upd e id,A.lasts.upd e id,A.files.upd e (λ_ _=>id) (λ_ _ _ _=>id),A.acts.ty e (λ_ h=>h.elim) (λ_ h=>h.elim) (λ_ h=>h.elim) (λ_ h=>h.elim) λ_ h=>h,
  A.plan.upd e (λ_ _=>id) (λ_ h=>h.elim) λ_ h=>h,A.ne,A.nes,A.nel,A.fd,A.fms,A.fml,A.ffb,A.fds,A.fsa,λk hk=>Nat.lt_of_lt_of_le (A.lt k hk) e.size⟩
theorem Dw.in (A:Dw w d F D ms ml sa pl vs fb ds):Ce w d F D:=⟨ms,ml,sa,pl,vs,fb,ds,A⟩
theorem Fh.look (h:Fh w m fb f) (k:Nm){K:Option Addr->Wp}(hK:K ((f k).map λi=>at0 (fb.getD i 0)) w):rdT Tryz.prog (.one (.one .ptr)) (Instr.lookup 103 (.map (some m)) (.string k) false) K w:=by
 obtain ⟨⟨es,h1,h2⟩,h3⟩:=h
 refine ⟨_,?_,hK⟩
 have:=Xa MD h1 k
 rw [show Key.str.kv k=Value.string k from rfl,h2 k] at this
 dsimp only
 rw [this]
 cases f k<;>rfl
theorem Fh.lists (h:Fh w m fb f):∃es,Nc Key.str w m es/\(∀k,Je es k=(f k).map λi=>Value.pointer (some (at0 (fb.getD i 0))))/\Lists f (es.map (·.1)):=by
 obtain ⟨⟨es,h1,h2⟩,h3⟩:=h
 refine ⟨es,h1,h2,h1.keys,λn=>?_⟩
 constructor
 ·intro hn
  obtain ⟨x,hx,rfl⟩:=List.mem_map.1 hn
  have:=Ar0 h1.keys x hx
  rw [h2] at this
  obtain ⟨i,hi,_⟩:=Option.map_eq_some_iff.1 this
  rw [hi];rfl
 ·intro hn
  obtain ⟨i,hi⟩:=Option.isSome_iff_exists.1 hn
  have:=h2 n
  rw [hi] at this
  obtain ⟨x,hx,hxn,_⟩:=Bq9 this
  exact List.mem_map.2 ⟨x,hx,hxn⟩
theorem Fh.len (h:Fh w m fb f){K:Int->Wp}(hK:K ((names f).length:Int) w):rdN Tryz.prog (Builtin.len_ #[103] 3 #[.map (some m)]) K w:=by
 obtain ⟨es,h1,h2,h3⟩:=h.lists
 obtain ⟨⟨c,hh,_⟩,_,_⟩:=h1
 refine ⟨_,?_,hK⟩
 rw [Jc h3]
 have hg:(getObj m).run Tryz.prog w=.ok (.map (es.map (Dv.ent Key.str)).toArray c) w:=by simp [getObj,Sem.run,hh]
 simp [Builtin.len_,run_underlying uD,hg,goInt]
theorem Jf (A:Dw w d F D ms ml sa pl vs fb ds){n:Nm}{K:((Option Addr×ByteArray×Unit)×Int×Unit)->Wp}
  (hK:∀nm w',Ext w w'->((find D n).1.isSome=true->nm=n)->K (((find D n).1.map λi=>at0 (fb.getD i 0),nm,()),(find D n).2,()) w') :
  Aa Tryz.prog 67 #[.pointer (some (at0 d)),.string n] (.tup [(.agg c127),(.one (.int .i64))]) K w:=by
 refine j67 ?_
 unfold F67
 refine (St.start w).Ad λb1 w1 S e1=>Tn λw2 e2=>?_
 have S:=S.ext e2
 have e12:=e1.trans e2
 refine Ac (λhc=>?_) (λhc=>?_)
 ·have hc:Ba n=false:=by simpa using hc
  have e:find D n=(none,164):=by simp only [find,if_pos hc]
  rw [e] at hK
  exact S.Ae 0 rfl rfl rfl rfl λw3 S3 u3=>S3.lds 0 (none,⟨#[]⟩,()) rfl (hK _ w3 S3.upd (λh=>by cases h))
 have hc:Ba n=true:=by simpa using hc
 have A2:=A.ext e12
 refine Af ?_
 rw [addr_add]
 refine Ah A2.box (x:=some ms) rfl (A2.seen.look n ?_)
 have e:find D n=match D.seen n with|none=>(none,162)|some i=>(some i,0):=by simp only [find];rw [if_neg (by simp [hc])]<;>rfl
 rw [e] at hK
 cases hs:D.seen n with
 |none =>
  rw [hs] at hK
  exact Di (S.Ae 0 rfl rfl rfl rfl λw3 S3 u3=>S3.lds 0 (none,⟨#[]⟩,()) rfl (hK _ w3 S3.upd (λh=>by cases h)))
 |some i =>
  rw [hs] at hK
  exact Ap (S.Ae 0 rfl rfl rfl rfl λw3 S3 u3=>S3.lds 0 (some (at0 (fb.getD i 0)),n,()) rfl (hK n w3 S3.upd λ_=>rfl))
theorem Zq {x:Sl}{l:List UInt8}{K:Sl->Wp}(hx:Bytes w x l) (hl:l.length<=2^44) (hK:∀s w',En w' w.heap.size s l->Ext w w'->K s w'):Aa Tryz.prog 63 #[x.v] rS K w:=by
 refine j63 ?_
 unfold F63
 have hn:=hx.len1
 rw [List.length_map] at hn
 refine Ac (λhc=>?_) (λhc=>?_)
 ·have h0:l=[]:=by
   rcases hx.at_ with ⟨_,h⟩|⟨t,h⟩
   ·simpa using h
   ·rcases h.at_ with ⟨_,h1⟩|⟨b,off,c,fr,ha,_⟩
    ·have:=h.le;exact List.length_eq_zero_iff.1 (by omega)
    ·rw [ha] at hc;cases hc
  subst h0
  exact hK _ w (Au.nil _ _ _ _) (Ext.refl w)
 ·refine Aq λb1 w1 e1 n1 hb1 _=>?_
  have o1:Au w1 w.heap.size ⟨some (at0 b1),0,0⟩ 5 1 (bv []):=⟨rfl,Nat.le_refl _,.inr ⟨b1,0,#[],rfl,by omega,n1,by simp,λi v hv=>by simp at hv⟩⟩
  refine Fg (s:=⟨some (at0 b1),0,0⟩) EB uB o1 (hx.ext e1) (Rn l) (by dsimp only;omega) e1.size λs' w2 o2 _ u2 _=>hK s' w2 (by simpa using o2) (e1.step u2 λk hk=>o1.Ew hk)
theorem As6 {x:Sl}{l:List Int}{K:Sl->Wp}(hx:SlX w x 1 (iv l)) (hl:l.length<=2^44) (hK:∀s w',Au w' w.heap.size s 3 1 (iv l)->Ext w w'->K s w'):Aa Tryz.prog 68 #[x.v] rS K w:=by
 refine j68 ?_
 unfold F68
 have hn:=hx.len1
 rw [List.length_map] at hn
 refine Ac (λhc=>?_) (λhc=>?_)
 ·have h0:l=[]:=by
   rcases hx.at_ with ⟨_,h⟩|⟨t,h⟩
   ·simpa using h
   ·rcases h.at_ with ⟨_,h1⟩|⟨b,off,c,fr,ha,_⟩
    ·have:=h.le;exact List.length_eq_zero_iff.1 (by omega)
    ·rw [ha] at hc;cases hc
  subst h0
  exact hK _ w (Au.nil _ _ _ _) (Ext.refl w)
 ·refine Aq λb1 w1 e1 n1 hb1 _=>?_
  have o1:Au w1 w.heap.size ⟨some (at0 b1),0,0⟩ 3 1 (iv []):=⟨rfl,Nat.le_refl _,.inr ⟨b1,0,#[],rfl,by omega,n1,by simp,λi v hv=>by simp at hv⟩⟩
  refine Fg (s:=⟨some (at0 b1),0,0⟩) EI uI o1 (hx.ext e1) (Br7 l) (by dsimp only;omega) e1.size λs' w2 o2 _ u2 _=>hK s' w2 (by simpa using o2) (e1.step u2 λk hk=>o1.Ew hk)
theorem Az7:Extern.find Tryz.f102=some Extern.MapsClone.clone:=by kernel_rfl
theorem Az6:Extern.findNext Tryz.f102=none:=by kernel_rfl
theorem Z9:(Tryz.f102.name == "runtime.NumGoroutine")=false:=by kernel_rfl
theorem Aa0:Tryz.f102.body.isNone=true:=by kernel_rfl
theorem Bk1 {P:Program}{t:TypeId}{r c:Nat}{es:Array MapEntry}(h:w.heap[r]?=some (.map es c)):(Extern.MapsClone.clone #[.iface t (.map (some r))]).run P w=.ok (.iface t (.map (some w.heap.size))) (w.alloc (.map es c)):=by
 have hg:(getObj r).run P w=.ok (.map es c) w:=by simp [getObj,Sem.run,h]
 have e:Extern.MapsClone.clone #[.iface t (.map (some r))]=(getObj r >>= λo=>match o with | .map es c=>(newObj (.map es c) >>= λb=>pure (.iface t (.map (some b))))|_=>stuck "maps.clone: a map expected"):=rfl
 rw [e]
 simp [hg,newObj,Sem.run,World.alloc_eq]
theorem Zb (h:Fh w m fb f){K:Option Nat->Wp}(hK:∀m' w',Fh w' m' fb f->Ext w w'->m'=w.heap.size->K (some m') w'):Aa Tryz.prog 73 #[.map (some m)] (.one (.one .map)) K w:=by
 refine j73 ?_
 unfold F73
 obtain ⟨⟨es,h1,h2⟩,h3⟩:=h
 have h1':=h1
 obtain ⟨⟨c,hh,hc⟩,hk,hb⟩:=h1
 have hg:(getObj m).run Tryz.prog w=.ok (.map (es.map (Dv.ent Key.str)).toArray c) w:=by simp [getObj,Sem.run,hh]
 refine Ap (.inr (.inl ⟨.iface 103 (.map (some w.heap.size)),w.alloc (.map (es.map (Dv.ent Key.str)).toArray c),?_,?_⟩))
 ·have hm:∀W,(mark (.extern 102)).run Tryz.prog W=.ok () W:=λ_=>rfl
  have hn1:¬Tryz.f102.name = "runtime.NumGoroutine" := by simpa using Z9
  have hn2:Tryz.f102.body=none:=by simpa using Aa0
  simp [callFunc,run_program,hn1,hn2,Tryz.func102,Z9,Aa0,Az6,Az7,hm,Bk1 hh,RTy.val,Ty.val,Cell.val]
 ·have e1:=Ext.alloc w (.map (es.map (Dv.ent Key.str)).toArray c)
  refine ⟨some w.heap.size,_,?_,hK w.heap.size _ ⟨⟨es,⟨⟨c,heap_alloc w _,hc⟩,hk,hb⟩,h2⟩,h3⟩ e1 rfl⟩
  simp [Instr.typeAssert,run_underlying uD,RTy.val,Ty.val,Cell.val]
end
end Dq
end Go.Proofs.YtmooldhpiopcgaaGreatDoor
