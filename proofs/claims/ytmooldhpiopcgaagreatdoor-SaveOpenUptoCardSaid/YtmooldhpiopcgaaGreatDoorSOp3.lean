/- YtmooldhpiopcgaaGreatDoorSOp3: parts of the proof, put together by program. -/
import Derived.Test.YtmooldhpiopcgaaGreatDoorSOp2
set_option linter.unusedVariables false
set_option linter.defProp false
set_option linter.unusedSimpArgs false
set_option linter.unusedSectionVars false
noncomputable section
namespace Go.Proofs.YtmooldhpiopcgaaGreatDoor
open Go.Proofs.Tryz
section
namespace Dq
open Go Go.Vx Dsk
section
variable {w w':World}{S F F':Nat->Prop}{d m ms ml:Nat}{f:Dir}{fb:List Nat}{ds:List Sl}{fs:List Fl}{sa:Sl}{vs:List Value}{D:Dk}{pl:Option Nat}{p:Int->Option Ce}{N:Nat}
def Vm {n:Nm}{K:Bool->Wp}(hK:iF w (K (Bl n))):Aa prog 60 #[.string n] rB K w:=by
 refine j60 ?_;unfold F60;refine Ar (decide (n.size=0\/32<n.size),()) (Ac (λh=>⟨Di (by (try simp only [pF,oK,pX,rX,rF,ne_eq,kT,rY,rZ,sD,sF,sG,sH,sJ,kD] at *);first|omega|(constructor<;>intro h9<;>omega)),rfl⟩) (λh=>⟨Di (by (try simp only [pF,oK,pX,rX,rF,ne_eq,kT,rY,rZ,sD,sF,sG,sH,sJ,kD] at *);first|omega|(constructor<;>intro h9<;>omega)),rfl⟩)) (Ac (λhc=>?_) (λhc=>?_))
 ·have hc:n.size=0\/32<n.size:=jY hc;have e:Bl n=false:=by
   unfold Bl
   rcases hc with h|h
   ·simp [h]
   ·have:¬n.size<=32:=by omega
    simp [this]
  rw [←e];exact hK w (Ext.refl w)
 have hc:¬(n.size=0\/32<n.size):=sK hc;have hlen:n.data.toList.length=n.size:=(by simp);refine Ai (λ_ w'=>Ext w w'/\n.data.toList.all Fa=true) ?_ ?_
 ·refine Bc1 us uB ub λs w1 i1 e1 hb=>?_;have hs:=i1.len1;rw [nO] at hs;refine Bo (λs' w'=>∃k:Nat,k<=n.size/\s'=((k:Int),())/\Ext w1 w'/\∀b∈n.data.toList.take k,Fa b=true) (λs' _=>(n.size-s'.1).toNat) ⟨0,by omega,rfl,Ext.refl _,λb hb=>by simp at hb⟩ ?_;rintro _ w2 ⟨k,hk,rfl,e2,hall⟩;dsimp only;have ek:W64 ((k:Int)+1)=((k+1:Nat):Int):=iD (by omega);simp only [ek];refine Ac (λhd=>?_) (λhd=>?_)
  ·(have hd:k<n.size:=by have:=jY hd;omega);obtain ⟨b,hb⟩:∃b,n.data.toList[k]?=some b:=⟨_,oP (by omega)⟩;have hx:(n.data.toList.map λb=>(b.toNat:Int))[(k:Int).toNat]?=some (b.toNat:Int):=by
    rw [kH,nP,hb];rfl
   have hi2:Dx w2 s 5 1 ((n.data.toList.map λb=>(b.toNat:Int)).map (Cell.int .u8).val):=by
    have:=i1.ext e2
    rw [qZ];exact this
   have fin:Fa b=true->∀b'∈n.data.toList.take (k+1),Fa b'=true:=by
    intro h1 b' hb'
    rw [sO,hb] at hb'
    rcases jV.1 hb' with h|h
    ·exact hall b' h
    ·simp at h;subst h;exact h1
   (have hdef:Fa b=true↔((97<=b.toNat/\b.toNat<=122)\/(65<=b.toNat/\b.toNat<=90)\/(48<=b.toNat/\b.toNat<=57)\/b.toNat=46\/b.toNat=95\/b.toNat=45\/b.toNat=126):=by unfold Fa;exact decide_eq_true_iff);generalize b.toNat=x at hx hdef;refine Ai (λ_ w'=>Fa b=true/\w2=w') ?_ (λ_ w' ⟨h1,h2⟩=>by subst h2;exact ⟨⟨k+1,hd,rfl,e2,fin h1⟩,by omega⟩);refine Al7 (c:=.int .u8) (xs:=n.data.toList.map λb=>(b.toNat:Int)) (x:=(x:Int)) hi2 (by omega) hx λ_=>?_;refine Ar (decide ((97<=x/\x<=122)\/(65<=x/\x<=90)\/(48<=x/\x<=57)),()) ?_ ?_;{(refine Ar (decide (97<=x/\x<=122),()) (Ac (λh=>⟨Di (by (try simp only [pF,oK,pX,rX,rF,ne_eq,kT,rY,rZ,sD,sF,sG,sH,sJ,kD] at *);first|omega|(constructor<;>intro h9<;>omega)),rfl⟩) (λh=>⟨Di (by (try simp only [pF,oK,pX,rX,rF,ne_eq,kT,rY,rZ,sD,sF,sG,sH,sJ,kD] at *);first|omega|(constructor<;>intro h9<;>omega)),rfl⟩)) (Ac (λh=>?_) (λh=>?_)));{have h:=jY h;exact ⟨Di (by simp [h]),rfl⟩};have h:=sK h;(refine Ar (decide (65<=x/\x<=90),()) (Ac (λh=>⟨Di (by (try simp only [pF,oK,pX,rX,rF,ne_eq,kT,rY,rZ,sD,sF,sG,sH,sJ,kD] at *);first|omega|(constructor<;>intro h9<;>omega)),rfl⟩) (λh=>⟨Di (by (try simp only [pF,oK,pX,rX,rF,ne_eq,kT,rY,rZ,sD,sF,sG,sH,sJ,kD] at *);first|omega|(constructor<;>intro h9<;>omega)),rfl⟩)) (Ac (λh1=>?_) (λh1=>?_)));{have h1:=jY h1;exact ⟨Di (by simp [h1]),rfl⟩};have h1:=sK h1;refine Ac (λh2=>⟨Di ?_,rfl⟩) (λh2=>⟨Di ?_,rfl⟩);{simp only [pF] at h2 ⊢;omega};{simp only [oK,pF,kT,rY] at h2 ⊢;omega}}
   ·refine Ac (λh=>⟨hdef.2 (by have:=jY h;omega),rfl⟩) (λh=>?_);have h:=sK h;refine Ar (decide (x=46\/x=95\/x=45\/x=126),()) ?_ (Ac (λh1=>⟨hdef.2 (by have:=jY h1;omega),rfl⟩) (λh1=>?_));{refine Ac (λh1=>?_) (λh1=>Ac (λh2=>?_) (λh2=>Ac (λh3=>?_) (λh3=>?_)));{have h1:(x:Int)=46:=(by simpa using h1);exact ⟨Di (by simp only [pX,pF];omega),rfl⟩};{have h1:¬(x:Int)=46:=(by simpa using h1);have h2:(x:Int)=95:=(by simpa using h2);exact ⟨Di (by simp only [pX,pF];omega),rfl⟩};{have h1:¬(x:Int)=46:=(by simpa using h1);have h2:¬(x:Int)=95:=(by simpa using h2);have h3:(x:Int)=45:=(by simpa using h3);exact ⟨Di (by simp only [pX,pF];omega),rfl⟩};{have h1:¬(x:Int)=46:=(by simpa using h1);have h2:¬(x:Int)=95:=(by simpa using h2);have h3:¬(x:Int)=45:=(by simpa using h3);exact ⟨Di (by simp only [pX,pF];omega),rfl⟩}}
    ·have h1:=sK h1;(have hno:¬Fa b=true:=λhh=>by have:=hdef.1 hh;omega);have e:Bl n=false:=by
      unfold Bl
      have:n.data.toList.all Fa=false:=by
       cases ha:n.data.toList.all Fa with
       |false=>rfl
       |true=>exact absurd (iW.1 ha b (lU hb)) hno
      rw [this,Bool.and_false]
     rw [←e];exact hK w2 (e1.trans e2)
  {(have hd:k=n.size:=by have:=sK hd;omega);refine ⟨e1.trans e2,iW.2 λb hb=>hall b ?_⟩;rw [sQ (by omega)];exact hb}
 ·rintro _ w1 ⟨e1,hall⟩;have e:Bl n=true:=by
   unfold Bl
   have h1:¬n.size=0:=λh=>hc (.inl h)
   have h2:n.size<=32:=by omega
   simp [h1,h2,hall]
  rw [←e];exact hK w1 e1
def Ej.ext (A:Ej w d F D ms ml sa pl vs fb ds) (e:Ext w w'):Ej w' d F D ms ml sa pl vs fb ds :=
 ⟨e.ext_get A.box,A.seen.upd e id,A.lasts.upd e id,A.files.upd e (λ_ _=>id) (λ_ _ _ _=>id),A.acts.ty e (λ_ h=>h.elim) (λ_ h=>h.elim) (λ_ h=>h.elim) (λ_ h=>h.elim) λ_ h=>h,
  A.plan.upd e (λ_ _=>id) (λ_ h=>h.elim) λ_ h=>h,A.ne,A.nes,A.nel,A.fd,A.fms,A.fml,A.ffb,A.fds,A.fsa,λk hk=>mP (A.lt k hk) e.size⟩
def Ej.in (A:Ej w d F D ms ml sa pl vs fb ds):Dn w d F D:=⟨ms,ml,sa,pl,vs,fb,ds,A⟩
def Fp.look (h:Fp w m fb f) (k:Nm){K:xM->Wp}(hK:K ((f k).map λi=>at0 (fb.getD i 0)) w):rdT prog (.one (.one .ptr)) (Instr.lookup 103 (.map (some m)) (.string k) false) K w:=by obtain ⟨⟨es,h1,h2⟩,h3⟩:=h;refine ⟨_,?_,hK⟩;have:=Yr MD h1 k;rw [show Key.str.kv k=Value.string k from rfl,h2 k] at this;dsimp only;rw [this];cases f k<;>rfl
def Fp.lists (h:Fp w m fb f):∃es,Oy Key.str w m es/\(∀k,Jw es k=(f k).map λi=>Value.pointer (some (at0 (fb.getD i 0))))/\Lists f (es.map (·.1)):=by obtain ⟨⟨es,h1,h2⟩,h3⟩:=h;refine ⟨es,h1,h2,h1.keys,λn=>?_⟩;constructor;{intro hn;obtain ⟨x,hx,rfl⟩:=nT.1 hn;have:=Ax6 h1.keys x hx;rw [h2] at this;obtain ⟨i,hi,_⟩:=rG.1 this;rw [hi];rfl};{intro hn;obtain ⟨i,hi⟩:=sV.1 hn;have:=h2 n;rw [hi] at this;obtain ⟨x,hx,hxn,_⟩:=Cb8 this;exact nT.2 ⟨x,hx,hxn⟩}
def Fp.len (h:Fp w m fb f){K:Int->Wp}(hK:K ((names f).length:Int) w):rdN prog (Builtin.len_ #[103] 3 #[.map (some m)]) K w:=by obtain ⟨es,h1,h2,h3⟩:=h.lists;obtain ⟨⟨c,hh,_⟩,_,_⟩:=h1;refine ⟨_,?_,hK⟩;rw [Qg h3];have hg:(getObj m).run prog w=.ok (.map (es.map (Ei.ent Key.str)).toArray c) w:=(by simp [getObj,Sem.run,hh]);simp [Builtin.len_,jZ uD,hg,goInt]
def Jy (A:Ej w d F D ms ml sa pl vs fb ds){n:Nm}{K:bG->Wp}
  (hK:∀nm w',Ext w w'->((find D n).1.isSome=true->nm=n)->K (((find D n).1.map λi=>at0 (fb.getD i 0),nm,()),(find D n).2,()) w') :
  Aa prog 67 #[dU d,.string n] (.tup [(.agg c127),(.one (.int .i64))]) K w:=by
 refine j67 ?_;unfold F67;refine (St.start w).Ak λb1 w1 S e1=>Vm λw2 e2=>?_;have S:=S.ext e2;have e12:=e1.trans e2;refine Ac (λhc=>?_) (λhc=>?_);{have hc:Bl n=false:=(by simpa using hc);have e:find D n=(none,164):=(by simp only [find,iK hc]);rw [e] at hK;exact S.Ah 0 rfl rfl rfl rfl λw3 S3 u3=>S3.lds 0 (none,⟨#[]⟩,()) rfl (hK _ w3 S3.upd (λh=>by cases h))};have hc:Bl n=true:=(by simpa using hc);have A2:=A.ext e12;refine Ad ?_;rw [addr_add];refine Af A2.box (x:=some ms) rfl (A2.seen.look n ?_);(have e:find D n=match D.seen n with|none=>(none,162)|some i=>(some i,0):=by simp only [find];rw [iP (by simp [hc])]<;>rfl);rw [e] at hK;cases hs:D.seen n with
 |none=>rw [hs] at hK;exact Ee (S.Ah 0 rfl rfl rfl rfl λw3 S3 u3=>S3.lds 0 (none,⟨#[]⟩,()) rfl (hK _ w3 S3.upd (λh=>by cases h)))
 |some i=>rw [hs] at hK;exact Bh (S.Ah 0 rfl rfl rfl rfl λw3 S3 u3=>S3.lds 0 (some (at0 (fb.getD i 0)),n,()) rfl (hK n w3 S3.upd λ_=>rfl))
def Y3 {x:Sl}{l:List UInt8}{K:Sl->Wp}(hx:Bytes w x l) (hl:l.length<=2^44) (hK:∀s w',Dl w' w.heap.size s l->Ext w w'->K s w'):Aa prog 63 #[x.v] rS K w:=by
 refine j63 ?_;unfold F63;have hn:=hx.len1;rw [nO] at hn;refine Ac (λhc=>?_) (λhc=>?_)
 ·have h0:l=[]:=by
   rcases hx.at_ with ⟨_,h⟩|⟨t,h⟩
   ·simpa using h
   ·rcases h.at_ with ⟨_,h1⟩|⟨b,off,c,fr,ha,_⟩
    ·have:=h.le;exact jH.1 (by omega)
    ·rw [ha] at hc;cases hc
  subst h0;exact hK _ w (Am.nil _ _ _ _) (Ext.refl w)
 {refine Ag λb1 w1 e1 n1 hb1 _=>?_;have o1:Am w1 w.heap.size ⟨some (at0 b1),0,0⟩ 5 1 (bv []):=⟨rfl,mJ _,.inr ⟨b1,0,#[],rfl,by omega,n1,by simp,λi v hv=>by simp at hv⟩⟩;refine Ed (s:=⟨some (at0 b1),0,0⟩) EB uB o1 (hx.ext e1) (Ph l) (by dsimp only;omega) e1.size λs' w2 o2 _ u2 _=>hK s' w2 (by simpa using o2) (e1.step u2 λk hk=>o1.Dh hk)}
def Az9 {x:Sl}{l:xP}{K:Sl->Wp}(hx:SlX w x 1 (iv l)) (hl:l.length<=2^44) (hK:∀s w',Am w' w.heap.size s 3 1 (iv l)->Ext w w'->K s w'):Aa prog 68 #[x.v] rS K w:=by
 refine j68 ?_;unfold F68;have hn:=hx.len1;rw [nO] at hn;refine Ac (λhc=>?_) (λhc=>?_)
 ·have h0:l=[]:=by
   rcases hx.at_ with ⟨_,h⟩|⟨t,h⟩
   ·simpa using h
   ·rcases h.at_ with ⟨_,h1⟩|⟨b,off,c,fr,ha,_⟩
    ·have:=h.le;exact jH.1 (by omega)
    ·rw [ha] at hc;cases hc
  subst h0;exact hK _ w (Am.nil _ _ _ _) (Ext.refl w)
 {refine Ag λb1 w1 e1 n1 hb1 _=>?_;have o1:Am w1 w.heap.size ⟨some (at0 b1),0,0⟩ 3 1 (iv []):=⟨rfl,mJ _,.inr ⟨b1,0,#[],rfl,by omega,n1,by simp,λi v hv=>by simp at hv⟩⟩;refine Ed (s:=⟨some (at0 b1),0,0⟩) EI uI o1 (hx.ext e1) (Bf5 l) (by dsimp only;omega) e1.size λs' w2 o2 _ u2 _=>hK s' w2 (by simpa using o2) (e1.step u2 λk hk=>o1.Dh hk)}
def Bh2:Extern.find Tryz.f102=some Extern.MapsClone.clone:=by kernel_rfl
def Bh1:Extern.findNext Tryz.f102=none:=by kernel_rfl
def Ag6:(Tryz.f102.name == "runtime.NumGoroutine")=false:=by kernel_rfl
def Ag7:Tryz.f102.body.isNone=true:=by kernel_rfl
def Bt9 {P:Program}{t:TypeId}{r c:Nat}{es:Array MapEntry}(h:w.heap[r]?=some (.map es c)):(Extern.MapsClone.clone #[.iface t (.map (some r))]).run P w=.ok (.iface t (.map (some w.heap.size))) (w.alloc (.map es c)):=by have hg:(getObj r).run P w=.ok (.map es c) w:=(by simp [getObj,Sem.run,h]);have e:Extern.MapsClone.clone #[.iface t (.map (some r))]=(getObj r >>= λo=>match o with | .map es c=>(newObj (.map es c) >>= λb=>pure (.iface t (.map (some b))))|_=>stuck "maps.clone: a map expected"):=rfl;rw [e];simp [hg,newObj,Sem.run,kZ]
def Q5 (h:Fp w m fb f){K:Option Nat->Wp}(hK:∀m' w',Fp w' m' fb f->Ext w w'->m'=w.heap.size->K (some m') w'):Aa prog 73 #[.map (some m)] (.one (.one .map)) K w:=by refine j73 ?_;unfold F73;obtain ⟨⟨es,h1,h2⟩,h3⟩:=h;have h1':=h1;obtain ⟨⟨c,hh,hc⟩,hk,hb⟩:=h1;have hg:(getObj m).run prog w=.ok (.map (es.map (Ei.ent Key.str)).toArray c) w:=(by simp [getObj,Sem.run,hh]);refine Bh (.inr (.inl ⟨.iface 103 (.map (some w.heap.size)),w.alloc (.map (es.map (Ei.ent Key.str)).toArray c),?_,?_⟩));{have hm:∀W,(mark (.extern 102)).run prog W=.ok () W:=λ_=>rfl;have hn1:¬Tryz.f102.name = "runtime.NumGoroutine" := (by simpa using Ag6);have hn2:Tryz.f102.body=none:=(by simpa using Ag7);simp [callFunc,run_program,hn1,hn2,func102,Ag6,Ag7,Bh1,Bh2,hm,Bt9 hh,RTy.val,Ty.val,Cell.val]};{have e1:=Ext.alloc w (.map (es.map (Ei.ent Key.str)).toArray c);refine ⟨some w.heap.size,_,?_,hK w.heap.size _ ⟨⟨es,⟨⟨c,heap_alloc w _,hc⟩,hk,hb⟩,h2⟩,h3⟩ e1 rfl⟩;simp [Instr.typeAssert,jZ uD,RTy.val,Ty.val,Cell.val]}
end
end Dq
end
end Go.Proofs.YtmooldhpiopcgaaGreatDoor
namespace Go.Proofs
open Go.Shelf
def Tryz.Ax4:Go.Shelf.Ren:=⟨λ|119=>160|n=>n,λ|21=>21|4=>4|n=>n,λ|n=>n⟩
def Tryz.lays119:Go.Proofs.Lays.n119 prog Tryz.Ax4:={
 mixed:=by kernel_rfl
 f119:=func160.trans (lW some (by kernel_rfl))
 t4:=Tryz.underlying4
 a4:=Tryz.isAgg4
 z4:=Tryz.sizeOf4
 v4:=Tryz.zeroValue4
 t21:=Tryz.underlying21
 a21:=Tryz.isAgg21
 z21:=Tryz.sizeOf21
 v21:=Tryz.zeroValue21 }
def Tryz.utf8_ValidRune (r:Int) (w:World) :
  Calls prog 160 #[.int .i32 r] w λe w'=>e=.returned (.bool (Lib.validRune r))/\w'=w:=Any.utf8_ValidRune Tryz.lays119 r w
def Tryz.Ax3:Go.Shelf.Ren:=⟨λ|137=>159|217=>199|266=>221|n=>n,λ|9=>9|5=>5|3=>3|n=>n,λ|n=>n⟩
def Tryz.lays137:Go.Proofs.Lays.n137 prog Tryz.Ax3:={
 mixed:=by kernel_rfl
 f137:=func159.trans (lW some (by kernel_rfl))
 f217:=func199.trans (lW some (by kernel_rfl))
 f266:=func221.trans (lW some (by kernel_rfl))
 t3:=Tryz.underlying3
 a3:=Tryz.isAgg3
 z3:=Tryz.sizeOf3
 v3:=Tryz.zeroValue3
 t5:=Tryz.underlying5
 a5:=Tryz.isAgg5
 z5:=Tryz.sizeOf5
 v5:=Tryz.zeroValue5
 t9:=Tryz.underlying9
 a9:=Tryz.isAgg9
 z9:=Tryz.sizeOf9
 v9:=Tryz.zeroValue9 }
open Go.RowKit in
def Tryz.strings_IndexByte (s:ByteArray) (c:Int) (w:World) :
  Calls prog 159 #[.string s,.int .u8 c] w λe w'=>e=.returned (.int .i64 (Lib.indexByte s.data.toList c.toNat.toUInt8))/\w'=w:=Any.strings_IndexByte Tryz.lays137 s c w
def Tryz.Ax2:Go.Shelf.Ren:=⟨λ|190=>101|125=>142|258=>141|128=>182|129=>183|302=>173|303=>174|304=>175|305=>176|306=>177|307=>178|308=>179|309=>180|310=>181|333=>205|329=>206|330=>207|334=>208|335=>209|336=>210|344=>222|n=>n,λ|31=>117|9=>9|3=>3|46=>230|0=>0|51=>289|53=>291|4=>4|183=>282|182=>281|131=>286|5=>5|218=>306|222=>310|228=>320|229=>48|n=>n,λ|n=>n⟩
def Tryz.lays190:Go.Proofs.Lays.n190 prog Tryz.Ax2:={
 mixed:=by kernel_rfl
 f125:=func142.trans (lW some (by kernel_rfl))
 f128:=func182.trans (lW some (by kernel_rfl))
 f129:=func183.trans (lW some (by kernel_rfl))
 f190:=func101.trans (lW some (by kernel_rfl))
 f258:=func141.trans (lW some (by kernel_rfl))
 f302:=func173.trans (lW some (by kernel_rfl))
 f303:=func174.trans (lW some (by kernel_rfl))
 f304:=func175.trans (lW some (by kernel_rfl))
 f305:=func176.trans (lW some (by kernel_rfl))
 f306:=func177.trans (lW some (by kernel_rfl))
 f307:=func178.trans (lW some (by kernel_rfl))
 f308:=func179.trans (lW some (by kernel_rfl))
 f309:=func180.trans (lW some (by kernel_rfl))
 f310:=func181.trans (lW some (by kernel_rfl))
 f329:=func206.trans (lW some (by kernel_rfl))
 f330:=func207.trans (lW some (by kernel_rfl))
 f333:=func205.trans (lW some (by kernel_rfl))
 f334:=func208.trans (lW some (by kernel_rfl))
 f335:=func209.trans (lW some (by kernel_rfl))
 f336:=func210.trans (lW some (by kernel_rfl))
 f344:=func222.trans (lW some (by kernel_rfl))
 t0:=Tryz.underlying0
 a0:=Tryz.isAgg0
 z0:=Tryz.sizeOf0
 v0:=Tryz.zeroValue0
 t3:=Tryz.underlying3
 a3:=Tryz.isAgg3
 z3:=Tryz.sizeOf3
 v3:=Tryz.zeroValue3
 t4:=Tryz.underlying4
 a4:=Tryz.isAgg4
 z4:=Tryz.sizeOf4
 v4:=Tryz.zeroValue4
 t5:=Tryz.underlying5
 a5:=Tryz.isAgg5
 z5:=Tryz.sizeOf5
 v5:=Tryz.zeroValue5
 t9:=Tryz.underlying9
 a9:=Tryz.isAgg9
 z9:=Tryz.sizeOf9
 v9:=Tryz.zeroValue9
 t31:=Tryz.underlying117
 a31:=Tryz.isAgg117
 z31:=Tryz.sizeOf117
 v31:=Tryz.zeroValue117
 t46:=Tryz.underlying230
 a46:=Tryz.isAgg230
 z46:=Tryz.sizeOf230
 v46:=Tryz.zeroValue230
 t51:=Tryz.underlying289
 a51:=Tryz.isAgg289
 z51:=Tryz.sizeOf289
 v51:=Tryz.zeroValue289
 t53:=Tryz.underlying291
 a53:=Tryz.isAgg291
 z53:=Tryz.sizeOf291
 v53:=Tryz.zeroValue291
 t131:=Tryz.underlying286
 a131:=Tryz.isAgg286
 z131:=Tryz.sizeOf286
 v131:=Tryz.zeroValue286
 t182:=Tryz.underlying281
 a182:=Tryz.isAgg281
 z182:=Tryz.sizeOf281
 v182:=Tryz.zeroValue281
 t183:=Tryz.underlying282
 a183:=Tryz.isAgg282
 z183:=Tryz.sizeOf282
 v183:=Tryz.zeroValue282
 t218:=Tryz.underlying306
 a218:=Tryz.isAgg306
 z218:=Tryz.sizeOf306
 v218:=Tryz.zeroValue306
 t222:=Tryz.underlying310
 a222:=Tryz.isAgg310
 z222:=Tryz.sizeOf310
 v222:=Tryz.zeroValue310
 t228:=Tryz.underlying320
 a228:=Tryz.isAgg320
 z228:=Tryz.sizeOf320
 v228:=Tryz.zeroValue320
 t229:=Tryz.underlying48
 a229:=Tryz.isAgg48
 z229:=Tryz.sizeOf48
 v229:=Tryz.zeroValue48 }
open Go.Sort Go.RowKit in
def Tryz.slices_Sort_string (blk off cap:Nat) (ss:List (List UInt8)) (w:World) (hH:Holds encStr w blk off ss.toArray) (hblk:blk<w.heap.size) (hsz:ss.length<4611686018427387904) :
  Calls prog 101 #[.slice (some ⟨blk,off,none⟩) ss.length cap] w λe w' =>
   e=.returned (.tuple #[])/\∃n os,w'=grow (putRow encStr (Sort.ahead w n) blk off (ss.mergeSort λx y=>decide (x<=y)).toArray) os:=Any.slices_Sort_string Tryz.lays190 blk off cap ss w hH hblk hsz
def Tryz.lays151_ren:Go.Shelf.Ren:=⟨λ|151=>90|152=>130|137=>159|119=>160|224=>161|225=>162|217=>199|266=>221|n=>n,λ|9=>9|21=>21|4=>4|3=>3|5=>5|0=>0|46=>230|n=>n,λ|n=>n⟩
def Tryz.lays151:Go.Proofs.Lays.n151 prog Tryz.lays151_ren:={
 mixed:=by kernel_rfl
 f119:=func160.trans (lW some (by kernel_rfl))
 f137:=func159.trans (lW some (by kernel_rfl))
 f151:=func90.trans (lW some (by kernel_rfl))
 f152:=func130.trans (lW some (by kernel_rfl))
 f217:=func199.trans (lW some (by kernel_rfl))
 f224:=func161.trans (lW some (by kernel_rfl))
 f225:=func162.trans (lW some (by kernel_rfl))
 f266:=func221.trans (lW some (by kernel_rfl))
 t0:=Tryz.underlying0
 a0:=Tryz.isAgg0
 z0:=Tryz.sizeOf0
 v0:=Tryz.zeroValue0
 t3:=Tryz.underlying3
 a3:=Tryz.isAgg3
 z3:=Tryz.sizeOf3
 v3:=Tryz.zeroValue3
 t4:=Tryz.underlying4
 a4:=Tryz.isAgg4
 z4:=Tryz.sizeOf4
 v4:=Tryz.zeroValue4
 t5:=Tryz.underlying5
 a5:=Tryz.isAgg5
 z5:=Tryz.sizeOf5
 v5:=Tryz.zeroValue5
 t9:=Tryz.underlying9
 a9:=Tryz.isAgg9
 z9:=Tryz.sizeOf9
 v9:=Tryz.zeroValue9
 t21:=Tryz.underlying21
 a21:=Tryz.isAgg21
 z21:=Tryz.sizeOf21
 v21:=Tryz.zeroValue21
 t46:=Tryz.underlying230
 a46:=Tryz.isAgg230
 z46:=Tryz.sizeOf230
 v46:=Tryz.zeroValue230 }
open Go.RowKit Go.Lib in
def Tryz.strings_ContainsRune_ascii (s:ByteArray) (r:Int) (w:World) (h0:0<=r) (h1:r<128) :
  Calls prog 90 #[.string s,.int .i32 r] w λe w'=>e=.returned (.bool (decide (0<=Lib.indexByte s.data.toList r.toNat.toUInt8)))/\w'=w:=Any.strings_ContainsRune_ascii Tryz.lays151 s r w h0 h1
open Go.RowKit Go.Sort in
def Tryz.slices_Sort_string_none (p:Option Addr) (cap:Nat) (w:World) :
  Calls prog 101 #[.slice p 0 cap] w λe w'=>e=.returned (.tuple #[])/\w'=w:=Any.slices_Sort_string_none Tryz.lays190 p cap w
end Go.Proofs
namespace Go.Proofs.YtmooldhpiopcgaaGreatDoor
open Go.Proofs.Tryz
section
namespace Dq
open Go Go.Vx Dsk
section
variable {w w':World}{S F F':Nat->Prop}{d m ms ml:Nat}{f:Dir}{fb:List Nat}{ds:List Sl}{fs:List Fl}{sa:Sl}{vs:List Value}{D:Dk}{pl:Option Nat}{p:Int->Option Ce}{N:Nat}
abbrev nv (l:List Nm):List Value:=l.map Value.string
abbrev Qw (w:World) (B:Nat) (s:Sl) (l:List Nm):Prop:=Am w B s 9 1 (nv l)
def Ct1 (l:List Nm):∀v∈nv l,Eb v=true:=by intro v hv;obtain ⟨x,_,rfl⟩:=nT.1 hv;rfl
def Bc5 {B:Nat}{s:Sl}{l:List Nm}{K:Unit->Wp}(o:Qw w B s l) (hl:l.length<=2^60) (hK:∀w',Qw w' B s (Sv l)->Upd s.blk w w'->K () w') :
  Aa prog 101 #[s.v] bH K w:=by
 have hn:=o.len1;rw [nO] at hn;have hls:(Sv l).length=l.length:=(Ue l).length_eq;rcases o.at_ with ⟨ha,hc⟩|⟨blk,off,c,ha,hB,hb,hcap,hv⟩;{(have h0:s.len=0:=by have:=o.le;omega);have hl0:l=[]:=jH.1 (by omega);subst hl0;have e:Sv []=[]:=(by simp [Sv]);rw [e] at hK;have ev:s=⟨none,0,s.cap⟩:=(by rw [←ha,←h0]);rw [ev];exact (Tryz.slices_Sort_string_none none s.cap w).mono λe w' ⟨he,hw⟩=>⟨(),he,by subst hw;exact hK w' o (Upd.refl _ _)⟩}
 ·have hH:Go.Sort.Holds encStr w blk off (l.map λn=>n.data.toList).toArray:=by
   intro j hj
   have hj':j<l.length:=by simpa using hj
   refine ⟨cell_of hb ?_,by simp [World.frozen?,hb]⟩
   have:=hv j (.string l[j]) (by simp [hj'])
   rw [this,pG _ j hj]
   simp [Cb3]
  have hrun:=Tryz.slices_Sort_string blk off s.cap (l.map λn=>n.data.toList) w hH (lt_of_heap hb) (by rw [nO];omega);rw [nO] at hrun;have ev:s=⟨some ⟨blk,off,none⟩,l.length,s.cap⟩:=(by rw [←ha,hn]);rw [ev];refine hrun.mono λe w' ⟨he,n,os,hw⟩=>⟨(),he,?_⟩;obtain ⟨srt,hsrt⟩:∃srt,srt=(l.map λn=>n.data.toList).mergeSort λx y=>decide (x<=y):=⟨_,rfl⟩;have hsl:srt.length=l.length:=(by rw [hsrt,List.length_mergeSort,nO]);(have hso:Sv l=srt.map λl=>(⟨l.toArray⟩:ByteArray):=by rw [hsrt];rfl);rw [←hsrt] at hw;obtain ⟨c',hc'⟩:∃c',c'=Go.Sort.putCells encStr off srt.toArray c:=⟨_,rfl⟩;(have hsz:c'.size=c.size:=by rw [hc'];simp [Go.Sort.putCells]);(have hheap:w'.heap=w.heap.modify blk (Go.Sort.onCells (Go.Sort.putCells encStr off srt.toArray))++os:=by rw [hw];rfl);have hlt:=lt_of_heap hb;have hblk:w'.heap[blk]?=some (.cells c' 9 (0,0)):=by
   rw [hheap,mG (by simpa using hlt),mQ,iK rfl,hb,hc']
   rfl
  have hupd:Upd s.blk w w':=by
   refine ⟨by rw [hw];rfl,by rw [hw];rfl,by rw [hw];rfl,by rw [hheap];simp,λk hk hs=>?_⟩
   have hne:¬blk=k:=λh=>hs ⟨_,ha,h⟩
   rw [hheap,mG (by simpa using hk),mQ,iP hne]
  refine hK w' ⟨by rw [nO,hls,hn];simp,o.le,.inr ⟨blk,off,c',ha,hB,hblk,by rw [hsz];exact hcap,λi v hi=>?_⟩⟩ hupd;(have ee:nv (Sv l)=srt.map encStr:=by rw [hso];simp [nv]);rw [ee] at hi;(have hil:i<srt.length:=by have:=(lY.1 hi).1;simpa using this);have hle:=o.le;have hiv:v=encStr srt[i]:=by
   rw [nP,oP hil] at hi
   exact (sW hi).symm
  have hcs:off+i<c.size:=(by omega);rw [hc',hiv];unfold Go.Sort.putCells;rw [Array.getElem?_mapIdx,pI hcs];have hcond:off<=off+i/\off+i<off+srt.toArray.size:=⟨by omega,by simp;omega⟩;simp only [jL,iK hcond];rw [show off+i-off=i by omega,pG _ i (by simpa using hil)];rfl
def Uf (l:List Iq) (a:Iq) (f:Dir):Gf (l++[a]) f=a.on (Gf l f):=by
 induction l generalizing f with
 |nil=>rfl
 |cons x r ih=>simp only [jC,Gf];exact ih _
def Fp.range (h:Fp w m fb f){K:xM->Wp}(hK:∀r w' es,Iter w' r m (es.map (Ei.ent Key.str)) []->Ext w w'->w.heap.size<=r->Oy Key.str w m es->(∀k,Jw es k=(f k).map λi=>Value.pointer (some (at0 (fb.getD i 0))))->Lists f (es.map (·.1))->K (some (at0 r)) w') :
  Dy prog (.one (.one .ptr)) (Instr.range 103 (.map (some m))) K w:=by obtain ⟨es,h1,h2,h3⟩:=h.lists;have h1':=h1;obtain ⟨⟨c,g1,g2⟩,g3,g4⟩:=h1;refine Cj0 uD g1 (λx hx=>?_) ?_ λr w' hi e hr=>hK r w' es hi e (Nat.le_of_eq hr.symm) h1' h2 h3;{obtain ⟨y,hy,rfl⟩:=nT.1 hx;exact g2 y hy};{rw [qZ];exact g4}
def G5 {es:List (Ei ByteArray)}(h1:Oy Key.str w m es) (h2:∀k,Jw es k=(f k).map λi=>Value.pointer (some (at0 (fb.getD i 0)))){x:MapEntry}(hx:x∈es.map (Ei.ent Key.str)) :
  ∃(y:Ei ByteArray) (i:Nat),y∈es/\x=Ei.ent Key.str y/\f y.1=some i/\y.2.1=.pointer (some (at0 (fb.getD i 0))):=by obtain ⟨y,hy,rfl⟩:=nT.1 hx;have:=Ax6 h1.keys y hy;rw [h2] at this;obtain ⟨i,hi,he⟩:=rG.1 this;exact ⟨y,i,hy,rfl,hi,he.symm⟩
def Ae8 (h:Fp w m fb f) (hf:∀l,Lists f l->l.length<=2^20){K:Sl->Wp}(hK:∀s w',Qw w' w.heap.size s (names f)->Ext w w'->K s w'):Aa prog 71 #[.map (some m)] rS K w:=by
 refine j71 ?_;unfold F71;refine Ai (λx w'=>∃l,Qw w' w.heap.size x.1 l/\Ext w w'/\Lists f l) ?_ ?_
 ·refine h.range λr w1 es hi e1 hr hm hg hl=>?_;have hcap:=hf _ hl;rw [nO] at hcap;refine Bo (λs' w'=>∃(done:List (Ei ByteArray)),Iter w' r m (es.map (Ei.ent Key.str)) (done.map (Ei.ent Key.str))/\Qw w' w.heap.size s'.1 (done.map (·.1))/\Ext w w'/\done.length<=es.length) (λs' w'=>es.length-s'.1.len) ⟨[],hi,Am.nil w1 _ _ 1,e1,qI _⟩ ?_;rintro ⟨s1,⟨⟩⟩ w2 ⟨done,hi2,o2,e2,hdl⟩;dsimp only at o2 ⊢;have hol:=o2.len1;rw [nO,nO] at hol;refine Be9 hi2 (λw3 e3 _ hp=>Bh ⟨done.map (·.1),o2.ext e3,e2.trans e3,?_⟩) λx w3 hx hxd hi3 u3 hz3=>Ee ?_
  ·have hpk:(done.map (·.1)).Perm (es.map (·.1)):=by
    have h5:=hp.map λe:MapEntry=>match e.key with | .string k=>k|_=>⟨#[]⟩
    rw [qZ,qZ] at h5
    exact h5
   exact ⟨hpk.nodup_iff.2 hl.1,λn=>(hpk.mem_iff).trans (hl.2 n)⟩
  ·obtain ⟨y,i,hy,rfl,hfy,hv⟩:=G5 hm hg hx;have e3:Ext w w3:=e2.step u3 (by rintro k rfl;exact hr);have o3:=o2.upd u3 λk _ hk he=>by
    obtain ⟨c,fr,hc⟩:=o2.in.Bf hk
    obtain ⟨cl,_,_,g3⟩:=hi2.at_
    subst he
    rw [g3] at hc;cases hc
   refine Ar0 hi3 (y.1,some (at0 (fb.getD i 0)),()) (by simp only [Ei.ent,hv];rfl) ?_;refine Ag λb11 w4 e4 n4 _ _=>?_;have h1:Dx w4 ⟨some (at0 b11),1,1⟩ 9 1 [.string y.1]:=Dx.Jk (n:=1) (sz:=1) n4 rfl;refine Zc (x:=⟨some (at0 b11),1,1⟩) ES uS (o3.ext e4) h1 (λv hv=>by simp at hv;subst hv;rfl) (by dsimp only;omega) (e3.trans e4).size λs5 w5 o5 hl5 u5 _=>?_;have hnew:∀k,s1.blk k->∃c t fr,w4.heap[k]?=some (.cells c t fr):=λk hk=>by
    obtain ⟨c,fr,hc⟩:=(o3.ext e4).in.Bf hk
    exact ⟨c,_,fr,hc⟩
   have hi5:=(hi3.ext e4).cells u5 hnew;have hi5':Iter w5 r m (es.map (Ei.ent Key.str)) ((done++[y]).map (Ei.ent Key.str)):=(by simpa using hi5);have hdn:(done++[y]).length<=es.length:=by
    have h6:=sZ (Kr hi5'.dnd) hi5'.sub
    simpa using h6
   simp only [oC,kE,kW] at hdn;have hl5':s5.len=s1.len+1:=hl5;have ee:nv ((done++[y]).map (·.1))=nv (done.map (·.1))++[.string y.1]:=(by simp [nv]);exact ⟨⟨done++[y],hi5',by show Am _ _ _ _ _ (nv _);rw [ee];exact o5,(e3.trans e4).step u5 λk hk=>(o3.ext e4).Dh hk,by simpa using hdn⟩,by omega⟩
 {rintro ⟨s1,⟨⟩⟩ w1 ⟨l,o1,e1,hl⟩;dsimp only at o1 ⊢;refine Bc5 o1 (by have:=hf l hl;omega) λw2 o2 u2=>?_;rw [Vk hl] at hK;exact hK s1 w2 o2 (e1.step u2 λk hk=>o1.Dh hk)}
def Fp.set (h:Fp w m fb f){n:Nm}{i b:Nat}(hi:i<fb.length) (hb:fb.getD i 0=b){K:World->Prop}(hK:∀w',Fp w' m fb (Eo f n (some i))->Upd (λk=>k=m) w w'->K w') :
  Av3 prog (Instr.mapUpdate 103 (.map (some m)) (.string n) (.pointer (some (at0 b)))) K w:=by subst hb;obtain ⟨⟨es,h1,h2⟩,h3⟩:=h;obtain ⟨es',w',hr,hm',hg,u,_,_⟩:=N7 MD h1 n (.pointer (some (at0 (fb.getD i 0))));refine ⟨w',hr,hK w' ⟨⟨es',hm',λk=>?_⟩,λk j hj=>?_⟩ u⟩;{rw [hg k,h2 k];unfold Eo;by_cases e:k=n;{rw [iK e,iK e];rfl};{rw [iP e,iP e]}};{unfold Eo at hj;split at hj;{cases hj;exact hi};{exact h3 k j hj}}
def Fp.del (h:Fp w m fb f){n:Nm}{K:Unit->Wp}(hK:∀w',Fp w' m fb (Eo f n none)->Upd (λk=>k=m) w w'->K () w') :
  Dy prog bH (Builtin.delete_ #[103,9] 0 #[.map (some m),.string n]) K w:=by obtain ⟨⟨es,h1,h2⟩,h3⟩:=h;obtain ⟨es',w',hr,hm',hg,u,_,_⟩:=Az4 (kt':=9) (rt:=0) MD h1 n;refine ⟨(),w',hr,hK w' ⟨⟨es',hm',λk=>?_⟩,λk j hj=>?_⟩ u⟩;{rw [hg k,h2 k];unfold Eo;by_cases e:k=n;{rw [iK e,iK e];rfl};{rw [iP e,iP e]}};{unfold Eo at hj;split at hj;{cases hj};{exact h3 k j hj}}
def func_x {g:FuncId}{caps args:Array Value}{t:RTy}{K:t.T->Wp}(hf:((prog.funcs[g]?).map λfn=>(fn.body.isNone,fn.name == "runtime.NumGoroutine"))=some (false,false)) (h:Aa prog g (args++caps) t K w) :
  Cj prog (do let d ←Deferred.ofValue (.func (.func g) #[] caps) args;invoke d.target d.args:Sem Next) t K w:=by
 refine .inl ⟨g,args++caps,?_,h⟩;have:=Gq (P:=prog) (f:=g) (args:=args++caps) hf w;simp only [Deferred.ofValue,pure_bind,invoke];have e:(#[]++args++caps:Array Value)=args++caps:=(by simp);first
  |(rw [e];exact this)
  |(simp only [Array.empty_append];exact this)
def Az5 {v:Value}{a:Iq}(ha:Pm w F fb v a) (h:Fp w m fb f){K:Unit->Wp}(hK:∀w',Fp w' m fb (a.on f)->Upd (λk=>k=m) w w'->K () w') :
  Cj prog (do let d ←Deferred.ofValue v #[.map (some m)];invoke d.target d.args:Sem Next) bH K w:=by
 have nc:∀{b c t fr},w.heap[b]?=some (.cells c t fr)->¬(λk=>k=m) b:=by
  rintro b c t fr hb rfl
  obtain ⟨o,c',hm⟩:=h.Ep
  rw [hm] at hb;cases hb
 cases a with
 |rm n=>obtain ⟨b,rfl,h2,h3⟩:=ha;refine func_x (by kernel_rfl) ?_;refine j105 (a0:=some m) (v0:=at0 b) ?_;unfold F105;exact Af h2 (x:=n) rfl (h.del λw' h' u=>hK w' h' u)
 |mk n i=>obtain ⟨b1,b2,rfl,h2,h3,_,_,hi⟩:=ha;refine func_x (by kernel_rfl) ?_;refine Dg3 (a0:=some m) (v0:=at0 b1) (v1:=at0 b2) ?_;unfold F167;exact Af h3 (x:=n) rfl (Af h2 (x:=some (at0 (fb.getD i 0))) rfl (h.set hi rfl λw' h' u=>hK w' h' u))
 |mv x y i=>obtain ⟨b1,b2,rfl,h2,h3,_,_,hi⟩:=ha;refine func_x (by kernel_rfl) ?_;refine Df8 (a0:=some m) (v0:=at0 b1) (v1:=at0 b2) ?_;unfold F172;rw [addr_add];refine Af h2 (x:=x) rfl (h.del λw1 h1 u1=>?_);have g2:=u1.get h2 (nc h2);have g3:=u1.get h3 (nc h3);exact Af g3 (x:=y) rfl (Af g2 (x:=some (at0 (fb.getD i 0))) rfl (h1.set hi rfl λw' h' u=>hK w' h' (u1.trans u)))
end
end Dq
end
section
namespace Dq
open Go Go.Vx Dsk
section
variable {w w':World}{S F F':Nat->Prop}{d m ms ml:Nat}{f:Dir}{fb:List Nat}{ds:List Sl}{fs:List Fl}{sa:Sl}{vs:List Value}{D:Dk}{pl:Option Nat}{p:Int->Option Ce}{N:Nat}
def Ej.more (A:Ej w d F D ms ml sa pl vs fb ds) (hF:∀k,F k->F' k) (hl:∀k,F' k->k<w.heap.size):Ej w d F' D ms ml sa pl vs fb ds :=
 ⟨A.box,A.seen,A.lasts,A.files,A.acts.ty (Ext.refl w) (λ_ h=>h.elim) (λ_ h=>h.elim) (λ_ h=>h.elim) (λ_ h=>h.elim) hF,A.plan.upd (Ext.refl w) (λ_ _=>id) (λ_ h=>h.elim) hF,
  A.ne,A.nes,A.nel,hF _ A.fd,hF _ A.fms,hF _ A.fml,λb hb=>hF _ (A.ffb b hb),λs hs k hk=>hF _ (A.fds s hs k hk),λk hk=>hF _ (A.fsa k hk),hl⟩
def Ig {l:List Fl}{i:Nat}{g:Fl}(h:l[i]?=some g) (f:Fl->Fl):Ju l i f=l.set i (f g):=by obtain ⟨hi,hg⟩:=lY.1 h;unfold Ju;apply nY;intro j;rw [pU,nX];by_cases hij:i=j;{subst hij;simp [hi,hg]};{simp [hij]}
def Ej.Af8 (A:Ej w d F D ms ml sa pl vs fb ds){i b:Nat}{s s':Sl}{g g':Fl}(hb:fb[i]?=some b) (hs:ds[i]?=some s) (hg:D.files[i]?=some g) (u:Upd S w w') (hS:∀k,S k->k<w.heap.size->k=b\/s.blk k)
  (hb':w'.heap[b]?=some (Uj i s' g')) (ho:Dl w' 0 s' g'.data) (hn:∀k,s'.blk k->s.blk k\/w.heap.size<=k) :
  Ej w' d (λk=>F k\/s'.blk k) { D with files:=D.files.set i g' } ms ml sa pl vs fb (ds.set i s'):=by
 obtain ⟨hbox,hown⟩:=A.files.at_ i b s g hb hs hg
 have cel:∀k,S k->k<w.heap.size->∃c t fr,w.heap[k]?=some (.cells c t fr)/\(t=123\/t=5):=λk hk hl=>by
  rcases hS k hk hl with rfl|h
  ·exact ⟨_,_,_,hbox,.inl rfl⟩
  ·obtain ⟨c,fr,hc⟩:=hown.in.Bf h
   exact ⟨c,_,fr,hc,.inr rfl⟩
 have no:∀t:TypeId,t≠123->t≠5->Et w S t:=λt h1 h2 k hk c fr hc=>by
  obtain ⟨c',t',fr',hc',h⟩:=cel k hk (lt_of_heap hc)
  rw [hc] at hc';cases hc'
  exact h.elim h1 h2
 have nm:∀m,(∃o c,w.heap[m]?=some (.map o c))->¬S m:=λm ⟨o,c,hm⟩ hk=>by
  obtain ⟨c',t',fr',hc',h⟩:=cel m hk (lt_of_heap hm)
  rw [hm] at hc';cases hc'
 have hil:=(lY.1 hs).1
 have hgl:=(lY.1 hg).1
 have nbyte:∀{j:Nat} {t:Sl} {k:Nat},ds[j]?=some t->t.blk k->k≠b:=λ{j t k} ht hk e=>by
  obtain ⟨_,_,_,_,_,hw⟩:=A.files.Aq5 ht
  obtain ⟨c,fr,hc⟩:=hw.in.Bf hk
  rw [e,hbox] at hc;cases hc
 refine ⟨?_,A.seen.upd u (nm _ A.seen.Ep),A.lasts.upd u (nm _ A.lasts.Ep),⟨by simp [A.files.lf],by simp [A.files.ld],A.files.nd,λj k t t' hjk ht ht' x hx hx'=>?_,λj b' t g2 hb2 ht hg2=>?_⟩,A.acts.ty u (no _ (by decide) (by decide)) (no _ (by decide) (by decide)) (no _ (by decide) (by decide)) (no _ (by decide) (by decide)) λ_ h=>.inl h,
  A.plan.upd u (λm hm=>nm m (by subst hm;exact A.plan.Ep)) (no _ (by decide) (by decide)) λ_ h=>.inl h,A.ne,A.nes,A.nel,.inl A.fd,.inl A.fms,.inl A.fml,λb hb=>.inl (A.ffb b hb),λt ht k hk=>?_,λk hk=>.inl (A.fsa k hk),λk hk=>?_⟩
 ·have h1:=u.get A.box λhk=>no 107 (by decide) (by decide) d hk _ _ A.box
  rw [h1]
  simp only [Z5,tC]
 ·
  have old:∀{j:Nat} {t:Sl},ds[j]?=some t->t.blk x->x<w.heap.size:=λht hk=>by
   obtain ⟨_,_,_,_,_,hw⟩:=A.files.Aq5 ht
   exact hw.in.Ci hk
  rw [nX] at ht ht'
  by_cases hij:i=j
  ·subst hij
   rw [iK rfl,iK hil] at ht
   cases ht
   rw [iP (by omega)] at ht'
   rcases hn x hx with h|h
   ·exact A.files.dd i k s t' hjk hs ht' x h hx'
   ·have:=old ht' hx';omega
  ·rw [iP hij] at ht
   by_cases hik:i=k
   ·subst hik
    rw [iK rfl,iK hil] at ht'
    cases ht'
    rcases hn x hx' with h|h
    ·exact A.files.dd j i t s hjk ht hs x hx h
    ·have:=old ht hx;omega
   ·rw [iP hik] at ht'
    exact A.files.dd j k t t' hjk ht ht' x hx hx'
 ·rw [nX] at ht hg2
  by_cases hij:i=j
  ·subst hij
   rw [iK rfl,iK hil] at ht
   rw [iK rfl,iK hgl] at hg2
   cases ht;cases hg2
   rw [hb] at hb2;cases hb2
   exact ⟨hb',ho⟩
  ·rw [iP hij] at ht hg2
   obtain ⟨h1,h2⟩:=A.files.at_ j b' t g2 hb2 ht hg2
   have hne:b'≠b:=λe=>by
    subst e
    obtain ⟨x1,x2⟩:=lY.1 hb
    obtain ⟨y1,y2⟩:=lY.1 hb2
    exact hij ((tH A.files.nd).1 (x2.trans y2.symm))
   refine ⟨u.get h1 λhk=>?_,h2.upd u λk _ hk hSk=>?_⟩
   ·rcases hS _ hk (lt_of_heap h1) with h|h
    ·exact hne h
    ·obtain ⟨c,fr,hc⟩:=hown.in.Bf h
     rw [h1] at hc;cases hc
   ·rcases hS _ hSk (h2.in.Ci hk) with h|h
    ·exact nbyte ht hk h
    ·rcases Nat.lt_or_gt_of_ne hij with hlt|hlt
     ·exact A.files.dd i j s t hlt hs ht k h hk
     ·exact A.files.dd j i t s hlt ht hs k hk h
 ·rcases tJ ht with h|h
  ·exact .inl (A.fds t h k hk)
  ·subst h;exact .inr hk
 ·rcases hk with hk|hk
  ·exact mP (A.lt k hk) u.size
  ·exact ho.in.Ci hk
def Zz {l:List Nat}{i b:Nat}(h:i<l.length):(l++[b]).getD i 0=l.getD i 0:=by rw [rJ,rJ,mZ h]
def Fp.grow (h:Fp w m fb f) (b:Nat):Fp w m (fb++[b]) f:=by
 obtain ⟨⟨es,h1,h2⟩,h3⟩:=h;refine ⟨⟨es,h1,λk=>?_⟩,λk i hi=>by have:=h3 k i hi;simp;omega⟩;rw [h2];cases hk:f k with
 |none=>rfl
 |some i=>simp only [jL,Zz (h3 k i hk)]
def Pm.grow {v:Value}{a:Iq}(h:Pm w F fb v a) (b:Nat):Pm w F (fb++[b]) v a:=by
 cases a with
 |rm n=>exact h
 |mk n i=>obtain ⟨b1,b2,h1,h2,h3,h4,h5,h6⟩:=h;exact ⟨b1,b2,h1,by rw [Zz h6];exact h2,h3,h4,h5,by simp;omega⟩
 |mv x y i=>obtain ⟨b1,b2,h1,h2,h3,h4,h5,h6⟩:=h;exact ⟨b1,b2,h1,by rw [Zz h6];exact h2,h3,h4,h5,by simp;omega⟩
def Af5 (A:Ej w d F D ms ml sa pl vs fb ds) (hN:D.files.length<=2^60){K:xM->Wp}
  (hK:∀b w',Ej w' d (λk=>F k\/k=b) { D with files:=D.files++[⟨[],0,0⟩] } ms ml sa pl vs (fb++[b]) (ds++[⟨none,0,0⟩])->Upd (λk=>k=d) w w'->w.heap.size<=b->K (some (at0 b)) w') :
  Aa prog 61 #[dU d] rP K w:=by
 refine j61 ?_;unfold F61;have el:W64 ((D.files.length:Int)+1)=((D.files.length+1:Nat):Int):=iD (by omega);refine Ad ?_;rw [addr_add,kY];refine Af A.box (x:=(D.files.length:Int)) rfl (Ad ?_);rw [addr_add,el,kY];refine Dj A.box (by simp) λw1 u1 n1 _=>Ad ?_;rw [addr_add,kY];refine Af n1 (x:=((D.files.length+1:Nat):Int)) rfl ?_;refine Ag λb w2 e2 n2 hb _=>?_;have hlf:=A.files.lf;have hld:=A.files.ld;have no:∀t:TypeId,107≠t->Et w (λk=>k=d) t:=λt ht=>Et.box A.box ht;have nm:∀m,(∃o c,w.heap[m]?=some (.map o c))->¬(λk=>k=d) m:=by
  rintro m ⟨o,c,hm⟩ rfl
  rw [A.box] at hm;cases hm
 have u2:Upd (λk=>k=d) w w2:=u1.trans (Upd.Ae e2);have hfo:=A.files.ty u2 (no _ (by decide)) (no _ (by decide));have hs1:=u1.size;(have n1':w1.heap[d]?=some (Z5 { D with files:=D.files++[⟨[],0,0⟩] } ms ml sa pl):=by rw [n1];simp [Z5]);refine hK b w2 ⟨e2.ext_get n1',(A.seen.grow b).upd u2 (nm _ A.seen.Ep),(A.lasts.grow b).upd u2 (nm _ A.lasts.Ep),⟨by simp [hlf],by simp [hld],?_,λj k t t' hjk ht ht' x hx hx'=>?_,λj b' t g hb' ht hg=>?_⟩,
  ⟨(A.acts.row.ty u2 (no _ (by decide))),A.acts.len,λi v a hv ha=>((A.acts.at_ i v a hv ha).grow b).ty u2 (no _ (by decide)) (no _ (by decide)) (no _ (by decide)) λ_ h=>.inl h⟩,
  A.plan.upd u2 (λm hm=>nm m (by subst hm;exact A.plan.Ep)) (no _ (by decide)) λ_ h=>.inl h,A.ne,A.nes,A.nel,.inl A.fd,.inl A.fms,.inl A.fml,λx hx=>?_,λt ht k hk=>?_,λk hk=>.inl (A.fsa k hk),λk hk=>?_⟩ u2 (by omega)
 {rw [jR];refine ⟨A.files.nd,by simp,λx hx y hy e=>?_⟩;simp at hy;have:=A.lt x (A.ffb x hx);omega}
 ·have hne:∀{j:Nat} {t:Sl},(ds++[⟨none,0,0⟩])[j]?=some t->t.blk x->ds[j]?=some t:=λ{j t} ht hk=>by
   by_cases hj:j<ds.length
   ·rwa [mZ hj] at ht
   ·rw [nC (by omega)] at ht
    have:=lU ht
    simp at this
    subst this
    obtain ⟨q,hq,_⟩:=hk
    cases hq
  exact A.files.dd j k t t' hjk (hne ht hx) (hne ht' hx') x hx hx'
 ·by_cases hj:j<D.files.length;{rw [mZ (by omega)] at hb' ht hg;exact hfo.at_ j b' t g hb' ht hg}
  ·have hj':j=D.files.length:=by
    have:=(lY.1 hg).1
    simp at this;omega
   subst hj';(have h1:(fb++[b])[D.files.length]?=some b:=by rw [←hlf];simp);(have h2:(ds++[(⟨none,0,0⟩:Sl)])[D.files.length]?=some ⟨none,0,0⟩:=by rw [←hld];simp);have h3:(D.files++[(⟨[],0,0⟩:Fl)])[D.files.length]?=some ⟨[],0,0⟩:=(by simp);rw [h1] at hb';rw [h2] at ht;rw [h3] at hg;cases hb';cases ht;cases hg;refine ⟨?_,Am.nil _ _ _ _⟩;rw [n2];simp [Uj]
 {rcases jV.1 hx with h|h;{exact .inl (A.ffb x h)};{simp at h;exact .inr h}};{rcases jV.1 ht with h|h;{exact .inl (A.fds t h k hk)};{simp at h;subst h;obtain ⟨q,hq,_⟩:=hk;cases hq}};{rcases hk with hk|rfl;{exact mP (A.lt k hk) u2.size};{exact lt_of_heap n2}}
structure Half (w:World) (d:Nat) (F:Nat->Prop) (D:Dk) (g:Dir) (ms ml:Nat) (sa:Sl) (pl:Option Nat) (fb:List Nat) (ds:List Sl):Prop where
 box:w.heap[d]?=some (Z5 D ms ml sa pl)
 seen:Fp w ms fb g
 files:Ht w fb ds D.files
 plan:Qx w F pl D.plan
 nes:pl≠some ms
 fd:F d
 fms:F ms
 ffb:∀b∈fb,F b
 fds:∀s∈ds,∀k,s.blk k->F k
 lt:∀k,F k->k<w.heap.size
def Ej.half (A:Ej w d F D ms ml sa pl vs fb ds):Half w d F D D.seen ms ml sa pl fb ds:=⟨A.box,A.seen,A.files,A.plan,A.nes,A.fd,A.fms,A.ffb,A.fds,A.lt⟩
def Ad1 {g:Dir}(A:Half w d F D g ms ml sa pl fb ds){K:Unit->Wp}(hK:∀m' w',Ej w' d (λk=>F k\/k=m') { D with lasts:=g,acts:=[] } ms m' ⟨none,0,0⟩ pl [] fb ds->Upd (λk=>k=d) w w'->w.heap.size<=m'->K () w') :
  Aa prog 62 #[dU d] bH K w:=by
 refine j62 ?_;unfold F62;refine Ad ?_;rw [addr_add];refine Af A.box (x:=some ms) rfl (Q5 A.seen λm' w1 h1 e1 hm'=>Ad ?_);rw [addr_add];refine Dj (e1.ext_get A.box) (by simp) λw2 u2 n2 _=>Ad ?_;rw [addr_add];refine Dj n2 (by simp) λw3 u3 n3 _=>?_;have u:Upd (λk=>k=d) w w3:=((Upd.Ae e1).trans u2).trans u3;have no:∀t:TypeId,107≠t->Et w (λk=>k=d) t:=λt ht=>Et.box A.box ht;have nm:∀m,(∃o c,w.heap[m]?=some (.map o c))->¬(λk=>k=d) m:=by
  rintro m ⟨o,c,hm⟩ rfl
  rw [A.box] at hm;cases hm
 have hd:=lt_of_heap A.box;(have hml:∀k,F k->k≠m':=λk hk e=>by have:=A.lt k hk;omega);refine hK m' w3 ⟨?_,?_,?_,A.files.ty u (no _ (by decide)) (no _ (by decide)),⟨Am.nil _ _ _ _,rfl,λi v a hv ha=>by simp at hv⟩,A.plan.upd u (λm hm=>nm m (by subst hm;exact A.plan.Ep)) (no _ (by decide)) λ_ h=>.inl h,hml _ A.fms,A.nes,λe=>?_,.inl A.fd,.inl A.fms,.inr rfl,λb hb=>.inl (A.ffb b hb),λt ht k hk=>.inl (A.fds t ht k hk),λk hk=>(by obtain ⟨q,hq,_⟩:=hk;cases hq),λk hk=>?_⟩ u (by omega);{rw [n3];simp [Z5]};{exact A.seen.upd u (nm _ A.seen.Ep)};{show Fp w3 m' fb g;have hne:¬(λk=>k=d) m':=λe=>hml _ A.fd e.symm;exact (h1.upd u2 hne).upd u3 hne};{rcases A.plan with ⟨h,_⟩|⟨m,es,g1,g2,_⟩;{rw [h] at e;cases e};{rw [g1] at e;cases e;exact hml _ g2 rfl}};{rcases hk with hk|rfl;{exact mP (A.lt k hk) u.size};{obtain ⟨o,c,hm⟩:=h1.Ep;exact mP (lt_of_heap hm) (u2.trans u3).size}}
def Au7 (A:Ej w d F D ms ml sa pl vs fb ds){K:Unit->Wp}(hK:∀m' w',Ej w' d (λk=>F k\/k=m') (Dsk.settle D) ms m' ⟨none,0,0⟩ pl [] fb ds->Upd (λk=>k=d) w w'->w.heap.size<=m'->K () w') :
  Aa prog 62 #[dU d] bH K w:=Ad1 A.half hK
def Xx {b i:Nat}{s:Sl}{g:Fl}(hb:w.heap[b]?=some (Uj i s g)){K:Unit->Wp}(hK:∀w',w'.heap[b]?=some (Uj i s ⟨g.data,s.len,g.count⟩)->Upd (λk=>k=b) w w'->w'.heap.size=w.heap.size->K () w') :
  Aa prog 64 #[dU b] bH K w:=by refine j64 ?_;unfold F64;refine Ad ?_;rw [addr_add];refine Af hb (x:=s) rfl (Ad ?_);rw [addr_add];refine Dj hb (by simp) λw1 u1 n1 hz=>hK w1 ?_ u1 hz;rw [n1];simp [Uj]
def Ce1 {b i:Nat}{s:Sl}{g:Fl}{more:Int}(hb:w.heap[b]?=some (Uj i s g)) (o:Dl w 0 s g.data) (h1:g.synced<=g.data.length) (h2:g.data.length<=2^40){K:Unit->Wp}
  (hK:∀s' w',w'.heap[b]?=some (Uj i s' (g.cut more))->Dl w' 0 s' (g.cut more).data->(∀k,s'.blk k->s.blk k)->Upd (λk=>k=b) w w'->K () w') :
  Aa prog 72 #[dU b,vI more] bH K w:=by
 refine j72 ?_;unfold F72;have hl:=o.len1;rw [nO] at hl;have hle:=o.le;refine Az λw0 e0 _=>?_;have hb:=e0.ext_get hb;have o:=o.ext e0;simp only [P8,addr_add,kY];refine Af hb (x:=(g.synced:Int)) rfl (Ad (Af hb (x:=s) rfl (Ad (Af hb (x:=(g.synced:Int)) rfl (Ad (Af hb (x:=s) rfl ?_))))));obtain ⟨n,hn⟩:∃n:Nat,n=g.synced+(min (max more 0).toNat (g.data.length-g.synced)):=⟨_,rfl⟩;have hnl:n<=g.data.length:=(by omega);have e1:W64 ((s.len:Int)-(g.synced:Int))=((s.len-g.synced:Nat):Int):=iD (by omega);rw [e1];have e2:(if ((s.len-g.synced:Nat):Int)<(if (0:Int)>more then (0:Int) else more) then ((s.len-g.synced:Nat):Int) else (if (0:Int)>more then (0:Int) else more))=((n-g.synced:Nat):Int):=by
  split<;>split at * <;> omega
 rw [e2];have e3:W64 ((g.synced:Int)+((n-g.synced:Nat):Int))=(n:Int):=iD (by omega);rw [e3];refine Bx4 o (by omega) (by omega) (by omega) (by omega) (by omega) λs' o' hs' _ hbk=>?_;have hcut:g.cut more=⟨g.data.take n,n,g.count⟩:=(by simp only [Fl.cut,hn]);have ee:((bv g.data).drop ((0:Int).toNat*1)).take (((n:Int).toNat-(0:Int).toNat)*1)=bv (g.data.take n):=(by simp [bv,tK]);rw [ee] at o';refine Ad (Dj hb (by simp) λw1 u1 n1 _=>?_);(have n1':w1.heap[b]?=some (Uj i s' ⟨g.data.take n,g.synced,g.count⟩):=by rw [n1];simp [Uj]);refine Xx n1' λw2 n2 u2 _=>?_;(have hs'':s'.len=n:=by rw [hs'];omega);have u12:Upd (λk=>k=b) w0 w2:=u1.trans u2;refine hK s' w2 ?_ ?_ hbk ((Upd.Ae e0).trans u12);{rw [n2,hcut,hs'']};{rw [hcut];refine o'.upd u12 λk _ hk e=>?_;obtain ⟨c,fr,hc⟩:=o'.in.Bf hk;rw [e,hb] at hc;cases hc}
end
end Dq
end
section
namespace Dq
open Go Go.Vx Dsk
section
variable {w w':World}{S F F':Nat->Prop}{d m ms ml:Nat}{f:Dir}{fb:List Nat}{ds:List Sl}{fs:List Fl}{sa:Sl}{vs:List Value}{D:Dk}{pl:Option Nat}{p:Int->Option Ce}{N:Nat}
def Ej.Pz (A:Ej w d F D ms ml sa pl vs fb ds){i:Nat}(hi:i<D.files.length):∃b s g,fb[i]?=some b/\ds[i]?=some s/\D.files[i]?=some g/\fb.getD i 0=b/\fl D i=g/\w.heap[b]?=some (Uj i s g)/\Dl w 0 s g.data:=by have h1:=A.files.lf;have h2:=A.files.ld;obtain ⟨b,hb⟩:∃b,fb[i]?=some b:=⟨_,oP (by omega)⟩;obtain ⟨s,hs⟩:∃s,ds[i]?=some s:=⟨_,oP (by omega)⟩;obtain ⟨g,hg⟩:∃g,D.files[i]?=some g:=⟨_,oP hi⟩;obtain ⟨x1,x2⟩:=A.files.at_ i b s g hb hs hg;exact ⟨b,s,g,hb,hs,hg,by rw [rJ,hb];rfl,by unfold Dsk.fl;rw [rJ,hg];rfl,x1,x2⟩
def Ai7 {es done:List (Ei ByteArray)}{o:Option Nat}(hp:(done.map (Ei.ent Key.str)).Perm (es.map (Ei.ent Key.str))) (hl:Lists D.seen (es.map (·.1))):Fq (done.map λy=>weigh D o y.1)=Cb D o:=by rw [Z9 hl,qZ];have h5:=hp.map λe:MapEntry=>match e.key with | .string k=>weigh D o k|_=>0;rw [qZ,qZ] at h5;exact Aj7 h5
def Bp6 (A:Ej w d F D ms ml sa pl vs fb ds) (ok:Bj D N){K:Int->Wp}(hK:iF w (K (room D))):Aa prog 202 #[dU d] rI K w:=by
 refine De2 ?_;unfold F202;have hsp:=ok.space;have hu:=ok.used none;refine Ad (Af A.box (x:=D.space) rfl ?_);refine Ai (λx w'=>x=(D.space-Cb D none,())/\Ext w w') ?_ ?_
 ·refine Ad ?_;rw [addr_add];refine Af A.box (x:=some ms) rfl (A.seen.range λr w1 es hi e1 hr hm hg hl=>?_);have hcap:es.length<=16:=by
   obtain ⟨l,h1,h2⟩:=ok.seen.few
   have:=(Qq hl h1).length_eq
   rw [nO] at this;omega
  refine Bo (λs' w'=>∃(done:List (Ei ByteArray)),Iter w' r ms (es.map (Ei.ent Key.str)) (done.map (Ei.ent Key.str))/\s'=(D.space-Fq (done.map λy=>weigh D none y.1),())/\Ext w w'/\done.length<=es.length) (λs' w'=>es.length-(match w'.heap[r]? with|some (.mapIter _ _ seen _)=>seen.size|_=>0)) ⟨[],hi,by simp [Fq],e1,qI _⟩ ?_;rintro _ w2 ⟨done,hi2,rfl,e2,hdl⟩;dsimp only;have size_of:∀{W:World} {done:List (Ei ByteArray)},Iter W r ms (es.map (Ei.ent Key.str)) (done.map (Ei.ent Key.str))->(match W.heap[r]? with|some (.mapIter _ _ seen _)=>seen.size|_=>0)=done.length:=λh=>by
   obtain ⟨c,_,_,g3⟩:=h.at_
   rw [g3];simp
  have bound:∀dn:List (Ei ByteArray),dn.length<=16->0<=Fq (dn.map λy=>weigh D none y.1)/\Fq (dn.map λy=>weigh D none y.1)<=16777216:=λdn hdn=>by
   refine ⟨Ou λx hx=>?_,?_⟩
   ·obtain ⟨n,_,rfl⟩:=nT.1 hx;exact Pn D none _
   ·have:=Yg (l:=dn.map λy=>weigh D none y.1) (B:=1048576) λx hx=>by
     obtain ⟨n,_,rfl⟩:=nT.1 hx;exact ok.weigh none _
    rw [nO] at this
    have h4:(dn.length:Int)*1048576<=16*1048576:=rM (by omega) (by decide)
    omega
  refine Be9 hi2 (λw3 e3 _ hp=>Bh ⟨?_,e2.trans e3⟩) λx w3 hx hxd hi3 u3 hz3=>Ee ?_;{rw [Ai7 hp hl]}
  ·obtain ⟨y,i,hy,rfl,hfy,hv⟩:=G5 hm hg hx;have e3:Ext w w3:=e2.step u3 (by rintro k rfl;exact hr);refine Ar0 hi3 (y.1,some (at0 (fb.getD i 0)),()) (by simp only [Ei.ent,hv];rfl) (Ad ?_);have A3:=A.ext e3;(have hil:i<D.files.length:=by have:=A.seen.ids y.1 i hfy;have:=A.files.lf;omega);obtain ⟨b,s,g,_,_,_,hgb,hfl,hbx,hby⟩:=A3.Pz hil;rw [hgb,addr_add];refine Af hbx (x:=s) rfl ?_;have hsl:=hby.len1;rw [nO] at hsl;have hw:weigh D none y.1=(s.len:Int):=by
    unfold weigh;rw [hfy];dsimp only;rw [iP (by simp),hfl];omega
   have hi3':Iter w3 r ms (es.map (Ei.ent Key.str)) ((done++[y]).map (Ei.ent Key.str)):=(by simpa using hi3);have hdn:(done++[y]).length<=es.length:=by
    have h6:=sZ (Kr hi3'.dnd) hi3'.sub
    simpa using h6
   have hb1:=bound done (by omega);have hb2:=bound (done++[y]) (by omega);have hsum:Fq ((done++[y]).map λy=>weigh D none y.1)=Fq (done.map λy=>weigh D none y.1)+(s.len:Int):=by
    rw [oQ,Uy];simp [Fq,hw]
   have ew:W64 (D.space-Fq (done.map λy=>weigh D none y.1)-(s.len:Int))=D.space-Fq ((done++[y]).map λy=>weigh D none y.1):=by
    rw [hsum,iE (by omega)];omega
   rw [ew];refine ⟨⟨done++[y],hi3',rfl,e3,hdn⟩,?_⟩;rw [size_of hi3',size_of hi2];simp at hdn ⊢;omega
 ·rintro _ w1 ⟨rfl,e1⟩;dsimp only;have e:(if (0:Int)>D.space-Cb D none then (0:Int) else D.space-Cb D none)=room D:=by
   unfold room;split<;>omega
  rw [e];exact hK w1 e1
def FN (w:World) (F:Nat->Prop) (k:Nat):Prop:=F k/\∀c fr,w.heap[k]?≠some (.cells c 3 fr)
def FN.of (h:F m){o:Obj}(hm:w.heap[m]?=some o) (ho:∀c fr,o≠.cells c 3 fr):FN w F m:=⟨h,λc fr hc=>ho c fr (by rw [hm] at hc;cases hc;rfl)⟩
def Ah2 (A:Ej w d F D ms ml sa pl vs fb ds){v:Value}{a:Iq}(ha:Pm w F fb v a) (ho:Eb v=true) (hn:D.acts.length<=2^30){K:Unit->Wp}
  (hK:∀sa' w',Ej w' d (λk=>F k\/sa'.blk k) { D with acts:=D.acts++[a] } ms ml sa' pl (vs++[v]) fb ds->Upd (FN w F) w w'->(∀k,sa'.blk k->F k\/w.heap.size<=k)->K () w') :
  Aa prog 104 #[dU d,v] bH K w:=by
 refine j104 ?_;unfold F104;have hseen:(({ D with acts:=D.acts++[a] }:Dk)).seen=a.on D.seen:=(by simp only [Dk.seen,Uf]);refine Ad ?_;rw [addr_add];refine Af A.box (x:=some ms) rfl (Az5 ha A.seen λw1 h1 u1=>Ad ?_);obtain ⟨o,c,hmap⟩:=A.seen.Ep;have no:∀t:TypeId,Et w (λk=>k=ms) t:=λt=>Et.map hmap;have b1:=u1.get A.box λe=>by
  have hb:=A.box
  rw [show d=ms from e,hmap] at hb;cases hb
 have l1:=A.lasts.upd u1 λe=>A.ne e.symm;have f1:=A.files.ty u1 (no _) (no _);have a1:=A.acts.ty u1 (no _) (no _) (no _) (no _) λ_ h=>h;have p1:=A.plan.upd u1 (λm hm e=>A.nes (by rw [hm];exact lW some e)) (no _) λ_ h=>h;have hal:=a1.row.len1;have hlen:=a1.len;rw [addr_add];refine Af b1 (x:=sa) rfl (Ea (by simp [Qm,ho]) (Ag λb6 w2 e2 n2 _ _=>?_));have one:Dx w2 ⟨some (at0 b6),1,1⟩ 147 1 [v]:=Dx.Jk (n:=1) (sz:=1) n2 rfl;have hs1:=u1.size;have hs2:=e2.size;refine Zc (x:=⟨some (at0 b6),1,1⟩) EA uA (a1.row.ext e2) one (λu hu=>by simp at hu;subst hu;exact ho) (by dsimp only;omega) (qI _) λsa' w3 o3 _ u3 hb3=>Ad ?_;have nb:∀t:TypeId,t≠147->Et w2 sa.blk t:=λt ht=>Et.blk (a1.row.ext e2).in ht.symm;have nm:∀m,(∃o c,w2.heap[m]?=some (.map o c))->¬sa.blk m:=λm ⟨o,c,hm⟩ hk=>by
  obtain ⟨c',fr,hc⟩:=(a1.row.ext e2).in.Bf hk
  rw [hm] at hc;cases hc
 have b3:=u3.get (e2.ext_get b1) λhk=>nb 107 (by decide) d hk _ _ (e2.ext_get b1);rw [addr_add];refine Dj b3 (by simp) λw4 u4 n4 _=>?_;have h2:=h1.upd e2 id;have l2:=l1.upd e2 id;have h3:=h2.upd u3 (nm _ h2.Ep);have l3:=l2.upd u3 (nm _ l2.Ep);have f3:=(f1.ty e2 (λ_ h=>h.elim) (λ_ h=>h.elim)).ty u3 (nb _ (by decide)) (nb _ (by decide));have p2:=p1.upd e2 (λ_ _=>id) (λ_ h=>h.elim) λ_ h=>h;have p3:=p2.upd u3 (λm hm=>nm m (by subst hm;exact p2.Ep)) (nb _ (by decide)) λ_ h=>h;have a3:∀(i:Nat) (u:Value) (x:Iq),vs[i]?=some u->D.acts[i]?=some x->Pm w3 F fb u x:=λi u x hu hx=>((a1.at_ i u x hu hx).ty e2 (λ_ h=>h.elim) (λ_ h=>h.elim) (λ_ h=>h.elim) λ_ h=>h).ty u3 (nb _ (by decide)) (nb _ (by decide)) (nb _ (by decide)) λ_ h=>h;have ha3:Pm w3 F fb v a:=((ha.ty u1 (no _) (no _) (no _) λ_ h=>h).ty e2 (λ_ h=>h.elim) (λ_ h=>h.elim) (λ_ h=>h.elim) λ_ h=>h).ty u3 (nb _ (by decide)) (nb _ (by decide)) (nb _ (by decide)) λ_ h=>h;have nd:∀t:TypeId,107≠t->Et w3 (λk=>k=d) t:=λt ht=>Et.box b3 ht;have nmd:∀m,(∃o c,w3.heap[m]?=some (.map o c))->¬(λk=>k=d) m:=by
  rintro m ⟨o,c,hm⟩ rfl
  rw [b3] at hm;cases hm
 have u14:Upd (FN w F) w w4:=by
  refine ((u1.mono λk _ e=>by rw [e];exact FN.of A.fms hmap λc fr h=>by cases h).trans (Upd.Ae e2)).trans ((u3.mono λk _ hk=>?_).trans (u4.mono λk _ e=>by rw [e];exact FN.of A.fd A.box λc fr h=>by cases h))
  obtain ⟨c,fr,hc⟩:=A.acts.row.in.Bf hk
  exact FN.of (A.fsa k hk) hc λc fr h=>by cases h
 have o4:=o3.ty u4 (nd _ (by decide));refine hK sa' w4 ⟨?_,?_,l3.upd u4 (nmd _ l3.Ep),f3.ty u4 (nd _ (by decide)) (nd _ (by decide)),⟨o4,by simp [hlen],λi u x hu hx=>?_⟩,p3.upd u4 (λm hm=>nmd m (by subst hm;exact p3.Ep)) (nd _ (by decide)) λ_ h=>.inl h,A.ne,A.nes,A.nel,.inl A.fd,.inl A.fms,.inl A.fml,λb hb=>.inl (A.ffb b hb),λt ht k hk=>.inl (A.fds t ht k hk),λk hk=>.inr hk,λk hk=>?_⟩ u14 (λk hk=>(hb3 k hk).imp (A.fsa k) λh=>by omega);{rw [n4];simp [Z5]};{rw [hseen];exact h3.upd u4 (nmd _ h3.Ep)};{have go:∀{u:Value} {x:Iq},Pm w3 F fb u x->Pm w4 (λk=>F k\/sa'.blk k) fb u x:=λh=>h.ty u4 (nd _ (by decide)) (nd _ (by decide)) (nd _ (by decide)) λ_ h=>.inl h;by_cases hi:i<vs.length;{rw [mZ hi] at hu;rw [mZ (by omega)] at hx;exact go (a3 i u x hu hx)};{rw [nC (by omega)] at hu;rw [nC (by omega)] at hx;have h1:=lU hu;have h2:=lU hx;simp at h1 h2;subst h1 h2;exact go ha3}};{rcases hk with hk|hk;{exact mP (A.lt k hk) u14.size};{exact o4.in.Ci hk}}
end
end Dq
end
section
namespace Dq
open Go Go.Vx Dsk
section
variable {w w':World}{S F F':Nat->Prop}{d m ms ml:Nat}{f:Dir}{fb:List Nat}{ds:List Sl}{fs:List Fl}{sa:Sl}{vs:List Value}{D:Dk}{pl:Option Nat}{p:Int->Option Ce}{N:Nat}
def Ht.set (A:Ht w fb ds fs){i b:Nat}{s s':Sl}{g g':Fl}(hb:fb[i]?=some b) (hs:ds[i]?=some s) (hg:fs[i]?=some g) (u:Upd (λk=>k=b) w w')
  (hb':w'.heap[b]?=some (Uj i s' g')) (ho:Dl w' 0 s' g'.data) (hn:∀k,s'.blk k->s.blk k):Ht w' fb (ds.set i s') (fs.set i g'):=by
 obtain ⟨hbox,hown⟩:=A.at_ i b s g hb hs hg;have hil:=(lY.1 hs).1;have hgl:=(lY.1 hg).1;refine ⟨by simp [A.lf],by simp [A.ld],A.nd,λj k t t' hjk ht ht' x hx hx'=>?_,λj b' t g2 hb2 ht hg2=>?_⟩;{rw [nX] at ht ht';by_cases hij:i=j;{subst hij;rw [iK rfl,iK hil] at ht;cases ht;rw [iP (by omega)] at ht';exact A.dd i k s t' hjk hs ht' x (hn x hx) hx'};{rw [iP hij] at ht;by_cases hik:i=k;{subst hik;rw [iK rfl,iK hil] at ht';cases ht';exact A.dd j i t s hjk ht hs x hx (hn x hx')};{rw [iP hik] at ht';exact A.dd j k t t' hjk ht ht' x hx hx'}}}
 ·rw [nX] at ht hg2;by_cases hij:i=j;{subst hij;rw [iK rfl,iK hil] at ht;rw [iK rfl,iK hgl] at hg2;cases ht;cases hg2;rw [hb] at hb2;cases hb2;exact ⟨hb',ho⟩}
  ·rw [iP hij] at ht hg2;obtain ⟨h1,h2⟩:=A.at_ j b' t g2 hb2 ht hg2;have hne:b'≠b:=λe=>by
    subst e
    obtain ⟨x1,x2⟩:=lY.1 hb
    obtain ⟨y1,y2⟩:=lY.1 hb2
    exact hij ((tH A.nd).1 (x2.trans y2.symm))
   refine ⟨u.get h1 hne,h2.upd u λk _ hk e=>?_⟩;obtain ⟨c,fr,hc⟩:=h2.in.Bf hk;rw [e,hbox] at hc;cases hc
def Cl7 (l:List Value):l.map (Cell.any).val=l:=by have:(Cell.any).val=(id:Value->Value):=rfl;rw [this,rC]
def Lie (P:Nat->Prop) (s:Sl):Prop:=s.len=0\/∀k,s.blk k->P k
def CutIn (w:World) (F:Nat->Prop) (s:Sl) (bytes:xP):Prop:=SlX w s 1 (iv bytes)/\(Lie (λk=>¬F k) s\/Ints w s bytes)
def SlX.zero {s:Sl}{sz:Nat}{us:List Value}(h:SlX w s sz us) (h0:s.len=0):SlX w' s sz us:=⟨.inl ⟨h0,by have:=h.len;rw [h0,mW] at this;exact jH.1 this⟩⟩
def SlX.Cq5 {s:Sl}{sz:Nat}{us:List Value}(h:SlX w s sz us) (u:Upd S w w') (hS:∀k,s.blk k->¬S k):SlX w' s sz us:=⟨h.at_.imp id λ⟨t,h⟩=>⟨t,h.upd u hS⟩⟩
def SlX.Yd {P:Nat->Prop}{s:Sl}{sz:Nat}{us:List Value}(h:SlX w s sz us) (hl:Lie P s) (u:Upd S w w') (hS:∀k,P k->¬S k):SlX w' s sz us :=
 hl.elim (λh0=>SlX.zero h h0) λhl=>SlX.Cq5 h u λk hk=>hS k (hl k hk)
def CutIn.upd {s:Sl}{bytes:xP}(h:CutIn w F s bytes) (u:Upd S w w') (h1:∀k,S k->k<w.heap.size->F k) (h2:Et w S 3) (hl:∀k,F k->k<w.heap.size):CutIn w' F s bytes:=by obtain ⟨hx,(h|h)|h⟩:=h;{exact ⟨SlX.zero hx h,.inl (.inl h)⟩};{refine ⟨⟨hx.at_.imp id λ⟨t,g⟩=>⟨t,g.upd u λk hk hS=>h k hk (h1 k hS (g.Ci hk))⟩⟩,.inl (.inr h)⟩};{have:=h.ty u h2;exact ⟨this.x,.inr this⟩}
def Ag3 (A:Ej w d F D ms ml sa pl vs fb ds) (ok:Bj D N) (hN:N<=2^60){c:Int×Sl×Unit}{bytes:xP}(hc:CutIn w F c.2.1 bytes){K:Unit->Wp}
  (hK:∀F' w',Dn w' d F' (crash D c.1 bytes)->Upd F w w'->(∀k,F' k->F k\/w.heap.size<=k)->K () w') :
  Aa prog 40 #[dU d,.agg (Cells.vals c72 c).toArray] bH K w:=by
 obtain ⟨nm,sc,⟨⟩⟩:=c;refine j40 (a1:=(nm,sc,())) ?_;unfold F40;dsimp only at hc hK ⊢;refine Ag λb1 w1 e1 n1 hb1 _=>Ad ?_;have A1:=A.ext e1;have hc1:CutIn w1 F sc bytes:=hc.upd e1 (λ_ h=>h.elim) (λ_ h=>h.elim) A.lt;rw [addr_add];refine Af A1.box (x:=D.down) rfl (Ac (λhd=>?_) (λhd=>?_));{(have e:crash D nm bytes=D:=by unfold crash;rw [iK hd]);rw [e] at hK;exact hK F w1 A1.in (Upd.Ae e1) λk hk=>.inl hk};obtain ⟨k0,hk0⟩:∃k0,k0=min (max nm 0).toNat D.acts.length:=⟨_,rfl⟩;have hgood:=ok.good k0;have hcr:crash D nm bytes={ D with lasts:=Gf (D.acts.take k0) D.lasts,acts:=[],files:=Fv (Gf (D.acts.take k0) D.lasts) bytes (names (Gf (D.acts.take k0) D.lasts)) 0 D.files,down:=true }:=by
  unfold crash;rw [iP (by rw [hd];simp),hk0]
 rw [hcr] at hK;have hal:=A1.acts.row.len1;have hlen:=A1.acts.len;have hacts:=ok.acts;have hml:=A1.lasts.Ep;obtain ⟨lo,lc,hmlo⟩:=hml;refine Ai (λ_ w'=>Fp w' ml fb (Gf (D.acts.take k0) D.lasts)/\Upd (λk=>k=ml) w1 w') ?_ ?_
 ·refine Az λw2 e2 _=>Ad ?_;have A2:=A1.ext e2;rw [addr_add];refine Af A2.box (x:=sa) rfl (Af (e2.ext_get n1) (x:=nm) rfl (Ad ?_));rw [addr_add];refine Af A2.box (x:=sa) rfl ?_;have ei:(if (sa.len:Int)<(if (0:Int)>nm then (0:Int) else nm) then (sa.len:Int) else (if (0:Int)>nm then (0:Int) else nm))=(k0:Int):=by
   have:sa.len=D.acts.length:=by omega
   split<;>split at * <;> omega
  rw [ei];have hle:=A2.acts.row.le;have hk:k0<=sa.len:=(by omega);refine Nr A2.acts.row.in (by omega) (by omega) (by omega) (by omega) (by omega) λs3 i3 hs3 _ hb3=>?_;have e3:(vs.drop ((0:Int).toNat*1)).take (((k0:Int).toNat-(0:Int).toNat)*1)=vs.take k0:=(by simp);rw [e3] at i3;(have hs3':s3.len=k0:=by rw [hs3];omega);refine Bo (λs' w'=>∃j:Nat,j<=k0/\s'=((j:Int),())/\Fp w' ml fb (Gf (D.acts.take j) D.lasts)/\Upd (λk=>k=ml) w2 w') (λs' _=>(k0-s'.1).toNat) ⟨0,by omega,rfl,A2.lasts,Upd.refl _ _⟩ ?_;rintro _ w4 ⟨j,hj,rfl,h4,u4⟩;dsimp only;have ej:W64 ((j:Int)+1)=((j+1:Nat):Int):=iD (by omega);simp only [ej];have hmap2:=e2.ext_get hmlo;have no:∀t:TypeId,Et w2 (λk=>k=ml) t:=λt=>Et.map hmap2;refine Ac (λhd=>?_) (λhd=>?_)
  ·(have hd:j<k0:=by have:=jY hd;omega);obtain ⟨v,hv⟩:∃v,vs[j]?=some v:=⟨_,oP (by omega)⟩;obtain ⟨a,ha⟩:∃a,D.acts[j]?=some a:=⟨_,oP (by omega)⟩;(have i4:Dx w4 s3 147 1 ((vs.take k0).map (Cell.any).val):=by rw [Cl7];exact i3.ty u4 (no _));refine Al7 (c:=.any) (xs:=vs.take k0) (x:=v) i4 (by omega) (by rw [kH,nJ,iK hd];exact hv) λ_=>Ad ?_;rw [addr_add];have b4:=u4.get A2.box λe=>by
    have hb:=A2.box
    rw [show d=ml from e,hmap2] at hb;cases hb
   have ha4:=(A2.acts.at_ j v a hv ha).ty u4 (no _) (no _) (no _) λ_ h=>h;refine Af b4 (x:=some ml) rfl (Az5 ha4 h4 λw5 h5 u5=>⟨⟨j+1,hd,rfl,?_,u4.trans u5⟩,by omega⟩);(have et:D.acts.take (j+1)=D.acts.take j++[a]:=by rw [sO,ha];rfl);rw [et,Uf];exact h5
  {(have hd:j=k0:=by have:=sK hd;omega);subst hd;exact ⟨h4,(Upd.Ae e2).trans u4⟩}
 rintro _ w2 ⟨hl2,u2⟩;generalize Gf (D.acts.take k0) D.lasts=l at hl2 hgood hK;have no2:∀t:TypeId,Et w1 (λk=>k=ml) t:=λt=>Et.map hmlo;have hs1:=e1.size;have b2:=u2.get A1.box λe=>by
  have hb:=A1.box
  rw [show d=ml from e,hmlo] at hb;cases hb
 have n2:w2.heap[b1]?=some (.cells #[vI nm,sv sc] 72 (0,0)):=u2.get n1 λe=>by
  rw [show b1=ml from e,hmlo] at n1;cases n1
 have f2:=A1.files.ty u2 (no2 _) (no2 _);have p2:=A1.plan.upd u2 (λm hm e=>A.nel (by rw [hm];exact lW some e)) (no2 _) λ_ h=>h;have c2:CutIn w2 F sc bytes:=hc1.upd u2 (λk hk _=>by rw [hk];exact A.fml) (no2 _) A1.lt;have u02:Upd F w w2:=(Upd.Ae e1).trans (u2.mono λk _ e=>by rw [e];exact A.fml);refine Ai (λ_ w'=>∃ds',Ht w' fb ds' (Fv l bytes (names l) 0 D.files)/\(∀s∈ds',∀k,s.blk k->F k)/\Upd (λk=>k∈fb) w2 w') ?_ ?_
 ·refine Ad ?_;rw [addr_add];refine Af b2 (x:=some ml) rfl (Ae8 hl2 (λq hq=>by
   obtain ⟨q',h1,h2⟩:=hgood.few
   have:=(Qq hq h1).length_eq
   omega) λs3 w3 o3 e3=>?_)
  obtain ⟨hnl,hnf⟩:=hgood.names;have hs3:=o3.len1;rw [nO] at hs3;have bnd:∀(i:Nat) (g:Fl),D.files[i]?=some g->g.synced<=g.data.length/\g.data.length<=2^40:=λi g hg=>by
   obtain ⟨h1,h2,_⟩:=ok.fil i g hg
   exact ⟨h2,by omega⟩
  refine Bo (λs' w'=>∃(j:Nat) (ds':List Sl) (fs':List Fl),j<=(names l).length/\s'=((j:Int),())/\Ht w' fb ds' fs'/\(∀s∈ds',∀k,s.blk k->F k)/\Upd (λk=>k∈fb) w3 w'/\Fv l bytes ((names l).drop j) j fs'=Fv l bytes (names l) 0 D.files/\fs'.length=D.files.length/\∀(i:Nat) (g:Fl),fs'[i]?=some g->g.synced<=g.data.length/\g.data.length<=2^40) (λs' _=>((names l).length-s'.1).toNat)
   ⟨0,ds,D.files,by omega,rfl,f2.upd e3 (λ_ _=>id) (λ_ _ _ _=>id),A.fds,Upd.refl _ _,rfl,rfl,bnd⟩ ?_
  rintro _ w4 ⟨j,ds4,fs4,hj,rfl,f4,hds4,u4,hcut,hfl,bnd4⟩;dsimp only;have ej:W64 ((j:Int)+1)=((j+1:Nat):Int):=iD (by omega);simp only [ej];have f3:=f2.upd e3 (λ_ _=>id) (λ_ _ _ _=>id);have no4:∀t:TypeId,t≠123->Et w3 (λk=>k∈fb) t:=λt ht k hk c fr hc=>by
   obtain ⟨i,s,g,_,_,_,hb,_⟩:=f3.Zy hk
   rw [hb] at hc;cases hc;exact ht rfl
  have nm4:∀m,(∃o c,w3.heap[m]?=some (.map o c))->¬(λk=>k∈fb) m:=λm ⟨o,c,hm⟩ hk=>by
   obtain ⟨i,s,g,_,_,_,hb,_⟩:=f3.Zy hk
   rw [hm] at hb;cases hb
  refine Ac (λhd=>?_) (λhd=>?_)
  ·(have hd:j<(names l).length:=by have:=jY hd;omega);obtain ⟨n,hn⟩:∃n,(names l)[j]?=some n:=⟨_,oP hd⟩;refine Al7 (c:=.str) (xs:=names l) (x:=n) (o3.in.ty u4 (no4 _ (by decide))) (by omega) (by simpa using hn) λ_=>?_;have n4:=u4.get (e3.ext_get n2) λhk=>no4 72 (by decide) _ hk _ _ (e3.ext_get n2);have c4:=(c2.upd e3 (λ_ h=>h.elim) (λ_ h=>h.elim) (λk hk=>mP (A.lt k hk) u02.size)).upd u4 (λk hk _=>A.ffb k hk) (no4 _ (by decide)) (λk hk=>mP (A.lt k hk) (u02.trans (Upd.Ae e3)).size);have hcl:=c4.1.len1;rw [nO] at hcl;refine Ar (bytes.getD j 0,()) ?_ ?_;{refine Af n4 (x:=sc) rfl (Ac (λhi=>?_) (λhi=>⟨?_,rfl⟩));{(have hi:j<bytes.length:=by have:=jY hi;omega);refine Af n4 (x:=sc) rfl ?_;refine Nk (c:=.int .i64) (xs:=bytes) (x:=bytes.getD j 0) c4.1 (by omega) (by rw [kH];simp [hi]) λ_=>⟨rfl,rfl⟩};{(have hi:¬j<bytes.length:=by have:=sK hi;omega);rw [rJ,tN (by omega)];rfl}};dsimp only;have b4:=u4.get (e3.ext_get b2) λhk=>no4 107 (by decide) _ hk _ _ (e3.ext_get b2);have l4:=(hl2.upd e3 id).upd u4 (nm4 _ (hl2.upd e3 id).Ep);refine Ad ?_;rw [addr_add];refine Af b4 (x:=some ml) rfl (l4.look n ?_);obtain ⟨i,hi⟩:∃i,l n=some i:=sV.1 ((hnl.2 n).1 (lU hn));(have hil:i<fs4.length:=by rw [hfl];exact hgood.ids n i hi);rw [hi];obtain ⟨b,hb⟩:∃b,fb[i]?=some b:=⟨_,oP (by have:=f4.lf;omega)⟩;obtain ⟨s,hs⟩:∃s,ds4[i]?=some s:=⟨_,oP (by have:=f4.ld;omega)⟩;obtain ⟨g,hg⟩:∃g,fs4[i]?=some g:=⟨_,oP hil⟩;obtain ⟨hbx,hby⟩:=f4.at_ i b s g hb hs hg;(have hgd:fb.getD i 0=b:=by rw [rJ,hb];rfl);simp only [jL,hgd];obtain ⟨g1,g2⟩:=bnd4 i g hg;refine Ce1 hbx hby g1 g2 λs' w5 hb5 ho5 hbk u5=>⟨⟨j+1,ds4.set i s',fs4.set i (g.cut (bytes.getD j 0)),hd,rfl,f4.set hb hs hg u5 hb5 ho5 hbk,λt ht k hk=>?_,u4.trans (u5.mono λk _ e=>by rw [e];exact lU hb),?_,by rw [tC];exact hfl,λi' g' hg'=>?_⟩,by omega⟩;{rcases tJ ht with h|h;{exact hds4 t h k hk};{subst h;exact hds4 s (lU hs) k (hbk k hk)}}
   ·rw [←hcut];have ed:(names l).drop j=n::(names l).drop (j+1):=by
     obtain ⟨hj',hn'⟩:=lY.1 hn
     rw [tV hj',hn']
    rw [ed];simp only [Fv,hi,jM];rw [Ig hg]
   {rw [nX] at hg';by_cases hii:i=i';{subst hii;rw [iK rfl,iK hil] at hg';cases hg';simp only [Fl.cut,nG];omega};{rw [iP hii] at hg';exact bnd4 i' g' hg'}}
  {(have hd:j=(names l).length:=by have:=sK hd;omega);subst hd;rw [List.drop_length] at hcut;have hcut:fs4=Fv l bytes (names l) 0 D.files:=hcut;rw [←hcut];exact ⟨ds4,f4,hds4,(Upd.Ae e3).trans u4⟩}
 rintro _ w3 ⟨ds3,f3,hds3,u3⟩;have no3:∀t:TypeId,t≠123->Et w2 (λk=>k∈fb) t:=λt ht k hk c fr hc=>by
  obtain ⟨i,s,g,_,_,_,hb,_⟩:=f2.Zy hk
  rw [hb] at hc;cases hc;exact ht rfl
 have nm3:∀m,(∃o c,w2.heap[m]?=some (.map o c))->¬(λk=>k∈fb) m:=λm ⟨o,c,hm⟩ hk=>by
  obtain ⟨i,s,g,_,_,_,hb,_⟩:=f2.Zy hk
  rw [hm] at hb;cases hb
 have b3:=u3.get b2 λhk=>no3 107 (by decide) _ hk _ _ b2;have l3:=hl2.upd u3 (nm3 _ hl2.Ep);have p3:=p2.upd u3 (λm hm=>nm3 m (by subst hm;exact p2.Ep)) (no3 _ (by decide)) λ_ h=>h;have u03:Upd F w w3:=u02.trans (u3.mono λk _ hk=>A.ffb k hk);refine Ad ?_;rw [addr_add];refine Af b3 (x:=some ml) rfl (Q5 l3 λm' w4 h4 e4 hm'=>Ad ?_);rw [addr_add];refine Dj (e4.ext_get b3) (by simp) λw5 u5 n5 _=>Ad ?_;rw [addr_add];refine Dj n5 (by simp) λw6 u6 n6 _=>Ad ?_;rw [addr_add];refine Dj n6 (by simp) λw7 u7 n7 _=>?_;have u47:Upd (λk=>k=d) w3 w7:=(((Upd.Ae e4).trans u5).trans u6).trans u7;have no:∀t:TypeId,107≠t->Et w3 (λk=>k=d) t:=λt ht=>Et.box b3 ht;have nm:∀m,(∃o c,w3.heap[m]?=some (.map o c))->¬(λk=>k=d) m:=by
  rintro m ⟨o,c,hm⟩ rfl
  rw [b3] at hm;cases hm
 have hs3:=u03.size;(have hml:∀k,F k->k≠m':=λk hk e=>by have:=A.lt k hk;omega);have hne:¬(λk=>k=d) m':=λe=>hml _ A.fd e.symm;have u07:Upd F w w7:=u03.trans (u47.mono λk _ e=>by rw [e];exact A.fd);refine hK (λk=>F k\/k=m') w7 ⟨m',ml,⟨none,0,0⟩,pl,[],fb,ds3,?_,?_,?_,f3.ty u47 (no _ (by decide)) (no _ (by decide)),⟨Am.nil _ _ _ _,rfl,λi v a hv ha=>by simp at hv⟩,p3.upd u47 (λm hm=>nm m (by subst hm;exact p3.Ep)) (no _ (by decide)) λ_ h=>.inl h,λe=>hml _ A.fml e.symm,λe=>?_,A.nel,.inl A.fd,.inr rfl,.inl A.fml,λb hb=>.inl (A.ffb b hb),λt ht k hk=>.inl (hds3 t ht k hk),λk hk=>(by obtain ⟨q,hq,_⟩:=hk;cases hq),λk hk=>?_⟩ u07 (λk hk=>hk.imp id λe=>by omega);{rw [n7];have:(Fv l bytes (names l) 0 D.files).length=D.files.length:=(by rw [←f3.lf,A.files.lf]);simp [Z5,this]};{show Fp w7 m' fb l;exact ((h4.upd u5 hne).upd u6 hne).upd u7 hne};{exact l3.upd u47 (nm _ l3.Ep)};{rcases A.plan with ⟨h,_⟩|⟨m,es,g1,g2,_⟩;{rw [h] at e;cases e};{rw [g1] at e;cases e;exact hml _ g2 rfl}};{rcases hk with hk|rfl;{exact mP (A.lt k hk) u07.size};{obtain ⟨o,c,hm⟩:=h4.Ep;exact mP (lt_of_heap hm) ((u5.trans u6).trans u7).size}}
end
end Dq
end
section
namespace Dq
open Go Go.Vx Dsk
section
variable {w w':World}{S F F':Nat->Prop}{d m ms ml:Nat}{f:Dir}{fb:List Nat}{ds:List Sl}{fs:List Fl}{sa:Sl}{vs:List Value}{D:Dk}{pl:Option Nat}{p:Int->Option Ce}{N:Nat}
def Qx.look (h:Qx w F pl p) (k:Int){K:aO->Wp}(h0:p k=none->K (0,0,0,0,⟨none,0,0⟩,()) w)
  (h1:∀g s,p k=some g->Ints w s g.bytes->(∀k,s.blk k->F k)->K (k,g.kind,g.part,g.names,s,()) w) :
  rdT prog (.one (.agg Dt)) (Instr.lookup 105 (.map pl) (vI k) false) K w:=by
 rcases h with ⟨rfl,h⟩|⟨m,es,rfl,_,g3,g4⟩
 ·refine ⟨_,?_,h0 (h k)⟩
  obtain ⟨kt,et,u1,u2,u3⟩:=MP.ok
  have hc:(Instr.checkKey true 10000 kt (vI k)).run prog w=.ok () w:=Key.int.check prog kt true 9999 k w u2
  simp [Instr.lookup,jZ u1,u3,hc,Instr.findKey,Instr.findNow,jZ u2,RTy.val,Ty.val,Cells.vals,Cell.val]
 ·have hr:=Yr (w:=w) MP g3 k
  have h4:=g4 k
  generalize hv:Jw es k=v at hr h4
  generalize hp:p k=q at h4
  match v,q,h4 with
  |none,none,_=>exact ⟨(0,0,0,0,⟨none,0,0⟩,()),hr,h0 hp⟩
  |some _,some g,⟨s,rfl,hs,hb,_⟩=>exact ⟨(k,g.kind,g.part,g.names,s,()),hr,h1 g s hp hs hb⟩
structure Tt (w0 w:World) (F:Nat->Prop) (v:Value) (op nm:ByteArray) (e:Int):Prop where
 ok:e=0->v=.nilIface
 bad:e≠0->∃b k,v=.iface 99 (.pointer (some (at0 b)))/\w.heap[b]?=some (.cells #[.string op,.string nm,vI k,.iface 33 (vI e)] 101 (0,0))/\w0.heap.size<=b/\¬F b
def Does {α:Type}(w0:World) (d:Nat) (F0 M E:Nat->Prop) (Q0:World->Prop) (Q1:α->World->(Nat->Prop)->Prop) (D:Dk) (N:Nat) (r:Dk×Int×α) (v:Value) (args:Array Value):Prop :=
 ∀(w1:World) (F1:Nat->Prop) (K:Int->Wp),Dn w1 d F1 D->Bj D N->Q0 w1->(∀k,F1 k->F0 k\/w0.heap.size<=k)->w0.heap.size<=w1.heap.size ->
  (∀w2 F2,Dn w2 d F2 r.1->Q1 r.2.2 w2 F2->Upd (λk=>FN w1 F1 k\/M k) w1 w2->(∀k,F2 k->F1 k\/E k\/w1.heap.size<=k)->K r.2.1 w2) ->
  Cj prog (do let d ←Deferred.ofValue v args;invoke d.target d.args:Sem Next) (.one (.one (.int .i64))) K w1
def Lj {α:Type}{M E:Nat->Prop}{Q0:World->Prop}{Q1:α->World->(Nat->Prop)->Prop}{a0:α}{act:Dk->Dk×Int×α}{part:Option (Int->Dk->Dk×Int×α)}{op nm:ByteArray}{va vp:Value}
  (A:Dn w d F D) (ok:Bj D N) (hN:N+2<=2^60) (hq0:Q0 w) (hq1:Q1 a0 w F) (hM:∀k,M k->k<w.heap.size/\¬F k) (hE:∀k,E k->M k)
  (hst0:∀w1 w2 S,Q0 w1->Upd S w1 w2->(∀k,S k->k=d)->Q0 w2)
  (hst1:∀a w1 F1 w2 F2,Q1 a w1 F1->Upd F1 w1 w2->(∀k,F2 k->F1 k\/w1.heap.size<=k)->Q1 a w2 F2)
  (hact:∀D1,D1={ D with steps:=D.steps+1 }->Bj D1 (N+1)->Bj (act D1).1 (N+2)/\Does w d F M E Q0 Q1 D1 (N+1) (act D1) va #[])
  (hpart:(part=none/\vp=.nilFunc)\/∃pt g cs,part=some pt/\vp=.func g #[] cs/\∀D1 k,D1={ D with steps:=D.steps+1 }->Does w d F M E Q0 Q1 D1 (N+1) (pt k D1) vp #[vI k])
  {K:Value->Wp}
  (hK:∀F' w' v,Tt w w' F' v op nm (Dsk.step D a0 act part).2.1->Dn w' d F' (Dsk.step D a0 act part).1->Q1 (Dsk.step D a0 act part).2.2 w' F'->Upd (λk=>F k\/M k) w w'->(∀k,F' k->F k\/E k\/w.heap.size<=k)->K v w') :
  Aa prog 65 #[dU d,.string op,.string nm,va,vp] (.one (.one .any)) K w:=by
 refine j65 ?_
 unfold F65
 obtain ⟨ms,ml,sa,pl,vs,fb,ds,A⟩:=A
 have hsteps:=ok.steps
 simp only [P8,addr_add,kY]
 refine Af A.box (x:=D.down) rfl (Ac (λhd=>?_) (λhd=>?_))
 ·have e:Dsk.step D a0 act part=(D,165,a0):=by unfold Dsk.step;rw [iK hd]
  rw [e] at hK
  refine Ag λb3 w1 e1 n1 hb3 _=>hK F w1 _ ⟨(λh=>by cases h),λ_=>⟨b3,0,rfl,n1,by omega,λh=>by have:=A.lt _ h;omega⟩⟩ (A.ext e1).in (hst1 a0 w F w1 F hq1 (Upd.Ae e1) λ_ h=>.inl h) (Upd.Ae e1) λk hk=>.inl hk
 have ew:W64 (D.steps+1)=D.steps+1:=iE (by omega)
 refine Ad (Af A.box (x:=D.steps) rfl (Ad ?_))
 rw [addr_add,ew,kY]
 refine Dj A.box (by simp) λw1 u1 n1 _=>Ad ?_
 obtain ⟨D1,hD1⟩:∃D1,D1={ D with steps:=D.steps+1 }:=⟨_,rfl⟩
 have A1:Ej w1 d F D1 ms ml sa pl vs fb ds:=A.Cn7 u1 (by rw [n1,hD1];simp [Z5]) (by rw [hD1]) (by rw [hD1]) (by rw [hD1]) (by rw [hD1])
 have ok1:Bj D1 (N+1):=by
  rw [hD1]
  exact ⟨ok.space,λi f hf=>let ⟨a,b,c,e⟩:=ok.fil i f hf;⟨a,b,c,by omega⟩,mM ok.num (tX _),ok.good,⟨by dsimp only;omega,by dsimp only;omega⟩,mM ok.acts (tX _)⟩
 have hs1:D1.steps=D.steps+1:=by rw [hD1]
 have es0:D1.plan D1.steps=none->Dsk.step D a0 act part=act D1:=λh=>by
  rw [hD1] at h
  have h:D.plan (D.steps+1)=none:=h
  unfold Dsk.step;rw [iP (by rw [hd];simp),h,hD1]
 have es1:∀g,D1.plan D1.steps=some g->Dsk.step D a0 act part=Uk D1 a0 act part g:=λg h=>by
  rw [hD1] at h
  have h:D.plan (D.steps+1)=some g:=h
  unfold Dsk.step;rw [iP (by rw [hd];simp),h,hD1]
 obtain ⟨okA,does⟩:=hact D1 hD1 ok1
 have ud:Upd F w w1:=u1.mono λk _ e=>by rw [e];exact A.fd
 have u1F:Upd (λk=>F k\/M k) w w1:=ud.mono λk _ h=>.inl h
 have hq01:Q0 w1:=hst0 w w1 _ hq0 u1 λk e=>e
 have hq11:Q1 a0 w1 F:=hst1 a0 w F w1 F hq1 ud λ_ h=>.inl h
 have hz1:=u1.size
 clear u1 n1
 rw [addr_add,kY]
 refine Af A1.box (x:=D1.steps) rfl (Ad ?_)
 rw [addr_add,kY]
 refine Af A1.box (x:=pl) rfl ?_
 have fin:∀{W:World} {F2:Nat->Prop} {e:Int} {D2:Dk} {a:α},Dsk.step D a0 act part=(D2,e,a)->Dn W d F2 D2->Q1 a W F2->Upd (λk=>F k\/M k) w W->(∀k,F2 k->F k\/E k\/w.heap.size<=k) ->
   (sif (e==0) (K .nilIface) (Ak (.cells #[.string op,.string nm,vI D1.steps,.iface 33 (vI e)] 101) λb26=>K (.iface 99 (.pointer (some (at0 b26)))))) W:=by
  intro W F2 e D2 a he hD hq hu hF
  rw [he] at hK
  refine Ac (λh=>?_) (λh=>?_)
  ·have h:e=0:=by simpa using h
   exact hK F2 W _ ⟨λ_=>rfl,λhh=>absurd h hh⟩ hD hq hu hF
  ·have h:e≠0:=by simpa using h
   refine Ag λb w3 e3 n3 hb _=>hK F2 w3 _ ⟨λhh=>absurd hh h,λ_=>⟨b,D1.steps,rfl,n3,?_,λhh=>?_⟩⟩ (hD.ext e3) (hst1 a W F2 w3 F2 hq (Upd.Ae e3) λ_ h=>.inl h) (hu.trans (Upd.Ae e3)) hF
   ·have:=hu.size;omega
   ·have:=hD.lt _ hh;omega
 have call:∀{W:World} {K':Int->Wp},Dn W d F D1->Q0 W->Upd (λk=>F k\/M k) w W ->
   (∀W' F3,Dn W' d F3 (act D1).1->Q1 (act D1).2.2 W' F3->Upd (λk=>F k\/M k) w W'->(∀k,F3 k->F k\/E k\/w.heap.size<=k)->Upd (λk=>FN W F k\/M k) W W'->K' (act D1).2.1 W') ->
   Cj prog (do let d ←Deferred.ofValue va #[];invoke d.target d.args:Sem Next) (.one (.one (.int .i64))) K' W:=by
  intro W K' hD hq hu hK'
  refine does W F K' hD ok1 hq (λk h=>.inl h) hu.size λw2 F3 hD3 hq3 hu3 hF3=>hK' w2 F3 hD3 hq3 (hu.trans (hu3.mono λk _ h=>h.imp (λh=>h.1) id)) (λk hk=>?_) hu3
  rcases hF3 k hk with h|h|h
  ·exact .inl h
  ·exact .inr (.inl h)
  ·have:=hu.size;exact .inr (.inr (by omega))
 have loss:∀{W:World} {F2:Nat->Prop} {D2:Dk} {a:α} {M2:Nat} {g:Ce} {s:Sl} {K':Unit->Wp},Dn W d F2 D2->Bj D2 M2->M2<=2^60->Q1 a W F2->Upd (λk=>F k\/M k) w W->(∀k,F2 k->F k\/E k\/w.heap.size<=k)->Ints W s g.bytes ->
   (∀W' F3,Dn W' d F3 (crash D2 g.names g.bytes)->Q1 a W' F3->Upd (λk=>F k\/M k) w W'->(∀k,F3 k->F k\/E k\/w.heap.size<=k)->K' () W') ->
   Aa prog 40 #[dU d,.agg (Cells.vals c72 (g.names,s,())).toArray] bH K' W:=by
  intro W F2 D2 a M2 g s K' hD hok hM2 hq hu hF hi hK'
  obtain ⟨ms2,ml2,sa2,pl2,vs2,fb2,ds2,A2⟩:=hD
  refine Ag3 A2 hok hM2 (c:=(g.names,s,())) ⟨hi.x,.inr hi⟩ λF3 W' hD3 hu3 hF3=>hK' W' F3 hD3 (hst1 a W F2 W' F3 hq hu3 hF3) (hu.new hu3 λk hk h=>?_) λk hk=>?_
  ·rcases hF k h with h|h|h
   ·exact .inl h
   ·exact .inr (hE k h)
   ·omega
  ·rcases hF3 k hk with h|h
   ·exact hF k h
   ·have:=hu.size;exact .inr (.inr (by omega))
 refine A1.plan.look D1.steps (λh0=>?_) (λg s hp hi hsF=>?_)
 ·
  have es:=es0 h0
  refine (St.start w1).Iz rfl rfl rfl λb12 w2 S2 e2=>?_
  refine Ai (λx W=>∃F2 D2 a,Dsk.step D a0 act part=(D2,x.1,a)/\Dn W d F2 D2/\Q1 a W F2/\Upd (λk=>F k\/M k) w W/\∀k,F2 k->F k\/E k\/w.heap.size<=k) ?_ ?_
  ·refine S2.ld 0 (x:=(0:Int)) rfl rfl (Bh (Bh (Bh (Bh (Bh ?_)))))
   refine call (A1.ext e2).in (hst0 w1 w2 _ hq01 e2 λ_ h=>h.elim) (u1F.trans (Upd.Ae e2)) λW' F3 hD3 hq3 hu3 hF3 _=>⟨F3,_,_,?_,hD3,hq3,hu3,hF3⟩
   rw [es]
  ·rintro ⟨x,⟨⟩⟩ W ⟨F2,D2,a,h1,h2,h3,h4,h5⟩
   exact fin h1 h2 h3 h4 h5
 ·have es:=es1 g hp
  unfold Uk at es
  refine (St.start w1).Iz rfl rfl rfl λb12 w2 S2 e2=>?_
  have hq02:=hst0 w1 w2 _ hq01 e2 λ_ h=>h.elim
  have hq12:=hst1 a0 w1 F w2 F hq11 (Upd.Ae e2) λ_ h=>.inl h
  have u2F:=u1F.trans (Upd.Ae e2)
  have hb12:∀{W:World},Upd (λk=>FN w2 F k\/M k) w2 W->W.heap[b12]?=some (.cells (Cells.vals Dt (D1.steps,g.kind,g.part,g.names,s,())).toArray 132 (0,0)):=λu=>u.get (S2.at_ 0 rfl) λh=>by
   have hg:=S2.ge 0 rfl
   rcases h with h|h
   ·have:=A1.lt _ h.1;omega
   ·have:=(hM _ h).1;omega
  refine Ai (λx W=>∃F2 D2 a,Dsk.step D a0 act part=(D2,x.1,a)/\Dn W d F2 D2/\Q1 a W F2/\Upd (λk=>F k\/M k) w W/\∀k,F2 k->F k\/E k\/w.heap.size<=k) ?_ ?_
  ·refine S2.ld 0 (x:=g.kind) rfl rfl (Ac (λh1=>?_) (λh1=>?_))
   ·have h1:g.kind=1:=by simpa using h1
    rw [iK h1] at es
    exact ⟨F,D1,a0,es,(A1.ext e2).in,hq12,u2F,λk hk=>.inl hk⟩
   have h1:¬g.kind=1:=by simpa using h1
   rw [iP h1] at es
   refine Ac (λh2=>?_) (λh2=>?_)
   ·have h2:g.kind=2:=by simpa using h2
    rw [iK h2] at es
    rcases hpart with ⟨rfl,rfl⟩|⟨pt,gf,cs,rfl,rfl,hp⟩
    ·exact Bd4 Cv4.und (Bh ⟨F,D1,a0,es,(A1.ext e2).in,hq12,u2F,λk hk=>.inl hk⟩)
    ·refine Bp9 Cv4.und (Ee (S2.ld 0 (x:=g.part) rfl rfl ?_))
     refine hp D1 g.part hD1 w2 F _ (A1.ext e2).in ok1 hq02 (λk hk=>.inl hk) u2F.size λw3 F3 hD3 hq3 hu3 hF3=>⟨F3,_,_,es,hD3,hq3,u2F.trans (hu3.mono λk _ h=>h.imp (λh=>h.1) id),λk hk=>(hF3 k hk).imp id λh=>h.imp id λh=>?_⟩
     have:=u2F.size;omega
   have h2:¬g.kind=2:=by simpa using h2
   rw [iP h2] at es
   refine Ac (λh4=>?_) (λh4=>?_)
   ·have h4:g.kind=4:=by simpa using h4
    rw [iK h4] at es
    refine Dp (x:=(g.names,s,())) (S2.at_ 0 rfl) (λi v hv=>?_) ?_
    ·match i with
     |0=>simpa [Cells.vals,Cell.val] using hv
     |1=>simpa [Cells.vals,Cell.val] using hv
     |i+2=>simp [Cells.vals] at hv
    ·exact loss (A1.ext e2).in ok1 (by omega) hq12 u2F (λk hk=>.inl hk) (hi.ext e2) λW' F3 hD3 hq3 hu3 hF3=>⟨F3,_,_,es,hD3,hq3,hu3,hF3⟩
   have h4:¬g.kind=4:=by simpa using h4
   rw [iP h4] at es
   refine Ac (λh5=>?_) (λh5=>?_)
   ·have h5:g.kind=5:=by simpa using h5
    rw [iK h5] at es
    refine call (A1.ext e2).in hq02 u2F λW' F3 hD3 hq3 hu3 hF3 hu2'=>?_
    have hb:=hb12 hu2'
    refine Dp (x:=(g.names,s,())) hb (λi v hv=>?_) ?_
    ·match i with
     |0=>simpa [Cells.vals,Cell.val] using hv
     |1=>simpa [Cells.vals,Cell.val] using hv
     |i+2=>simp [Cells.vals] at hv
    ·refine loss hD3 okA hN hq3 hu3 hF3 ?_ λW2 F4 hD4 hq4 hu4 hF4=>⟨F4,_,_,es,hD4,hq4,hu4,hF4⟩
     refine (hi.ext e2).upd hu2' λk hk h=>?_
     rcases h with h|h
     ·obtain ⟨c,fr,hc⟩:=(hi.ext e2).Bf hk
      exact h.2 c fr hc
     ·exact (hM k h).2 (hsF k hk)
   have h5:¬g.kind=5:=by simpa using h5
   rw [iP h5] at es
   refine Ac (λh3=>?_) (λh3=>?_)
   ·have h3:g.kind=3:=by simpa using h3
    rw [iK h3] at es
    refine call (A1.ext e2).in hq02 u2F λW' F3 hD3 hq3 hu3 hF3 _=>Ac (λh=>?_) (λh=>?_)
    ·have h:(act D1).2.1≠0:=by simpa using h
     exact ⟨F3,_,_,by rw [es];simp only [iK h],hD3,hq3,hu3,hF3⟩
    ·have h:¬(act D1).2.1≠0:=by simpa using h
     exact ⟨F3,_,_,by rw [es];simp only [iP h],hD3,hq3,hu3,hF3⟩
   have h3:¬g.kind=3:=by simpa using h3
   rw [iP h3] at es
   exact call (A1.ext e2).in hq02 u2F λW' F3 hD3 hq3 hu3 hF3 _=>⟨F3,_,_,by rw [es],hD3,hq3,hu3,hF3⟩
  ·rintro ⟨x,⟨⟩⟩ W ⟨F2,D2,a,h1,h2,h3,h4,h5⟩
   exact fin h1 h2 h3 h4 h5
end
end Dq
end
section
namespace Dq
open Go Go.Vx Dsk
section
variable {D:Dk}{N n:Nat}{f:Dir}
def Wy {l:List Nm}(h:Lists f l) (a:Nm):Lists (Eo f a none) (l.filter λx=>decide (x≠a)):=by refine ⟨h.1.sublist tY,λx=>?_⟩;rw [oJ,h.2 x];unfold Eo;by_cases e:x=a;{simp [e]};{simp [e]}
def Wx {l:List Nm}(h:Lists f l){a:Nm}{i:Nat}(ha:f a=none):Lists (Eo f a (some i)) (a::l):=by refine ⟨jT.2 ⟨λhm=>?_,h.1⟩,λx=>?_⟩;{have:=(h.2 a).1 hm;rw [ha] at this;cases this};{unfold Eo;by_cases e:x=a;{simp [e]};{rw [iL,iP e];simp [e,h.2 x]}}
def Br3 {l:List Nm}(h:Lists f l){a:Nm}{i:Nat}(ha:(f a).isSome=true):Lists (Eo f a (some i)) l:=by refine ⟨h.1,λx=>?_⟩;unfold Eo;by_cases e:x=a;{subst e;simp [h.2,ha]};{rw [iP e];exact h.2 x}
def filter_lt {l:List Nm}{a:Nm}(ha:a∈l):(l.filter λx=>decide (x≠a)).length+1<=l.length:=by have h1:=List.length_filter_lt_length_iff_exists (l:=l) (p:=λx=>decide (x≠a));have:=h1.2 ⟨a,ha,by simp⟩;omega
def Good.del (h:Good n f) (a:Nm):Good n (Eo f a none):=by refine ⟨λk i hi=>?_,?_,λx y i hx hy=>?_,λk i hi=>?_⟩;{unfold Eo at hi;split at hi;{cases hi};{exact h.ids k i hi}};{obtain ⟨l,h1,h2⟩:=h.few;exact ⟨_,Wy h1 a,mM (qR _ _) h2⟩};{unfold Eo at hx hy;split at hx;{cases hx};{split at hy;{cases hy};{exact h.inj x y i hx hy}}};{unfold Eo at hi;split at hi;{cases hi};{exact h.okn k i hi}}
def Good.new (h:Good n f){a:Nm}(ha:f a=none) (hn:Bl a=true) (hf:(Dsk.names f).length<16):Good (n+1) (Eo f a (some n)):=by refine ⟨λk i hi=>?_,?_,λx y i hx hy=>?_,λk i hi=>?_⟩;{unfold Eo at hi;split at hi;{cases hi;omega};{have:=h.ids k i hi;omega}};{obtain ⟨l,h1,h2⟩:=h.few;rw [Qg h1] at hf;exact ⟨_,Wx h1 ha,by simp;omega⟩};{unfold Eo at hx hy;by_cases e1:x=a<;>by_cases e2:y=a;{rw [e1,e2]};{rw [iK e1] at hx;rw [iP e2] at hy;cases hx;have:=h.ids y n hy;omega};{rw [iP e1] at hx;rw [iK e2] at hy;cases hy;have:=h.ids x n hx;omega};{rw [iP e1] at hx;rw [iP e2] at hy;exact h.inj x y i hx hy}};{unfold Eo at hi;split at hi;{rename_i e;rw [e];exact hn};{exact h.okn k i hi}}
def Good.mv (h:Good n f){a b:Nm}{i:Nat}(ha:f a=some i) (hn:Bl b=true):Good n (Eo (Eo f a none) b (some i)):=by
 have hd:=h.del a;refine ⟨λk j hj=>?_,?_,λx y j hx hy=>?_,λk j hj=>?_⟩;{unfold Eo at hj;split at hj;{cases hj;exact h.ids a i ha};{exact hd.ids k j hj}}
 ·obtain ⟨l,h1,h2⟩:=h.few;have hl:=Wy h1 a;have hm:a∈l:=(h1.2 a).2 (by rw [ha];rfl);have hlt:=filter_lt hm;cases hb:Eo f a none b with
  |none=>exact ⟨_,Wx hl hb,by simp only [kE];omega⟩
  |some j=>exact ⟨_,Br3 hl (by rw [hb];rfl),by omega⟩
 ·have other:∀z,Eo f a none z≠some i:=λz hz=>by
   unfold Eo at hz;split at hz
   ·cases hz
   ·rename_i hza;exact hza (h.inj z a i hz ha)
  unfold Eo at hx hy;by_cases e1:x=b<;>by_cases e2:y=b;{rw [e1,e2]};{rw [iK e1] at hx;rw [iP e2] at hy;cases hx;exact absurd hy (other y)};{rw [iP e1] at hx;rw [iK e2] at hy;cases hy;exact absurd hx (other x)};{rw [iP e1] at hx;rw [iP e2] at hy;exact hd.inj x y j hx hy}
 {unfold Eo at hj;split at hj;{rename_i e;rw [e];exact hn};{exact hd.okn k j hj}}
def Am0 {as_:List Iq}{a:Iq}{m:Nat}(hm:n<=m) (h:∀k,Good n (Gf (as_.take k) f)) (ha:Good m (a.on (Gf as_ f))):∀k,Good m (Gf ((as_++[a]).take k) f):=by intro k;by_cases hk:k<=as_.length;{rw [tZ hk];exact (h k).mono hm};{rw [sQ (by simp;omega),Uf];exact ha}
def Iw {nm:Nm}{i:Nat}{e:Int}(h:Dsk.find D nm=(some i,e)):D.seen nm=some i/\e=0/\Bl nm=true:=by
 unfold Dsk.find at h;split at h;{cases h}
 ·rename_i hn;cases hs:D.seen nm with
  |none=>rw [hs] at h;cases h
  |some j=>rw [hs] at h;cases h;exact ⟨rfl,rfl,by simpa using hn⟩
def Oa {nm:Nm}{e:Int}(h:Dsk.find D nm=(none,e)):(Bl nm=false/\e=164)\/(D.seen nm=none/\e=162):=by
 unfold Dsk.find at h;split at h;{rename_i hn;cases h;exact .inl ⟨hn,rfl⟩}
 ·cases hs:D.seen nm with
  |none=>rw [hs] at h;cases h;exact .inr ⟨rfl,rfl⟩
  |some j=>rw [hs] at h;cases h
def Bj.push (ok:Bj D N){a:Iq}(ha:Good D.files.length (a.on D.seen)):Bj { D with acts:=D.acts++[a] } (N+1) :=
 ⟨ok.space,λi f hf=>let ⟨a,b,c,d⟩:=ok.fil i f hf;⟨a,b,c,by omega⟩,mM ok.num (tX _),Am0 (mJ _) ok.good ha,⟨ok.steps.1,by have:=ok.steps.2;dsimp only;omega⟩,by have:=ok.acts;simp;omega⟩
def Ca3 (ok:Bj D N) (nm:Nm):Bj (rmR nm D).1 (N+1):=by
 unfold rmR;cases h:Dsk.find D nm with
 |mk o e =>
  cases o with
  |none=>exact ok.mono (tX _)
  |some i=>exact ok.push (ok.seen.del nm)
def Ca5 (ok:Bj D N) (a b:Nm):Bj (mvR a b D).1 (N+1):=by
 unfold mvR;split;{exact ok.mono (tX _)}
 ·rename_i hbn;cases h:Dsk.find D a with
  |mk o e =>
   cases o with
   |none=>exact ok.mono (tX _)
   |some i=>dsimp only;split;{exact ok.mono (tX _)};{exact ok.push (ok.seen.mv (Iw h).1 (by simpa using hbn))}
def Ca6 (ok:Bj D N) (nm:Nm):Bj (mkR nm D).1 (N+1):=by
 unfold mkR;dsimp only;split;{exact ok.mono (tX _)};split;{exact ok.mono (tX _)};split;{exact ok.mono (tX _)}
 ·rename_i h1 h2 h3;have hs:D.seen nm=none:=by
   cases h:Dsk.find D nm with
   |mk o e =>
    cases o with
    |none=>rcases Oa h with ⟨_,he⟩|⟨hs,_⟩;{rw [h] at h1;exact absurd he h1};{exact hs}
    |some i=>rw [h] at h2;exact absurd (Iw h).2.1 h2
  have hn:Bl nm=true:=by
   cases hn:Bl nm with
   |true=>rfl
   |false=>exfalso;apply h1;unfold Dsk.find;rw [iK hn]
  have hg:=ok.seen.new hs hn (by omega);refine ⟨ok.space,λi f hf=>?_,by have:=ok.num;simp;omega,?_,⟨ok.steps.1,by have:=ok.steps.2;dsimp only;omega⟩,by have:=ok.acts;simp;omega⟩;{have hf:(D.files++[⟨[],0,0⟩])[i]?=some f:=hf;by_cases hi:i<D.files.length;{rw [mZ hi] at hf;obtain ⟨a,b,c,d⟩:=ok.fil i f hf;exact ⟨a,b,c,by omega⟩};{rw [nC (by omega)] at hf;have:=lU hf;simp at this;subst this;simp;omega}};{have e:(D.files++[(⟨[],0,0⟩:Fl)]).length=D.files.length+1:=(by simp);show ∀k,Good (D.files++[(⟨[],0,0⟩:Fl)]).length _;rw [e];exact Am0 (tX _) ok.good hg}
def Bj.file (ok:Bj D N){i:Nat}{g:Fl}(hg:g.data.length<=1048576/\g.synced<=g.data.length/\0<=g.count/\g.count<=N+1):Bj { D with files:=D.files.set i g } (N+1):=by refine ⟨ok.space,λj f hf=>?_,by have:=ok.num;simp;omega,by show ∀k,Good (D.files.set i g).length _;rw [tC];exact ok.good,⟨ok.steps.1,by have:=ok.steps.2;dsimp only;omega⟩,mM ok.acts (tX _)⟩;have hf:(D.files.set i g)[j]?=some f:=hf;rw [nX] at hf;split at hf;{split at hf;{cases hf;exact ⟨hg.1,hg.2.1,hg.2.2.1,by omega⟩};{cases hf}};{obtain ⟨a,b,c,d⟩:=ok.fil j f hf;exact ⟨a,b,c,by omega⟩}
def Jz (ok:Bj D N){nm:Nm}{i:Nat}(h:D.seen nm=some i):∃g,D.files[i]?=some g/\fl D i=g:=by have hi:=ok.seen.ids nm i h;exact ⟨_,oP hi,by unfold Dsk.fl;rw [rJ,oP hi];rfl⟩
def Ca2 (ok:Bj D N) (nm:Nm):Bj (syR nm D).1 (N+1):=by
 unfold syR;cases h:Dsk.find D nm with
 |mk o e =>
  cases o with
  |none=>exact ok.mono (tX _)
  |some i=>obtain ⟨g,hg,_⟩:=Jz ok (Iw h).1;dsimp only;rw [Ig hg];obtain ⟨a,b,c,d⟩:=ok.fil i g hg;exact ok.file ⟨a,mJ _,c,by dsimp only;omega⟩
def Cq9 {l:xP}(h:∀x∈l,0<=x){x:Int}(hx:x∈l):x<=Fq l:=by
 induction l with
 |nil=>cases hx
 |cons y r ih=>have h1:=h y iM;have h2:=Ou λz hz=>h z (iO _ hz);rcases iL.1 hx with e|hx;{subst e;simp only [Fq];omega};{have:=ih (λz hz=>h z (iO _ hz)) hx;simp only [Fq];omega}
def Cg6 (ok:Bj D N){nm:Nm}{i:Nat}(h:D.seen nm=some i):((fl D i).data.length:Int)<=Cb D none:=by obtain ⟨h1,_⟩:=ok.seen.names;unfold Cb;refine Cq9 (λx hx=>?_) ?_;{obtain ⟨n,_,rfl⟩:=nT.1 hx;exact Pn D none n};{refine nT.2 ⟨nm,(h1.2 nm).2 (by rw [h];rfl),?_⟩;unfold weigh;rw [h];simp}
def Bl2 (ok:Bj D N) (nm:Nm) (b:List UInt8):Bj (apR nm b D).1 (N+1):=by
 unfold apR;cases h:Dsk.find D nm with
 |mk o e =>
  cases o with
  |none=>exact ok.mono (tX _)
  |some i=>have hs:=(Iw h).1;obtain ⟨g,hg,hfl⟩:=Jz ok hs;have hu:=Cg6 ok hs;rw [hfl] at hu;have hsp:=ok.space;have hun:=ok.used none;dsimp only;rw [Ig hg];obtain ⟨a,b',c,d⟩:=ok.fil i g hg;have hr:room D=max (D.space-Cb D none) 0:=rfl;refine ok.file ⟨?_,?_,?_,?_⟩;{simp only [oC,nG];split<;>omega};{simp only [oC];omega};{dsimp only;split<;>omega};{dsimp only;split<;>omega}
def Wu (ok:Bj D N):Bj (Dsk.settle D) N :=
 ⟨ok.space,ok.fil,ok.num,λk=>by rw [show (Dsk.settle D).acts=[] from rfl,uG];exact ok.seen,ok.steps,qI _⟩
def H9 {P:Fl->Prop}(hP:∀g more,P g->P (g.cut more)) (f:Dir) (bytes:xP):∀(l:List Nm) (i:Nat) (fs:List Fl),(∀(j:Nat) (g:Fl),fs[j]?=some g->P g)->(Fv f bytes l i fs).length=fs.length/\∀(j:Nat) (g:Fl),(Fv f bytes l i fs)[j]?=some g->P g
 |[],_,fs,h=>⟨rfl,h⟩
 | n::r,i,fs,h=>by
  have h2:∀(j:Nat) (g:Fl),(Ju fs ((f n).getD 0) λx=>x.cut (bytes.getD i 0))[j]?=some g->P g:=by
   intro j g hg
   unfold Ju at hg
   rw [pU] at hg
   obtain ⟨x,hx,hxg⟩:=rG.1 hg
   split at hxg
   ·subst hxg;exact hP x _ (h j x hx)
   ·subst hxg;exact h j x hx
  obtain ⟨g1,g2⟩:=H9 hP f bytes r (i+1) _ h2
  simp only [Fv]
  exact ⟨by rw [g1];unfold Ju;simp,g2⟩
def Ae5 (ok:Bj D N) (nm:Int) (bytes:xP):Bj (crash D nm bytes) N:=by
 unfold crash;split;{exact ok}
 ·dsimp only;generalize hl:Gf (D.acts.take (min (max nm 0).toNat D.acts.length)) D.lasts=l;have hg:=ok.good (min (max nm 0).toNat D.acts.length);rw [hl] at hg;obtain ⟨h1,h2⟩:=H9 (P:=λf=>f.data.length<=1048576/\f.synced<=f.data.length/\0<=f.count/\f.count<=N) (λg more ⟨a,b,c,d⟩=>by
   simp only [Fl.cut,nG];omega) l bytes (names l) 0 D.files ok.fil
  refine ⟨ok.space,h2,by dsimp only;rw [h1];exact ok.num,λk=>?_,ok.steps,qI _⟩;rw [uG];show Good (Fv l bytes (names l) 0 D.files).length l;rw [h1];exact hg
def Be4 (ok:Bj D N):Bj (restart D) N:=by unfold restart;split;{exact ⟨ok.space,ok.fil,ok.num,ok.good,⟨kJ 0,by dsimp only;omega⟩,ok.acts⟩};{exact ok}
def Ck7 (ok:Bj D N) (l:List (Int×Ce)):Bj (plan D l) N:=⟨ok.space,ok.fil,ok.num,ok.good,⟨kJ 0,by show (0:Int)<=_;omega⟩,ok.acts⟩
def Ca4 (ok:Bj D N) (nm:Nm) (b:List UInt8):Bj (Lc D nm b).1 (N+1):=by
 unfold Lc;split;{exact ok.mono (tX _)};split;{exact ok.mono (tX _)};split;{exact ok.mono (tX _)}
 ·rename_i h1 h2 h3;have hsp:=ok.space;have hun:=ok.used (D.seen nm);have hb:b.length<=1048576:=by
   have:¬(b.length:Int)>D.space-Cb D (D.seen nm):=λh=>h3 (.inr h)
   omega
  cases hs:D.seen nm with
  |some i=>obtain ⟨g,hg,_⟩:=Jz ok hs;obtain ⟨a,b',c,d⟩:=ok.fil i g hg;dsimp only;rw [Ig hg];exact (Wu ok).file (i:=i) (g:=⟨b,b.length,g.count+1⟩) ⟨hb,mJ _,by dsimp only;omega,by dsimp only;omega⟩
  | none =>
   have hg:=ok.seen.new hs (by simpa using h2) (by
    have:¬(16<=(names D.seen).length):=λh=>h3 (.inl ⟨hs,h⟩)
    omega)
   dsimp only;refine ⟨ok.space,λi f hf=>?_,by have:=ok.num;simp;omega,λk=>?_,⟨ok.steps.1,by have:=ok.steps.2;dsimp only;omega⟩,qI _⟩;{have hf:(D.files++[⟨b,b.length,1⟩])[i]?=some f:=hf;by_cases hi:i<D.files.length;{rw [mZ hi] at hf;obtain ⟨a,b,c,d⟩:=ok.fil i f hf;exact ⟨a,b,c,by omega⟩};{rw [nC (by omega)] at hf;have:=lU hf;simp at this;subst this;refine ⟨hb,mJ _,(show (0:Int)<=1 by decide),?_⟩;show (1:Int)<=_;omega}};{have e:(D.files++[(⟨b,b.length,1⟩:Fl)]).length=D.files.length+1:=(by simp);rw [uG];show Good (D.files++[(⟨b,b.length,1⟩:Fl)]).length (Eo D.seen nm (some D.files.length));rw [e];exact hg}
end
end Dq
end
section
namespace Dq
open Go Go.Vx Dsk
section
variable {w w':World}{S F F':Nat->Prop}{d m ms ml:Nat}{f:Dir}{fb:List Nat}{ds:List Sl}{fs:List Fl}{sa:Sl}{vs:List Value}{D:Dk}{pl:Option Nat}{p:Int->Option Ce}{N:Nat}
abbrev Z4 (d:Nat):Obj:=.cells #[dU d] 24 (0,0)
abbrev Ad2 (n:Nm):Obj:=.cells #[.string n] 9 (0,0)
abbrev Ends (w:World) (d:Nat) (F:Nat->Prop) (op nm:ByteArray) (r:Dk×Int×Unit) (K:Value->Wp):Prop :=
 ∀F' w' v,Tt w w' F' v op nm r.2.1->Dn w' d F' r.1->Upd F w w'->(∀k,F' k->F k\/w.heap.size<=k)->K v w'
def Bo7 {E M:Nat->Prop}{b1 b2:Nat}{n:Nm}{Q1:Unit->World->(Nat->Prop)->Prop}(hQ1:∀w F,Q1 () w F){F0:Nat->Prop}{w0:World} :
  Does w0 d F0 M E (λw=>w.heap[b1]?=some (Z4 d)/\w.heap[b2]?=some (Ad2 n)) Q1 D N (u (syR n) D) (.func (.func 170) #[] #[dU b1,dU b2]) #[]:=by
 rintro w1 F1 K ⟨ms,ml,sa,pl,vs,fb,ds,A⟩ ok ⟨n1,n2⟩ hF hz hK;refine func_x (by kernel_rfl) ?_;refine Dg0 (v0:=at0 b1) (v1:=at0 b2) ?_;unfold F170;refine Af n1 (x:=some (at0 d)) rfl (Af n2 (x:=n) rfl (Jy A λnm w2 e2 hnm=>?_));unfold u syR at hK;obtain ⟨o,e,hfo⟩:∃o e,Dsk.find D n=(o,e):=⟨_,_,rfl⟩;rw [hfo] at hK hnm ⊢;refine ((St.start w1).ext e2).Iz rfl rfl rfl λb4 w3 S3 e3=>?_;have e13:=e2.trans e3;cases o with
 |none=>have he:e≠0:=(by rcases Oa hfo with ⟨_,h⟩|⟨_,h⟩<;>rw [h]<;>decide);refine Ai (λ_ w'=>w3=w') (Ac (λh=>absurd (by simpa using h) he) (λ_=>rfl)) λ_ w' h=>?_;subst h;exact hK w3 F1 (A.ext e13).in (hQ1 _ _) (Upd.Ae e13) λk hk=>.inl hk
 | some i =>
  obtain ⟨hs,rfl,_⟩:=Iw hfo;have A3:=A.ext e13;obtain ⟨b,s,g,hb,hss,hg,hgb,hfl,hbx,hby⟩:=A3.Pz (ok.seen.ids n i hs);simp only [Ig hg,jL,hgb] at hK S3 ⊢;have hsl:=hby.len1;rw [nO] at hsl;refine Ai (λ_ w'=>w'.heap[b]?=some (Uj i s ⟨g.data,s.len,g.count⟩)/\Upd (λk=>k=b) w3 w') (Ee (S3.ld 0 (x:=some (at0 b)) rfl rfl (Xx hbx λw4 n4 u4 _=>⟨n4,u4⟩))) ?_;rintro _ w4 ⟨n4,u4⟩;have ho:Dl w4 0 s g.data:=hby.upd u4 λk _ hk e=>by
   obtain ⟨c,fr,hc⟩:=hby.in.Bf hk
   rw [e,hbx] at hc;cases hc
  have A4:=A3.Af8 (g':=⟨g.data,g.data.length,g.count⟩) hb hss hg u4 (λk hk _=>.inl hk) (by rw [hsl];exact n4) ho (λk hk=>.inl hk);have hfb:F1 b:=A.ffb b (lU hb);refine hK w4 _ A4.in (hQ1 _ _) ((Upd.Ae e13).new u4 λk hk e=>.inl ⟨by rw [e];exact hfb,λc fr hc=>?_⟩) λk hk=>?_;{rw [e] at hc hk;have:=e13.ext_get hc;rw [hbx] at this;cases this};{rcases hk with hk|hk;{exact .inl hk};{exact .inl (A.fds s (lU hss) k hk)}}
def Bo8 (A:Dn w d F D) (ok:Bj D N) (hN:N+2<=2^60){n:Nm}{K:Value->Wp}(hK:Ends w d F ⟨#[115,121,110,99]⟩ n (Ef D n) K):Aa prog 139 #[dU d,.string n] (.one (.one .any)) K w:=by
 refine Dh9 ?_;unfold F139;refine Ag λb1 w1 e1 n1 hb1 _=>Ag λb2 w2 e2 n2 hb2 _=>?_;have e12:=e1.trans e2;refine Af (e2.ext_get n1) (x:=some (at0 d)) rfl (Af n2 (x:=n) rfl ?_);have hs1:=e1.size;have hlt:=A.lt;have hd:=A.fd;refine Lj (M:=λ_=>False) (E:=λ_=>False) (Q0:=λw=>w.heap[b1]?=some (Z4 d)/\w.heap[b2]?=some (Ad2 n)) (Q1:=λ_ _ _=>True) (a0:=()) (act:=u (syR n)) (part:=none) (A.ext e12) ok hN ⟨e2.ext_get n1,n2⟩ trivial (λ_ h=>h.elim) (λ_ h=>h.elim)
  (λw1 w2 S ⟨h1,h2⟩ u hS=>⟨u.get h1 λh=>?_,u.get h2 λh=>?_⟩) (λ_ _ _ _ _ _ _ _=>trivial) (λD1 _ ok1=>⟨Ca2 ok1 n,Bo7 λ_ _=>trivial⟩) (.inl ⟨rfl,rfl⟩) ?_
 {have:=hS _ h;have:=hlt d hd;omega};{have:=hS _ h;have:=hlt d hd;omega};{intro F' w' v hv hD _ hu hF;have hs:=e12.size;exact hK F' w' v ⟨hv.ok,λh=>let ⟨b,k,h1,h2,h3,h4⟩:=hv.bad h;⟨b,k,h1,h2,by omega,h4⟩⟩ hD ((Upd.Ae e12).trans (hu.mono λk _ h=>h.resolve_right id)) λk hk=>(hF k hk).imp id λh=>by rcases h with h|h;exact h.elim;omega}
def Ao4 (A:Dn w d F D) (ok:Bj D N) (hN:N+2<=2^60){K:Value->Wp}(hK:Ends w d F ⟨#[115,121,110,99,100,105,114]⟩ ⟨#[]⟩ (Bg D) K):Aa prog 76 #[dU d] (.one (.one .any)) K w:=by
 refine j76 ?_;unfold F76;refine Ag λb1 w1 e1 n1 hb1 _=>?_;refine Af n1 (x:=some (at0 d)) rfl ?_;have hs1:=e1.size;have hlt:=A.lt;have hd:=A.fd;refine Lj (M:=λ_=>False) (E:=λ_=>False) (Q0:=λw=>w.heap[b1]?=some (Z4 d)) (Q1:=λ_ _ _=>True) (a0:=()) (act:=u λD=>(Dsk.settle D,0)) (part:=none) (A.ext e1) ok hN n1 trivial (λ_ h=>h.elim) (λ_ h=>h.elim)
  (λw1 w2 S h1 u hS=>u.get h1 λh=>?_) (λ_ _ _ _ _ _ _ _=>trivial) (λD1 _ ok1=>⟨(Wu ok1).mono (tX _),?_⟩) (.inl ⟨rfl,rfl⟩) ?_
 {have:=hS _ h;have:=hlt d hd;omega};{rintro w1 F1 K ⟨ms,ml,sa,pl,vs,fb,ds,A⟩ ok n1 hF hz hK;refine func_x (by kernel_rfl) ?_;refine j106 (v0:=at0 b1) ?_;unfold F106;refine Af n1 (x:=some (at0 d)) rfl (Au7 A λm' w2 A2 u2 hm'=>?_);exact hK w2 _ A2.in trivial (u2.mono λk _ e=>.inl (by rw [e];exact FN.of A.fd A.box λc fr h=>by cases h)) λk hk=>hk.imp id λh=>.inr (by omega)};{intro F' w' v hv hD _ hu hF;exact hK F' w' v ⟨hv.ok,λh=>let ⟨b,k,h1,h2,h3,h4⟩:=hv.bad h;⟨b,k,h1,h2,by omega,h4⟩⟩ hD ((Upd.Ae e1).trans (hu.mono λk _ h=>h.resolve_right id)) λk hk=>(hF k hk).imp id λh=>by rcases h with h|h;exact h.elim;omega}
def Av2 (A:Dn w d F D) (ok:Bj D N) (hN:N+2<=2^30){n:Nm}{K:Value->Wp}(hK:Ends w d F ⟨#[114,101,109,111,118,101]⟩ n (Au D n) K):Aa prog 75 #[dU d,.string n] (.one (.one .any)) K w:=by
 refine j75 ?_;unfold F75;refine Ag λb1 w1 e1 n1 hb1 _=>Ag λb2 w2 e2 n2 hb2 _=>?_;have e12:=e1.trans e2;refine Af (e2.ext_get n1) (x:=some (at0 d)) rfl (Af n2 (x:=n) rfl ?_);have hs1:=e1.size;have hs2:=e2.size;have hlt:=A.lt;have hd:=A.fd;refine Lj (M:=λk=>k=b2) (E:=λk=>k=b2) (Q0:=λw=>w.heap[b1]?=some (Z4 d)/\w.heap[b2]?=some (Ad2 n)) (Q1:=λ_ _ _=>True) (a0:=()) (act:=u (rmR n)) (part:=none) (A.ext e12) ok (by omega) ⟨e2.ext_get n1,n2⟩ trivial (λk hk=>⟨by rw [hk];exact lt_of_heap n2,λh=>?_⟩) (λ_ h=>h)
  (λw1 w2 S ⟨h1,h2⟩ u hS=>⟨u.get h1 λh=>?_,u.get h2 λh=>?_⟩) (λ_ _ _ _ _ _ _ _=>trivial) (λD1 _ ok1=>⟨Ca3 ok1 n,?_⟩) (.inl ⟨rfl,rfl⟩) ?_
 {have:=hlt k h;omega};{have:=hS _ h;have:=hlt d hd;omega};{have:=hS _ h;have:=hlt d hd;omega}
 ·rintro w1 F1 K ⟨ms,ml,sa,pl,vs,fb,ds,A⟩ ok ⟨n1,n2⟩ hF hz hK;refine func_x (by kernel_rfl) ?_;refine j103 (v0:=at0 b1) (v1:=at0 b2) ?_;unfold F103;refine Af n1 (x:=some (at0 d)) rfl (Af n2 (x:=n) rfl (Jy A λnm w2 e2 hnm=>?_));unfold u rmR at hK;obtain ⟨o,e,hfo⟩:∃o e,Dsk.find D1 n=(o,e):=⟨_,_,rfl⟩;rw [hfo] at hK hnm ⊢;refine ((St.start w1).ext e2).Iz rfl rfl rfl λb4 w3 S3 e3=>?_;have e13:=e2.trans e3;cases o with
  |none=>have he:e≠0:=(by rcases Oa hfo with ⟨_,h⟩|⟨_,h⟩<;>rw [h]<;>decide);refine Ai (λ_ w'=>w3=w') (Ac (λh=>absurd (by simpa using h) he) (λ_=>rfl)) λ_ w' h=>?_;subst h;exact hK w3 F1 (A.ext e13).in trivial (Upd.Ae e13) λk hk=>.inl hk
  |some i=>obtain ⟨hs,rfl,_⟩:=Iw hfo;have A3:=(A.ext e13).more (F':=λk=>F1 k\/k=b2) (λk hk=>.inl hk) (λk hk=>hk.elim ((A.ext e13).lt k) λh=>by rw [h];exact lt_of_heap (e13.ext_get n2));have hal:=ok.acts;refine Ai (λ_ w'=>∃F2,Dn w' d F2 { D1 with acts:=D1.acts++[.rm n] }/\Upd (λk=>FN w1 F1 k\/k=b2) w1 w'/\∀k,F2 k->F1 k\/k=b2\/w1.heap.size<=k) (Ee (Af (e13.ext_get n1) (x:=some (at0 d)) rfl (Ah2 A3 (a:=.rm n) ⟨b2,rfl,e13.ext_get n2,.inr rfl⟩ rfl (by omega) λsa' w4 A4 u4 hb4=>⟨_,A4.in,(Upd.Ae e13).new u4 λk hk h=>?_,λk hk=>?_⟩))) ?_;{rcases h.1 with hk'|hk';{exact .inl ⟨hk',λc fr hc=>h.2 c fr (e13.ext_get hc)⟩};{exact .inr hk'}};{have hz:=e13.size;rcases hk with (hk|hk)|hk;{exact .inl hk};{exact .inr (.inl hk)};{rcases hb4 k hk with (h|h)|h;{exact .inl h};{exact .inr (.inl h)};{exact .inr (.inr (by omega))}}};{rintro _ w4 ⟨F2,A4,u4,hF4⟩;exact hK w4 F2 A4 trivial u4 hF4}
 {intro F' w' v hv hD _ hu hF;exact hK F' w' v ⟨hv.ok,λh=>let ⟨b,k,h1,h2,h3,h4⟩:=hv.bad h;⟨b,k,h1,h2,by omega,h4⟩⟩ hD ((Upd.Ae e12).new hu λk hk h=>h.resolve_right (by omega)) λk hk=>(hF k hk).imp id λh=>by omega}
end
end Dq
end
section
namespace Dq
open Go Go.Vx Dsk
section
variable {w w':World}{S F F':Nat->Prop}{d m ms ml:Nat}{f:Dir}{fb:List Nat}{ds:List Sl}{fs:List Fl}{sa:Sl}{vs:List Value}{D:Dk}{pl:Option Nat}{p:Int->Option Ce}{N:Nat}
def Av1 (A:Dn w d F D) (ok:Bj D N) (hN:N+2<=2^30){n t:Nm}{K:Value->Wp}(hK:Ends w d F ⟨#[114,101,110,97,109,101]⟩ n (Dc D n t) K):Aa prog 140 #[dU d,.string n,.string t] (.one (.one .any)) K w:=by
 refine Dh8 ?_;unfold F140;refine Ag λb1 w1 e1 n1 hb1 _=>Ag λb2 w2 e2 n2 hb2 _=>Ag λb3 w3 e3 n3 hb3 _=>?_;have e23:=e2.trans e3;have e13:=e1.trans e23;refine Af (e23.ext_get n1) (x:=some (at0 d)) rfl (Af (e3.ext_get n2) (x:=n) rfl ?_);have hs1:=e1.size;have hs2:=e2.size;have hs3:=e3.size;have hlt:=A.lt;have hd:=A.fd;refine Lj (M:=λk=>k=b3) (E:=λk=>k=b3) (Q0:=λw=>w.heap[b1]?=some (Z4 d)/\w.heap[b2]?=some (Ad2 n)/\w.heap[b3]?=some (Ad2 t)) (Q1:=λ_ _ _=>True) (a0:=()) (act:=u (mvR n t)) (part:=none) (A.ext e13) ok (by omega) ⟨e23.ext_get n1,e3.ext_get n2,n3⟩ trivial (λk hk=>⟨by rw [hk];exact lt_of_heap n3,λh=>?_⟩) (λ_ h=>h)
  (λw1 w2 S ⟨h1,h2,h3⟩ u hS=>⟨u.get h1 λh=>?_,u.get h2 λh=>?_,u.get h3 λh=>?_⟩) (λ_ _ _ _ _ _ _ _=>trivial) (λD1 _ ok1=>⟨Ca5 ok1 n t,?_⟩) (.inl ⟨rfl,rfl⟩) ?_
 {have:=hlt k h;omega};{have:=hS _ h;have:=hlt d hd;omega};{have:=hS _ h;have:=hlt d hd;omega};{have:=hS _ h;have:=hlt d hd;omega}
 ·rintro w1 F1 K ⟨ms,ml,sa,pl,vs,fb,ds,A⟩ ok ⟨n1,n2,n3⟩ hF hz hK;refine func_x (by kernel_rfl) ?_;refine Df9 (v0:=at0 b3) (v1:=at0 b1) (v2:=at0 b2) ?_;unfold F171;unfold u mvR at hK;refine Af n3 (x:=t) rfl (Vm λw2 e2=>Ac (λh=>?_) (λh=>?_));{have h:Bl t=false:=(by simpa using h);rw [iK h] at hK;exact hK w2 F1 (A.ext e2).in trivial (Upd.Ae e2) λk hk=>.inl hk};have h:¬Bl t=false:=(by simpa using h);rw [iP h] at hK;refine Af (e2.ext_get n1) (x:=some (at0 d)) rfl (Af (e2.ext_get n2) (x:=n) rfl (Jy (A.ext e2) λnm w3 e3 hnm=>?_));obtain ⟨o,e,hfo⟩:∃o e,Dsk.find D1 n=(o,e):=⟨_,_,rfl⟩;rw [hfo] at hK hnm ⊢;have e13:=e2.trans e3;refine ((St.start w1).ext e13).Iz rfl rfl rfl λb4 w4 S4 e4=>?_;have e14:=e13.trans e4;cases o with
  |none=>have he:e≠0:=(by rcases Oa hfo with ⟨_,h⟩|⟨_,h⟩<;>rw [h]<;>decide);refine Ai (λ_ w'=>w4=w') (Ar (false,()) (Ac (λh=>absurd (by simpa using h) he) (λ_=>⟨rfl,rfl⟩)) (Bh rfl)) λ_ w' h=>?_;subst h;exact hK w4 F1 (A.ext e14).in trivial (Upd.Ae e14) λk hk=>.inl hk
  |some i=>obtain ⟨hs,rfl,_⟩:=Iw hfo;have hnm:=hnm rfl;subst hnm;dsimp only at hK;refine Ai (λ_ w'=>∃F2 D2,(if nm=t then (D1,0) else ({ D1 with acts:=D1.acts++[.mv nm t i] },0))=(D2,(0:Int))/\Dn w' d F2 D2/\Upd (λk=>FN w1 F1 k\/k=b3) w1 w'/\∀k,F2 k->F1 k\/k=b3\/w1.heap.size<=k) ?_ ?_;{refine Ar (decide (¬nm=t),()) (Ee (Af (e14.ext_get n2) (x:=nm) rfl (Af (e14.ext_get n3) (x:=t) rfl ⟨by rw [bytes_eq];simp,rfl⟩))) (Ac (λh=>?_) (λh=>?_));{have h:¬nm=t:=(by simpa using h);have hb4:=S4.ge 0 rfl;have n4:=S4.at_ 0 rfl;have hb4l:=lt_of_heap n4;have A4:=(A.ext e14).more (F':=λk=>(F1 k\/k=b3)\/k=b4) (λk hk=>.inl (.inl hk)) (λk hk=>hk.elim (λhk=>hk.elim ((A.ext e14).lt k) λh=>by rw [h];exact lt_of_heap (e14.ext_get n3)) λh=>by rw [h];exact hb4l);have hal:=ok.acts;refine Af (e14.ext_get n1) (x:=some (at0 d)) rfl (Ah2 A4 (a:=.mv nm t i) ⟨b4,b3,rfl,n4,e14.ext_get n3,.inr rfl,.inl (.inr rfl),A.seen.ids nm i hs⟩ rfl (by omega) λsa' w5 A5 u5 hb5=>⟨_,_,by rw [iP h],A5.in,(Upd.Ae e14).new u5 λk hk h=>?_,λk hk=>?_⟩);{rcases h.1 with (hk'|hk')|hk';{exact .inl ⟨hk',λc fr hc=>h.2 c fr (e14.ext_get hc)⟩};{exact .inr hk'};{omega}};{have hz:=e14.size;rcases hk with ((hk|hk)|hk)|hk;{exact .inl hk};{exact .inr (.inl hk)};{exact .inr (.inr (by omega))};{rcases hb5 k hk with ((h|h)|h)|h;{exact .inl h};{exact .inr (.inl h)};{exact .inr (.inr (by omega))};{exact .inr (.inr (by omega))}}}};{have h:nm=t:=(by simpa using h);exact ⟨F1,D1,by rw [iK h],(A.ext e14).in,Upd.Ae e14,λk hk=>.inl hk⟩}};{rintro _ w5 ⟨F2,D2,hD2,A5,u5,hF5⟩;rw [hD2] at hK;exact hK w5 F2 A5 trivial u5 hF5}
 {intro F' w' v hv hD _ hu hF;exact hK F' w' v ⟨hv.ok,λh=>let ⟨b,k,h1,h2,h3,h4⟩:=hv.bad h;⟨b,k,h1,h2,by omega,h4⟩⟩ hD ((Upd.Ae e13).new hu λk hk h=>h.resolve_right (by omega)) λk hk=>(hF k hk).imp id λh=>by omega}
def Br2 (A:Dn w d F D) (ok:Bj D N) (hN:N+2<=2^30){n:Nm}{K:Value->Wp}(hK:Ends w d F ⟨#[109,97,107,101]⟩ n (Bz D n) K):Aa prog 137 #[dU d,.string n] (.one (.one .any)) K w:=by
 refine j137 ?_;unfold F137;refine Ag λb1 w1 e1 n1 hb1 _=>Ag λb2 w2 e2 n2 hb2 _=>?_;have e12:=e1.trans e2;refine Af (e2.ext_get n1) (x:=some (at0 d)) rfl (Af n2 (x:=n) rfl ?_);have hs1:=e1.size;have hs2:=e2.size;have hlt:=A.lt;have hd:=A.fd;refine Lj (M:=λk=>k=b2) (E:=λk=>k=b2) (Q0:=λw=>w.heap[b1]?=some (Z4 d)/\w.heap[b2]?=some (Ad2 n)) (Q1:=λ_ _ _=>True) (a0:=()) (act:=u (mkR n)) (part:=none) (A.ext e12) ok (by omega) ⟨e2.ext_get n1,n2⟩ trivial (λk hk=>⟨by rw [hk];exact lt_of_heap n2,λh=>?_⟩) (λ_ h=>h)
  (λw1 w2 S ⟨h1,h2⟩ u hS=>⟨u.get h1 λh=>?_,u.get h2 λh=>?_⟩) (λ_ _ _ _ _ _ _ _=>trivial) (λD1 _ ok1=>⟨Ca6 ok1 n,?_⟩) (.inl ⟨rfl,rfl⟩) ?_
 {have:=hlt k h;omega};{have:=hS _ h;have:=hlt d hd;omega};{have:=hS _ h;have:=hlt d hd;omega}
 ·rintro w1 F1 K ⟨ms,ml,sa,pl,vs,fb,ds,A⟩ ok ⟨n1,n2⟩ hF hz hK;refine func_x (by kernel_rfl) ?_;refine Dg4 (v0:=at0 b1) (v1:=at0 b2) ?_;unfold F166;refine Af n1 (x:=some (at0 d)) rfl (Af n2 (x:=n) rfl (Jy A λnm w2 e2 hnm=>?_));unfold u mkR at hK;dsimp only at hK;obtain ⟨o,e,hfo⟩:∃o e,Dsk.find D1 n=(o,e):=⟨_,_,rfl⟩;rw [hfo] at hK hnm ⊢;dsimp only at hK;refine ((St.start w1).ext e2).Iz rfl rfl rfl λb4 w3 S3 e3=>?_;have e13:=e2.trans e3;have A3:=A.ext e13;refine Ac (λh=>?_) (λh=>?_);{have h:e=164:=(by simpa using h);rw [iK h] at hK;subst h;exact hK w3 F1 A3.in trivial (Upd.Ae e13) λk hk=>.inl hk};have h:¬e=164:=(by simpa using h);rw [iP h] at hK;refine Ac (λh0=>?_) (λh0=>?_);{have h0:e=0:=(by simpa using h0);rw [iK h0] at hK;exact hK w3 F1 A3.in trivial (Upd.Ae e13) λk hk=>.inl hk};have h0:¬e=0:=(by simpa using h0);rw [iP h0] at hK;refine Af (e13.ext_get n1) (x:=some (at0 d)) rfl (Ad ?_);rw [addr_add];refine Af A3.box (x:=some ms) rfl (A3.seen.len (Ac (λhc=>?_) (λhc=>?_)));{(have hc:16<=(names D1.seen).length:=by have:=jY hc;omega);rw [iK hc] at hK;exact hK w3 F1 A3.in trivial (Upd.Ae e13) λk hk=>.inl hk};(have hc:¬16<=(names D1.seen).length:=by have:=sK hc;omega);rw [iP hc] at hK;have hnum:=ok.num;refine Af (e13.ext_get n1) (x:=some (at0 d)) rfl (Af5 A3 (by omega) λb w4 A4 u4 hb4=>Ag λb11 w5 e5 n5 hb5 _=>?_);have hdb:∀k,k≠d->∀{o},w3.heap[k]?=some o->w4.heap[k]?=some o:=λk hk o ho=>u4.get ho hk;have hd1:=hF d A.fd;have hblt:=lt_of_heap n1;have hb2lt:=lt_of_heap n2;(have hbd1:b1≠d:=λe=>by rw [e,A.box] at n1;cases n1);(have hbd2:b2≠d:=λe=>by rw [e,A.box] at n2;cases n2);refine Dj n5 (by simp) λw6 u6 n6 hz6=>?_;have e46:Ext w4 w6:=e5.new u6 λk hk h=>(by omega);have hz4:=u4.size;have hz13:=e13.size;have g1:w6.heap[b1]?=some (Z4 d):=e46.ext_get (hdb _ hbd1 (e13.ext_get n1));have g2:w6.heap[b2]?=some (Ad2 n):=e46.ext_get (hdb _ hbd2 (e13.ext_get n2));have A6:=(A4.ext e46).more (F':=λk=>((F1 k\/k=b)\/k=b2)\/k=b11) (λk hk=>.inl (.inl hk)) (λk hk=>hk.elim (λhk=>hk.elim ((A4.ext e46).lt k) λh=>by rw [h];exact lt_of_heap g2) λh=>by rw [h];exact lt_of_heap n6);have hlf:=A.files.lf;have hal:=ok.acts;have g3:w6.heap[b11]?=some (.cells #[.pointer (some (at0 ((fb++[b]).getD D1.files.length 0)))] 121 (0,0)):=by
   rw [n6,←hlf,rJ,nC (mJ _),nM];rfl
  refine Af g1 (x:=some (at0 d)) rfl (Ah2 A6 (a:=.mk n D1.files.length) ⟨b11,b2,rfl,g3,g2,.inr rfl,.inl (.inr rfl),by simp [hlf]⟩ rfl (by dsimp only;omega) λsa' w7 A7 u7 hb7=>hK w7 _ A7.in trivial ((((Upd.Ae e13).new u4 λk hk e=>.inl (by rw [e];exact FN.of A.fd A.box λc fr h=>by cases h)).trans (Upd.Ae e46)).new u7 λk hk h=>?_) λk hk=>?_);{rcases h.1 with ((hk'|hk')|hk')|hk';{refine .inl ⟨hk',λc fr hc=>?_⟩;by_cases hkd:k=d;{rw [hkd,A.box] at hc;cases hc};{exact h.2 c fr (e46.ext_get (hdb _ hkd (e13.ext_get hc)))}};{omega};{exact .inr hk'};{omega}};{rcases hk with (((hk|hk)|hk)|hk)|hk;{exact .inl hk};{exact .inr (.inr (by omega))};{exact .inr (.inl hk)};{exact .inr (.inr (by omega))};{have h46:=e46.size;rcases hb7 k hk with (((h|h)|h)|h)|h;{exact .inl h};{exact .inr (.inr (by omega))};{exact .inr (.inl h)};{exact .inr (.inr (by omega))};{exact .inr (.inr (by omega))}}}
 {intro F' w' v hv hD _ hu hF;exact hK F' w' v ⟨hv.ok,λh=>let ⟨b,k,h1,h2,h3,h4⟩:=hv.bad h;⟨b,k,h1,h2,by omega,h4⟩⟩ hD ((Upd.Ae e12).new hu λk hk h=>h.resolve_right (by omega)) λk hk=>(hF k hk).imp id λh=>by omega}
end
end Dq
end
section
namespace Dq
open Go Go.Vx Dsk
section
variable {w w':World}{S F F':Nat->Prop}{d m ms ml:Nat}{f:Dir}{fb:List Nat}{ds:List Sl}{fs:List Fl}{sa:Sl}{vs:List Value}{D:Dk}{pl:Option Nat}{p:Int->Option Ce}{N:Nat}
def Tt.back {w0 w1:World}{v:Value}{op nm:ByteArray}{e:Int}(h:Tt w1 w F v op nm e) (hz:w0.heap.size<=w1.heap.size):Tt w0 w F v op nm e :=
 ⟨h.ok,λhh=>let ⟨b,k,h1,h2,h3,h4⟩:=h.bad hh;⟨b,k,h1,h2,mM hz h3,h4⟩⟩
def Cg0 (b3 B:Nat) (a:List UInt8) (w:World) (F:Nat->Prop):Prop :=
 ∃s,w.heap[b3]?=some (.cells #[sv s] 30 (0,0))/\¬F b3/\Dl w B s a/\∀k,s.blk k->¬F k
def Cg0.keep {b3 B:Nat}{a:List UInt8}{w1 w2:World}{F1 F2:Nat->Prop}(h:Cg0 b3 B a w1 F1) (u:Upd F1 w1 w2) (hF:∀k,F2 k->F1 k\/w1.heap.size<=k):Cg0 b3 B a w2 F2:=by obtain ⟨s,h1,h2,h3,h4⟩:=h;refine ⟨s,u.get h1 h2,λhk=>(hF _ hk).elim h2 λh=>?_,h3.upd u λk _ hk=>h4 k hk,λk hk hF2=>(hF _ hF2).elim (h4 k hk) λh=>?_⟩;{have:=lt_of_heap h1;omega};{have:=h3.in.Ci hk;omega}
def Bp8 (A:Dn w d F D) (ok:Bj D N) (hN:N+2<=2^30){n:Nm}{K:aX->Wp}
  (hK:∀F' w' s v,Tt w w' F' v ⟨#[114,101,97,100]⟩ n (Aw D n).2.1->Dn w' d F' (Aw D n).1->Upd F w w'->(∀k,F' k->F k\/w.heap.size<=k)->Dl w' w.heap.size s (Aw D n).2.2->(∀k,s.blk k->¬F' k)->K (s,v,()) w') :
  Aa prog 49 #[dU d,.string n] bT K w:=by
 refine j49 ?_;unfold F49;refine Ag λb1 w1 e1 n1 hb1 _=>Ag λb2 w2 e2 n2 hb2 _=>Ag λb3 w3 e3 n3 hb3 _=>?_;have e23:=e2.trans e3;have e13:=e1.trans e23;refine Af (e23.ext_get n1) (x:=some (at0 d)) rfl (Af (e3.ext_get n2) (x:=n) rfl ?_);have hs1:=e1.size;have hs2:=e2.size;have hs3:=e3.size;have hlt:=A.lt;have hd:=A.fd;refine Lj (M:=λk=>k=b3) (E:=λ_=>False) (Q0:=λw=>w.heap[b1]?=some (Z4 d)/\w.heap[b2]?=some (Ad2 n)/\w.heap[b3]?=some (.cells #[.slice none 0 0] 30 (0,0))) (Q1:=Cg0 b3 w.heap.size) (a0:=[]) (act:=rdR n) (part:=none) (A.ext e13) ok (by omega) ⟨e23.ext_get n1,e3.ext_get n2,n3⟩ ⟨⟨none,0,0⟩,n3,λh=>?_,Am.nil _ _ _ _,λk ⟨q,hq,_⟩=>by cases hq⟩ (λk hk=>⟨by rw [hk];exact lt_of_heap n3,λh=>?_⟩) (λ_ h=>h.elim)
  (λw1 w2 S ⟨h1,h2,h3⟩ u hS=>⟨u.get h1 λh=>?_,u.get h2 λh=>?_,u.get h3 λh=>?_⟩) (λa w1 F1 w2 F2 h u hF=>h.keep u hF) (λD1 _ ok1=>⟨?_,?_⟩) (.inl ⟨rfl,rfl⟩) ?_
 {have:=hlt _ h;omega};{have:=hlt k h;omega};{have:=hS _ h;have:=hlt d hd;omega};{have:=hS _ h;have:=hlt d hd;omega};{have:=hS _ h;have:=hlt d hd;omega};{(have h1:(rdR n D1).1=D1:=by unfold rdR;split<;>rfl);rw [h1];exact ok1.mono (tX _)}
 ·rintro w1 F1 K ⟨ms,ml,sa,pl,vs,fb,ds,A⟩ ok ⟨n1,n2,n3⟩ hF hz hK;refine func_x (by kernel_rfl) ?_;refine j87 (v0:=at0 b1) (v1:=at0 b2) (v2:=at0 b3) ?_;unfold F87;refine Af n1 (x:=some (at0 d)) rfl (Af n2 (x:=n) rfl (Jy A λnm w2 e2 hnm=>?_));unfold rdR at hK;obtain ⟨o,e,hfo⟩:∃o e,Dsk.find D1 n=(o,e):=⟨_,_,rfl⟩;rw [hfo] at hK hnm ⊢;refine ((St.start w1).ext e2).Iz rfl rfl rfl λb4 w3 S3 e3=>?_;have e13:=e2.trans e3;(have hb3F:¬F1 b3:=λh=>by rcases hF _ h with h|h;have:=hlt _ h;omega;omega);cases o with
  |none=>have he:e≠0:=(by rcases Oa hfo with ⟨_,h⟩|⟨_,h⟩<;>rw [h]<;>decide);refine Ai (λ_ w'=>w3=w') (Ac (λh=>absurd (by simpa using h) he) (λ_=>rfl)) λ_ w' h=>?_;subst h;exact hK w3 F1 (A.ext e13).in ⟨⟨none,0,0⟩,e13.ext_get n3,hb3F,Am.nil _ _ _ _,λk ⟨q,hq,_⟩=>by cases hq⟩ (Upd.Ae e13) λk hk=>.inl hk
  |some i=>obtain ⟨hs,rfl,_⟩:=Iw hfo;have A3:=A.ext e13;obtain ⟨b,s,g,hb,hss,hg,hgb,hfl,hbx,hby⟩:=A3.Pz (ok.seen.ids n i hs);have hgl:=(ok.fil i g hg).1;dsimp only at hK;rw [hfl] at hK;have hz13:=e13.size;refine Ai (λ_ w'=>Cg0 b3 w.heap.size g.data w' F1/\Upd (λk=>k=b3) w3 w') (Ee (S3.ld 0 (x:=some (at0 b)) rfl (by simp only [jL,hgb];rfl) (Ad ?_))) ?_;{rw [addr_add];refine Af hbx (x:=s) rfl (Y3 hby.in.x (by omega) λs' w4 hs' e4=>Dj (e4.ext_get (e13.ext_get n3)) (by simp) λw5 u5 n5 hz5=>⟨⟨s',by rw [n5];rfl,hb3F,(hs'.box (e4.ext_get (e13.ext_get n3)) (by decide) u5).mono (by omega),λk hk hF1=>?_⟩,(Upd.Ae e4).new u5 λk _ h=>h⟩);have:=hs'.Dh hk;have:=A.lt k hF1;omega};{rintro _ w5 ⟨q5,u5⟩;exact hK w5 F1 (A3.in.frame u5 λk hk e=>hb3F (e▸hk)) q5 ((Upd.Ae e13).new u5 λk hk e=>.inr e) λk hk=>.inl hk}
 {intro F' w' v hv hD hq hu hF;obtain ⟨s,q1,q2,q3,q4⟩:=hq;have hu':Upd F w w':=(Upd.Ae e13).new hu λk hk h=>h.resolve_right (by omega);(have hF':∀k,F' k->F k\/w.heap.size<=k:=λk hk=>(hF k hk).imp id λh=>by rcases h with h|h;exact h.elim;omega);have hv:=hv.back (w0:=w) e13.size;by_cases he:(Aw D n).2.1=0;{have h0:v=.nilIface:=hv.ok he;subst h0;refine Sz (Bh (Af q1 (x:=s) rfl (hK F' w' s _ hv hD hu' hF' ?_ q4))) uE;unfold Aw at he ⊢;simp only [iK he];exact q3};{obtain ⟨b,k,rfl,h2,h3,h4⟩:=hv.bad he;refine Ad7 (Ee (hK F' w' _ _ hv hD hu' hF' ?_ λk ⟨q,hq,_⟩=>by cases hq)) uE;unfold Aw at he ⊢;simp only [iP he];exact Am.nil _ _ _ _}}
abbrev stb (a:Int×Int×Int):Obj:=.cells #[.int .i64 a.1,.int .i64 a.2.1,.int .i64 a.2.2] 57 (0,0)
def StQ (b:Nat) (a:Int×Int×Int) (w:World) (F:Nat->Prop):Prop:=w.heap[b]?=some (stb a)/\¬F b
def Bc3 (A:Dn w d F D) (ok:Bj D N) (hN:N+2<=2^30){n:Nm}{K:(bC×Value×Unit)->Wp}
  (hK:∀F' w' v,Tt w w' F' v ⟨#[115,116,97,109,112]⟩ n (Aj D n).2.1->Dn w' d F' (Aj D n).1->Upd F w w'->(∀k,F' k->F k\/w.heap.size<=k)->K (((Aj D n).2.2.1,(Aj D n).2.2.2.1,(Aj D n).2.2.2.2,()),v,()) w') :
  Aa prog 34 #[dU d,.string n] bK K w:=by
 refine j34 ?_;unfold F34;refine Ag λb1 w1 e1 n1 hb1 _=>Ag λb2 w2 e2 n2 hb2 _=>Ag λb3 w3 e3 n3 hb3 _=>Ag λb4 w4 e4 n4 hb4 _=>?_;have e34:=e3.trans e4;have e24:=e2.trans e34;have e14:=e1.trans e24;refine Af (e24.ext_get n1) (x:=some (at0 d)) rfl (Af (e34.ext_get n2) (x:=n) rfl ?_);have hs1:=e1.size;have hs2:=e2.size;have hs3:=e3.size;have hs4:=e4.size;have hlt:=A.lt;have hd:=A.fd;refine Lj (M:=λk=>k=b4) (E:=λ_=>False) (Q0:=λw=>w.heap[b1]?=some (Z4 d)/\w.heap[b2]?=some (Ad2 n)/\w.heap[b4]?=some (stb (0,0,0))) (Q1:=StQ b4) (a0:=(0,0,0)) (act:=stR n) (part:=none) (A.ext e14) ok (by omega) ⟨e24.ext_get n1,e34.ext_get n2,n4⟩ ⟨n4,λh=>?_⟩ (λk hk=>⟨by rw [hk];exact lt_of_heap n4,λh=>?_⟩) (λ_ h=>h.elim)
  (λw1 w2 S ⟨h1,h2,h3⟩ u hS=>⟨u.get h1 λh=>?_,u.get h2 λh=>?_,u.get h3 λh=>?_⟩) (λa w1 F1 w2 F2 ⟨h1,h2⟩ u hF=>⟨u.get h1 h2,λh=>(hF _ h).elim h2 λh=>?_⟩) (λD1 _ ok1=>⟨?_,?_⟩) (.inl ⟨rfl,rfl⟩) ?_
 {have:=hlt _ h;omega};{have:=hlt k h;omega};{have:=hS _ h;have:=hlt d hd;omega};{have:=hS _ h;have:=hlt d hd;omega};{have:=hS _ h;have:=hlt d hd;omega};{have:=lt_of_heap h1;omega};{(have h1:(stR n D1).1=D1:=by unfold stR;split<;>rfl);rw [h1];exact ok1.mono (tX _)}
 ·rintro w1 F1 K ⟨ms,ml,sa,pl,vs,fb,ds,A⟩ ok ⟨n1,n2,n4⟩ hF hz hK;refine func_x (by kernel_rfl) ?_;refine j66 (v0:=at0 b1) (v1:=at0 b2) (v2:=at0 b4) ?_;unfold F66;refine Af n1 (x:=some (at0 d)) rfl (Af n2 (x:=n) rfl (Jy A λnm w2 e2 hnm=>?_));unfold stR at hK;obtain ⟨o,e,hfo⟩:∃o e,Dsk.find D1 n=(o,e):=⟨_,_,rfl⟩;rw [hfo] at hK hnm ⊢;refine (((St.Bx0 (λk=>k=b4) w1 λk hk=>by rw [hk];exact lt_of_heap n4)).ext e2).Iz rfl rfl rfl λbh w3 S3 e3=>?_;have e13:=e2.trans e3;(have hb4F:¬F1 b4:=λh=>by rcases hF _ h with h|h;have:=hlt _ h;omega;omega);cases o with
  |none=>have he:e≠0:=(by rcases Oa hfo with ⟨_,h⟩|⟨_,h⟩<;>rw [h]<;>decide);refine Ai (λ_ w'=>w3=w') (Ac (λh=>absurd (by simpa using h) he) (λ_=>rfl)) λ_ w' h=>?_;subst h;exact hK w3 F1 (A.ext e13).in ⟨e13.ext_get n4,hb4F⟩ (Upd.Ae e13) λk hk=>.inl hk
  |some i=>obtain ⟨hs,rfl,_⟩:=Iw hfo;have A3:=A.ext e13;obtain ⟨b,s,g,hb,hss,hg,hgb,hfl,hbx,hby⟩:=A3.Pz (ok.seen.ids n i hs);dsimp only at hK;rw [hfl] at hK;have hlen:=hby.len1;rw [nO] at hlen;(have hbb:b≠b4:=λh=>by rw [h,e13.ext_get n4] at hbx;cases hbx);refine Ai (λ_ w'=>w'.heap[b4]?=some (stb ((i:Int)+1,g.data.length,g.count))/\Upd (λk=>k=b4) w3 w') (Ee (S3.drew λw4 S4 e4 _=>?_)) ?_;{have hbx:=e4.ext_get hbx;have n4:=e4.ext_get (e13.ext_get n4);refine S4.ld 0 (x:=some (at0 b)) rfl (by simp only [jL,hgb];rfl) (Ad (Af hbx (x:=(i:Int)+1) rfl (S4.ld 0 (x:=some (at0 b)) rfl (by simp only [jL,hgb];rfl) (Ad ?_))));rw [addr_add];refine Af hbx (x:=s) rfl (S4.ld 0 (x:=some (at0 b)) rfl (by simp only [jL,hgb];rfl) (Ad ?_));rw [addr_add];refine Af hbx (x:=g.count) rfl (Ba n4 rfl rfl (by simp) λw5 u5 n5 hz5=>?_);have n5:w5.heap[b4]?=some (stb (0,0,0)):=n5;have S5:=S4.step u5 λ_ h=>h;have hbx5:=u5.get hbx hbb;refine Bc (cell_of hbx5 (off:=3) rfl) (S5.keep 0 rfl (by simp only [jL,hgb];rfl) (Bc (cell_of hbx5 (off:=1) rfl) (S5.keep 0 rfl (by simp only [jL,hgb];rfl) (Bc (cell_of hbx5 (off:=0) rfl) (S5.keep 0 rfl (by simp only [jL,hgb];rfl) (Ea (by decide) ?_))))));refine Dj (off:=0) n5 (by simp) λw6 u6 n6 hz6=>?_;have S6:=S5.step u6 λ_ h=>h;have hbx6:=u6.get hbx5 hbb;refine Bc (cell_of hbx6 (off:=3) rfl) (S6.keep 0 rfl (by simp only [jL,hgb];rfl) (Bc (cell_of hbx6 (off:=1) rfl) (S6.keep 0 rfl (by simp only [jL,hgb];rfl) (Ea (by decide) ?_))));refine Dj (off:=1) n6 (by simp) λw7 u7 n7 hz7=>?_;have S7:=S6.step u7 λ_ h=>h;have hbx7:=u7.get hbx6 hbb;refine Bc (cell_of hbx7 (off:=3) rfl) (S7.keep 0 rfl (by simp only [jL,hgb];rfl) (Ea (by decide) ?_));refine Dj (off:=2) n7 (by simp) λw8 u8 n8 hz8=>⟨?_,(((Upd.Ae e4).trans u5).trans u6).trans (u7.trans u8)⟩;rw [n8,hlen];rfl};{rintro _ w5 ⟨q5,u5⟩;exact hK w5 F1 (A3.in.frame u5 λk hk e=>hb4F (e▸hk)) ⟨q5,hb4F⟩ ((Upd.Ae e13).new u5 λk hk e=>.inr e) λk hk=>.inl hk}
 ·intro F' w' v hv hD hq hu hF;obtain ⟨q1,q2⟩:=hq;have hu':Upd F w w':=(Upd.Ae e14).new hu λk hk h=>h.resolve_right (by omega);(have hF':∀k,F' k->F k\/w.heap.size<=k:=λk hk=>(hF k hk).imp id λh=>by rcases h with h|h;exact h.elim;omega);have hv:=hv.back (w0:=w) e14.size;(have hb3F:¬F' b3:=λh=>by rcases hF _ h with h|h|h;have:=hlt _ h;omega;exact h;omega);(have n3':w'.heap[b3]?=some (stb (0,0,0)):=hu.get (e4.ext_get n3) λh=>by rcases h with h|h;have:=hlt _ h;omega;omega);have low:∀{W:World} {a:Int×Int×Int},Upd (λk=>k=b3) w' W->(Aj D n).2.2=a->K ((a.1,a.2.1,a.2.2,()),v,()) W:=λ{W a} u h=>by
   have:=hK F' W v ⟨hv.ok,λhh=>let ⟨b,k,h1,h2,h3,h4⟩:=hv.bad hh;⟨b,k,h1,u.get h2 (λe=>by rw [e,n3'] at h2;cases h2),h3,h4⟩⟩ (hD.frame u λk hk e=>hb3F (e▸hk)) (hu'.new u λk hk e=>by omega) hF'
   rw [h] at this
   exact this
  by_cases he:(Aj D n).2.1=0
  ·have h0:v=.nilIface:=hv.ok he;have ha:(Aj D n).2.2=(Dsk.step D (0,0,0) (stR n) none).2.2:=by
    unfold Aj at he ⊢
    simp only [iK he]
   obtain ⟨a,haa⟩:∃a,(Dsk.step D (0,0,0) (stR n) none).2.2=a:=iG;rw [haa] at ha q1;subst h0;refine Sz (Bh (Dp (x:=(a.1,a.2.1,a.2.2,())) (c:=(Cells.vals c57 (a.1,a.2.1,a.2.2,())).toArray) q1 (λi v hv=>?_) ?_)) uE;{rw [kY,uH];exact hv};refine Ba n3' rfl rfl (by simp) λw6 u6 n6 hz6=>Dp (x:=(a.1,a.2.1,a.2.2,())) (c:=(Cells.vals c57 (a.1,a.2.1,a.2.2,())).toArray) n6 (λi v hv=>?_) (low u6 ha);rw [kY,uH];exact hv
  ·obtain ⟨b,k,rfl,h2,h3,h4⟩:=hv.bad he;have ha:(Aj D n).2.2=(0,0,0):=by
    unfold Aj at he ⊢
    simp only [iP he]
   refine Ad7 (Ee (Ba n3' rfl rfl (by simp) λw6 u6 n6 hz6=>Dp (x:=(0,0,0,())) (c:=(Cells.vals c57 (0,0,0,())).toArray) n6 (λi v hv=>?_) (low u6 ha))) uE;rw [kY,uH];exact hv
end
end Dq
end
section
namespace Dq
open Go Go.Vx Dsk
section
variable {w w':World}{S F F':Nat->Prop}{d m ms ml:Nat}{f:Dir}{fb:List Nat}{ds:List Sl}{fs:List Fl}{sa:Sl}{vs:List Value}{D:Dk}{pl:Option Nat}{p:Int->Option Ce}{N:Nat}
def Ej.frame (A:Ej w d F D ms ml sa pl vs fb ds) (u:Upd S w w') (hS:∀k,F k->¬S k):Ej w' d F D ms ml sa pl vs fb ds:=by
 refine ⟨u.get A.box (hS _ A.fd),A.seen.upd u (hS _ A.fms),A.lasts.upd u (hS _ A.fml),A.files.upd u (λb hb=>hS _ (A.ffb b hb)) (λs hs k hk=>hS _ (A.fds s hs k hk)),
  ⟨A.acts.row.upd u λk _ hk=>hS _ (A.fsa k hk),A.acts.len,λi v a hv ha=>(A.acts.at_ i v a hv ha).upd u hS λ_ h=>h⟩,?_,A.ne,A.nes,A.nel,A.fd,A.fms,A.fml,A.ffb,A.fds,A.fsa,λk hk=>mP (A.lt k hk) u.size⟩
 rcases A.plan with h|⟨m,es,g1,g2,g3,g4⟩;{exact .inl h};{exact .inr ⟨m,es,g1,g2,g3.upd u (hS m g2),λk=>(g4 k).old u hS⟩}
def Cw5 {x:Sl}{l:List UInt8}(hx:Bytes w x l){h:Int}(h0:0<=h) (hh:h<=x.len){K:Sl->Wp}(hK:∀s',Bytes w s' (l.take h.toNat)->s'.len=h.toNat->(∀k,s'.blk k->x.blk k)->K s' w) :
  slc x.a 0 h ((x.cap:Nat):Int) x.cap 1 K w:=by rcases hx.at_ with ⟨h1,h2⟩|⟨t,hi⟩;{have hz:h=0:=(by omega);subst hz;have hl:l=[]:=(by simpa using h2);refine ⟨(),⟨kJ 0,kJ 0,by omega,kJ _⟩,hK _ ⟨.inl ⟨rfl,by rw [hl];rfl⟩⟩ rfl λk hk=>?_⟩;obtain ⟨p,hp,rfl⟩:=hk;have hp':(if ((x.cap:Nat):Int).toNat=(0:Int).toNat then x.a else x.a.map λp=>p.add (scaled (0:Int).toNat 1))=some p:=hp;split at hp';{exact ⟨p,hp',rfl⟩};{obtain ⟨q,hq,rfl⟩:=rG.1 hp';exact ⟨q,hq,rfl⟩}};{have hle:=hi.le;refine Nr hi (kJ 0) h0 hh (by omega) (kJ _) λs' hi' hl _ hb=>hK s' ⟨.inr ⟨t,?_⟩⟩ (by omega) hb;simpa [tK] using hi'}
abbrev Bg0 (k:Int):Obj:=.cells #[.int .i64 k] 3 (0,0)
def room_le (ok:Bj D N):0<=room D/\room D<=1048576:=by have:=ok.space;have:=ok.used none;unfold room;omega
def Ab7 {b1 b2 b4:Nat}{n:Nm}{x:Sl}{l:List UInt8}(A:Ej w d F D ms ml sa pl vs fb ds) (ok:Bj D N) (hN:N<=2^30) (n1:w.heap[b1]?=some (Z4 d)) (n2:w.heap[b2]?=some (Ad2 n)) (n4:w.heap[b4]?=some (Bg0 0)) (h4:¬F b4)
  (hx:Bytes w x l) (hxb:Lie (λk=>k≠b4) x) {K:Int->Wp}
  (hK:∀w' F2,Dn w' d F2 (apR n l D).1->w'.heap[b4]?=some (Bg0 (apR n l D).2.2)->Upd (λk=>FN w F k\/k=b4) w w'->(∀k,F2 k->F k\/w.heap.size<=k)->K (apR n l D).2.1 w') :
  Aa prog 201 #[x.v,dU b1,dU b2,dU b4] rI K w:=by
 refine De3 ?_;unfold F201;refine Af n1 (x:=some (at0 d)) rfl (Af n2 (x:=n) rfl (Jy A λnm w2 e2 hnm=>?_));unfold apR at hK;obtain ⟨o,e,hfo⟩:∃o e,Dsk.find D n=(o,e):=⟨_,_,rfl⟩;rw [hfo] at hK hnm ⊢;refine (((St.Bx0 (λk=>k=b4\/F k) w λk hk=>hk.elim (λhk=>by rw [hk];exact lt_of_heap n4) (A.lt k))).ext e2).Iz rfl rfl rfl λbh w3 S3 e3=>?_;have e13:=e2.trans e3;cases o with
 |none=>have he:e≠0:=(by rcases Oa hfo with ⟨_,h⟩|⟨_,h⟩<;>rw [h]<;>decide);exact Ac (λ_=>hK w3 F (A.ext e13).in (e13.ext_get n4) (Upd.Ae e13) λk hk=>.inl hk) λh=>absurd (by simpa using h) he
 | some i =>
  obtain ⟨hs,rfl,_⟩:=Iw hfo;have hxl:=hx.len1;rw [nO] at hxl;obtain ⟨kk,hkk⟩:∃kk:Int,kk=if room D<(l.length:Int) then room D else l.length:=⟨_,rfl⟩;have hrl:=room_le ok;(have hk0:0<=kk/\kk<=l.length/\kk<=1048576:=by rw [hkk];split<;>omega);dsimp only at hK;rw [←hkk] at hK;refine Ac (λh=>by simp at h) λ_=>(Af (e13.ext_get n1) (x:=some (at0 d)) rfl (Bp6 (A.ext e13) ok λw4 e4=>?_));have e14:=e13.trans e4;have S4:=S3.ext e4;rw [show (if room D<((x.len:Nat):Int) then room D else ((x.len:Nat):Int))=kk by rw [hkk,←hxl]];refine Dj (e14.ext_get n4) (by simp) λw5 u5 n5 hz5=>?_;have n5:w5.heap[b4]?=some (Bg0 kk):=n5;have S5:=S4.step u5 λ_ h=>.inl h;refine S5.drew λw6 S6 e6 _=>?_;have A6:=((A.ext e14).frame u5 λk hk e=>h4 (e▸hk)).ext e6;have n6:=e6.ext_get n5;obtain ⟨b,s,g,hb,hss,hg,hgb,hfl,hbx,hby⟩:=A6.Pz (ok.seen.ids n i hs);have hgl:=ok.fil i g hg;have hlen:=hby.len1;rw [nO] at hlen;have hfb:=A.ffb b (lU hb);have hfs:=A.fds s (lU hss);have x6:Bytes w6 x l:=(SlX.Yd (hx.ext e14) hxb u5 λk hk e=>hk e).ext e6;refine S6.ld 0 (x:=some (at0 b)) rfl (by simp only [jL,hgb];rfl) (S6.ld 0 (x:=some (at0 b)) rfl (by simp only [jL,hgb];rfl) (Ad ?_));rw [addr_add];refine Af hbx (x:=s) rfl (Af n6 (x:=kk) rfl (Cw5 x6 hk0.1 (by omega) λx' hx' hxl' _=>?_));have hb4b:b≠b4:=λe=>h4 (e▸hfb);have nb:∀{k:Nat} {c:Array Value} {t:TypeId} {fr:Nat×Nat},t≠5->w6.heap[k]?=some (.cells c t fr)->¬s.blk k:=λht hk h=>by
   obtain ⟨c',fr',hc'⟩:=hby.in.Bf h
   rw [hk] at hc';cases hc';exact ht rfl
  refine Ed EB uB (B:=0) hby hx' (Ph _) (by omega) (qI _) λs' w7 hs' hsl u7 hsb=>?_;have hsl':s'.len=(g.data++l.take kk.toNat).length:=by
   have:=hs'.len1
   rw [←this,←oQ,nO]
  have S7:=S6.step u7 λk hk=>.inr (hfs k hk);have bx7:=u7.get hbx (nb (by decide) hbx);have n7:=u7.get n6 (nb (by decide) n6);refine S7.keep 0 (off:=0) rfl (by simp only [jL,hgb];rfl) (Ad ?_);rw [addr_add];refine Dj bx7 (by simp) λw8 u8 n8 hz8=>?_;obtain ⟨g',hg'⟩:∃g':Fl,g'=⟨g.data++l.take kk.toNat,g.synced,if kk>0 then g.count+1 else g.count⟩:=⟨_,rfl⟩;have n8:w8.heap[b]?=some (Uj i s' ⟨g.data++l.take kk.toNat,g.synced,g.count⟩):=n8;have S8:=S7.step u8 λk hk=>.inr (by rw [hk];exact hfb);have q8:=u8.get n7 (Ne.symm hb4b);have hc:W64 (g.count+1)=g.count+1:=iE (by omega);refine Ai (λ_ w'=>w'.heap[b]?=some (Uj i s' g')/\Upd (λk=>k=b) w8 w') (Af q8 (x:=kk) rfl (Ac (λh=>?_) λh=>?_)) ?_;{have h:kk>0:=jY h;refine S8.ld 0 (x:=some (at0 b)) rfl (by simp only [jL,hgb];rfl) (Ad ?_);rw [addr_add];refine Af n8 (x:=g.count) rfl (Ad ?_);rw [addr_add,hc];refine Dj n8 (by simp) λw9 u9 n9 _=>⟨?_,u9⟩;rw [n9,hg',iK h];rfl};{have h:¬kk>0:=sK h;exact ⟨by rw [n8,hg',iP h],Upd.refl _ _⟩}
  ·rintro _ w9 ⟨n9,u9⟩;have u69:Upd (λk=>k=b\/s.blk k) w6 w9:=((u7.mono λk _ h=>.inr h).trans (u8.mono λk _ h=>.inl h)).trans (u9.mono λk _ h=>.inl h);have hd9:g'.data=g.data++l.take kk.toNat:=(by rw [hg']);have ho:Dl w9 0 s' g'.data:=by
    rw [hd9]
    have:=(hs'.box bx7 (by decide) u8).box n8 (by decide) u9
    rwa [←oQ] at this
   have A9:=A6.Af8 hb hss hg u69 (λk hk _=>hk) n9 ho (λk hk=>(hsb k hk));have q9:=u9.get q8 (Ne.symm hb4b);have hz16:w.heap.size<=w6.heap.size:=mM e14.size (mM u5.size e6.size);have e56:Upd (λk=>FN w F k\/k=b4) w w6:=((Upd.Ae e14).trans (u5.mono λk _ h=>.inr h)).trans (Upd.Ae e6);have uall:Upd (λk=>FN w F k\/k=b4) w w9:=e56.new u69 λk hk h=>.inl ⟨?_,λc fr hc=>?_⟩
   ·have fin:∀e,e=(if kk<(l.length:Int) then (161:Int) else 0)->K e w9:=λe he=>by
     rw [he]
     refine hK w9 _ (by rw [Ig hg,←hg'];exact A9.in) q9 uall λk (hk:F k\/s'.blk k)=>hk.elim .inl λh=>(hsb k h).imp (hfs k) λh=>by omega
    refine Af q9 (x:=kk) rfl (Ac (λh=>fin _ ?_) λh=>fin _ ?_);{have h:=jY h;rw [iK (by omega)]};{have h:=sK h;rw [iP (by omega)]}
   {rcases h with h|h;{rw [h];exact hfb};{exact hfs k h}}
   ·have hk4:k≠b4:=λe=>by
     rcases h with h|h
     ·exact hb4b (h▸e)
     ·exact h4 (e▸hfs k h)
    have:=e56.get hc λhh=>hh.elim (λhh=>hh.2 c fr hc) hk4;rcases h with h|h;{rw [h,hbx] at this;cases this};{exact nb (by decide) this h}
def Ba7 (A:Dn w d F D) (ok:Bj D N) (hN:N+2<=2^30){n:Nm}{x:Sl}{l:List UInt8}(hx:Bytes w x l) (hxb:Lie (λk=>k<w.heap.size/\¬F k) x){K:aQ->Wp}
  (hK:∀F' w' v,Tt w w' F' v ⟨#[97,112,112,101,110,100]⟩ n (Bv D n l).2.1->Dn w' d F' (Bv D n l).1->Upd F w w'->(∀k,F' k->F k\/w.heap.size<=k)->K ((Bv D n l).2.2,v,()) w') :
  Aa prog 169 #[dU d,.string n,x.v] cO K w:=by
 refine Dg1 ?_;unfold F169;refine Ag λb1 w1 e1 n1 hb1 _=>Ag λb2 w2 e2 n2 hb2 _=>Ag λb3 w3 e3 n3 hb3 _=>Ag λb4 w4 e4 n4 hb4 hz4=>Dj n4 (by simp) λw5 u5 n5 hz5=>?_;have e45:Ext w3 w5:=e4.new u5 λk hk h=>(by omega);have n5:w5.heap[b4]?=some (Bg0 0):=n5;refine Ag λb5 w6 e6 n6 hb6 hz6=>Ea rfl (Dj n6 (by simp) λw7 u7 n7 hz7=>?_);have e57:Ext w5 w7:=e6.new u7 λk hk h=>(by omega);have n7:w7.heap[b5]?=some (.cells #[.func (.func 201) #[] #[dU b1,dU b2,dU b4]] 305 (0,0)):=n7;have e37:=e45.trans e57;have e27:=e3.trans e37;have e17:=e2.trans e27;have e07:=e1.trans e17;refine Af (e17.ext_get n1) (x:=some (at0 d)) rfl (Af (e27.ext_get n2) (x:=n) rfl ?_);have hs1:=e1.size;have hs2:=e2.size;have hs3:=e3.size;have hs4:=e4.size;have hs57:=e57.size;have hlt:=A.lt;have hd:=A.fd;refine Lj (M:=λk=>k=b4) (E:=λ_=>False) (Q0:=λw=>w.heap[b1]?=some (Z4 d)/\w.heap[b2]?=some (Ad2 n)/\w.heap[b3]?=some (.cells #[sv x] 30 (0,0))/\w.heap[b4]?=some (Bg0 0)/\w.heap[b5]?=some (.cells #[.func (.func 201) #[] #[dU b1,dU b2,dU b4]] 305 (0,0))/\Bytes w x l) (Q1:=λa w F=>w.heap[b4]?=some (Bg0 a)/\¬F b4) (a0:=0) (act:=apR n l) (part:=some (Vs n l)) (A.ext e07) ok (by omega) ⟨e17.ext_get n1,e27.ext_get n2,e37.ext_get n3,e57.ext_get n5,n7,hx.ext e07⟩ ⟨e57.ext_get n5,λh=>?_⟩ (λk hk=>⟨by rw [hk];exact lt_of_heap (e57.ext_get n5),λh=>?_⟩) (λ_ h=>h.elim)
  (λw1 w2 S ⟨h1,h2,h3,h4,h5,h6⟩ u hS=>⟨u.get h1 λh=>?_,u.get h2 λh=>?_,u.get h3 λh=>?_,u.get h4 λh=>?_,u.get h5 λh=>?_,SlX.Yd h6 hxb u λk hk h=>?_⟩) (λa w1 F1 w2 F2 ⟨h1,h2⟩ u hF=>⟨u.get h1 h2,λh=>(hF _ h).elim h2 λh=>?_⟩) (λD1 _ ok1=>⟨Bl2 ok1 n l,?_⟩) (.inr ⟨Vs n l,_,_,rfl,rfl,λD1 k _=>?_⟩) ?_
 {have:=hlt _ h;omega};{have:=hlt k h;omega};{have:=hS _ h;have:=hlt d hd;omega};{have:=hS _ h;have:=hlt d hd;omega};{have:=hS _ h;have:=hlt d hd;omega};{have:=hS _ h;have:=hlt d hd;omega};{have:=hS _ h;have:=hlt d hd;omega};{have h0:=hS _ h;exact hk.2 (h0▸hd)};{have:=lt_of_heap h1;omega};{rintro w1 F1 K ⟨ms,ml,sa,pl,vs,fb,ds,A⟩ ok ⟨n1,n2,n3,n4,n5,hx⟩ hF hz hK;(have hb4F:¬F1 b4:=λh=>by rcases hF _ h with h|h;have:=hlt _ h;omega;omega);refine func_x (by kernel_rfl) ?_;refine De1 (v0:=at0 b5) (v1:=at0 b3) ?_;unfold F203;refine Af n5 (x:=.func (.func 201) #[] #[dU b1,dU b2,dU b4]) rfl (Af n3 (x:=x) rfl (func_x (by kernel_rfl) (Ab7 A ok (by omega) n1 n2 n4 hb4F hx (hxb.imp id λh k hk e=>?_) λw' F2 h1 h2 h3 h4=>hK w' F2 h1 ⟨h2,λh=>?_⟩ h3 λk hk=>(h4 k hk).imp id .inr)));{have:=(h k hk).1;omega};{have:=lt_of_heap n4;exact (h4 _ h).elim hb4F λh=>by omega}};{rintro w1 F1 K ⟨ms,ml,sa,pl,vs,fb,ds,A⟩ ok ⟨n1,n2,n3,n4,n5,hx⟩ hF hz hK;(have hb4F:¬F1 b4:=λh=>by rcases hF _ h with h|h;have:=hlt _ h;omega;omega);refine func_x (by kernel_rfl) ?_;refine De0 (a0:=k) (v0:=at0 b5) (v1:=at0 b3) ?_;unfold F204;refine Az λw2 e2 _=>?_;have hxl:=hx.len1;rw [nO] at hxl;refine Af (e2.ext_get n5) (x:=.func (.func 201) #[] #[dU b1,dU b2,dU b4]) rfl (Af (e2.ext_get n3) (x:=x) rfl (Af (e2.ext_get n3) (x:=x) rfl ?_));obtain ⟨kk,hkk⟩:∃kk:Int,kk=min (max k 0) l.length:=⟨_,rfl⟩;rw [show (if ((x.len:Nat):Int)<(if (0:Int)>k then (0:Int) else k) then ((x.len:Nat):Int) else (if (0:Int)>k then (0:Int) else k))=kk by rw [hkk,←hxl];split<;>split<;>omega];refine Cw5 (hx.ext e2) (by omega) (by omega) λx' hx' hxl' hxb'=>?_;refine func_x (by kernel_rfl) (Ab7 (A.ext e2) ok (by omega) (e2.ext_get n1) (e2.ext_get n2) (e2.ext_get n4) hb4F hx' (hxb.imp (λh=>by omega) λh k hk e=>?_) λw' F2 h1 h2 h3 h4=>?_);{have:=(h k (hxb' k hk)).1;omega};have hK:=hK w' F2;unfold Vs at hK;dsimp only at hK;rw [←hkk] at hK;have hz2:=e2.size;have hK:=hK h1 ⟨h2,λh=>by have:=lt_of_heap n4;exact (h4 _ h).elim hb4F λh=>by omega⟩ (((Upd.Ae e2).trans (h3.mono λk hk h=>h.imp (λh=>⟨h.1,λc fr hc=>h.2 c fr (e2.ext_get hc)⟩) id))) λk hk=>(h4 k hk).imp id λh=>.inr (by omega);obtain ⟨e,he⟩:∃e,(apR n (List.take kk.toNat l) D1).2.1=e:=iG;rw [he] at hK ⊢;refine Ar (decide (e≠0/\e≠161),()) (Ac (λh=>⟨Di ?_,rfl⟩) λh=>⟨Di ?_,rfl⟩) (Ac (λh=>?_) λh=>?_);{have h:e≠0:=(by simpa using h);simp [h]};{have h:e=0:=(by simpa using h);simp [h]};{have h:e≠0/\e≠161:=jY h;rw [iK h] at hK;exact hK};{have h:¬(e≠0/\e≠161):=sK h;rw [iP h] at hK;exact hK}};{intro F' w' v hv hD hq hu hF;obtain ⟨q1,q2⟩:=hq;have hu':Upd F w w':=(Upd.Ae e07).new hu λk hk h=>h.resolve_right (by omega);(have hF':∀k,F' k->F k\/w.heap.size<=k:=λk hk=>(hF k hk).imp id λh=>by rcases h with h|h;exact h.elim;omega);have hv:=hv.back (w0:=w) e07.size;(have g1:w'.heap[b1]?=some (Z4 d):=hu.get (e17.ext_get n1) λh=>by rcases h with h|h;have:=hlt _ h;omega;omega);unfold Bv at hK;dsimp only at hK;generalize Dsk.step D 0 (apR n l) (some (Vs n l))=r at hK hv hD q1;obtain ⟨D2,e,a⟩:=r;dsimp only at hK hv hD q1;obtain ⟨ms,ml,sa,pl,vs,fb,ds,A2⟩:=hD;refine Ai (λ_ W=>W.heap[b4]?=some (Bg0 (if D2.down=true then 0 else a))/\Upd (λk=>k=b4) w' W) (Af g1 (x:=some (at0 d)) rfl (Ad ?_)) ?_;{rw [addr_add];refine Af A2.box (x:=D2.down) rfl (Ac (λh=>Dj q1 (by simp) λw8 u8 n8 _=>⟨?_,u8⟩) λh=>⟨?_,Upd.refl _ _⟩);{rw [n8,iK h];rfl};{rw [q1,iP (by rw [h];simp)]}};{rintro _ w8 ⟨n8,u8⟩;refine Af n8 (x:=if D2.down=true then 0 else a) rfl (hK F' w8 v ⟨hv.ok,λhh=>let ⟨b,k,h1,h2,h3,h4⟩:=hv.bad hh;⟨b,k,h1,u8.get h2 (λe=>by rw [e,q1] at h2;cases h2),h3,h4⟩⟩ (A2.in.frame u8 λk hk e=>q2 (e▸hk)) (hu'.new u8 λk hk e=>by omega) hF')}}
end
end Dq
end
section
namespace Dq
open Go Go.Vx Dsk
section
variable {w w':World}{S F F':Nat->Prop}{d m ms ml:Nat}{f:Dir}{fb:List Nat}{ds:List Sl}{fs:List Fl}{sa:Sl}{vs:List Value}{D:Dk}{pl:Option Nat}{p:Int->Option Ce}{N:Nat}
def Bt0 (A:Dn w d F D){K:Bool->Wp}(hK:K D.down w):Aa prog 74 #[dU d] rB K w:=by obtain ⟨ms,ml,sa,pl,vs,fb,ds,A⟩:=A;refine j74 ?_;unfold F74;refine Ad ?_;rw [addr_add];exact Af A.box (x:=D.down) rfl hK
def Xj (A:Dn w d F D) (ok:Bj D N){K:Sl->Wp}(hK:∀s w',Qw w' w.heap.size s (if D.down=true then [] else names D.seen)->Ext w w'->K s w') :
  Aa prog 59 #[dU d] rS K w:=by obtain ⟨ms,ml,sa,pl,vs,fb,ds,A⟩:=A;refine j59 ?_;unfold F59;refine Ad ?_;rw [addr_add];refine Af A.box (x:=D.down) rfl (Ac (λh=>?_) λh=>Ad ?_);{exact hK _ w (by rw [iK h];exact Am.nil _ _ _ _) (Ext.refl w)};{rw [addr_add];refine Af A.box (x:=some ms) rfl (Ae8 A.seen (λl hl=>?_) λs w' hs e=>hK s w' (by rw [iP (by rw [h];simp)];exact hs) e);obtain ⟨l',h1,h2⟩:=ok.seen.few;have:=(Qq hl h1).length_eq;omega}
def Ap2 (A:Dn w d F D){K:Unit->Wp}(hK:∀w',Dn w' d F (restart D)->Upd F w w'->K () w'):Aa prog 42 #[dU d] bH K w:=by
 obtain ⟨ms,ml,sa,pl,vs,fb,ds,A⟩:=A;refine j42 ?_;unfold F42;unfold restart at hK;refine Ad ?_;rw [addr_add];refine Af A.box (x:=D.down) rfl (Ac (λh=>Ad ?_) λh=>?_)
 ·rw [iK h] at hK;rw [addr_add];refine Dj A.box (by simp) λw1 u1 n1 _=>Ad ?_;rw [addr_add];refine Dj n1 (by simp) λw2 u2 n2 _=>Ad ?_;rw [addr_add];refine Dj n2 (by simp) λw3 u3 n3 _=>?_;have u:Upd (λk=>k=d) w w3:=(u1.trans u2).trans u3;have no:∀t:TypeId,107≠t->Et w (λk=>k=d) t:=λt ht=>Et.box A.box ht;have nm:∀m,(∃o c,w.heap[m]?=some (.map o c))->¬(λk=>k=d) m:=by
   rintro m ⟨o,c,hm⟩ rfl
   rw [A.box] at hm;cases hm
  refine hK w3 ⟨ms,ml,sa,none,vs,fb,ds,?_,A.seen.upd u (nm _ A.seen.Ep),A.lasts.upd u (nm _ A.lasts.Ep),A.files.ty u (no _ (by decide)) (no _ (by decide)),A.acts.ty u (no _ (by decide)) (no _ (by decide)) (no _ (by decide)) (no _ (by decide)) λ_ h=>h,.inl ⟨rfl,λ_=>rfl⟩,A.ne,(by simp),(by simp),A.fd,A.fms,A.fml,A.ffb,A.fds,A.fsa,λk hk=>mP (A.lt k hk) u.size⟩ (u.mono λk _ h=>by rw [h];exact A.fd);rw [n3];simp [Z5]
 {rw [iP (by rw [h];simp)] at hK;exact hK w A.in (Upd.refl _ _)}
def Bz1 (A:Dn w d F D) (ok:Bj D N) (hN:N+2<=2^30){n:Nm}{x:Sl}{l:List UInt8}(hx:Bytes w x l) (hxb:∀k,x.blk k->k<w.heap.size/\¬F k){K:Value->Wp}
  (hK:∀F' w' v,Tt w w' F' v ⟨#[112,117,116]⟩ n (Lc D n l).2->Dn w' d F' (Lc D n l).1->Upd F w w'->(∀k,F' k->F k\/w.heap.size<=k)->K v w') :
  Aa prog 32 #[dU d,.string n,x.v] (.one (.one .any)) K w:=by
 obtain ⟨ms,ml,sa,pl,vs,fb,ds,A⟩:=A;refine j32 ?_;unfold F32;have hsp:=ok.space;have hu:=ok.used (D.seen n);have hxl:=hx.len1;rw [nO] at hxl;refine Ad ?_;rw [addr_add];refine Af A.box (x:=some ms) rfl (A.seen.look n (Ad (Af A.box (x:=D.space) rfl ?_)));refine Ai (λx w'=>x=(D.space-Cb D (D.seen n),())/\Ext w w') ?_ ?_
 ·refine Ad ?_;rw [addr_add];refine Af A.box (x:=some ms) rfl (A.seen.range λr w1 es hi e1 hr hm hg hl=>?_);have hcap:es.length<=16:=by
   obtain ⟨l,h1,h2⟩:=ok.seen.few
   have:=(Qq hl h1).length_eq
   rw [nO] at this;omega
  refine Bo (λs' w'=>∃(done:List (Ei ByteArray)),Iter w' r ms (es.map (Ei.ent Key.str)) (done.map (Ei.ent Key.str))/\s'=(D.space-Fq (done.map λy=>weigh D (D.seen n) y.1),())/\Ext w w'/\done.length<=es.length) (λs' w'=>es.length-(match w'.heap[r]? with|some (.mapIter _ _ seen _)=>seen.size|_=>0)) ⟨[],hi,by simp [Fq],e1,qI _⟩ ?_;rintro _ w2 ⟨done,hi2,rfl,e2,hdl⟩;dsimp only;have size_of:∀{W:World} {done:List (Ei ByteArray)},Iter W r ms (es.map (Ei.ent Key.str)) (done.map (Ei.ent Key.str))->(match W.heap[r]? with|some (.mapIter _ _ seen _)=>seen.size|_=>0)=done.length:=λh=>by
   obtain ⟨c,_,_,g3⟩:=h.at_
   rw [g3];simp
  have bound:∀dn:List (Ei ByteArray),dn.length<=16->0<=Fq (dn.map λy=>weigh D (D.seen n) y.1)/\Fq (dn.map λy=>weigh D (D.seen n) y.1)<=16777216:=λdn hdn=>by
   refine ⟨Ou λx hx=>?_,?_⟩
   ·obtain ⟨n,_,rfl⟩:=nT.1 hx;exact Pn D _ _
   ·have:=Yg (l:=dn.map λy=>weigh D (D.seen n) y.1) (B:=1048576) λx hx=>by
     obtain ⟨n,_,rfl⟩:=nT.1 hx;exact ok.weigh _ _
    rw [nO] at this
    have h4:(dn.length:Int)*1048576<=16*1048576:=rM (by omega) (by decide)
    omega
  refine Be9 hi2 (λw3 e3 _ hp=>Bh ⟨?_,e2.trans e3⟩) λx w3 hx hxd hi3 u3 hz3=>Ee ?_;{rw [Ai7 hp hl]}
  ·obtain ⟨y,i,hy,rfl,hfy,hv⟩:=G5 hm hg hx;have e3:Ext w w3:=e2.step u3 (by rintro k rfl;exact hr);refine Ar0 hi3 (y.1,some (at0 (fb.getD i 0)),()) (by simp only [Ei.ent,hv];rfl) ?_;have A3:=A.ext e3;(have hil:i<D.files.length:=by have:=A.seen.ids y.1 i hfy;have:=A.files.lf;omega);obtain ⟨b,s,g,hbi,_,_,hgb,hfl,hbx,hby⟩:=A3.Pz hil;have hsl:=hby.len1;rw [nO] at hsl;have hi3':Iter w3 r ms (es.map (Ei.ent Key.str)) ((done++[y]).map (Ei.ent Key.str)):=(by simpa using hi3);have hdn:(done++[y]).length<=es.length:=by
    have h6:=sZ (Kr hi3'.dnd) hi3'.sub
    simpa using h6
   have hb1:=bound done (by omega);have hb2:=bound (done++[y]) (by omega);have hsum:Fq ((done++[y]).map λy=>weigh D (D.seen n) y.1)=Fq (done.map λy=>weigh D (D.seen n) y.1)+weigh D (D.seen n) y.1:=by
    rw [oQ,Uy];simp [Fq]
   rw [hgb];have same:decide (some (at0 b)≠(D.seen n).map λi=>at0 (fb.getD i 0))=decide (some i≠D.seen n):=by
    cases hsn:D.seen n with
    |none=>simp
    | some j =>
     have hjl:j<fb.length:=A.seen.ids n j hsn;have hil':i<fb.length:=A.seen.ids y.1 i hfy;have e:(at0 b=at0 (fb.getD j 0))↔i=j:=by
      constructor
      ·intro h
       have h:b=fb.getD j 0:=by injection h
       rw [←hgb,rJ,rJ,oP hjl,oP hil'] at h
       exact (tH A.files.nd).1 h
      ·rintro rfl;rw [hgb]
     rw [uJ];simp only [jL,ne_eq,Option.some.injEq,e]
   refine By5 (e:=123) (n:=i123.size) Cv7.und (Aq.Gj Da7) (by rw [show i123.size=4 by kernel_rfl];decide) (λa ha=>?_) (λa ha=>?_) ?_;{cases ha;exact ⟨_,_,hbx⟩};{obtain ⟨j,hj,rfl⟩:=rG.1 ha;obtain ⟨b',s',g',_,_,_,hgb',_,hbx',_⟩:=A3.Pz (ok.seen.ids n j hj);rw [hgb'];exact ⟨_,_,hbx'⟩};rw [same];have again:∀{z:Int},z=D.space-Fq ((done++[y]).map λy=>weigh D (D.seen n) y.1)->(∃done_1:List (Ei ByteArray),Iter w3 r ms (es.map (Ei.ent Key.str)) (done_1.map (Ei.ent Key.str))/\(z,())=(D.space-Fq (done_1.map λy=>weigh D (D.seen n) y.1),())/\Ext w w3/\done_1.length<=es.length):=λ{z} hz=>⟨done++[y],hi3',by rw [hz],e3,hdn⟩;have less:(es.length-(match w3.heap[r]? with|some (.mapIter _ _ seen _)=>seen.size|_=>0))<(es.length-(match w2.heap[r]? with|some (.mapIter _ _ seen _)=>seen.size|_=>0)):=by
    rw [size_of hi3',size_of hi2]
    simp at hdn ⊢;omega
   refine Ac (λh=>Ad ?_) λh=>⟨again ?_,less⟩
   ·have h:some i≠D.seen n:=jY h;have hw:weigh D (D.seen n) y.1=(s.len:Int):=by
     unfold weigh;rw [hfy];dsimp only;rw [iP h,hfl];omega
    rw [addr_add];refine Af hbx (x:=s) rfl ⟨again ?_,less⟩;rw [hsum,iE (by omega)];omega
   ·have h:¬(some i≠D.seen n):=sK h;have h:some i=D.seen n:=(by simpa using h);have hw:weigh D (D.seen n) y.1=0:=by
     unfold weigh;rw [hfy];dsimp only;rw [iK h]
    rw [hsum];omega
 ·rintro _ w1 ⟨rfl,e1⟩;dsimp only;have A1:=A.ext e1;have err:∀{W:World} (c:Int),Ext w1 W->c≠0->Lc D n l=(D,c)->Ak (.cells #[.string ⟨#[112,117,116]⟩,.string n,vI 0,.iface 33 (vI c)] 101) (λb=>K (.iface 99 (.pointer (some (at0 b))))) W:=λ{W} c e2 hc hp=>by
   rw [hp] at hK
   have e12:=e1.trans e2
   have hs:=e12.size
   exact Ag λb3 w2 e3 n3 hb3 _=>hK F w2 _ ⟨λh=>absurd h hc,λ_=>⟨b3,0,rfl,n3,by omega,λh=>by have:=A.lt _ h;omega⟩⟩ (A.ext (e12.trans e3)).in (Upd.Ae (e12.trans e3)) λk hk=>.inl hk
  refine Ad ?_;rw [addr_add];unfold Lc at err;refine Af A1.box (x:=D.down) rfl (Ac (λhd=>err 165 (Ext.refl _) (by decide) (by rw [iK hd])) λhd=>?_);(have hd:¬D.down=true:=by rw [hd];simp);rw [iP hd] at err;refine Vm λw2 e2=>Ac (λh=>err 164 e2 (by decide) (by rw [iK (by simpa using h)])) λh=>?_;have hok:¬Bl n=false:=(by simpa using h);rw [iP hok] at err;have A2:=A1.ext e2;have e02:=e1.trans e2;refine Ar (decide ((D.seen n=none/\16<=(names D.seen).length)\/(l.length:Int)>D.space-Cb D (D.seen n)),()) ?_ (Ac (λh=>err 161 e2 (by decide) (by rw [iK (jY h)])) λh=>?_);{refine Ar (decide (D.seen n=none/\16<=(names D.seen).length),()) (Ac (λh=>Ad ?_) λh=>⟨Di ?_,rfl⟩) (Ac (λh=>⟨Di ?_,rfl⟩) λh=>⟨Di ?_,rfl⟩);{rw [addr_add];refine Af A2.box (x:=some ms) rfl (A2.seen.len ⟨Di ?_,rfl⟩);have h:D.seen n=none:=(by simpa using h);simp [h];omega};{(have h:¬D.seen n=none:=λhh=>by rw [hh] at h;simp at h);simp [h]};{have h:=jY h;simp [h]};{have h:=sK h;simp [h,←hxl]}};have hfit:=sK h;clear err;have hp:Lc D n l=(match D.seen n with
   |some i=>({ Dsk.settle D with files:=Ju D.files i λf=>⟨l,l.length,f.count+1⟩ },0)
   |none=>({ D with lasts:=Eo D.seen n (some D.files.length),acts:=[],files:=D.files++[⟨l,l.length,1⟩] },0)):=by
   unfold Lc;rw [iP hd,iP hok,iP hfit];cases D.seen n<;>rfl
  have hll:l.length<=1048576:=by
   have:¬(l.length:Int)>D.space-Cb D (D.seen n):=λh=>hfit (.inr h)
   omega
  have hnum:=ok.num;refine Ai (λx W=>∃F1 D1 g1 i b fb1 ds1,x=(some (at0 b),())/\Half W d F1 D1 g1 ms ml sa pl fb1 ds1/\fb1[i]?=some b/\i<D1.files.length/\Lc D n l=({ D1 with lasts:=g1,acts:=[],files:=Ju D1.files i λf=>⟨l,l.length,f.count+1⟩ },0)/\Upd F w W/\(∀k,F1 k->F k\/w.heap.size<=k)/\(∀f,D1.files[i]?=some f->0<=f.count/\f.count<=N)) (Ac (λh=>?_) λh=>?_) ?_;{have hsn:D.seen n=none:=(by simpa using h);rw [hsn] at hp;refine Af5 A2 (by omega) λb w3 A3 u3 hb3=>Ad ?_;rw [addr_add];have hlf:=A.files.lf;refine Af A3.box (x:=some ms) rfl (A3.seen.set (n:=n) (i:=D.files.length) (b:=b) (by simp [hlf]) ?_ λw4 h4 u4=>?_);{rw [←hlf,rJ,nC (mJ _),nM];rfl};obtain ⟨o,c,hmap⟩:=A3.seen.Ep;have no:∀t:TypeId,Et w3 (λk=>k=ms) t:=λt=>Et.map hmap;have hz2:=e02.size;refine ⟨_,{ D with files:=D.files++[⟨[],0,0⟩] },Eo D.seen n (some D.files.length),D.files.length,b,fb++[b],ds++[⟨none,0,0⟩],rfl,⟨u4.get A3.box ?_,h4,A3.files.ty u4 (no _) (no _),A3.plan.upd u4 (λm hm e=>A3.nes (by rw [hm,e])) (no _) λ_ h=>h,A3.nes,A3.fd,A3.fms,A3.ffb,A3.fds,λk hk=>mP (A3.lt k hk) u4.size⟩,?_,by simp,?_,((Upd.Ae e02).trans (u3.mono λk _ e=>by rw [e];exact A.fd)).trans (u4.mono λk _ e=>by rw [e];exact A.fms),λk hk=>hk.imp id λh=>by omega,λf hf=>?_⟩;{intro e;have hbx:=A3.box;rw [e,hmap] at hbx;cases hbx};{rw [←hlf,nC (mJ _),nM];rfl};{rw [hp,Ig (g:=⟨[],0,0⟩) (by simp)];simp};{simp at hf;subst hf;exact ⟨kJ _,qV N⟩}}
  ·obtain ⟨i,hsn⟩:∃i,D.seen n=some i:=by
    cases hsn:D.seen n with
    |none=>rw [hsn] at h;cases h
    |some i=>exact ⟨i,rfl⟩
   rw [hsn] at hp;obtain ⟨b,s,g,hb,hss,hg,hgb,hfl,hbx,hby⟩:=A2.Pz (ok.seen.ids n i hsn);refine ⟨F,D,D.seen,i,b,fb,ds,?_,A2.half,hb,ok.seen.ids n i hsn,hp,Upd.Ae e02,λk hk=>.inl hk,λf hf=>(ok.fil i f hf).2.2⟩;rw [hsn,jL,hgb]
  {rintro ⟨_,⟨⟩⟩ W ⟨F1,D1,g1,i,b,fb1,ds1,hx1,H,hb,hi,hput,hu1,hF1,hcnt⟩;cases hx1;dsimp only;refine Ad1 H λm' w5 A5 u5 hm'=>?_;have hsz:=hu1.size;have hsz5:=u5.size;have hd5:F d:=A.fd;have x5:Bytes w5 x l:=SlX.Cq5 (SlX.Cq5 hx hu1 λk hk=>(hxb k hk).2) u5 λk hk e=>(hxb k hk).2 (e▸hd5);refine Y3 x5 (by omega) λs' w6 hs' e6=>Ad ?_;rw [addr_add];obtain ⟨b',s,g,hb',hss,hg,hgb,hfl,hbx5,hby⟩:=A5.Pz (i:=i) hi;have hbx:=e6.ext_get hbx5;rw [hb] at hb';cases hb';have hc:=hcnt g hg;have ho:=hs'.len1;rw [nO] at ho;refine Dj hbx (by simp) λw7 u7 n7 hz7=>?_;have n7:w7.heap[b]?=some (Uj i s' ⟨l,g.synced,g.count⟩):=n7;refine Xx n7 λw8 n8 u8 _=>Ad ?_;rw [addr_add];refine Af n8 (x:=g.count) rfl (Ad ?_);rw [addr_add,iE (by omega)];refine Dj n8 (by simp) λw9 u9 n9 _=>?_;(have n9:w9.heap[b]?=some (Uj i s' ⟨l,l.length,g.count+1⟩):=by rw [n9,ho];rfl);have u69:Upd (λk=>k=b) w6 w9:=(u7.trans u8).trans u9;have A9:=A5.Af8 (s':=s') (g':=⟨l,l.length,g.count+1⟩) hb hss hg ((Upd.Ae e6).trans u69) (λk hk _=>.inl hk) n9 ((hs'.box hbx (by decide) u69).mono (qI _)) λk hk=>.inr (hs'.Dh hk);have hz6:=e6.size;refine hK _ w9 _ ⟨λ_=>rfl,λh=>absurd (by rw [hput]) h⟩ (by rw [hput,Ig hg];exact A9.in) (((hu1.trans (u5.mono λk _ e=>by rw [e];exact hd5)).trans (Upd.Ae e6)).new u69 λk hk e=>?_) λk hk=>?_;{subst e;exact (hF1 k (H.ffb k (lU hb))).resolve_right (by omega)};{rcases hk with (hk|hk)|hk;{exact hF1 k hk};{exact .inr (by omega)};{have:=hs'.Dh hk;exact .inr (by omega)}}}
end
end Dq
end
section
namespace Dq
open Go Go.Vx Dsk
section
variable {w w':World}{S F F':Nat->Prop}{d m ms ml:Nat}{f:Dir}{fb:List Nat}{ds:List Sl}{fs:List Fl}{sa:Sl}{vs:List Value}{D:Dk}{pl:Option Nat}{p:Int->Option Ce}{N:Nat}
def Rx (space:Int):Dk:=⟨space,[],λ_=>none,[],false,λ_=>none,0⟩
def Fp.made (h:w.heap[m]?=some (.map #[] 0)):Fp w m [] λ_=>none:=⟨⟨[],Oy.made m h,λ_=>rfl⟩,λ_ _ h=>by cases h⟩
def Cb4 {space:Int}(h0:0<=space) (h1:space<=1048576){K:aZ->Wp}
  (hK:∀d F w',Dn w' d F (Rx space)->Ext w w'->(∀k,F k->w.heap.size<=k)->K (some (at0 d),.nilIface,()) w'):Aa prog 17 #[vI space] bV K w:=by refine j17 ?_;unfold F17;refine Ar (false,()) (Ac (λh=>absurd (jY h) (by omega)) λ_=>⟨Di ?_,rfl⟩) (Bh ?_);{simp;omega};{refine Ag λb4 w1 e1 n1 hb4 hz1=>Ag λb5 w2 e2 n2 hb5 hz2=>Ag λb6 w3 e3 n3 hb6 hz3=>?_;have g4:w3.heap[b4]?=some (.map #[] 0):=(e2.trans e3).ext_get n1;have g5:w3.heap[b5]?=some (.map #[] 0):=e3.ext_get n2;refine hK b6 (λk=>k=b4\/k=b5\/k=b6) w3 ⟨b4,b5,⟨none,0,0⟩,none,[],[],[],n3,Fp.made g4,Fp.made g5,⟨rfl,rfl,jX,λi j s t _ hs=>by simp at hs,λi b s f hb=>by simp at hb⟩,⟨Am.nil _ _ _ _,rfl,λi v a hv=>by simp at hv⟩,.inl ⟨rfl,λ_=>rfl⟩,by omega,by simp,by simp,.inr (.inr rfl),.inl rfl,.inr (.inl rfl),λb hb=>by simp at hb,λs hs=>by simp at hs,(λk ⟨q,hq,_⟩=>by cases hq),λk hk=>?_⟩ ((e1.trans e2).trans e3) λk hk=>(by omega);have l4:=lt_of_heap g4;have l5:=lt_of_heap g5;have l6:=lt_of_heap n3;rcases hk with rfl|rfl|rfl<;>assumption}
def Ej.Bz4 {p':Int->Option Ce}(A:Ej w d F D ms ml sa (some m) vs fb ds) (u:Upd (λk=>k=m) w w') (hp:Qx w' F' (some m) p') (hF:∀k,F k->F' k) (hl:∀k,F' k->k<w'.heap.size) :
  Ej w' d F' { D with plan:=p' } ms ml sa (some m) vs fb ds:=by obtain ⟨o,c,hm⟩:=A.plan.Ep;have no:∀t:TypeId,Et w (λk=>k=m) t:=λt=>Et.map hm;refine ⟨u.get A.box λe=>?_,A.seen.upd u λe=>A.nes (by rw [e]),A.lasts.upd u λe=>A.nel (by rw [e]),A.files.ty u (no _) (no _),A.acts.ty u (no _) (no _) (no _) (no _) hF,hp,A.ne,A.nes,A.nel,hF _ A.fd,hF _ A.fms,hF _ A.fml,λb hb=>hF _ (A.ffb b hb),λs hs k hk=>hF _ (A.fds s hs k hk),λk hk=>hF _ (A.fsa k hk),hl⟩;have hb:=A.box;rw [e,hm] at hb;cases hb
structure Hu (w:World) (P:Nat->Prop) (x:Sl) (rows:List (Cells.T Dt)) (fl:List (Int×Ce)):Prop where
 row:SlX w x 5 (flat Dt rows)
 blk:Lie P x
 len:rows.length=fl.length
 at_:∀(i:Nat) (r:Cells.T Dt) (f:Int×Ce),rows[i]?=some r->fl[i]?=some f->r.1=f.1/\r.2.1=f.2.kind/\r.2.2.1=f.2.part/\r.2.2.2.1=f.2.names/\SlX w r.2.2.2.2.1 1 (iv f.2.bytes)/\f.2.bytes.length<=2^44/\Lie P r.2.2.2.2.1
def Hu.upd {P:Nat->Prop}{x:Sl}{rows:List (Cells.T Dt)}{fl:List (Int×Ce)}(h:Hu w P x rows fl) (u:Upd S w w') (hS:∀k,P k->¬S k):Hu w' P x rows fl :=
 ⟨SlX.Yd h.row h.blk u hS,h.blk,h.len,λi r f hr hf=>let ⟨a,b,c,e,g,g',g''⟩:=h.at_ i r f hr hf;⟨a,b,c,e,SlX.Yd g g'' u hS,g',g''⟩⟩
def P5 (l:List (Int×Ce)) (x:Int×Ce) (f:Int->Option Ce):Hf (l++[x]) f=(if ((Hf l f) x.1).isSome=true\/x.2.kind<1\/x.2.kind>5 then Hf l f else λk=>if k=x.1 then some x.2 else Hf l f k):=by
 induction l generalizing f with
 |nil=>rfl
 |cons y r ih=>simp only [jC,Hf];exact ih _
def Bq5 (A:Dn w d F D){x:Sl}{rows:List (Cells.T Dt)}{fl:List (Int×Ce)}(hx:Hu w (λk=>k<w.heap.size/\¬F k) x rows fl) (hl:fl.length<=2^60){K:Unit->Wp}
  (hK:∀F' w',Dn w' d F' (plan D fl)->Upd F w w'->(∀k,F' k->F k\/w.heap.size<=k)->K () w') :
  Aa prog 35 #[dU d,x.v] bH K w:=by
 obtain ⟨ms,ml,sa,pl,vs,fb,ds,A⟩:=A;refine j35 ?_;unfold F35;refine Ag λb1 w1 e1 n1 hb1 hz1=>Ad ?_;rw [addr_add];refine Dj (e1.ext_get A.box) (by simp) λw2 u2 n2 hz2=>Ad ?_;rw [addr_add];refine Dj n2 (by simp) λw3 u3 n3 hz3=>?_;have u:Upd (λk=>k=d) w w3:=((Upd.Ae e1).trans u2).trans u3;have hdl:=lt_of_heap A.box;have hxl:rows.length=x.len:=hx.row.Py (by decide);have A3:Ej w3 d (λk=>F k\/k=b1) { D with plan:=λ_=>none,steps:=0 } ms ml sa (some b1) vs fb ds:=by
  have no:∀t:TypeId,107≠t->Et w (λk=>k=d) t:=λt ht=>Et.box A.box ht
  have nm:∀m,(∃o c,w.heap[m]?=some (.map o c))->¬(λk=>k=d) m:=by
   rintro m ⟨o,c,hm⟩ rfl
   rw [A.box] at hm;cases hm
  have nb:∀k,F k->k≠b1:=λk hk e=>by have:=A.lt k hk;omega
  have n1':w3.heap[b1]?=some (.map #[] 0):=(u2.trans u3).get n1 (by omega)
  refine ⟨by rw [n3];simp [Z5],A.seen.upd u (nm _ A.seen.Ep),A.lasts.upd u (nm _ A.lasts.Ep),A.files.ty u (no _ (by decide)) (no _ (by decide)),A.acts.ty u (no _ (by decide)) (no _ (by decide)) (no _ (by decide)) (no _ (by decide)) λ_ h=>.inl h,.inr ⟨b1,[],rfl,.inr rfl,Oy.made b1 n1',λk=>trivial⟩,A.ne,(λe=>nb ms A.fms (by cases e;rfl)),(λe=>nb ml A.fml (by cases e;rfl)),.inl A.fd,.inl A.fms,.inl A.fml,λb hb=>.inl (A.ffb b hb),λs hs k hk=>.inl (A.fds s hs k hk),λk hk=>.inl (A.fsa k hk),λk hk=>?_⟩
  rcases hk with hk|hk
  ·exact mP (A.lt k hk) u.size
  ·rw [hk];exact lt_of_heap n1'
 (have hF3:Upd F w w3:=u.mono λk _ e=>by rw [e];exact A.fd);refine Bo (λs W=>∃(j:Nat) (F1:Nat->Prop),s=((j:Int),())/\j<=rows.length/\Ej W d F1 { D with plan:=Hf (fl.take j) λ_=>none,steps:=0 } ms ml sa (some b1) vs fb ds/\Upd F w W/\∀k,F1 k->F k\/w.heap.size<=k) (λs _=>rows.length-s.1.toNat) ⟨0,_,rfl,qI _,A3,hF3,λk hk=>hk.imp id λh=>by omega⟩ ?_;rintro _ W ⟨j,F1,rfl,hj,AW,uW,hFW⟩;dsimp only;have hlen:=hx.len;refine Ac (λh=>?_) (λh=>?_)
 ·(have h:j<rows.length:=by have:=jY h;omega);obtain ⟨r,hr⟩:∃r,rows[j]?=some r:=⟨_,oP h⟩;obtain ⟨g,hg⟩:∃g,fl[j]?=some g:=⟨_,oP (by omega)⟩;have xW:=hx.upd uW λk hk=>hk.2;obtain ⟨q1,q2,q3,q4,q5,q6,q7⟩:=xW.at_ j r g hr hg;have ew:W64 ((j:Int)+1)=((j+1:Nat):Int):=iD (by omega);(have htk:fl.take (j+1)=fl.take j++[g]:=by rw [sO,hg];rfl);have hpl:=P5 (fl.take j) g λ_=>none;rw [←htk] at hpl;generalize hp0:Hf (fl.take j) (λ_=>none)=p0 at hpl AW;refine Ai (λ_ W'=>∃F2,Ej W' d F2 { D with plan:=Hf (fl.take (j+1)) λ_=>none,steps:=0 } ms ml sa (some b1) vs fb ds/\Upd F w W'/\∀k,F2 k->F k\/w.heap.size<=k) (Aq4 (cs:=Dt) xW.row (by decide) (by omega) (by simpa using hr) λ_=>?_) ?_
  ·refine (St.start W).Iz rfl rfl rfl λb10 w4 S4 e4=>S4.drew λw5 S5 e5 _=>Ad ?_;rw [addr_add];have A5:=(AW.ext e4).ext e5;refine Af A5.box (x:=some b1) rfl (S5.ld 0 (x:=r.1) rfl rfl ?_);obtain ⟨m,es,hm1,hm2,hm3,hm4⟩:∃m es,some b1=some m/\F1 m/\Oy Key.int w5 m es/\∀k,Ot w5 F1 k (Jw es k) (p0 k):=by
    rcases A5.plan with ⟨h,_⟩|h
    ·cases h
    ·exact h
   cases hm1;obtain ⟨y,hy,hy1⟩:∃y:aO×Bool×Unit,(∀W2,Ext w5 W2->(Instr.lookup 105 (.map (some b1)) (vI r.1) true).run prog W2=.ok (RTy.val cZ y) W2)/\y.2.1=(p0 g.1).isSome:=by
    have h4:=hm4 r.1
    have hr2:∀W2,Ext w5 W2->_:=λW2 e=>Aw7 MP (hm3.upd e id) r.1
    rw [←q1]
    generalize hv:Jw es r.1=v at hr2 h4
    generalize hp:p0 r.1=q at h4 ⊢
    match v,q,h4 with
    |none,none,_=>exact ⟨((0,0,0,0,⟨none,0,0⟩,()),false,()),hr2,rfl⟩
    |some _,some f,⟨s,rfl,hs,hb,_⟩=>exact ⟨((r.1,f.kind,f.part,f.names,s,()),true,()),hr2,rfl⟩
   refine ⟨y,hy _ (Ext.refl _),?_⟩;refine S5.Cb5 λb15 w6 S6 e6 hb15=>Bc (hy _ e6) (S6.keep 1 rfl rfl (Bc (cell_of (A5.ext e6).box rfl) (S6.Ah 0 rfl rfl rfl rfl λw7 S7 u7=>?_)));have e57:Ext w5 w7:=e6.new u7 λk hk e=>(by omega);have A7:=A5.ext e57;have e47:Ext W w7:=(e4.trans e5).trans e57;refine Ar (decide ((p0 g.1).isSome=true\/g.2.kind<1\/g.2.kind>5),()) (Ac (λh=>⟨Di ?_,rfl⟩) λh=>S7.ld 1 (off:=1) (x:=r.2.1) rfl rfl (Ac (λh2=>⟨Di ?_,rfl⟩) λh2=>S7.ld 1 (off:=1) (x:=r.2.1) rfl rfl ⟨Di ?_,rfl⟩)) (Ac (λh=>?_) λh=>?_);{rw [hy1] at h;simp [h]};{have h2:=jY h2;rw [q2] at h2;simp [h2]};{have h2:=sK h2;rw [hy1] at h;rw [q2] at h2 ⊢;simp [h,h2]};{have h:=jY h;rw [iK h] at hpl;exact ⟨F1,by rw [hpl];exact AW.ext e47,uW.trans (Upd.Ae e47),hFW⟩}
   ·have h:=sK h;rw [iP h] at hpl;refine S7.ld 1 (off:=4) (x:=r.2.2.2.2.1) rfl rfl (Az9 (SlX.ext q5 e47) q6 λs' w8 hs' e8=>?_);refine (S7.ext e8).stC 1 (off:=4) rfl (by simp [Cells.vals]) λw9 S9 u9=>S9.drew λw10 S10 e10 _=>Ad ?_;have g10:=S7.ge 1 rfl;have eAll:Ext W w10:=((e47.trans e8).new u9 λk hk e=>by have e:k=b10:=e;omega).trans e10;have A10:=AW.ext eAll;have hs10:Ints w10 s' g.2.bytes:=((hs'.box ((S7.ext e8).at_ 1 rfl) (by decide) u9).ext e10).in;rw [addr_add];refine Af A10.box (x:=some b1) rfl (S10.ld 1 (off:=0) (x:=r.1) rfl rfl (S10.lds 1 (cs:=Dt) (r.1,r.2.1,r.2.2.1,r.2.2.2.1,s',()) rfl ?_));obtain ⟨m,es,hm1,hm2,hm3,hm4⟩:∃m es,some b1=some m/\F1 m/\Oy Key.int w10 m es/\∀k,Ot w10 F1 k (Jw es k) (p0 k):=by
     rcases A10.plan with ⟨h,_⟩|h
     ·cases h
     ·exact h
    cases hm1;obtain ⟨es',w11,hrun,hm',hget,u11,hz11,_⟩:=N7 MP hm3 r.1 (.agg (Cells.vals Dt (r.1,r.2.1,r.2.2.1,r.2.2.2.1,s',())).toArray);obtain ⟨o,c,hmap⟩:=Oy.Aa7 hm3;have no:∀t:TypeId,Et w10 (λk=>k=b1) t:=λt=>Et.map hmap;have hp':Qx w11 (λk=>F1 k\/s'.blk k) (some b1) (Hf (fl.take (j+1)) λ_=>none):=by
     rw [hpl]
     refine .inr ⟨b1,es',rfl,.inl hm2,hm',λk=>?_⟩
     rw [hget]
     show Ot _ _ k _ (if k=g.1 then some g.2 else p0 k)
     by_cases hk:k=r.1
     ·rw [iK hk,iK (by rw [hk,q1]),hk]
      refine ⟨s',?_,hs10.ty u11 (no _),λk hk=>.inr hk,by omega⟩
      show Value.agg #[vI r.1,vI r.2.1,vI r.2.2.1,vI r.2.2.2.1,sv s']=_
      rw [q2,q3,q4]
     ·rw [iP hk,iP (by rw [←q1];exact hk)]
      exact (hm4 k).upd u11 (no _) λ_ h=>.inl h
    have hz:=eAll.size;have hz7:=e47.size;refine ⟨w11,hrun,λk=>F1 k\/s'.blk k,A10.Bz4 u11 hp' (λ_ h=>.inl h) λk hk=>?_,(uW.trans (Upd.Ae eAll)).new u11 λk hk e=>?_,λk hk=>hk.elim (hFW k) λh=>.inr ?_⟩;{rcases hk with hk|hk;{rw [hz11];exact A10.lt k hk};{rw [hz11];exact hs10.Ci hk}};{subst e;exact (hFW k hm2).resolve_right (by omega)};{have:=hs'.Dh h;have:=uW.size;omega}
  {rintro _ W' ⟨F2,h1,h2,h3⟩;rw [ew];exact ⟨⟨j+1,F2,rfl,h,h1,h2,h3⟩,by simp only [kH];omega⟩}
 {(have h:¬j<rows.length:=by have:=sK h;omega);have hj:fl.take j=fl:=sQ (by omega);rw [hj] at AW;exact hK F1 W AW.in uW hFW}
end
end Dq
end
section
namespace Dq
open Go Go.Vx Dsk
section
variable {w w':World}{F:Nat->Prop}
def Br6 (v:Value) (w:World):(Extern.ReflectliteType.typeOf #[.iface 33 v]).run prog w=.ok (.iface 211 (.agg #[.pointer (some ⟨2,33,none⟩)])) w:=by kernel_rfl
def Cp6:Array Value->Sem Value:=(Extern.find Tryz.f262).getD λ_=>pure undef
def Ah8 (w:World):(Cp6 #[.agg #[.pointer (some ⟨2,33,none⟩)]]).run prog w=.ok (.bool true) w:=by kernel_rfl
def Cc7 (v:Value) (w:World):(Go.method (prog.types.size+Made.depth) 211 v "Comparable").run prog w=.ok (262,v) w:=by kernel_rfl
def Bf8 (v:Value) (w:World):(Go.method (prog.types.size+Made.depth) 99 v "Unwrap").run prog w=.ok (254,v) w:=by kernel_rfl
def Cx3 (v:Value) (xT:TypeId) (w:World):(Instr.typeAssert (.iface 99 v) xT 213 true).run prog w=.ok (.tuple #[.nilIface,.bool false]) w:=uK Tryz.underlying213 (by kernel_rfl) (by kernel_rfl) v xT w
def Bg2 (v:Value) (xT:TypeId) (w:World):(Instr.typeAssert (.iface 99 v) xT 216 true).run prog w=.ok (.tuple #[.iface 99 v,.bool true]) w:=run_typeAssert_hasB Tryz.underlying216 (by kernel_rfl) v xT w
def noIsE (v:Value) (xT:TypeId) (w:World):(Instr.typeAssert (.iface 33 v) xT 213 true).run prog w=.ok (.tuple #[.nilIface,.bool false]) w:=uK Tryz.underlying213 (by kernel_rfl) (by kernel_rfl) v xT w
def noUnwrapE (v:Value) (xT:TypeId) (w:World):(Instr.typeAssert (.iface 33 v) xT 216 true).run prog w=.ok (.tuple #[.nilIface,.bool false]) w:=uK Tryz.underlying216 (by kernel_rfl) (by kernel_rfl) v xT w
def noUnwrapsE (v:Value) (xT:TypeId) (w:World):(Instr.typeAssert (.iface 33 v) xT 217 true).run prog w=.ok (.tuple #[.nilIface,.bool false]) w:=uK Tryz.underlying217 (by kernel_rfl) (by kernel_rfl) v xT w
def Bw5 (v:Value){K:Value->Wp}(hK:K (.iface 211 (.agg #[.pointer (some ⟨2,33,none⟩)])) w):Cj prog (callFunc 91 #[.iface 33 v]) (.one (.one .any)) K w:=by refine .inr (.inl ⟨_,w,?_,hK⟩);have h8:=@run_callFunc_extern prog 91 _ Extern.ReflectliteType.typeOf func91 (by kernel_rfl) (by kernel_rfl) (by kernel_rfl) (by kernel_rfl) #[.iface 33 v] w;rw [h8,Br6];rfl
def Ar4 {K:Bool->Wp}(hK:K true w):Cj prog (invoke (.fn (.method "Comparable") #[]) (#[.iface 211 (.agg #[.pointer (some ⟨2,33,none⟩)])]++#[])) (.one (.one .bool)) K w:=by refine .inr (.inl ⟨true,w,?_,hK⟩);have h32:=@run_callFunc_extern prog 262 _ Cp6 func262 (by kernel_rfl) (by kernel_rfl) (by kernel_rfl) (by kernel_rfl) #[.agg #[.pointer (some ⟨2,33,none⟩)]] w;have e:invoke (.fn (.method "Comparable") #[]) (#[.iface 211 (.agg #[.pointer (some ⟨2,33,none⟩)])]++#[])=callMethod (.iface 211 (.agg #[.pointer (some ⟨2,33,none⟩)])) "Comparable" #[]:=rfl;rw [e];simp only [callMethod,iH,program,Sem.run,iI,Cc7];have e2:(#[.agg #[.pointer (some ⟨2,33,none⟩)]]++#[]:Array Value)=#[.agg #[.pointer (some ⟨2,33,none⟩)]]:=rfl;rw [e2,h32,Ah8];rfl
def Bw1 {p:xM}{K:Value->Wp}(h:Aa prog 254 #[.pointer p] (.one (.one .any)) K w):Cj prog (invoke (.fn (.method "Unwrap") #[]) (#[.iface 99 (.pointer p)]++#[])) (.one (.one .any)) K w:=by refine .inl ⟨254,#[.pointer p],?_,h⟩;have h:=Gq (P:=prog) (f:=254) (args:=#[.pointer p]) (by kernel_rfl) w;have e:invoke (.fn (.method "Unwrap") #[]) (#[.iface 99 (.pointer p)]++#[])=callMethod (.iface 99 (.pointer p)) "Unwrap" #[]:=rfl;rw [e];simp only [callMethod,iH,program,Sem.run,iI,Bf8];exact h
def Cd6 {o1 o2:Operand}{a k:Value}{K:Bool->Wp}(hK:K false w):rdB prog (do eqGuard .eql 26 o1 o2 (.iface 99 a) (.iface 33 k);binOp .eql 26 (.iface 99 a) (.iface 33 k):Sem Value) K w:=by obtain ⟨ms,hi⟩:=uE;refine ⟨false,?_,hK⟩;have:=run_eql_iface_types (P:=prog) 99 33 a k hi (by decide) w;simp [eqGuard,this]
def Az0 {P:Program}{ti t:TypeId}{ms:Array (String×TypeId)}{i:TypeInfo}{n:Nat}{a b:Value}{r:Bool}(hi:P.underlying ti=some (.interface ms)) (ht:P.info? t=some i) (hc:i.comparable=true) (h:(Op.equalIn n t a b).run P w=.ok r w):(Op.equalIn (n+1) ti (.iface t a) (.iface t b)).run P w=.ok r w:=by simp [Op.equalIn,jZ hi,typeInfo,ht,hc,h]
def Cm7 {o1 o2:Operand}{e k:Int}{K:Bool->Wp}(hK:K (decide (e=k)) w):rdB prog (do eqGuard .eql 26 o1 o2 (.iface 33 (vI e)) (.iface 33 (vI k));binOp .eql 26 (.iface 33 (vI e)) (.iface 33 (vI k)):Sem Value) K w:=by
 obtain ⟨ms,hi⟩:=uE;refine ⟨decide (e=k),?_,hK⟩;have hu:prog.underlying 33=some (.int .i64):=C33.und;have hc:(prog.info? 33).map (·.comparable)=some true:=(by kernel_rfl);obtain ⟨i,hi2,hcmp⟩:=rG.1 hc;have h:(Op.equalIn 10000 26 (.iface 33 (vI e)) (.iface 33 (vI k))).run prog w=.ok (decide (e=k)) w:=by
  exact Az0 hi hi2 hcmp (uM w _ _ _ _ _ _ hu)
 simp [eqGuard,binOp,Op.equal,Op.maxDepth,h]
def Cm3 {b:Nat}{e k st:Int}{op nm:ByteArray}(h:w.heap[b]?=some (.cells #[.string op,.string nm,vI st,.iface 33 (vI e)] 101 (0,0))){K:Bool->Wp}(hK:K (decide (e=k)) w) :
  Aa prog 53 #[.iface 99 (.pointer (some (at0 b))),.iface 33 (vI k)] rB K w:=by refine j53 ?_;unfold F53;refine Ar (false,()) (Oi (Bh (Oi ⟨rfl,rfl⟩ uE)) uE) (Bh (Bw5 _ (Ar4 ?_)));refine j92 ?_;unfold F92;refine Bo (λs W=>W=w/\(s=(.iface 99 (.pointer (some (at0 b))),())\/s=(.iface 33 (vI e),()))) (λs _=>match s.1 with | .iface t _=>t-33|_=>0) ⟨rfl,.inl rfl⟩ ?_;rintro _ _ ⟨rfl,rfl|rfl⟩;{refine Ar (false,()) (Ee (Cd6 ⟨rfl,rfl⟩)) (Bh ⟨(.nilIface,false,()),_,Cx3 _ _ _,?_⟩);refine Ar (false,()) (Bh ⟨rfl,rfl⟩) (Bh ⟨(.iface 99 (.pointer (some (at0 b))),true,()),_,Bg2 _ _ _,Ee (Bw1 ?_)⟩);refine Dc0 ?_;unfold F254;refine Ad ?_;rw [addr_add];refine Af h (off:=3) (x:=.iface 33 (vI e)) rfl (Oi (Bh ⟨⟨rfl,.inr rfl⟩,?_⟩) uE);show 33-33<99-33;decide};{refine Ar (decide (e=k),()) (Ee (Cm7 ⟨rfl,rfl⟩)) (Ac (λhh=>?_) λhh=>⟨(.nilIface,false,()),_,noIsE _ _ _,?_⟩);{have hh:decide (e=k)=true:=hh;rw [hh] at hK;exact hK};have hh:decide (e=k)=false:=hh;rw [hh] at hK;exact Ar (false,()) (Bh ⟨rfl,rfl⟩) (Bh ⟨(.nilIface,false,()),_,noUnwrapE _ _ _,Bh ⟨(.nilIface,false,()),_,noUnwrapsE _ _ _,Bh hK⟩⟩)}
end
end Dq
end
end Go.Proofs.YtmooldhpiopcgaaGreatDoor
namespace Go.Proofs.YtmooldhpiopcgaaGreatDoor.Dsk
def side (n:Nm):Nm:=⟨n.data.push 126⟩
def userName (n:Nm):Bool:=Bl n&&decide (n.size<32)&&decide (n.data.back?≠some 126)
abbrev Stm:=Int×Int×Int
structure Fil where
 name:Nm
 mark:List UInt8
 known:Stm
 tried:Stm
def Qa:Nat->List UInt8->List (List UInt8)
 |0,_=>[]
 |n+1,l=>if l=[] then [] else l.take 1024::Qa n (l.drop 1024)
def Vp (n:Nm):List (List UInt8)->Dk->Dk×Int
 |[],D=>(D,0)
 |c::r,D=>if (Bv D n c).2.1=0 then Vp n r (Bv D n c).1 else ((Bv D n c).1,(Bv D n c).2.1)
def clean (D:Dk) (n:Nm) (e:Int) (t:Stm):Dk×Int×Stm:=if e=0 then (D,e,t) else ((Au D n).1,e,t)
def Ec (D:Dk) (n:Nm):Dk×Int :=
 let m:=Bz D n
 if m.2.1=163 then (let r:=Au m.1 n;if r.2.1=0 then ((Bz r.1 n).1,(Bz r.1 n).2.1) else (r.1,r.2.1)) else (m.1,m.2.1)
def Hl (D:Dk) (n:Nm) (b:List UInt8) (t:Stm):Dk×Int×Stm :=
 let m:=Ec D (side n)
 if m.2≠0 then clean m.1 (side n) m.2 t else
 let f:=Vp (side n) (Qa b.length b) m.1
 if f.2≠0 then clean f.1 (side n) f.2 t else
 let s:=Ef f.1 (side n)
 if s.2.1≠0 then clean s.1 (side n) s.2.1 t else
 let p:=Aj s.1 (side n)
 if p.2.1≠0 then clean p.1 (side n) p.2.1 t else
 let r:=Dc p.1 (side n) n
 clean r.1 (side n) r.2.1 p.2.2
def Fb (D:Dk) (n:Nm) (b:List UInt8) (t k:Stm):Dk×Int×Stm×Stm :=
 let r:=Hl D n b t
 if r.2.1≠0 then (r.1,r.2.1,r.2.2,k) else
 let y:=Bg r.1
 (y.1,y.2.1,r.2.2,r.2.2)
def Ns (D:Dk) (F:Fil) (b:List UInt8) (force:Bool):Dk×Int×Fil :=
 let s:=Aj D F.name
 if s.2.1≠0/\s.2.1≠162 then (s.1,s.2.1,F) else
 let k:=if s.2.1=0/\s.2.2=F.tried then s.2.2 else F.known
 if force=false/\s.2.2≠k then (s.1,170,{ F with known:=k }) else
 let w:=Fb s.1 F.name (F.mark++b) F.tried k
 (w.1,w.2.1,{ F with tried:=w.2.2.1,known:=w.2.2.2 })
def Pj (D:Dk) (F:Fil) (n:Nm) (b:List UInt8) (force:Bool):Dk×Int×Fil :=
 if userName n=false then (D,164,F) else
 if n=F.name then Ns D F b force else
 let s:=Aj D n
 if s.2.1=0/\force=false then (s.1,163,F) else
 if s.2.1≠0/\s.2.1≠162 then (s.1,s.2.1,F) else
 let w:=Fb s.1 n (F.mark++b) (0,0,0) (0,0,0)
 (w.1,w.2.1,F)
def asP (D:Dk) (F:Fil) (n:Nm):Dk×Int×Fil :=
 if userName n=false then (D,164,F) else
 let s:=Aj D n
 if s.2.1=0 then (s.1,163,F) else
 if s.2.1≠162 then (s.1,s.2.1,F) else (s.1,0,⟨n,F.mark,(0,0,0),(0,0,0)⟩)
def Ia:List Nm->Bool->Dk->Dk×Int×Bool
 |[],some_,D=>(D,0,some_)
 |n::r,some_,D=>if n.data.back?≠some 126 then Ia r some_ D else
  if (Au D n).2.1=0 then Ia r true (Au D n).1 else ((Au D n).1,(Au D n).2.1,some_)
def O1 (D:Dk):Dk×Int :=
 if D.down=true then (D,165) else
 let t:=Ia (names D.seen) false D
 if t.2.1≠0 then (t.1,t.2.1) else if t.2.2=false then (t.1,0) else ((Bg t.1).1,(Bg t.1).2.1)
end Go.Proofs.YtmooldhpiopcgaaGreatDoor.Dsk
namespace Go.Proofs.YtmooldhpiopcgaaGreatDoor
open Go.Proofs.Tryz
section
namespace Dq
open Go Go.Vx Dsk
section
variable {w w':World}
def Ar6 {f:FuncId}{args:Array Value}{t:RTy}{K:t.T->Wp}{v:t.T}(h:Calls prog f args w λe w'=>e=.returned (t.val v)/\w'=w) (hK:K v w):Aa prog f args t K w :=
 h.mono λe w' ⟨h1,h2⟩=>⟨v,h1,by rw [h2];exact hK⟩
def Bt7 {a b:TypeId}{n:Int}{K:ByteArray->Wp}(ha:prog.underlying a=some (.int .i32)) (hb:prog.underlying b=some .string) (hK:K (Utf8.encode n) w):Dy prog (.one (.one .str)) (convert a b (.int .i32 n)) K w:=by refine ⟨Utf8.encode n,w,?_,hK⟩;simp [convert,jZ ha,jZ hb,Conv.intToString,RTy.val,Ty.val,Cell.val]
def Au5 {s:ByteArray}{t:TypeId}{K:xM->Wp}(ht:prog.underlying t=some .string)
  (hK:∀r w',w'.heap[r]?=some (.stringIter s 0)->Ext w w'->r=w.heap.size->K (some (at0 r)) w'):Dy prog (.one (.one .ptr)) (Instr.range t (.string s)) K w:=by refine ⟨some (at0 w.heap.size),w.alloc (.stringIter s 0),?_,hK _ _ (heap_alloc w _) (Ext.alloc w _) rfl⟩;simp [Instr.range,jZ ht,newObj,Sem.run,kZ,RTy.val,Ty.val,Cell.val]
def Bj6 {s:ByteArray}{r pos:Nat}{t:TypeId}{K:Int->Int->Wp}{K0:World->Prop}(hr:w.heap[r]?=some (.stringIter s pos))
  (h0:s.size<=pos->K0 w) (h1:pos<s.size->∀w',w'.heap[r]?=some (.stringIter s (pos+(Utf8.decode s pos).2))->Upd (λk=>k=r) w w'->K (pos:Int) ((Utf8.decode s pos).1:Int) w') :
  Bl3 prog (Instr.next (.pointer (some (at0 r))) true t) K K0 w:=by have hg:(getObj r).run prog w=.ok (.stringIter s pos) w:=(by simp [getObj,Sem.run,hr]);by_cases h:pos<s.size;{obtain ⟨u1,u2⟩:=Kz (o':=.stringIter s (pos+(Utf8.decode s pos).2)) hr;refine .inl ⟨(pos:Int),((Utf8.decode s pos).1:Int),_,?_,h1 h _ u2 u1⟩;simp [Instr.next,hg,h,setObj,Sem.run,hr,goInt]};{refine .inr ⟨w,?_,h0 (by omega)⟩;simp [Instr.next,hg,h]}
def Bt3 {s:ByteArray}{i:Nat}(h:(s.get! i).toNat<128):Utf8.decode s i=((s.get! i).toNat,1):=by unfold Utf8.decode;simp only [Nat.add_zero];rw [iK h]
def Bt4 {s:ByteArray}{i:Nat}(h:128<=(s.get! i).toNat):128<=(Utf8.decode s i).1/\(Utf8.decode s i).1<2^31:=by
  unfold Utf8.decode;simp only [Nat.add_zero];rw [iP (by omega)];have h63:∀x:Nat,x%64<64:=λx=>oI _ (by decide);simp only [Utf8.runeError];(repeat' split);all_goals
    first
      |(exact ⟨by decide,by decide⟩)
      | (rename_i hh
         simp only [jA,pF,sG] at hh
         refine ⟨?_,?_⟩
         · dsimp only;omega
         · dsimp only;omega)
def Bs8 {c:Int}(h:128<=c):(2<=(Utf8.encode c).size/\(Utf8.encode c).size<=4)/\∀b,(Utf8.encode c)[(Utf8.encode c).size-1]?=some b->128<=b.toNat:=by
 have hc:128<=(if Utf8.valid c then c.toNat else Utf8.runeError)/\(if Utf8.valid c then c.toNat else Utf8.runeError)<0x110000:=by
  split
  ·rename_i hv
   simp only [Utf8.valid,jO,jA,pF] at hv
   omega
  ·decide
 unfold Utf8.encode;generalize (if Utf8.valid c then c.toNat else Utf8.runeError)=n at hc;have key:∀m:Nat,128<=(UInt8.ofNat (128+m%64)).toNat:=by
  intro m
  have:=oI m (show 0<64 by decide)
  simp only [uN]
  omega
 simp only;rw [iP (by omega)];split;{refine ⟨by show 2<=2/\2<=4;decide,λb hb=>?_⟩;have:(some (UInt8.ofNat (128+n%64)):Option UInt8)=some b:=hb;cases this;exact key n};{split;{refine ⟨by show 2<=3/\3<=4;decide,λb hb=>?_⟩;have:(some (UInt8.ofNat (128+n%64)):Option UInt8)=some b:=hb;cases this;exact key n};{refine ⟨by show 2<=4/\4<=4;decide,λb hb=>?_⟩;have:(some (UInt8.ofNat (128+n%64)):Option UInt8)=some b:=hb;cases this;exact key n}}
def indexByte_none:∀{l:List UInt8}{c:UInt8},(∀b∈l,b≠c)->Lib.indexByte l c=-1
 |[],_,_=>rfl
 |b::l,c,h=>by
  have h1:(b==c)=false:=by simpa using h b iM
  have h2:=indexByte_none (l:=l) (c:=c) λx hx=>h x (iO _ hx)
  simp [Lib.indexByte,h1,h2]
abbrev Ny:ByteArray:={ data:=#[46,95,45,126] }
def Cc0 {i j:Nat}{b:UInt8}(h:b∈(Ny.extract i j).data.toList):b.toNat<128:=by
 rw [uO,Array.toList_extract] at h;have:b∈([46,95,45,126]:List UInt8):=by
  rw [kL] at h
  exact uP (uQ h)
 clear h;revert this;revert b;decide
def Br8 {c:Int}(h:128<=c) (hc:c<2^31){K:Int->Wp}(hK:iF w (K (-1))):Aa prog 130 #[.string Ny,.int .i32 c] rI K w:=by
 refine j130 ?_;unfold F130;have h128:¬c<128:=(by omega);refine Ar (false,()) (Ac (λ_=>⟨by simp [h128],rfl⟩) (λh2=>absurd h2 (by simp;omega))) (Bh ?_);refine Ac (λhe=>?_) (λhe=>?_)
 ·refine Ai (λ_ w'=>Ext w w') (Au5 us λr w1 n1 e1 hr=>?_) λ_ w' e=>hK w' e;refine Bo (λ_ W=>Ext w W/\∃pos,W.heap[r]?=some (.stringIter Ny pos)/\pos<=4) (λ_ W=>match W.heap[r]? with|some (.stringIter _ p)=>4-p|_=>0) ⟨e1,0,n1,by decide⟩ ?_;rintro _ W ⟨eW,pos,hp,hle⟩;refine Bj6 hp (λ_=>Bh eW) λhlt W1 n2 u2=>?_;have hlt:pos<4:=hlt;have hd:(Utf8.decode Ny pos).1<128/\(Utf8.decode Ny pos).2=1:=by
   rcases (by omega:pos=0\/pos=1\/pos=2\/pos=3) with rfl|rfl|rfl|rfl<;>decide
  refine Ee (Ac (λh3=>?_) (λ_=>?_));{have:(((Utf8.decode Ny pos).1:Nat):Int)=65533:=(by simpa using h3);omega};{rw [hd.2] at n2;refine ⟨⟨eW.step u2 λk hk=>by omega,pos+1,n2,by omega⟩,?_⟩;simp only [n2,hp];omega}
 ·refine Ar6 (v:=Lib.validRune c) (Tryz.utf8_ValidRune c w) (Ac (λ_=>hK w (Ext.refl w)) (λ_=>Bt7 C21.und us ?_));obtain ⟨⟨s2,s4⟩,hl⟩:=Bs8 h;generalize Utf8.encode c=e at s2 s4 hl;obtain ⟨b,hb⟩:∃b,e[e.size-1]?=some b:=⟨_,uT e (e.size-1) (by omega)⟩;have hbg:=hl b hb;have ew:W64 (((ByteArray.size e:Nat):Int)-1)=((e.size-1:Nat):Int):=iD (by omega);refine Ai (λ_ w'=>Ext w w') ?_ λ_ w' e=>hK w' e;refine Bo (λs W=>s=(((e.size-1:Nat):Int),())/\Ext w W) (λ_ _=>0) ⟨by rw [ew],Ext.refl w⟩ ?_;rintro _ W ⟨rfl,eW⟩;refine Ac (λhlt=>?_) (λ_=>eW);have hlt:((e.size-1:Nat):Int)<4:=jY hlt;refine Ai (λ_ _=>False) (Az λW1 e1 _=>?_) (λ_ _ h=>h.elim);obtain ⟨a,ha⟩:∃a,Ny[e.size-1]?=some a:=⟨_,uT Ny (e.size-1) (by show e.size-1<4;omega)⟩;have hal:a.toNat<128:=by
   rcases (by omega:e.size-1=1\/e.size-1=2\/e.size-1=3) with h4|h4|h4<;>rw [h4] at ha<;>(have:=sW ha;subst this;decide)
  refine ⟨a,⟨by omega,by simpa using ha⟩,b,⟨by rw [ew];omega,by rw [ew];simpa using hb⟩,Ac (λ_=>?_) (λh5=>?_)⟩;{refine Az λW2 e2 _=>Ea ?_ ⟨b,⟨by rw [ew];omega,by rw [ew];simpa using hb⟩,?_⟩;{rw [iE (by omega)];have:(Ny.size:Int)=4:=rfl;omega};refine Ar6 (v:=Lib.indexByte _ _) (Tryz.strings_IndexByte _ _ W2) (Ac (λ_=>hK W2 ((eW.trans e1).trans e2)) λh6=>?_);rw [indexByte_none λx hx=>λhh=>?_] at h6;{exact absurd h6 (by decide)};{have:=Cc0 hx;rw [hh] at this;simp at this;omega}};{have:((a.toNat:Nat):Int)=((b.toNat:Nat):Int):=(by simpa using h5);omega}
def okI (c:Int):Bool:=decide ((97<=c/\c<=122)\/(65<=c/\c<=90)\/(48<=c/\c<=57)\/c=46\/c=95\/c=45\/c=126)
def Ag4:∀n:Nat,n<128->decide (0<=Lib.indexByte Ny.data.toList (n:Int).toNat.toUInt8)=decide (n=46\/n=95\/n=45\/n=126):=by decide +kernel
def Ao5 {c:Int}(h0:0<=c) (hc:c<2^31){K:Bool->Wp}(hK:iF w (K (!okI c))):Aa prog 52 #[.int .i32 c] rB K w:=by
 refine j52 ?_;unfold F52;refine Ar (decide ((97<=c/\c<=122)\/(65<=c/\c<=90)\/(48<=c/\c<=57)),()) ?_ (Ac (λh=>?_) λh=>?_);{refine Ar (decide (97<=c/\c<=122),()) (Ac (λh=>⟨?_,rfl⟩) λh=>⟨?_,rfl⟩) ?_;{exact Di (by simp at h ⊢;omega)};{exact Di (by simp at h ⊢;omega)};refine Ac (λh=>⟨Di (by simp at h ⊢;omega),rfl⟩) λh=>?_;refine Ar (decide (65<=c/\c<=90),()) (Ac (λh=>⟨?_,rfl⟩) λh=>⟨?_,rfl⟩) ?_;{exact Di (by simp at h ⊢;omega)};{exact Di (by simp at h ⊢;omega)};refine Ac (λh2=>⟨Di (by simp at h h2 ⊢;omega),rfl⟩) λh2=>?_;exact Ac (λh3=>⟨Di (by simp at h h2 h3 ⊢;omega),rfl⟩) λh3=>⟨Di (by simp at h h2 h3 ⊢;omega),rfl⟩};{have h:(97<=c/\c<=122)\/(65<=c/\c<=90)\/(48<=c/\c<=57):=(by simpa using h);(have:okI c=true:=by unfold okI;simp only [pF];omega);have hk:=hK w (Ext.refl w);rw [this] at hk;exact hk}
 ·have h:¬((97<=c/\c<=122)\/(65<=c/\c<=90)\/(48<=c/\c<=57)):=(by simpa using h);by_cases hb:c<128
  ·refine Ar6 (v:=decide (0<=Lib.indexByte Ny.data.toList c.toNat.toUInt8)) (Tryz.strings_ContainsRune_ascii Ny c w h0 hb) ?_;have:decide (0<=Lib.indexByte Ny.data.toList c.toNat.toUInt8)=okI c:=by
    obtain ⟨n,rfl⟩:=qN h0
    rw [Ag4 n (by omega)]
    unfold okI
    rw [uJ]
    omega
   rw [this];exact hK w (Ext.refl w)
  {refine j90 ?_;unfold F90;refine Br8 (by omega) hc λw' e=>?_;(have:okI c=false:=by unfold okI;simp only [oK];omega);have hk:=hK w' e;rw [this] at hk;exact hk}
def get_at {s:ByteArray}{i:Nat}(h:i<s.size):s.data.toList[i]?=some (s.get! i):=by
 have h':i<s.data.size:=h;have e:s.get! i=s.data[i]:=by
  show s.data[i]! = _
  exact pG s.data i h'
 rw [e,kQ];exact pI h'
def Af4 {s:ByteArray}(hs:s.size<2^62){K:Int->Wp}(hK:∀r w',Ext w w'->(r<0↔s.data.toList.all Fa=true)->K r w') :
  Aa prog 51 #[.string s,.func (.func 52) #[] #[]] rI K w:=by
 refine j51 ?_;unfold F51;refine j89 ?_;unfold F89;refine Ai (λ_ w'=>Ext w w'/\s.data.toList.all Fa=true) (Au5 us λr w1 n1 e1 hr=>?_) λ_ w' ⟨e,h⟩=>hK _ w' e ⟨λ_=>h,λ_=>by decide⟩;refine Bo (λ_ W=>Ext w W/\∃pos,W.heap[r]?=some (.stringIter s pos)/\pos<=s.size/\∀j,j<pos->Fa (s.get! j)=true) (λ_ W=>match W.heap[r]? with|some (.stringIter _ p)=>s.size-p|_=>0) ⟨e1,0,n1,by omega,λj hj=>by omega⟩ ?_;rintro _ W ⟨eW,pos,hp,hle,hok⟩;refine Bj6 hp (λhge=>Bh ⟨eW,?_⟩) λhlt W1 n2 u2=>?_;{rw [iW];intro x hx;obtain ⟨i,hi⟩:=uU.1 hx;have hlt:=(lY.1 hi).1;have hlt:i<s.size:=(by simpa using hlt);rw [get_at hlt] at hi;cases hi;exact hok i (by omega)};have q2:Ext w W1:=eW.step u2 λk hk=>(by omega);have hd:(Utf8.decode s pos).1<2^31/\okI ((Utf8.decode s pos).1:Int)=Fa (s.get! pos)/\(Fa (s.get! pos)=true->(Utf8.decode s pos).2=1):=by
  by_cases hb:(s.get! pos).toNat<128
  ·rw [Bt3 hb]
   refine ⟨by show (s.get! pos).toNat<2^31;omega,?_,λ_=>rfl⟩
   unfold okI Fa
   simp only [uJ]
   omega
  ·obtain ⟨h1,h2⟩:=Bt4 (s:=s) (i:=pos) (by omega)
   have hf:Fa (s.get! pos)=false:=by unfold Fa;simp only [oK];omega
   refine ⟨h2,?_,λh=>by rw [hf] at h;cases h⟩
   rw [hf]
   unfold okI;simp only [oK];omega
 refine Ee (func_x (by kernel_rfl) (Ao5 (by omega) (by have:=hd.1;omega) λW3 e3=>Pq C4.und ?_));rw [hd.2.1];have q3:=q2.trans e3;refine Ac (λh=>?_) λh=>?_;{(have hf:Fa (s.get! pos)=false:=by revert h;cases Fa (s.get! pos)<;>simp);refine hK _ _ q3 ⟨λh=>by omega,λh=>?_⟩;rw [iW] at h;have:=h _ (lU (get_at hlt));rw [hf] at this;cases this};{(have ht:Fa (s.get! pos)=true:=by revert h;cases Fa (s.get! pos)<;>simp);have n3:=e3.ext_get n2;rw [hd.2.2 ht] at n3;refine ⟨⟨q3,pos+1,n3,by omega,λj hj=>?_⟩,?_⟩;{by_cases hj':j=pos;{rw [hj'];exact ht};{exact hok j (by omega)}};{simp only [n3,hp];omega}}
def O4 {s:ByteArray}(hs:s.size<2^62){K:Bool->Wp}(hK:K (decide (s.data.back?=some 126)) w):Aa prog 50 #[.string s,.string { data:=#[126] }] rB K w:=by
 refine j50 ?_;unfold F50;refine j88 ?_;unfold F88;have e1:((ByteArray.size ({ data:=#[126] }:ByteArray):Nat):Int)=1:=rfl;simp only [e1];refine Ac (λh=>?_) λh=>?_
 ·(have h:1<=s.size:=by simp at h;omega);have ew:W64 (((ByteArray.size s:Nat):Int)-1)=((s.size-1:Nat):Int):=iD (by omega);rw [ew];refine Ea (by omega) ?_;have:(ByteArray.toList (s.extract (Int.toNat ((s.size-1:Nat):Int)) (Int.toNat ((s.size:Nat):Int)))==ByteArray.toList ({ data:=#[126] }:ByteArray))=decide (s.data.back?=some 126):=by
   rw [bytes_eq,uJ,kH,kH]
   have hl:s.data.size=s.size:=rfl
   have hx:(s.extract (s.size-1) s.size).data=#[s.data[s.size-1]'(by omega)]:=by
    rw [uO]
    refine Array.ext (by simp;omega) λi h1 h2=>?_
    have:i=0:=by simpa using h2
    subst this
    simp
   have hb:s.data.back?=some (s.data[s.size-1]'(by omega)):=by
    rw [uV]
    exact pI (by omega)
   rw [hb]
   constructor
   ·intro h
    rw [h] at hx
    simpa using hx.symm
   ·intro h
    have h2:=sW h
    cases hq:s.extract (s.size-1) s.size
    rw [hq] at hx
    simp only at hx
    rw [hx,h2]
  rw [this];exact hK
 ·(have h:s.size=0:=by simp at h;omega);have hb:decide (s.data.back?=some 126)=false:=by
   have:s.data=#[]:=Array.eq_empty_of_size_eq_zero h
   rw [this];decide
  rw [hb] at hK;exact hK
def Qh {n:Nm}(hs:n.size<2^62){K:Bool->Wp}(hK:iF w (K (userName n))):Aa prog 15 #[.string n] rB K w:=by
 refine j15 ?_;unfold F15;refine Ar (decide (n.size=0\/32<=n.size\/n.data.back?=some 126),()) ?_ ?_;{refine Ac (λh=>⟨Di ⟨λ_=>uX (.inl ?_),λ_=>rfl⟩,rfl⟩) λh=>Ac (λh2=>⟨Di ⟨λ_=>uX (.inr (.inl ?_)),λ_=>rfl⟩,rfl⟩) λh2=>O4 hs ⟨Di ?_,rfl⟩;{have:=eq_of_beq h;omega};{have:=jY h2;omega};(have h:n.size≠0:=by have:=ne_of_beq_false h;omega);(have h2:¬32<=n.size:=by have:=sK h2;omega);rw [pF,pF];exact ⟨λhb=>.inr (.inr hb),λhb=>(hb.resolve_left h).resolve_left h2⟩}
 ·refine Ac (λh=>?_) λh=>Af4 hs λr w' e hr=>?_
  ·have h:n.size=0\/32<=n.size\/n.data.back?=some 126:=(by simpa using h);have:userName n=false:=by
    unfold userName Bl
    rcases h with h|h|h
    ·simp [h]
    ·have:¬n.size<32:=by omega
     simp [this]
    ·simp [h]
   have hk:=hK w (Ext.refl w);rw [this] at hk;exact hk
  ·have h:¬(n.size=0\/32<=n.size\/n.data.back?=some 126):=(by simpa using h);simp only [uY] at h;obtain ⟨h1,h2,h3⟩:=h;have:userName n=decide (r<0):=by
    have h4:n.size<32:=by omega
    have h5:n.size<=32:=by omega
    have h6:decide (r<0)=n.data.toList.all Fa:=by
     rw [nN,pF];exact hr
    rw [h6]
    unfold userName Bl
    simp [h1,h3,h4,h5]
   have hk:=hK w' e;rw [this] at hk;exact hk
end
end Dq
end
set_option maxRecDepth 100000
section
namespace Dq
open Go Go.Vx Dsk
section
variable {w w':World}{S:Nat->Prop}
def Ba0 {P:Program}{s s':Sem Next}{t:RTy}{K:t.T->Wp}(h:s.run P w=s'.run P w) (hX:Cj P s' t K w):Cj P s t K w:=by unfold Cj at hX ⊢;rw [h];exact hX
def Ku (fn:Func):Array Value->Sem Value:=(Extern.find fn).getD λ_=>pure undef
def Jb {f:FuncId}{fn:Func}(hf:prog.funcs[f]?=some fn) (hc:((fn.name == "runtime.NumGoroutine"),fn.body.isNone,(Extern.findNext fn).isNone,(Extern.find fn).isSome)=(false,true,true,true)){args:Array Value}{t:RTy}{K:t.T->Wp}{x:t.T}
  (hr:(Ku fn args).run prog w=.ok (t.val x) w') (hK:K x w'):Cj prog (callFunc f args) t K w:=by simp only [kS] at hc;obtain ⟨h1,h2,h3,h4⟩:=hc;obtain ⟨e,he⟩:=sV.1 h4;refine .inr (.inl ⟨x,w',?_,hK⟩);rw [run_callFunc_extern hf h1 h2 (by simpa using h3) he];unfold Ku at hr;rw [he] at hr;simp only [jM] at hr;rw [hr];rfl
def Jm {P:Program}{t:TypeId}{v r:Value}{m:String}{f:FuncId}{args:Array Value}{rt:RTy}{K:rt.T->Wp}(hm:(Go.method (P.types.size+Made.depth) t v m).run P w=.ok (f,r) w) (h:Cj P (callFunc f (#[r]++args)) rt K w) :
  Cj P (invoke (.fn (.method m) #[]) (#[.iface t v]++args)) rt K w:=by
 refine Ba0 ?_ h;have e:invoke (.fn (.method m) #[]) (#[.iface t v]++args)=callMethod (.iface t v) m args:=by
  have h0:(#[Value.iface t v]++args)[0]?=some (.iface t v):=by simp [Array.getElem?_append]
  simp [invoke,h0]
 rw [e];simp only [callMethod,iH,program,Sem.run,iI,hm]
abbrev hdl (t:Nat):Value:=.pointer (some ⟨2,t,none⟩)
abbrev rty (t:Nat):Value:=.iface 211 (.agg #[hdl t])
abbrev rval (t b:Nat) (k:Int):Value:=.agg #[hdl t,dU b,.int .u64 k]
def Aq1 (v:Value) (w:World):(Go.method (prog.types.size+Made.depth) 211 (.agg #[v]) "Kind").run prog w=.ok (248,v) w:=by kernel_rfl
def Cc2 (v:Value) (w:World):(Go.method (prog.types.size+Made.depth) 211 v "Elem").run prog w=.ok (263,v) w:=by kernel_rfl
def Cc1 (v:Value) (w:World):(Go.method (prog.types.size+Made.depth) 211 v "Implements").run prog w=.ok (264,v) w:=by kernel_rfl
def Aw6 (v:Value) (w:World):(Go.method (prog.types.size+Made.depth) 211 v "AssignableTo").run prog w=.ok (261,v) w:=by kernel_rfl
def Bd8 (v:xM) (w:World):(Ku Tryz.f131 #[.iface 176 (.pointer v)]).run prog w=.ok (rval 176 w.heap.size 150) (w.alloc (.cells #[.pointer v] 176)):=by kernel_rfl
def Bd7 (v:xM) (w:World):(Ku Tryz.f131 #[.iface 177 (.pointer v)]).run prog w=.ok (rval 177 w.heap.size 150) (w.alloc (.cells #[.pointer v] 177)):=by kernel_rfl
def Bd6 (v:xM) (w:World):(Ku Tryz.f131 #[.iface 99 (.pointer v)]).run prog w=.ok (rval 99 w.heap.size 150) (w.alloc (.cells #[.pointer v] 99)):=by kernel_rfl
def Bd5 (v:Int) (w:World):(Ku Tryz.f131 #[.iface 33 (vI v)]).run prog w=.ok (rval 33 w.heap.size 130) (w.alloc (.cells #[vI v] 33)):=by kernel_rfl
def Cj2 (b:Nat) (w:World):(Ku Tryz.f132 #[rval 176 b 150]).run prog w=.ok (rty 176) w:=by kernel_rfl
def Cj1 (b:Nat) (w:World):(Ku Tryz.f132 #[rval 177 b 150]).run prog w=.ok (rty 177) w:=by kernel_rfl
def Cj6 (w:World):(Ku Tryz.f248 #[hdl 176]).run prog w=.ok (.int .u8 22) w:=by kernel_rfl
def Cj5 (w:World):(Ku Tryz.f248 #[hdl 177]).run prog w=.ok (.int .u8 22) w:=by kernel_rfl
def Cj4 (w:World):(Ku Tryz.f248 #[hdl 99]).run prog w=.ok (.int .u8 22) w:=by kernel_rfl
def Cj3 (w:World):(Ku Tryz.f248 #[hdl 33]).run prog w=.ok (.int .u8 2) w:=by kernel_rfl
def Ck0 (w:World):(Ku Tryz.f263 #[.agg #[hdl 176]]).run prog w=.ok (rty 99) w:=by kernel_rfl
def Cj9 (w:World):(Ku Tryz.f263 #[.agg #[hdl 177]]).run prog w=.ok (rty 33) w:=by kernel_rfl
def Cj8 (w:World):(Ku Tryz.f264 #[.agg #[hdl 99],rty 26]).run prog w=.ok (.bool true) w:=by kernel_rfl
def Cj7 (w:World):(Ku Tryz.f264 #[.agg #[hdl 33],rty 26]).run prog w=.ok (.bool true) w:=by kernel_rfl
def Bq1 (v:Value) (w:World):(Ku Tryz.f91 #[.iface 99 v]).run prog w=.ok (rty 99) w:=by kernel_rfl
def Bq0 (v:Value) (w:World):(Ku Tryz.f91 #[.iface 33 v]).run prog w=.ok (rty 33) w:=by kernel_rfl
def Bq3 (w:World):(Ku Tryz.f261 #[.agg #[hdl 99],rty 99]).run prog w=.ok (.bool true) w:=by kernel_rfl
def Bq2 (w:World):(Ku Tryz.f261 #[.agg #[hdl 33],rty 33]).run prog w=.ok (.bool true) w:=by kernel_rfl
end
end Dq
end
section
namespace Dq
open Go Go.Vx Dsk
section
variable {w w':World}{S:Nat->Prop}
def Lm {t:TypeId}{i:Inf}(hi:Aq prog t i) (hd:Xw i.desc=false){a:Addr}{v:Value}(h:w.cell? a=some v):(loadVar t a).run prog w=.ok v w:=by simp [loadVar,hi.Qd,hd,load,Sem.run,h]
def Bu6 (b:Nat) (w:World):(Ku Tryz.f133 #[rval 176 b 150]).run prog w=(Extern.ReflectliteValue.isNil 176 (at0 b) 150 22).run prog w:=by kernel_rfl
def Bz0 {b:Nat}{q:Addr}(h:w.cell? (at0 b)=some (.pointer (some q))):(Ku Tryz.f133 #[rval 176 b 150]).run prog w=.ok (.bool false) w:=by rw [Bu6];simp [Extern.ReflectliteValue.isNil,Lm Cv6 rfl h]
def Cg4 (b:Nat) (w:World):(Ku Tryz.f163 #[rval 176 b 150]).run prog w=(do match ←loadVar 176 (at0 b) with
 |.pointer none=>pure Extern.ReflectliteValue.zeroV
 |.pointer (some p)=>Extern.ReflectliteValue.mk 99 p 256
 |_=>Extern.ReflectliteValue.valueError "reflectlite.Value.Elem" 22:Sem Value).run prog w:=by kernel_rfl
def Bu5 (b:Nat) (w:World):(Ku Tryz.f133 #[rval 177 b 150]).run prog w=(Extern.ReflectliteValue.isNil 177 (at0 b) 150 22).run prog w:=by kernel_rfl
def By9 {b:Nat}{q:Addr}(h:w.cell? (at0 b)=some (.pointer (some q))):(Ku Tryz.f133 #[rval 177 b 150]).run prog w=.ok (.bool false) w:=by rw [Bu5];simp [Extern.ReflectliteValue.isNil,Lm Cv5 rfl h]
def Cg3 (b:Nat) (w:World):(Ku Tryz.f163 #[rval 177 b 150]).run prog w=(do match ←loadVar 177 (at0 b) with
 |.pointer none=>pure Extern.ReflectliteValue.zeroV
 |.pointer (some p)=>Extern.ReflectliteValue.mk 33 p 256
 |_=>Extern.ReflectliteValue.valueError "reflectlite.Value.Elem" 22:Sem Value).run prog w:=by kernel_rfl
def Cx0 (q:Nat) (w:World):(Extern.ReflectliteValue.mk 99 (at0 q) 256).run prog w=.ok (rval 99 q 406) w:=by kernel_rfl
def Cw9 (q:Nat) (w:World):(Extern.ReflectliteValue.mk 33 (at0 q) 256).run prog w=.ok (rval 33 q 386) w:=by kernel_rfl
def By8 {b q:Nat}(h:w.cell? (at0 b)=some (.pointer (some (at0 q)))):(Ku Tryz.f163 #[rval 176 b 150]).run prog w=.ok (rval 99 q 406) w:=by rw [Cg4];simp [Lm Cv6 rfl h,Cx0]
def By7 {b q:Nat}(h:w.cell? (at0 b)=some (.pointer (some (at0 q)))):(Ku Tryz.f163 #[rval 177 b 150]).run prog w=.ok (rval 33 q 386) w:=by rw [Cg3];simp [Lm Cv5 rfl h,Cw9]
def Cq1 (q b:Nat) (w:World):(Ku Tryz.f164 #[rval 99 q 406,rval 99 b 150]).run prog w=(do let val ←loadVar 99 (at0 b);storeVar 99 (at0 q) val;pure (.tuple #[]):Sem Value).run prog w:=by kernel_rfl
def Cq0 (q b:Nat) (w:World):(Ku Tryz.f164 #[rval 33 q 386,rval 33 b 130]).run prog w=(do let val ←loadVar 33 (at0 b);storeVar 33 (at0 q) val;pure (.tuple #[]):Sem Value).run prog w:=by kernel_rfl
def Yh {t:TypeId}{i:Inf}(hi:Aq prog t i) (hs:i.size=1){q:Nat}{u v:Value}{tt:TypeId}(hq:w.heap[q]?=some (.cells #[u] tt (0,0))) (hv:Eb v=true) (hc:v.cells=#[v]) :
  ∃w1,(storeVar t (at0 q) v).run prog w=.ok () w1/\Upd (λk=>k=q) w w1/\w1.heap[q]?=some (.cells #[v] tt (0,0)):=by obtain ⟨w1,h1,h2,h3,_⟩:=Jr prog [v] q 0 0 #[u] tt w (λx hx=>by simp at hx;rw [hx];exact hv) hq (by simp);refine ⟨w1,?_,h2,h3⟩;have hz:(sizeOf t).run prog w=.ok 1 w:=(by rw [hi.Gj,hs]);have h1':(storeCells (at0 q) [v]).run prog w=.ok () w1:=h1;simp [storeVar,hz,hc,h1']
def Cs2 {q b:Nat}{p:xM}{u:Value}{tt:TypeId}(h:w.cell? (at0 b)=some (.pointer p)) (hq:w.heap[q]?=some (.cells #[u] tt (0,0))) :
  ∃w1,(Ku Tryz.f164 #[rval 99 q 406,rval 99 b 150]).run prog w=.ok (.tuple #[]) w1/\Upd (λk=>k=q) w w1/\w1.heap[q]?=some (.cells #[.pointer p] tt (0,0)):=by obtain ⟨w1,h1,h2,h3⟩:=Yh C99 rfl hq (v:=.pointer p) rfl rfl;refine ⟨w1,?_,h2,h3⟩;rw [Cq1];simp [Lm C99 rfl h,h1]
def Cs1 {q b:Nat}{e:Int}{u:Value}{tt:TypeId}(h:w.cell? (at0 b)=some (vI e)) (hq:w.heap[q]?=some (.cells #[u] tt (0,0))) :
  ∃w1,(Ku Tryz.f164 #[rval 33 q 386,rval 33 b 130]).run prog w=.ok (.tuple #[]) w1/\Upd (λk=>k=q) w w1/\w1.heap[q]?=some (.cells #[vI e] tt (0,0)):=by obtain ⟨w1,h1,h2,h3⟩:=Yh C33 rfl hq (v:=vI e) rfl rfl;refine ⟨w1,?_,h2,h3⟩;rw [Cq0];simp [Lm C33 rfl h,h1]
def Jc (w:World):Prop:=∃c t fr,w.heap[0]?=some (.cells c t fr)/\c[0]?=some (rty 26)
def Jc.upd (h:Jc w) (u:Upd S w w') (hS:¬S 0):Jc w':=let ⟨c,t,fr,h1,h2⟩:=h;⟨c,t,fr,u.get h1 hS,h2⟩
def Jc.ext (h:Jc w) (u:Ext w w'):Jc w':=h.upd u id
structure Hz (w:World) (v:Value) (e:Int):Prop where
 ok:e=0->v=.nilIface
 bad:e≠0->∃b op nm st,v=.iface 99 (.pointer (some (at0 b)))/\w.heap[b]?=some (.cells #[.string op,.string nm,vI st,.iface 33 (vI e)] 101 (0,0))
def Tt.v {w0:World}{F:Nat->Prop}{v:Value}{op nm:ByteArray}{e:Int}(h:Tt w0 w F v op nm e):Hz w v e :=
 ⟨h.ok,λhe=>let ⟨b,k,h1,h2,_⟩:=h.bad he;⟨b,op,nm,k,h1,h2⟩⟩
def Hz.upd {v:Value}{e:Int}(h:Hz w v e) (u:Upd S w w') (hS:Et w S 101):Hz w' v e :=
 ⟨h.ok,λhe=>let ⟨b,op,nm,k,h1,h2⟩:=h.bad he;⟨b,op,nm,k,h1,u.get h2 λhb=>hS _ hb _ _ h2⟩⟩
def Hz.ext {v:Value}{e:Int}(h:Hz w v e) (u:Ext w w'):Hz w' v e:=h.upd u λ_ h=>h.elim
def Hz.one {v:Value}{e:Int}(h:Hz w v e):Eb v=true:=by by_cases he:e=0;{rw [h.ok he];rfl};{obtain ⟨b,op,nm,k,h1,_⟩:=h.bad he;rw [h1];rfl}
def Hz.none (w:World):Hz w .nilIface 0:=⟨λ_=>rfl,λh=>absurd rfl h⟩
def Hz.Yy {v:Value}{e:Int}(h:Hz w v e){o1:Operand}{K:Bool->Wp}(hK:K (decide (e=0)) w):rdB prog (do eqGuard .eql 26 o1 (.const .nilIface) v .nilIface;binOp .eql 26 v .nilIface:Sem Value) K w:=by by_cases he:e=0;{rw [h.ok he];exact Yk (by rw [uX he] at hK;exact hK) uE};{obtain ⟨b,op,nm,k,h1,_⟩:=h.bad he;rw [h1];exact Oi (by rw [qO he] at hK;exact hK) uE}
def Hz.Qo {v:Value}{e:Int}(h:Hz w v e){o1:Operand}{K:Bool->Wp}(hK:K (decide (e≠0)) w):rdB prog (do eqGuard .neq 26 o1 (.const .nilIface) v .nilIface;binOp .neq 26 v .nilIface:Sem Value) K w:=by by_cases he:e=0;{rw [h.ok he];exact Sz (by rw [qO (by simp [he])] at hK;exact hK) uE};{obtain ⟨b,op,nm,k,h1,_⟩:=h.bad he;rw [h1];exact Ad7 (by rw [uX he] at hK;exact hK) uE}
def Aq7 {t:TypeId}{ms:Array (String×TypeId)}(hi:prog.underlying t=some (.interface ms)) (n:Nat) (d:TypeId) (v:Value) (w:World):(Op.equalIn (n+1) t .nilIface (.iface d v)).run prog w=.ok false w:=by simp [Op.equalIn,jZ hi]
def Ti {v:Value}{e k:Int}(h:Hz w v e) (hk:k≠0){K:Bool->Wp}(hK:K (decide (e=k)) w):Aa prog 53 #[v,.iface 33 (vI k)] rB K w:=by by_cases he:e=0;{rw [h.ok he];refine j53 ?_;unfold F53;refine Ar (true,()) (Yk (Ee ⟨rfl,rfl⟩) uE) (Ee ⟨false,?_,?_⟩);{obtain ⟨ms,hi⟩:=uE;have:=Aq7 hi 9999 33 (vI k) w;simp [eqGuard,binOp,Op.equal,Op.maxDepth,this]};{have:decide (e=k)=false:=qO (by omega);rw [this] at hK;exact hK}};{obtain ⟨b,op,nm,st,rfl,hb⟩:=h.bad he;exact Cm3 hb hK}
end
end Dq
end
section
namespace Dq
open Go Go.Vx Dsk
section
variable {w w':World}{S:Nat->Prop}
def uI0:∃ms,prog.underlying 20=some (.interface ms):=⟨_,C20.und⟩
def Cf5 {q:Nat}{tt:TypeId}{u:Value}{p:xM}(hl:Jc w) (hq:w.heap[q]?=some (.cells #[u] tt (0,0))){K:Bool->Wp}
  (hK:∀w',w'.heap[q]?=some (.cells #[.pointer p] tt (0,0))->Upd (λk=>k=q) w w'->K true w') :
  Aa prog 93 #[.iface 99 (.pointer p),.iface 176 (.pointer (some (at0 q)))] rB K w:=by refine j93 ?_;unfold F93;refine Oi (Bh ?_) uE;refine Ar () (Oi (Bh ⟨rfl,rfl⟩) uI0) ?_;refine Jb (x:=(some ⟨2,176,none⟩,.pointer (some (at0 w.heap.size)),150,())) func131 (by kernel_rfl) (Bd8 _ _) ?_;have e1:Ext w (w.alloc (.cells #[dU q] 176)):=Ext.alloc w _;have n1:=heap_alloc w (.cells #[dU q] 176);obtain ⟨nb,hnb⟩:∃nb,nb=w.heap.size:=⟨_,rfl⟩;rw [←hnb] at n1 ⊢;generalize w.alloc (.cells #[dU q] 176)=w1 at e1 n1;refine (St.start w1).Iz rfl rfl rfl λb6 w2 S2 e2=>S2.lds (cs:=Oc) 0 (some ⟨2,176,none⟩,dU nb,150,()) rfl ?_;have n2:=e2.ext_get n1;have e12:=e1.trans e2;refine Jb (x:=rty 176) func132 (by kernel_rfl) (Cj2 _ _) ?_;refine Ar () (Ar (false,()) (Jm (Aq1 _ _) (Jb (x:=(22:Int)) func248 (by kernel_rfl) (Cj6 _) (Ac (λh=>absurd h (by decide)) λ_=>S2.lds (cs:=Oc) 0 (some ⟨2,176,none⟩,dU nb,150,()) rfl (Jb (x:=false) func133 (by kernel_rfl) (Bz0 (cell_of n2 rfl)) ⟨rfl,rfl⟩)))) (Bh ⟨rfl,rfl⟩)) ?_;refine Jm (Cc2 _ _) (Jb (x:=rty 99) func263 (by kernel_rfl) (Ck0 _) ?_);obtain ⟨c0,t0,fr0,h0,h0'⟩:=hl.ext e12;refine Ar () (Ar (false,()) (Jm (Aq1 _ _) (Jb (x:=(22:Int)) func248 (by kernel_rfl) (Cj4 _) (Ee (Af h0 (x:=rty 26) h0' (Jm (Cc1 _ _) (Jb (x:=true) func264 (by kernel_rfl) (Cj8 _) ⟨rfl,rfl⟩)))))) (Bh ⟨rfl,rfl⟩)) ?_;refine S2.lds (cs:=Oc) 0 (some ⟨2,176,none⟩,dU nb,150,()) rfl ?_;refine j134 (a2:=(some ⟨2,176,none⟩,dU nb,150,())) ?_;unfold F134;refine S2.Ak λb7 w3 S3 e3=>Bo (λs W=>s=(.iface 99 (.pointer p),())/\w3=W) (λ_ _=>0) ⟨rfl,rfl⟩ ?_;rintro _ _ ⟨rfl,rfl⟩;refine Jb (x:=rty 99) func91 (by kernel_rfl) (Bq1 _ _) (Jm (Aw6 _ _) (Jb (x:=true) func261 (by kernel_rfl) (Bq3 _) (Ee ?_)));have n3:=e3.ext_get n2;refine S3.lds (cs:=Oc) 0 (some ⟨2,176,none⟩,dU nb,150,()) rfl (Jb (x:=(some ⟨2,99,none⟩,dU q,406,())) func163 (by kernel_rfl) (By8 (cell_of n3 rfl)) ?_);refine Jb (x:=(some ⟨2,99,none⟩,.pointer (some (at0 w3.heap.size)),150,())) func131 (by kernel_rfl) (Bd6 _ _) ?_;have e4:Ext w3 (w3.alloc (.cells #[.pointer p] 99)):=Ext.alloc w3 _;have n4:=heap_alloc w3 (.cells #[.pointer p] 99);obtain ⟨w5,h5,u5,n5⟩:=Cs2 (cell_of (off:=0) n4 rfl) (e4.ext_get (e3.ext_get (e12.ext_get hq)));refine Jb (t:=.tup []) (x:=()) func164 (by kernel_rfl) h5 (hK w5 n5 ((Upd.Ae ((e12.trans e3).trans e4)).new u5 λ_ _ h=>h))
def Cf4 {q:Nat}{tt:TypeId}{u:Value}{e:Int}(hl:Jc w) (hq:w.heap[q]?=some (.cells #[u] tt (0,0))){K:Bool->Wp}
  (hK:∀w',w'.heap[q]?=some (.cells #[vI e] tt (0,0))->Upd (λk=>k=q) w w'->K true w') :
  Aa prog 93 #[.iface 33 (vI e),.iface 177 (.pointer (some (at0 q)))] rB K w:=by refine j93 ?_;unfold F93;refine Oi (Bh ?_) uE;refine Ar () (Oi (Bh ⟨rfl,rfl⟩) uI0) ?_;refine Jb (x:=(some ⟨2,177,none⟩,.pointer (some (at0 w.heap.size)),150,())) func131 (by kernel_rfl) (Bd7 _ _) ?_;have e1:Ext w (w.alloc (.cells #[dU q] 177)):=Ext.alloc w _;have n1:=heap_alloc w (.cells #[dU q] 177);obtain ⟨nb,hnb⟩:∃nb,nb=w.heap.size:=⟨_,rfl⟩;rw [←hnb] at n1 ⊢;generalize w.alloc (.cells #[dU q] 177)=w1 at e1 n1;refine (St.start w1).Iz rfl rfl rfl λb6 w2 S2 e2=>S2.lds (cs:=Oc) 0 (some ⟨2,177,none⟩,dU nb,150,()) rfl ?_;have n2:=e2.ext_get n1;have e12:=e1.trans e2;refine Jb (x:=rty 177) func132 (by kernel_rfl) (Cj1 _ _) ?_;refine Ar () (Ar (false,()) (Jm (Aq1 _ _) (Jb (x:=(22:Int)) func248 (by kernel_rfl) (Cj5 _) (Ac (λh=>absurd h (by decide)) λ_=>S2.lds (cs:=Oc) 0 (some ⟨2,177,none⟩,dU nb,150,()) rfl (Jb (x:=false) func133 (by kernel_rfl) (By9 (cell_of n2 rfl)) ⟨rfl,rfl⟩)))) (Bh ⟨rfl,rfl⟩)) ?_;refine Jm (Cc2 _ _) (Jb (x:=rty 33) func263 (by kernel_rfl) (Cj9 _) ?_);obtain ⟨c0,t0,fr0,h0,h0'⟩:=hl.ext e12;refine Ar () (Ar (false,()) (Jm (Aq1 _ _) (Jb (x:=(2:Int)) func248 (by kernel_rfl) (Cj3 _) (Ee (Af h0 (x:=rty 26) h0' (Jm (Cc1 _ _) (Jb (x:=true) func264 (by kernel_rfl) (Cj7 _) ⟨rfl,rfl⟩)))))) (Bh ⟨rfl,rfl⟩)) ?_;refine S2.lds (cs:=Oc) 0 (some ⟨2,177,none⟩,dU nb,150,()) rfl ?_;refine j134 (a2:=(some ⟨2,177,none⟩,dU nb,150,())) ?_;unfold F134;refine S2.Ak λb7 w3 S3 e3=>Bo (λs W=>s=(.iface 33 (vI e),())/\w3=W) (λ_ _=>0) ⟨rfl,rfl⟩ ?_;rintro _ _ ⟨rfl,rfl⟩;refine Jb (x:=rty 33) func91 (by kernel_rfl) (Bq0 _ _) (Jm (Aw6 _ _) (Jb (x:=true) func261 (by kernel_rfl) (Bq2 _) (Ee ?_)));have n3:=e3.ext_get n2;refine S3.lds (cs:=Oc) 0 (some ⟨2,177,none⟩,dU nb,150,()) rfl (Jb (x:=(some ⟨2,33,none⟩,dU q,386,())) func163 (by kernel_rfl) (By7 (cell_of n3 rfl)) ?_);refine Jb (x:=(some ⟨2,33,none⟩,.pointer (some (at0 w3.heap.size)),130,())) func131 (by kernel_rfl) (Bd5 _ _) ?_;have e4:Ext w3 (w3.alloc (.cells #[vI e] 33)):=Ext.alloc w3 _;have n4:=heap_alloc w3 (.cells #[vI e] 33);obtain ⟨w5,h5,u5,n5⟩:=Cs1 (cell_of (off:=0) n4 rfl) (e4.ext_get (e3.ext_get (e12.ext_get hq)));refine Jb (t:=.tup []) (x:=()) func164 (by kernel_rfl) h5 (hK w5 n5 ((Upd.Ae ((e12.trans e3).trans e4)).new u5 λ_ _ h=>h))
def Hq {v:Value}{e:Int}(h:Hz w v e) (hl:Jc w){K:Int->Wp}(hK:iF w (K e)):Aa prog 54 #[v] rI K w:=by refine j54 ?_;unfold F54;refine (St.start w).Ak λb1 w1 S1 e1=>S1.Ak λb2 w2 S2 e2=>?_;have e12:=e1.trans e2;refine (h.ext e12).Yy (Ac (λhe=>?_) λhe=>?_);{have he:=jY he;have hk:=hK w2 e12;rw [he] at hk;exact hk};have he:=sK he;obtain ⟨b,op,nm,st,rfl,hb⟩:=(h.ext e12).bad he;have g1:=S2.ge 1 rfl;have g2:=S2.ge 0 rfl;have hbl:=lt_of_heap ((h.bad he).choose_spec.choose_spec.choose_spec.choose_spec.2);refine Ai (λs W=>s=(true,())/\Ext w W/\W.heap[b2]?=some (.cells #[vI e] 33 (0,0))) (Cf5 (hl.ext e12) (S2.at_ 1 rfl) λw3 n3 u3=>Ee (Af n3 (x:=some (at0 b)) rfl (Ad ?_))) ?_;{have q3:Ext w w3:=e12.step u3 λk hk=>(by omega);have nd:[b2,b1].Nodup:=S2.nd;simp only [jT,uZ,vC] at nd;(have hb3:w3.heap[b]?=some (.cells #[.string op,.string nm,vI st,.iface 33 (vI e)] 101 (0,0)):=u3.get hb λhh=>by rw [hh,S2.at_ 1 rfl] at hb;cases hb);rw [addr_add];refine Af hb3 (off:=3) (x:=.iface 33 (vI e)) rfl (Cf4 (hl.ext q3) (u3.get (S2.at_ 0 rfl) λhh=>nd.1 hh) λw4 n4 u4=>⟨rfl,q3.step u4 λk hk=>by omega,n4⟩)};{rintro _ w4 ⟨rfl,q4,n4⟩;exact Ee (Af n4 (x:=e) rfl (hK w4 q4))}
end
end Dq
end
section
namespace Dq
open Go Go.Vx Dsk
section
variable {D:Dk}{N:Nat}{α:Type}
def Aa5 {a:α}{act:Dk->Dk×Int×α}{part:Option (Int->Dk->Dk×Int×α)}(ok:Bj D N) (ha:∀D1,Bj D1 (N+1)->Bj (act D1).1 (N+2)) (hp:∀pt,part=some pt->∀D1 k,Bj D1 (N+1)->Bj (pt k D1).1 (N+2)) :
  Bj (Dsk.step D a act part).1 (N+2):=by
 have ok1:Bj { D with steps:=D.steps+1 } (N+1):=by
  have:=ok.steps
  exact ⟨ok.space,λi f hf=>let ⟨a,b,c,e⟩:=ok.fil i f hf;⟨a,b,c,by omega⟩,mM ok.num (tX _),ok.good,⟨by dsimp only;omega,by dsimp only;omega⟩,mM ok.acts (tX _)⟩
 have ok2:Bj { D with steps:=D.steps+1 } (N+2):=ok1.mono (tX _);unfold Dsk.step;split;{exact ok.mono (by omega)}
 ·split;{exact ha _ ok1}
  ·rename_i f hf;unfold Uk;split;{exact ok2};split
   ·cases part with
    |none=>exact ok2
    |some pt=>exact hp pt rfl _ _ ok1
   split;{exact Ae5 ok2 _ _};split;{exact Ae5 (ha _ ok1) _ _};split;{exact ha _ ok1};{exact ha _ ok1}
def Ca1 {f:Dk->Dk×Int}(ok:Bj D N) (h:∀D1,Bj D1 (N+1)->Bj (f D1).1 (N+2)):Bj (Dsk.step D () (u f) none).1 (N+2):=Aa5 ok h λ_ h=>by cases h
def Kq (ok:Bj D N) (n:Nm) (b:List UInt8):Bj (Bv D n b).1 (N+2):=by refine Aa5 ok (λD1 ok1=>Bl2 ok1 n b) λpt hpt D1 k ok1=>?_;cases hpt;exact Bl2 ok1 n _
def Cs0 (D:Dk) (n:Nm):(rdR n D).1=D:=by unfold rdR;split<;>rfl
def st_fst (D:Dk) (n:Nm):(stR n D).1=D:=by unfold stR;split<;>rfl
def Vh (ok:Bj D N) (n:Nm):Bj (Aw D n).1 (N+2) :=
 Aa5 ok (λD1 ok1=>by rw [Cs0];exact ok1.mono (tX _)) λ_ h=>by cases h
def Ho (ok:Bj D N) (n:Nm):Bj (Aj D n).1 (N+2) :=
 Aa5 ok (λD1 ok1=>by rw [st_fst];exact ok1.mono (tX _)) λ_ h=>by cases h
def Jj (ok:Bj D N) (n:Nm):Bj (Bz D n).1 (N+2):=Ca1 ok λD1 ok1=>Ca6 ok1 n
def Rj (ok:Bj D N) (n:Nm):Bj (Ef D n).1 (N+2):=Ca1 ok λD1 ok1=>Ca2 ok1 n
def Nc (ok:Bj D N):Bj (Bg D).1 (N+2):=Ca1 ok λD1 ok1=>(Wu ok1).mono (tX _)
def Oj (ok:Bj D N) (n t:Nm):Bj (Dc D n t).1 (N+2):=Ca1 ok λD1 ok1=>Ca5 ok1 n t
def Iu (ok:Bj D N) (n:Nm):Bj (Au D n).1 (N+2):=Ca1 ok λD1 ok1=>Ca3 ok1 n
structure Quiet (D:Dk):Prop where
 up:D.down=false
 plan:∀k,D.plan k=none
def Gw (q:Quiet D){a:α}{act:Dk->Dk×Int×α}{part:Option (Int->Dk->Dk×Int×α)}:Dsk.step D a act part=act { D with steps:=D.steps+1 }:=by unfold Dsk.step;rw [iP (by rw [q.up];simp),q.plan]
def Hy (D:Dk) (k:Int) (n:Nm):Dsk.find { D with steps:=k } n=Dsk.find D n:=rfl
def Bd3 (q:Quiet D){n:Nm}{i:Nat}(hn:Bl n=true) (h:D.seen n=some i):Aw D n=({ D with steps:=D.steps+1 },0,(fl D i).data):=by unfold Aw;rw [Gw q];unfold rdR;(have:Dsk.find { D with steps:=D.steps+1 } n=(some i,0):=by rw [Hy];unfold Dsk.find;rw [iP (by rw [hn];simp),h]);rw [this];rfl
def O6 (q:Quiet D){n:Nm}{i:Nat}(hn:Bl n=true) (h:D.seen n=some i):Aj D n=({ D with steps:=D.steps+1 },0,(i:Int)+1,((fl D i).data.length:Int),(fl D i).count):=by unfold Aj;rw [Gw q];unfold stR;(have:Dsk.find { D with steps:=D.steps+1 } n=(some i,0):=by rw [Hy];unfold Dsk.find;rw [iP (by rw [hn];simp),h]);rw [this];rfl
end
end Dq
end
section
open Go Go.Vx
namespace Trx
structure Es where
 atoms:Nat
 bytes:Nat
 breaks:Nat
 lf:Bool
 cr:Bool
 deriving DecidableEq
structure Es.Ok (s:Es):Prop where
 brk:s.breaks<=s.atoms
 byt:s.atoms<=s.bytes
 lf:s.lf=true->1<=s.breaks
 cr:s.cr=true->1<=s.breaks
 nil:s.atoms=0->s=⟨0,0,0,false,false⟩
def Es.zero:Es:=⟨0,0,0,false,false⟩
def Es.add (s o:Es):Es :=
 if s.atoms=0 then o else if o.atoms=0 then s else
  ⟨s.atoms+o.atoms,s.bytes+o.bytes,s.breaks+o.breaks-(if s.cr&&o.lf then 1 else 0),s.lf,o.cr⟩
def Es.Bi6:Es.zero.Ok:=⟨mJ _,mJ _,(λh=>by cases h),(λh=>by cases h),λ_=>rfl⟩
def Es.add_zero {s:Es}(h:s.Ok):s.add .zero=s:=by unfold Es.add Es.zero;split;{rename_i h0;rw [h.nil h0]};{rfl}
def Es.I7 {s o:Es}(h:s.Ok) (h':o.Ok):(s.add o).Ok:=by unfold Es.add;split;{exact h'};{split;{exact h};{have:=h.brk;have:=h.byt;have:=h'.brk;have:=h'.byt;have h1:=h.lf;have h2:=h'.cr;have h3:=h.cr;have h4:=h'.lf;refine ⟨?_,?_,?_,?_,?_⟩;{show s.breaks+o.breaks-_<=s.atoms+o.atoms;omega};{show s.atoms+o.atoms<=s.bytes+o.bytes;omega};{show s.lf=true->1<=s.breaks+o.breaks-_;intro e;have:=h1 e;split;{rename_i hc;simp only [jA] at hc;have:=h4 hc.2;omega};{omega}};{show o.cr=true->1<=s.breaks+o.breaks-_;intro e;have:=h2 e;split;{rename_i hc;simp only [jA] at hc;have:=h3 hc.1;omega};{omega}};{intro e;have:s.atoms+o.atoms=0:=e;omega}}}
def Es.add_assoc {a b c:Es}(ha:a.Ok) (hb:b.Ok) (hc:c.Ok):(a.add b).add c=a.add (b.add c):=by by_cases h1:a.atoms=0;{have:=ha.nil h1;subst this;rfl};by_cases h2:b.atoms=0;{have:=hb.nil h2;subst this;have e:=Es.add_zero ha;unfold Es.zero at e;rw [e];rfl};by_cases h3:c.atoms=0;{have:=hc.nil h3;subst this;have e:=Es.add_zero (Es.I7 ha hb);have e':=Es.add_zero hb;unfold Es.zero at e e';rw [e,e']};have h12:¬a.atoms+b.atoms=0:=(by omega);have h23:¬b.atoms+c.atoms=0:=(by omega);simp only [Es.add,iP h1,iP h2,iP h3,iP h12,iP h23];(have a1:(if a.cr=true then 1 else 0)<=a.breaks:=by split;exact ha.cr ‹_›;omega);(have b1:(if b.lf=true then 1 else 0)<=b.breaks:=by split;exact hb.lf ‹_›;omega);(have b2:(if b.cr=true then 1 else 0)<=b.breaks:=by split;exact hb.cr ‹_›;omega);(have c1:(if c.lf=true then 1 else 0)<=c.breaks:=by split;exact hc.lf ‹_›;omega);refine (Es.mk.injEq ..).mpr ⟨by omega,by omega,?_,rfl,rfl⟩;cases h5:a.cr<;>cases h6:b.lf<;>cases h7:b.cr<;>cases h8:c.lf<;>simp only [h5,h6,h7,h8,lC,Bool.and_false,Bool.and_self,iT,kU,kT,reduceIte] at a1 b1 b2 c1 ⊢<;>omega
def Es.Qj (s o:Es) (h:s.Ok) (h':o.Ok):(s.add o).bytes=s.bytes+o.bytes/\(s.add o).atoms=s.atoms+o.atoms:=by unfold Es.add;split;{rename_i h0;rw [h.nil h0];simp};{split;{rename_i h0;rw [h'.nil h0];simp};{exact ⟨rfl,rfl⟩}}
structure Pc where
 bytes:Sl
 tag:Int
 sm:Es
inductive Tr where
 |nil
 |node (b:Nat) (l:Tr) (x:Pc) (r:Tr)
def Tr.ptr:Tr->xM
 |.nil=>none
 |.node b _ _ _=>some (at0 b)
def Tr.size:Tr->Nat
 |.nil=>0
 |.node _ l _ r=>l.size+1+r.size
def Tr.Nq:Tr->Nat
 |.nil=>0
 |.node _ l _ r=>max l.Nq r.Nq+1
def Tr.items:Tr->List Pc
 |.nil=>[]
 |.node _ l x r=>l.items++x::r.items
def tot (l:List Pc):Es:=l.foldr (λx s=>x.sm.add s) .zero
def Em (l:List Pc):Prop:=∀x∈l,x.sm.Ok
def Iy:∀{l:List Pc},Em l->(tot l).Ok
 |[],_=>Es.Bi6
 |x::r,h=>Es.I7 (h x iM) (Iy λy hy=>h y (iO _ hy))
def Il:∀{l m:List Pc},Em l->Em m->tot (l++m)=(tot l).add (tot m)
 |[],m,_,_=>rfl
 |x::r,m,h,h'=>by
  have hr:Em r:=λy hy=>h y (iO _ hy)
  show x.sm.add (tot (r++m))=(x.sm.add (tot r)).add (tot m)
  rw [Il hr h',Es.add_assoc (h x iM) (Iy hr) (Iy h')]
def Vu {x:Pc}(h:x.sm.Ok):tot [x]=x.sm:=Es.add_zero h
def Hw:∀t:Tr,t.items.length=t.size
 |.nil=>rfl
 |.node _ l x r=>by
  simp only [Tr.items,Tr.size,oC,kE,Hw l,Hw r];omega
def Aa0:∀t:Tr,t.Nq<=t.size
 |.nil=>mJ _
 |.node _ l x r=>by
  have:=Aa0 l;have:=Aa0 r
  simp only [Tr.Nq,Tr.size];omega
def Em.left {l m:List Pc}(h:Em (l++m)):Em l:=λx hx=>h x (jQ _ hx)
def Em.right {l m:List Pc}(h:Em (l++m)):Em m:=λx hx=>h x (jW _ hx)
def Em.append {l m:List Pc}(h:Em l) (h':Em m):Em (l++m):=λx hx=>(jV.1 hx).elim (h x) (h' x)
def Em.cons {x:Pc}{m:List Pc}(h:x.sm.Ok) (h':Em m):Em (x::m):=λy hy=>(iL.1 hy).elim (λe=>e▸h) (h' y)
def Em.one {x:Pc}(h:x.sm.Ok):Em [x]:=λy hy=>by rw [uZ.1 hy];exact h
def Em.head {x:Pc}{m:List Pc}(h:Em (x::m)):x.sm.Ok:=h x iM
def Em.tail {x:Pc}{m:List Pc}(h:Em (x::m)):Em m:=λy hy=>h y (iO _ hy)
end Trx
end
section
open Cdc Trx
namespace Trx
def one1 (a:Int) (n:Nat):Es:=⟨1,n,if a=10\/a=13 then 1 else 0,a==10,a==13⟩
def Ws (a:Int){n:Nat}(h:1<=n):(one1 a n).Ok:=by refine ⟨?_,h,?_,?_,?_⟩;{show (if a=10\/a=13 then 1 else 0)<=1;split<;>omega};{intro e;have:a=10:=(by simpa [one1] using e);show 1<=if a=10\/a=13 then 1 else 0;rw [iK (.inl this)];omega};{intro e;have:a=13:=(by simpa [one1] using e);show 1<=if a=10\/a=13 then 1 else 0;rw [iK (.inr this)];omega};{intro e;exact absurd e (by show ¬1=0;omega)}
abbrev As:=List (Int×Nat)
def Un (l:As):Prop:=∀x∈l,1<=x.2
def Un.tail {x:Int×Nat}{l:As}(h:Un (x::l)):Un l:=λy hy=>h y (iO _ hy)
def Un.take {l:As}(h:Un l) (n:Nat):Un (l.take n):=λy hy=>h y (uQ hy)
def Un.drop {l:As}(h:Un l) (n:Nat):Un (l.drop n):=λy hy=>h y (uP hy)
def Jq (e:Enc) (l:Bs):Un (ats e l):=λx hx=>(Cn9 e _ l (mJ _) x hx).1
def msr:As->Es
 |[]=>.zero
 |x::r=>(one1 x.1 x.2).add (msr r)
def Xr:∀{l:As},Un l->(msr l).Ok
 |[],_=>Es.Bi6
 |x::r,h=>Es.I7 (Ws _ (h x iM)) (Xr h.tail)
def Xt:∀{l m:As},Un l->Un m->msr (l++m)=(msr l).add (msr m)
 |[],m,_,_=>rfl
 |x::r,m,h,h'=>by
  show (one1 x.1 x.2).add (msr (r++m))=((one1 x.1 x.2).add (msr r)).add (msr m)
  rw [Xt h.tail h',Es.add_assoc (Ws _ (h x iM)) (Xr h.tail) (Xr h')]
def Cl4 (a:Int){n:Nat}(h:1<=n):msr [(a,n)]=one1 a n:=Es.add_zero (Ws a h)
def Zr:∀{l:As},Un l->(msr l).atoms=l.length
 |[],_=>rfl
 |x::r,h=>by
  have:=(Es.Qj _ _ (Ws x.1 (h x iM)) (Xr h.tail)).2
  show ((one1 x.1 x.2).add (msr r)).atoms=_
  rw [this,Zr h.tail,kE]
  show 1+_=_;omega
def Wv:∀{l:As},Un l->(msr l).bytes=szs l
 |[],_=>rfl
 |x::r,h=>by
  have:=(Es.Qj _ _ (Ws x.1 (h x iM)) (Xr h.tail)).1
  show ((one1 x.1 x.2).add (msr r)).bytes=_
  rw [this,Wv h.tail,Qk];rfl
abbrev atoms (l:As):xP:=l.map (·.1)
def Yl {e:Enc}{l:Bs}{j:Nat}(h:szs ((ats e l).take j)<l.length):∃a n,(ats e l)[j]?=some (a,n)/\nx e (l.drop (szs ((ats e l).take j)))=(a,n)/\(ats e l).take (j+1)=(ats e l).take j++[(a,n)]/\szs ((ats e l).take (j+1))=szs ((ats e l).take j)+n/\1<=n /\
  szs ((ats e l).take (j+1))<=l.length:=by
 have hc:=(As0 e j l).2;have hne:l.drop (szs ((ats e l).take j))≠[]:=λhn=>by
  have:=lW List.length hn
  rw [nH,kW] at this;omega
 rw [Ox e hne] at hc;have hj:j<(ats e l).length:=by
  by_cases hj:j<(ats e l).length
  ·exact hj
  ·have hz:(ats e l).drop j=[]:=vF (by omega)
   rw [hz] at hc;cases hc
 have hd:=tV hj;rw [hd] at hc;obtain ⟨h1,-⟩:=List.cons.inj hc;have ht:(ats e l).take (j+1)=(ats e l).take j++[(ats e l)[j]]:=(by rw [List.take_succ_eq_append_getElem hj]);have hp:=Jq e l _ (oO hj);have hx:=oP hj;generalize (ats e l)[j]=x at *;obtain ⟨a,n⟩:=x;have hs:szs ((ats e l).take (j+1))=szs ((ats e l).take j)+n:=(by rw [ht,Jf,Qk,Bj1,Nat.add_zero]);refine ⟨a,n,hx,h1,ht,hs,hp,?_⟩;have ha:=Me e l;rw [←vG (j+1) (ats e l),Jf] at ha;omega
def Bw6:∀{l:As},Un l->szs l=0->l=[]
 |[],_,_=>rfl
 |x::r,h,h0=>by rw [Qk] at h0;have:=h x iM;omega
def Aa3 {e:Enc}{l:Bs}{j:Nat}(h:¬szs ((ats e l).take j)<l.length):(ats e l).take j=ats e l:=by have ha:=Me e l;rw [←vG j (ats e l),Jf] at ha;have:=Bw6 ((Jq e l).drop j) (by omega);rw [List.drop_eq_nil_iff] at this;exact sQ this
def Ae0 {e:Enc}{l:Bs}(j:Nat):szs ((ats e l).take j)<=l.length:=by have ha:=Me e l;rw [←vG j (ats e l),Jf] at ha;omega
def Cb7 {l:As}{a:Int}{n:Nat}(h:Un l) (hn:1<=n):msr (l++[(a,n)])=(msr l).add (one1 a n):=by rw [Xt h (λx hx=>by rw [uZ.1 hx];exact hn),Cl4 a hn]
end Trx
end
end Go.Proofs.YtmooldhpiopcgaaGreatDoor
