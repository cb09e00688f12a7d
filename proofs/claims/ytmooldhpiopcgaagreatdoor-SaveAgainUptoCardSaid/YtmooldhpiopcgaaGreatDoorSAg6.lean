/- YtmooldhpiopcgaaGreatDoorSAg6: parts of the proof, put together by program. -/
import Derived.Test.YtmooldhpiopcgaaGreatDoorSAg5
set_option linter.unusedVariables false
set_option linter.unusedSimpArgs false
set_option linter.unusedSectionVars false
noncomputable section
set_option maxRecDepth 100000
namespace Go.Proofs.YtmooldhpiopcgaaGreatDoor
namespace Dq
open Go Go.Vx Dsk Cdc Trx Flp
section
variable {w w':World}
theorem Co9:Tryz.prog.underlying 112=some (.float .f64):=Co6.und
theorem u3i:Tryz.prog.underlying 3=some (.int .i64):=C3.und
theorem Ca2 {n:Int}{K:Value->Wp}(h:K (.float .f64 (fi n)) w):rdV Tryz.prog (convert 3 112 (.int .i64 n)) K w:=by
 refine ⟨_,?_,h⟩
 simp [convert,Co9,u3i,Conv.intToFloat,fi]
theorem Cm2 {x y:Operand}{a b:Int}(ha:0<=a/\a<1099511627776) (hb:0<b/\b<1099511627776){K:Value->Wp}(h:K (.float .f64 (dv (fi a) (fi b))) w) :
  rdV Tryz.prog (do eqGuard .quo 112 x y (.float .f64 (fi a)) (.float .f64 (fi b));binOp .quo 112 (.float .f64 (fi a)) (.float .f64 (fi b)):Sem Value) K w:=by
 refine ⟨_,?_,h⟩
 have e:=run_float_arith (P:=Tryz.prog) w .quo 112 .f64 (fi a) (fi b) _ (Bd5 ha hb).1
 simpa [eqGuard] using e
theorem Cp1 {x y:Operand}{a b:Int}(ha:0<=a/\a<1099511627776) (hb:0<b/\b<1099511627776){K:Value->Wp}(h:K (.float .f64 (sb 4607182418800017408 (dv (fi a) (fi b)))) w) :
  rdV Tryz.prog (do eqGuard .sub 112 x y (.float .f64 4607182418800017408) (.float .f64 (dv (fi a) (fi b)));binOp .sub 112 (.float .f64 4607182418800017408) (.float .f64 (dv (fi a) (fi b))):Sem Value) K w:=by
 refine ⟨_,?_,h⟩
 have e:=run_float_arith (P:=Tryz.prog) w .sub 112 .f64 _ _ _ (Bw3 ha hb)
 simpa [eqGuard] using e
theorem Cg4 {x y:Operand}{a b:Nat}{K:Bool->Wp}(h:K (ge a b) w) :
  rdB Tryz.prog (do eqGuard .geq 112 x y (.float .f64 a) (.float .f64 b);binOp .geq 112 (.float .f64 a) (.float .f64 b):Sem Value) K w:=by
 refine ⟨_,?_,h⟩
 simp [eqGuard,binOp,Op.floatCmp,ge]
theorem Cl1 {x y:Operand}{a b:Nat}{K:Bool->Wp}(h:K (le a b) w) :
  rdB Tryz.prog (do eqGuard .leq 112 x y (.float .f64 a) (.float .f64 b);binOp .leq 112 (.float .f64 a) (.float .f64 b):Sem Value) K w:=by
 refine ⟨_,?_,h⟩
 simp [eqGuard,binOp,Op.floatCmp,le]
theorem H7 {s:Sl}{l:List UInt8}(h:By w s l) (hl:l.length<=1048576){a u:Nat}(ha:a<=1) (hu:2*u<=l.length) (h0:0<u){K:Value->Wp}(hK:K (.float .f64 (dv (fi (zc l a u)) (fi u))) w) :
  Aa Tryz.prog 94 #[s.v,.int .i64 (a:Int),.int .i64 (u:Int)] (.one (.one .any)) K w:=by
 refine j94 (a0:=s) ?_
 unfold F94
 refine Ag (λx W=>x=((zc l a u:Int),())/\w=W) ?_ ?_
 ·refine Bz (λs W=>∃i:Nat,s=((zc l a i:Int),((a+2*i:Nat):Int),())/\w=W/\i<=u) (λs _=>2*u+2-s.2.1.toNat) ⟨0,rfl,rfl,Nat.zero_le _⟩ ?_
  rintro _ _ ⟨i,rfl,rfl,hi⟩
  dsimp only
  have e2:IntKind.wrap .i64 ((2:Int)*(u:Int))=((2*u:Nat):Int):=by rw [wrap64 (by omega) (by omega)];omega
  rw [e2]
  have hz:=Cb9 l a i
  refine Ac (λhlt=>?_) λhge=>?_
  ·have hlt:=of_decide_eq_true hlt
   have hlt:i<u:=by omega
   obtain ⟨x,hx⟩:∃x,l[a+2*i]?=some x:=⟨_,List.getElem?_eq_getElem (by omega)⟩
   have hd:l.getD (a+2*i) 1=x:=by rw [List.getD_eq_getElem?_getD,hx];rfl
   have ez:((x.toNat:Int)==0)=(x==0):=L6 x 0 (by decide)
   refine Bj (((zc l a (i+1):Nat):Int),()) (Oj h (by omega) (b:=x) (by rw [Int.toNat_natCast];exact hx) λp=>?_) ?_
   ·rw [ez,Bu8,hd]
    refine Ac (λhb=>?_) λhb=>?_
    ·have hb:x=0:=eq_of_beq hb
     rw [if_pos hb,wrap64 (by omega) (by omega)]
     exact ⟨by rw [Int.natCast_add];rfl,rfl⟩
    ·have hb:x≠0:=by simpa using hb
     rw [if_neg hb]
     exact ⟨rfl,rfl⟩
   ·rw [wrap64 (by omega) (by omega)]
    refine ⟨⟨i+1,by rw [show (((a+2*i:Nat):Int)+2)=((a+2*(i+1):Nat):Int) by omega],rfl,by omega⟩,?_⟩
    show 2*u+2-(((a+2*i:Nat):Int)+2).toNat<2*u+2-((a+2*i:Nat):Int).toNat
    omega
  ·have hge:=of_decide_eq_false hge
   obtain rfl:i=u:=by omega
   exact ⟨rfl,rfl⟩
 ·rintro _ _ ⟨rfl,rfl⟩
  have hz:=Cb9 l a u
  exact Ca2 (Ca2 (Cm2 ⟨by omega,by omega⟩ ⟨by omega,by omega⟩ hK))
set_option maxHeartbeats 1000000 in
theorem Bs5:Al9 λl=>(Ol l).1:=by
 intro l s w K hl h hd hK
 refine j55 (a0:=s) ?_
 unfold F55
 have hlen:l.length=s.len:=By.len h
 refine Zm h.x (Ac (λhh=>by rw [hd] at hh;cases hh) λ_=>?_)
 have hdiv:Int.tdiv ((s.len:Nat):Int) (2:Int)=((l.length/2:Nat):Int):=by rw [←hlen];rfl
 have ew:IntKind.wrap .i64 (Int.tdiv ((s.len:Nat):Int) (2:Int))=((l.length/2:Nat):Int):=by rw [hdiv,wrap64 (by omega) (by omega)]
 rw [ew]
 obtain ⟨u,hu⟩:∃u,u=l.length/2:=⟨_,rfl⟩
 rw [←hu]
 obtain ⟨hi,hhi⟩:∃x,x=dv (fi (zc l 0 u)) (fi u):=⟨_,rfl⟩
 obtain ⟨lo,hlo⟩:∃x,x=dv (fi (zc l 1 u)) (fi u):=⟨_,rfl⟩
 have hg:Ol l=if 0<u/\ge lo 4602678819172646912=true/\le hi 4593671619917905920=true then (2,lo) else
  if 0<u/\ge hi 4602678819172646912=true/\le lo 4593671619917905920=true then (3,hi) else
  if (hrK l.length l).2=0 then (1,4607182418800017408) else
  if ge (dv (fi (((hrK l.length l).1:Int)-(hrK l.length l).2)) (fi (hrK l.length l).1)) 4604930618986332160=true then (1,dv (fi (((hrK l.length l).1:Int)-(hrK l.length l).2)) (fi (hrK l.length l).1)) else (4,sb 4607182418800017408 (dv (fi (((hrK l.length l).1:Int)-(hrK l.length l).2)) (fi (hrK l.length l).1))):=by
  rw [hhi,hlo,hu];rfl
 have hK:∀v w',Ext w w'->K ((Ol l).1,v,()) w':=hK
 rw [hg] at hK
 refine Ag (λ_ W=>w=W/\¬(0<u/\ge lo 4602678819172646912=true/\le hi 4593671619917905920=true)/\¬(0<u/\ge hi 4602678819172646912=true/\le lo 4593671619917905920=true)) (Ca4.2 ⟨by decide,?_⟩) ?_
 ·refine Ac (λhp=>?_) λhp=>?_
  ·have hp:0<u:=by have:=of_decide_eq_true hp;omega
   refine H7 (a:=0) h hl (by decide) (by omega) hp (H7 (a:=1) h hl (by decide) (by omega) hp ?_)
   rw [←hhi,←hlo]
   refine Bj (decide (ge lo 4602678819172646912=true/\le hi 4593671619917905920=true),()) (Cg4 (Ac (λh1=>Cl1 ⟨Dx ?_,rfl⟩) λh1=>⟨Dx ?_,rfl⟩)) (Ac (λhc=>?_) λhc=>?_)
   ·rw [decide_eq_true_eq];exact ⟨λh2=>⟨h1,h2⟩,λh2=>h2.2⟩
   ·rw [decide_eq_true_eq];exact ⟨λh2=>(by cases h2),λh2=>by rw [h1] at h2;exact absurd h2.1 (by decide)⟩
   ·have hc:=of_decide_eq_true hc
    rw [if_pos ⟨hp,hc⟩] at hK
    exact hK _ _ (Ext.refl _)
   have hc:=of_decide_eq_false hc
   refine Bj (decide (ge hi 4602678819172646912=true/\le lo 4593671619917905920=true),()) (Cg4 (Ac (λh1=>Cl1 ⟨Dx ?_,rfl⟩) λh1=>⟨Dx ?_,rfl⟩)) (Ac (λhc2=>?_) λhc2=>?_)
   ·rw [decide_eq_true_eq];exact ⟨λh2=>⟨h1,h2⟩,λh2=>h2.2⟩
   ·rw [decide_eq_true_eq];exact ⟨λh2=>(by cases h2),λh2=>by rw [h1] at h2;exact absurd h2.1 (by decide)⟩
   ·have hc2:=of_decide_eq_true hc2
    rw [if_neg (λhh=>hc hh.2),if_pos ⟨hp,hc2⟩] at hK
    exact hK _ _ (Ext.refl _)
   have hc2:=of_decide_eq_false hc2
   exact ⟨rfl,λhh=>hc hh.2,λhh=>hc2 hh.2⟩
  ·have hp:¬0<u:=by have:=of_decide_eq_false hp;omega
   exact ⟨rfl,λhh=>hp hh.1,λhh=>hp hh.1⟩
 rintro _ _ ⟨rfl,n1,n2⟩
 rw [if_neg n1,if_neg n2] at hK
 clear n1 n2 hg hhi hlo
 obtain ⟨hRH,hHl⟩:=Bs1 l.length l
 obtain ⟨H,hH⟩:∃x,x=(hrK l.length l).1:=⟨_,rfl⟩
 obtain ⟨R,hR⟩:∃x,x=(hrK l.length l).2:=⟨_,rfl⟩
 rw [←hH,←hR] at hK hRH
 rw [←hH] at hHl
 refine Ag (λx W=>x=((H:Int),(R:Int),())/\Ext w W) ?_ ?_
 ·refine Bz (λs W=>∃m a h r:Nat,s=((h:Int),(r:Int),(a:Int),())/\Ext w W/\a<=l.length/\h+(hrK m (l.drop a)).1=H/\r+(hrK m (l.drop a)).2=R/\l.length-a<=m) (λs _=>l.length-s.2.2.1.toNat) ⟨l.length,0,0,0,rfl,Ext.refl _,Nat.zero_le _,by rw [hH];simp,by rw [hR];simp,Nat.sub_le _ _⟩ ?_
  rintro _ W ⟨m,a,hc,rc,rfl,e1,ha,h1,h2,hm⟩
  dsimp only
  refine Ac (λhlt=>?_) λhge=>?_
  ·have hlt:a<l.length:=by have:=of_decide_eq_true hlt;omega
   obtain ⟨b,r,hbr⟩:∃b r,l.drop a=b::r:=by
    cases hd:l.drop a with
    |nil=>have:=congrArg List.length hd;simp at this;omega
    |cons b r=>exact ⟨b,r,rfl⟩
   have hba:l[a]?=some b:=by
    have:=congrArg (λx=>x[0]?) hbr
    simpa using this
   have hW:By W s l:=Cj.ext h e1
   obtain ⟨m,rfl⟩:∃k,m=k+1:=⟨m-1,by omega⟩
   have hcap:=hW.le
   refine Xp hW (by omega) (by omega) (by omega) (by omega) (by omega) λs' hs' hl' hb'=>?_
   have et:(l.drop ((a:Int)).toNat).take (((s.len:Nat):Int).toNat-((a:Int)).toNat)=b::r:=by
    rw [Int.toNat_natCast,Int.toNat_natCast,hbr]
    refine List.take_of_length_le ?_
    have:=congrArg List.length hbr
    simp only [List.length_drop] at this
    omega
   rw [et] at hs'
   refine Zj hs' λW2 e2=>?_
   obtain ⟨z1,z2,z3⟩:=Q7 b r
   have hlen2:(b::r).length=l.length-a:=by rw [←hbr,List.length_drop]
   rw [hbr] at h1 h2
   simp only [hrK] at h1 h2
   have ed:(b::r).drop (nx8 (b::r)).2=l.drop (a+(nx8 (b::r)).2):=by rw [←hbr,List.drop_drop,hbr]
   rw [ed] at h1 h2
   obtain ⟨v,hv⟩:∃v,v=nx8 (b::r):=⟨_,rfl⟩
   rw [←hv] at z1 z2 z3 h1 h2 ⊢
   dsimp only
   obtain ⟨q1,q2⟩:=Bs1 m (l.drop (a+v.2))
   refine Bj (((rc+(if v.1<0 then 1 else 0):Nat):Int),()) (Ac (λhb=>?_) λhb=>?_) ?_
   ·rw [if_pos (of_decide_eq_true hb),wrap64 (by omega) (by omega)];exact ⟨by rw [Int.natCast_add];rfl,rfl⟩
   ·rw [if_neg (of_decide_eq_false hb)];exact ⟨rfl,rfl⟩
   refine Bj (((hc+(if 128<=b.toNat then v.2 else 0):Nat):Int),()) (Oj (hW.ext e2) (by omega) (b:=b) (by rw [Int.toNat_natCast];exact hba) λp=>Ac (λhb=>?_) λhb=>?_) ?_
   ·have hb:128<=b.toNat:=by have:=of_decide_eq_true hb;omega
    rw [if_pos hb] at h1 ⊢
    rw [wrap64 (by omega) (by omega)]
    exact ⟨by rw [Int.natCast_add],rfl⟩
   ·have hb:¬128<=b.toNat:=by have:=of_decide_eq_false hb;omega
    rw [if_neg hb];exact ⟨rfl,rfl⟩
   rw [wrap64 (by omega) (by omega)]
   refine ⟨⟨m,a+v.2,_,_,by rw [←Int.natCast_add],e1.trans e2,by omega,by omega,by omega,by omega⟩,?_⟩
   show l.length-((a:Int)+(v.2:Int)).toNat<l.length-((a:Int)).toNat
   omega
  ·have hge:¬a<l.length:=by have:=of_decide_eq_false hge;omega
   have hnil:l.drop a=[]:=List.drop_eq_nil_of_le (by omega)
   rw [hnil,Cg3] at h1 h2
   exact ⟨by rw [←h1,←h2];rfl,e1⟩
 rintro _ W ⟨rfl,e1⟩
 dsimp only
 refine Ac (λh0=>?_) λh0=>?_
 ·have h0:R=0:=by have:(R:Int)=0:=eq_of_beq h0;omega
  rw [if_pos h0] at hK
  exact hK _ _ e1
 have h0:R≠0:=by
  intro hh;rw [hh] at h0;cases h0
 rw [if_neg h0] at hK
 rw [wrap64 (by omega) (by omega)]
 refine Ca2 (Ca2 (Cm2 ⟨by omega,by omega⟩ ⟨by omega,by omega⟩ (Cg4 (Ac (λhg=>?_) λhg=>?_))))
 ·rw [if_pos hg] at hK
  exact hK _ _ e1
 ·rw [if_neg (by rw [hg];decide)] at hK
  exact Cp1 ⟨by omega,by omega⟩ ⟨by omega,by omega⟩ (hK _ _ e1)
end
end Dq
end Go.Proofs.YtmooldhpiopcgaaGreatDoor
namespace Go.Proofs.YtmooldhpiopcgaaGreatDoor
namespace Dq
open Go Go.Vx Dsk
section
variable {D D':Dk}{N:Nat}
theorem Ak1 {l:List Fl}{i:Nat}{g:Fl}(hg:l[i]?=some g) (f:Fl->Fl) (j:Nat):(Ku l i f).getD j ⟨[],0,0⟩=if j=i then f g else l.getD j ⟨[],0,0⟩:=by
 rw [Jm hg,List.getD_eq_getElem?_getD,List.getElem?_set]
 have hi:=(List.getElem?_eq_some_iff.1 hg).1
 by_cases h:j=i
 ·subst h;rw [if_pos rfl,if_pos rfl,if_pos hi];rfl
 ·rw [if_neg (Ne.symm h),if_neg h,List.getD_eq_getElem?_getD]
theorem Aa9 (q:Quiet D):Cm D=(Dsk.settle { D with steps:=D.steps+1 },0,()):=by
 unfold Cm
 rw [Gw q]
 rfl
theorem Bd6 {g:Fl}(h:g.synced=g.data.length) (more:Int):g.cut more=g:=by
 obtain ⟨d,s,c⟩:=g
 dsimp only at h
 subst h
 unfold Fl.cut
 simp
theorem Z5 (f:Dir) (bytes:List Int):∀(l:List Nm) (i:Nat) (fs:List Fl),(∀n∈l,∃k g,f n=some k/\fs[k]?=some g/\g.synced=g.data.length)->Ij f bytes l i fs=fs
 |[],_,_,_=>rfl
 | n::r,i,fs,h=>by
  obtain ⟨k,g,hk,hg,hs⟩:=h n (List.mem_cons_self ..)
  unfold Ij
  rw [hk,Option.getD_some,Jm hg,Bd6 hs]
  have e:fs.set k g=fs:=by
   obtain ⟨hl,rfl⟩:=List.getElem?_eq_some_iff.1 hg
   exact List.set_getElem_self hl
  rw [e]
  exact Z5 f bytes r (i+1) fs λm hm=>h m (List.mem_cons_of_mem _ hm)
end
end Dq
end Go.Proofs.YtmooldhpiopcgaaGreatDoor
namespace Go.Proofs.YtmooldhpiopcgaaGreatDoor
namespace Dq
open Go Go.Vx Dsk
section
variable {D D':Dk}{N:Nat}
theorem An5 {α:Type}{f g:α->Int}{p:α->Bool}:∀{l:List α},(∀x∈l,p x=true->f x=g x)->(∀x∈l,0<=g x)->Gz ((l.filter p).map f)<=Gz (l.map g)
 |[],_,_=>Int.le_refl _
 |x::r,h,h0=>by
  have:=An5 (l:=r) (λy hy=>h y (List.mem_cons_of_mem _ hy)) λy hy=>h0 y (List.mem_cons_of_mem _ hy)
  have hx:=h0 x List.mem_cons_self
  cases hp:p x with
  |true=>rw [List.filter_cons_of_pos hp];simp only [List.map_cons,Gz,h x List.mem_cons_self hp];omega
  |false=>rw [List.filter_cons_of_neg (by rw [hp];simp)];simp only [List.map_cons,Gz];omega
theorem _root_.Go.Proofs.YtmooldhpiopcgaaGreatDoor.Dsk.Lists.eq {f g:Dir}{l:List Nm}(h:Lists f l) (e:g=f):Lists g l:=e▸h
def wt (fs:List Fl):Option Nat->Int
 |some i=>(fs.getD i ⟨[],0,0⟩).data.length
 |none=>0
theorem Be3 (fs:List Fl) (o:Option Nat):0<=wt fs o:=by cases o<;>simp only [wt]<;>omega
theorem Bl6 (D:Dk):weigh D none=λn=>wt D.files (D.seen n):=by
 funext n;unfold weigh wt
 cases D.seen n<;>rfl
theorem Zx {l:List Nm}(h:Lists D.seen l):Bv D none=Gz (l.map λn=>wt D.files (D.seen n)):=by rw [Bb3 h,Bl6]
theorem Bl9 (ok:Bl D N) (a:Nm) (hs:D'.seen=Dn D.seen a none) (hf:D'.files=D.files):Bv D' none<=Bv D none:=by
 obtain ⟨hl,_⟩:=ok.seen.names
 have hl':=(Ul hl a).eq hs
 rw [Zx hl',Zx hl]
 refine An5 (λm _ hm=>?_) λ_ _=>Be3 ..
 rw [hs,hf];unfold Dn
 rw [if_neg (by simpa using hm)]
theorem Am7 (ok:Bl D N){a:Nm}(h:D.seen a=none){g:Fl}(hs:D'.seen=Dn D.seen a (some D.files.length)) (hf:D'.files=D.files++[g]):Bv D' none=Bv D none+g.data.length:=by
 obtain ⟨hl,_⟩:=ok.seen.names
 have hl':=(Qi (i:=D.files.length) hl h).eq hs
 rw [Zx hl',Zx hl]
 have ha:wt D'.files (D'.seen a)=g.data.length:=by rw [hs,hf];unfold Dn wt;rw [if_pos rfl];simp
 have hr:(names D.seen).map (λn=>wt D'.files (D'.seen n))=(names D.seen).map λn=>wt D.files (D.seen n):=List.map_congr_left λn hn=>by
  obtain ⟨i,hi⟩:=Option.isSome_iff_exists.1 ((hl.2 n).1 hn)
  have hna:n≠a:=λe=>by rw [e,h] at hi;cases hi
  have:=ok.seen.ids n i hi
  rw [hs,hf];unfold Dn;rw [if_neg hna,hi];unfold wt
  simp [List.getElem?_append_left this]
 simp only [List.map_cons,Gz,ha,hr];omega
theorem Iw (D:Dk) (a:Nh):Ez (D.acts++[a]) D.lasts=a.on D.seen:=by
 have:∀(l:List Nh) (f:Dir),Ez (l++[a]) f=a.on (Ez l f):=by
  intro l
  induction l with
  |nil=>intro f;rfl
  |cons x r ih=>intro f;exact ih _
 exact this _ _
theorem Ae2 (ok:Bl D N):Bl { D with steps:=D.steps+1 } (N+1):=by
 have:=ok.steps
 exact ⟨ok.space,λi f hf=>let ⟨a,b,c,e⟩:=ok.fil i f hf;⟨a,b,c,by omega⟩,Nat.le_trans ok.num (Nat.le_succ _),ok.good,⟨by dsimp only;omega,by dsimp only;omega⟩,Nat.le_trans ok.acts (Nat.le_succ _)⟩
end
end Dq
end Go.Proofs.YtmooldhpiopcgaaGreatDoor
namespace Go.Proofs.YtmooldhpiopcgaaGreatDoor
namespace Dq
open Go Go.Vx Dsk
section
variable {D E:Dk}{N M:Nat}{n sd:Nm}{k:Int}{g:Fl}{T:List UInt8}
theorem Ad4 (n:Nm):(side n).data.toList=n.data.toList++[126]:=by unfold side;simp
theorem Qr (n:Nm):side n≠n:=λh=>by
 have:=congrArg (λx:Nm=>x.data.toList.length) h
 simp only [Ad4] at this
 simp at this
theorem Jl (h:userName n=true):Ba n=true/\Ba (side n)=true:=by
 unfold userName at h
 simp only [Bool.and_eq_true,decide_eq_true_eq] at h
 obtain ⟨⟨h1,h2⟩,h3⟩:=h
 refine ⟨h1,?_⟩
 unfold Ba at h1 ⊢
 simp only [Bool.and_eq_true,bne_iff_ne,ne_eq,decide_eq_true_eq] at h1 ⊢
 have hs:(side n).size=n.size+1:=by
  show (n.data.push 126).size=n.data.size+1
  simp
 refine ⟨⟨by omega,by omega⟩,?_⟩
 rw [Ad4,List.all_append,h1.2]
 decide
structure Bes (D E:Dk) (sd:Nm) (k:Int) (g:Fl):Prop where
 q:Quiet E
 files:E.files=D.files++[g]
 lasts:E.lasts=D.lasts
 seen:E.seen=Dn D.seen sd (some D.files.length)
 steps:E.steps=D.steps+k
 space:E.space=D.space
 ok:∃M,Bl E M
 acts:∃as_,E.acts=D.acts++as_
theorem Bes.find (h:Bes D E sd k g) (hn:Ba sd=true):Dsk.find E sd=(some D.files.length,0):=by
 unfold Dsk.find
 rw [if_neg (by rw [hn];simp),h.seen]
 unfold Dn
 rw [if_pos rfl]
theorem Bes.at_ (h:Bes D E sd k g):E.files[D.files.length]?=some g:=by rw [h.files];simp
theorem Bes.fl (h:Bes D E sd k g):fl E D.files.length=g:=by unfold Dsk.fl;rw [List.getD_eq_getElem?_getD,h.at_];rfl
theorem Yh (f:Dir) (a:Nm) (x y:Option Nat):Dn (Dn f a x) a y=Dn f a y:=by
 funext m;unfold Dn;split<;>rfl
theorem Af9 (f:Dir) (a:Nm){x:Option Nat}(h:f a=x):Dn f a x=f:=by
 funext m;unfold Dn;split
 ·rename_i hh;rw [hh,h]
 ·rfl
theorem Bes.used (h:Bes D E sd k g) (ok:Bl D N):Bv E none<=Bv D none+g.data.length:=by
 cases hs:D.seen sd with
 |none =>
  have:=Am7 ok hs h.seen h.files
  omega
 |some j =>
  have hG:Good D.files.length (Dn D.seen sd none):=Good.del ok.seen sd
  have ok2:Bl { D with acts:=D.acts++[.rm sd] } (N+1):=ok.push hG
  have h2:({ D with acts:=D.acts++[.rm sd] }:Dk).seen=Dn D.seen sd none:=Iw D (.rm sd)
  have h3:({ D with acts:=D.acts++[.rm sd] }:Dk).seen sd=none:=by rw [h2];unfold Dn;rw [if_pos rfl]
  have h4:=Am7 (D':=E) ok2 h3 (by rw [h2,Yh];exact h.seen) h.files
  have h5:=Bl9 (D':={ D with acts:=D.acts++[.rm sd] }) ok sd h2 rfl
  omega
theorem X9 (q:Quiet D) (ok:Bl D N) (hn:Ba sd=true) (h0:D.seen sd=none) (hl:(names D.seen).length<16) :
  (Dj D sd).2.1=0/\Bes D (Dj D sd).1 sd 1 ⟨[],0,0⟩:=by
 have hok:=Yy ok sd
 have hf:Dsk.find { D with steps:=D.steps+1 } sd=(none,162):=by
  rw [Fv];unfold Dsk.find;rw [if_neg (by rw [hn];simp),h0]
 have e:Dj D sd=({ D with steps:=D.steps+1,files:=D.files++[⟨[],0,0⟩],acts:=D.acts++[.mk sd D.files.length] },0,()):=by
  unfold Dj
  rw [Gw q]
  unfold u mkR
  rw [hf]
  dsimp only
  have hl':¬16<=(names ({ D with steps:=D.steps+1 }:Dk).seen).length:=by show ¬16<=(names D.seen).length;omega
  rw [if_neg (by decide),if_neg (by decide),if_neg hl']
 rw [e] at hok ⊢
 exact ⟨rfl,⟨q.up,q.plan⟩,rfl,rfl,Iw D (.mk sd D.files.length),rfl,rfl,⟨_,hok⟩,⟨_,rfl⟩⟩
theorem Ai5 (q:Quiet D) (hn:Ba sd=true){i:Nat}(h0:D.seen sd=some i):Ea D sd=({ D with steps:=D.steps+1,acts:=D.acts++[.rm sd] },0,()):=by
 have hf:Dsk.find { D with steps:=D.steps+1 } sd=(some i,0):=by
  rw [Fv];unfold Dsk.find;rw [if_neg (by rw [hn];simp),h0]
 unfold Ea
 rw [Gw q]
 unfold u rmR
 rw [hf]
theorem Ax8 (q:Quiet D) (hn:Ba sd=true){i:Nat}(h0:D.seen sd=some i):Dj D sd=({ D with steps:=D.steps+1 },163,()):=by
 have hf:Dsk.find { D with steps:=D.steps+1 } sd=(some i,0):=by
  rw [Fv];unfold Dsk.find;rw [if_neg (by rw [hn];simp),h0]
 unfold Dj
 rw [Gw q]
 unfold u mkR
 rw [hf]
 rfl
theorem At1 (q:Quiet D) (ok:Bl D N) (hn:Ba sd=true) (hl:D.seen sd=none->(names D.seen).length<16) :
  (Cb D sd).2=0/\Bes D (Cb D sd).1 sd (if D.seen sd=none then 1 else 3) ⟨[],0,0⟩:=by
 cases h0:D.seen sd with
 | none =>
  obtain ⟨h1,h2⟩:=X9 q ok hn h0 (hl h0)
  have e:Cb D sd=((Dj D sd).1,(Dj D sd).2.1):=by
   unfold Cb
   dsimp only
   rw [h1,if_neg (by decide)]
  rw [e,if_pos rfl]
  exact ⟨h1,h2⟩
 | some i =>
  have e1:=Ax8 q hn h0
  have q1:Quiet { D with steps:=D.steps+1 }:=⟨q.up,q.plan⟩
  have e2:Ea { D with steps:=D.steps+1 } sd=({ D with steps:=D.steps+1+1,acts:=D.acts++[.rm sd] },0,()):=Ai5 q1 hn h0
  have hG:Good D.files.length (Dn D.seen sd none):=Good.del ok.seen sd
  have ok1:=Ae2 (Ae2 ok)
  have hs2:({ D with steps:=D.steps+1+1,acts:=D.acts++[.rm sd] }:Dk).seen=Dn D.seen sd none:=Iw D (.rm sd)
  have ok2:Bl { D with steps:=D.steps+1+1,acts:=D.acts++[.rm sd] } (N+2+1):=ok1.push (a:=.rm sd) hG
  have q2:Quiet { D with steps:=D.steps+1+1,acts:=D.acts++[.rm sd] }:=⟨q.up,q.plan⟩
  have h3:({ D with steps:=D.steps+1+1,acts:=D.acts++[.rm sd] }:Dk).seen sd=none:=by rw [hs2];unfold Dn;rw [if_pos rfl]
  have hl2:(names ({ D with steps:=D.steps+1+1,acts:=D.acts++[.rm sd] }:Dk).seen).length<16:=by
   obtain ⟨l1,l2⟩:=ok.seen.names
   rw [hs2,Jc (Ul l1 sd)]
   have:=filter_lt (l:=names D.seen) (a:=sd) ((l1.2 sd).2 (by rw [h0];rfl))
   omega
  obtain ⟨h4,h5⟩:=X9 q2 ok2 hn h3 hl2
  have e:Cb D sd=((Dj { D with steps:=D.steps+1+1,acts:=D.acts++[.rm sd] } sd).1,(Dj { D with steps:=D.steps+1+1,acts:=D.acts++[.rm sd] } sd).2.1):=by
   unfold Cb
   dsimp only
   rw [e1]
   dsimp only
   rw [if_pos rfl,e2]
   dsimp only
   rw [if_pos rfl]
  rw [e]
  refine ⟨h4,h5.q,h5.files,h5.lasts,?_,?_,h5.space,h5.ok,?_⟩
  ·rw [h5.seen,hs2,Yh]
  ·rw [h5.steps,if_neg (by simp)];show D.steps+1+1+1=_;omega
  ·obtain ⟨as_,ha⟩:=h5.acts
   exact ⟨.rm sd::as_,by rw [ha];show (D.acts++[.rm sd])++as_=_;simp⟩
theorem Ba6 (h:Bes D E sd k g) (ok:Bl D N) (hn:Ba sd=true){b:List UInt8}(hb:b≠[]) (hr:Bv D none+g.data.length+b.length<=D.space) :
  (Bo E sd b).2.1=0/\Bes D (Bo E sd b).1 sd (k+1) ⟨g.data++b,g.synced,g.count+1⟩:=by
 obtain ⟨M,okE⟩:=h.ok
 have hok:=Uw okE sd b
 have hu:=h.used ok
 have hu2:=okE.used none
 have hbl:0<b.length:=List.length_pos_iff.2 hb
 have hroom:¬room { E with steps:=E.steps+1 }<(b.length:Int):=by
  have:room { E with steps:=E.steps+1 }=room E:=rfl
  rw [this]
  unfold room
  rw [h.space];omega
 have hf:Dsk.find { E with steps:=E.steps+1 } sd=(some D.files.length,0):=by rw [Fv];exact h.find hn
 have e:Bo E sd b=({ E with steps:=E.steps+1,files:=Ku E.files D.files.length λf=>⟨f.data++b,f.synced,f.count+1⟩ },0,(if E.down=true then 0 else (b.length:Int))):=by
  unfold Bo
  rw [Gw h.q]
  unfold apR
  rw [hf]
  dsimp only
  rw [if_neg hroom,if_neg (by omega)]
  have ht:b.take (Int.toNat (b.length:Int))=b:=by rw [Int.toNat_natCast,List.take_length]
  rw [ht]
  have hpos:((b.length:Int)>0):=by omega
  simp only [if_pos hpos]
 rw [e] at hok ⊢
 refine ⟨rfl,⟨h.q.up,h.q.plan⟩,?_,h.lasts,h.seen,?_,h.space,⟨_,hok⟩,h.acts⟩
 ·show Ku E.files _ _=_
  rw [Jm h.at_,h.files]
  simp
 ·show E.steps+1=_;rw [h.steps];omega
theorem Y7:∀(m:Nat) (T:List UInt8),T.length<=m->∀{E:Dk}{k:Int}{g:Fl},Bes D E sd k g->Bl D N->Ba sd=true->Bv D none+g.data.length+T.length<=D.space ->
  (Dy sd T E).2=0/\∃c,Bes D (Dy sd T E).1 sd (k+((T.length+1023)/1024:Nat)) ⟨g.data++T,g.synced,c⟩
 |0,T,hm,E,k,g,h,ok,hn,hr=>by
  obtain rfl:T=[]:=List.length_eq_zero_iff.1 (by omega)
  exact ⟨rfl,g.count,by rw [Nw,List.append_nil];simpa using h⟩
 | m+1,T,hm,E,k,g,h,ok,hn,hr=>by
  by_cases hT:T=[]
  ·subst hT
   exact ⟨rfl,g.count,by rw [Nw,List.append_nil];simpa using h⟩
  ·have hpos:0<T.length:=List.length_pos_iff.2 hT
   have hl:(T.take 1024).length<=T.length:=by rw [List.length_take];omega
   obtain ⟨h1,h2⟩:=Ba6 h ok hn (b:=T.take 1024) (λhh=>by have:=congrArg List.length hh;rw [List.length_take,List.length_nil] at this;omega) (by omega)
   have hlen:(T.take 1024).length+(T.drop 1024).length=T.length:=by rw [List.length_take,List.length_drop];omega
   obtain ⟨h3,c,h4⟩:=Y7 m (T.drop 1024) (by rw [List.length_drop];omega) h2 ok hn (by simp only [List.length_append];omega)
   rw [Rj hT,if_pos h1]
   refine ⟨h3,c,?_⟩
   have e1:(g.data++T.take 1024)++T.drop 1024=g.data++T:=by rw [List.append_assoc,List.take_append_drop]
   have e2:k+1+(((T.drop 1024).length+1023)/1024:Nat)=k+((T.length+1023)/1024:Nat):=by
    rw [List.length_drop];omega
   dsimp only at h4
   rw [e1,e2] at h4
   exact h4
theorem Bm9 (h:Bes D E sd k g) (hn:Ba sd=true):(Dc E sd).2.1=0/\Bes D (Dc E sd).1 sd (k+1) ⟨g.data,g.data.length,g.count⟩:=by
 obtain ⟨M,okE⟩:=h.ok
 have hok:=Yx okE sd
 have hf:Dsk.find { E with steps:=E.steps+1 } sd=(some D.files.length,0):=by rw [Fv];exact h.find hn
 have e:Dc E sd=({ E with steps:=E.steps+1,files:=Ku E.files D.files.length λf=>⟨f.data,f.data.length,f.count⟩ },0,()):=by
  unfold Dc
  rw [Gw h.q]
  unfold u syR
  rw [hf]
 rw [e] at hok ⊢
 refine ⟨rfl,⟨h.q.up,h.q.plan⟩,?_,h.lasts,h.seen,?_,h.space,⟨_,hok⟩,h.acts⟩
 ·show Ku E.files _ _=_
  rw [Jm h.at_,h.files]
  simp
 ·show E.steps+1=_;rw [h.steps];omega
theorem Bf4 (h:Bes D E sd k g) (hn:Ba sd=true):(Ai E sd).2.1=0/\(Ai E sd).2.2=((D.files.length:Int)+1,(g.data.length:Int),g.count)/\Bes D (Ai E sd).1 sd (k+1) g:=by
 obtain ⟨M,okE⟩:=h.ok
 have hok:=Ws okE sd
 have e:=Yq h.q hn (i:=D.files.length) (by rw [h.seen];unfold Dn;rw [if_pos rfl])
 rw [h.fl] at e
 rw [e] at hok ⊢
 exact ⟨rfl,rfl,⟨h.q.up,h.q.plan⟩,h.files,h.lasts,h.seen,by show E.steps+1=_;rw [h.steps];omega,h.space,⟨_,hok⟩,h.acts⟩
structure Put (D E:Dk) (n:Nm) (k:Int) (g:Fl):Prop where
 q:Quiet E
 files:E.files=D.files++[g]
 seen:E.seen=Dn (Dn D.seen (side n) none) n (some D.files.length)
 steps:E.steps=D.steps+k
 space:E.space=D.space
 ok:∃M,Bl E M
theorem Av7 (h:Bes D E (side n) k g) (hn:Ba n=true) (hs:Ba (side n)=true):(Eu E (side n) n).2.1=0/\Put D (Eu E (side n) n).1 n (k+1) g/\(Eu E (side n) n).1.lasts=D.lasts:=by
 obtain ⟨M,okE⟩:=h.ok
 have hok:=Uu okE (side n) n
 have hf:Dsk.find { E with steps:=E.steps+1 } (side n)=(some D.files.length,0):=by rw [Fv];exact h.find hs
 have e:Eu E (side n) n=({ E with steps:=E.steps+1,acts:=E.acts++[.mv (side n) n D.files.length] },0,()):=by
  unfold Eu
  rw [Gw h.q]
  unfold u mvR
  rw [if_neg (by rw [hn];simp),hf]
  dsimp only
  rw [if_neg (Qr n)]
 rw [e] at hok ⊢
 refine ⟨rfl,⟨⟨h.q.up,h.q.plan⟩,h.files,?_,?_,h.space,⟨_,hok⟩⟩,h.lasts⟩
 ·have:=Iw { E with steps:=E.steps+1 } (.mv (side n) n D.files.length)
  show Ez (E.acts++[.mv (side n) n D.files.length]) E.lasts=_
  have h2:Ez (E.acts++[.mv (side n) n D.files.length]) E.lasts=Dn (Dn E.seen (side n) none) n (some D.files.length):=this
  rw [h2,h.seen,Yh]
 ·show E.steps+1=_;rw [h.steps];omega
theorem Av6 (q:Quiet D) (ok:Bl D N) (hu:userName n=true) (hl:D.seen (side n)=none->(names D.seen).length<16) (hr:Bv D none+T.length<=D.space) (t:Stm) :
  ∃c,(Gs D n T t).2=(0,(D.files.length:Int)+1,(T.length:Int),c)/\Put D (Gs D n T t).1 n ((if D.seen (side n)=none then 4 else 6)+((T.length+1023)/1024:Nat)) ⟨T,T.length,c⟩:=by
 obtain ⟨hn,hs⟩:=Jl hu
 obtain ⟨b1,b2⟩:=At1 q ok hs hl
 obtain ⟨f1,c,f2⟩:=Y7 T.length T (Nat.le_refl _) b2 ok hs (by simpa using hr)
 rw [List.nil_append] at f2
 obtain ⟨s1,s2⟩:=Bm9 f2 hs
 obtain ⟨t1,t2,t3⟩:=Bf4 s2 hs
 obtain ⟨r1,r2,_⟩:=Av7 t3 hn hs
 have e:=Ai4 (t:=t) b1 f1 s1 t1
 rw [t2,r1] at e
 unfold clean at e
 rw [if_pos rfl] at e
 rw [e]
 refine ⟨c,rfl,?_⟩
 have hk:((if D.seen (side n)=none then 1 else 3)+((T.length+1023)/1024:Nat)+1+1+1:Int)=(if D.seen (side n)=none then 4 else 6)+((T.length+1023)/1024:Nat):=by split<;>omega
 rw [hk] at r2
 exact r2
theorem An3 (h:Put D E n k g):(Cm E).2.1=0/\Put D (Cm E).1 n (k+1) g/\(Cm E).1.acts=[]/\(Cm E).1.lasts=E.seen:=by
 obtain ⟨M,okE⟩:=h.ok
 have hok:=Td okE
 have e:=Aa9 h.q
 rw [e] at hok ⊢
 refine ⟨rfl,⟨⟨h.q.up,h.q.plan⟩,h.files,?_,?_,h.space,⟨_,hok⟩⟩,rfl,rfl⟩
 ·show Ez [] (Dk.seen { E with steps:=E.steps+1 })=_
  exact h.seen
 ·show E.steps+1=_;rw [h.steps];omega
theorem Am1 (q:Quiet D) (ok:Bl D N) (hu:userName n=true) (hl:D.seen (side n)=none->(names D.seen).length<16) (hr:Bv D none+T.length<=D.space) (t kn:Stm) :
  ∃c,(Ey D n T t kn).2=(0,((D.files.length:Int)+1,(T.length:Int),c),((D.files.length:Int)+1,(T.length:Int),c))/\Put D (Ey D n T t kn).1 n ((if D.seen (side n)=none then 5 else 7)+((T.length+1023)/1024:Nat)) ⟨T,T.length,c⟩/\(Ey D n T t kn).1.acts=[]/\(Ey D n T t kn).1.lasts=(Ey D n T t kn).1.seen:=by
 obtain ⟨c,h1,h2⟩:=Av6 q ok hu hl hr t
 obtain ⟨s1,s2,s3,s4⟩:=An3 h2
 have e:Ey D n T t kn=((Cm (Gs D n T t).1).1,(Cm (Gs D n T t).1).2.1,(Gs D n T t).2.2,(Gs D n T t).2.2):=by
  unfold Ey
  dsimp only
  rw [if_neg (by rw [h1];simp)]
 rw [e,s1,h1]
 refine ⟨c,rfl,?_,s3,?_⟩
 ·have hk:((if D.seen (side n)=none then 4 else 6)+((T.length+1023)/1024:Nat)+1:Int)=(if D.seen (side n)=none then 5 else 7)+((T.length+1023)/1024:Nat):=by split<;>omega
  rw [hk] at s2
  exact s2
 ·show (Cm (Gs D n T t).1).1.lasts=(Cm (Gs D n T t).1).1.seen
  rw [s4,s2.seen,h2.seen]
end
end Dq
end Go.Proofs.YtmooldhpiopcgaaGreatDoor
namespace Go.Proofs.YtmooldhpiopcgaaGreatDoor
namespace Dq
open Go Go.Vx Dsk
abbrev Vw:=Nm->Option (List UInt8)
def Ec (V:Vw) (n:Nm) (b:Option (List UInt8)):Vw:=λm=>if m=n then b else V m
structure Sol (D:Dk) (V:Vw):Prop where
 q:Quiet D
 acts:D.acts=[]
 view:∀m,(D.seen m).map (λi=>(fl D i).data)=V m
 dry:∀m i,D.seen m=some i->(fl D i).synced=(fl D i).data.length
section
variable {D E:Dk}{N M:Nat}{n:Nm}{k:Int}{g:Fl}{T b:List UInt8}{V:Vw}
theorem Sol.st (h:Sol D V) (k:Int):Sol { D with steps:=k } V:=⟨⟨h.q.up,h.q.plan⟩,h.acts,h.view,h.dry⟩
theorem Sol.Ig (h:Sol D V){m:Nm}:D.seen m=none↔V m=none:=by rw [←h.view m];simp
theorem Sol.lasts (h:Sol D V):D.lasts=D.seen:=by unfold Dk.seen;rw [h.acts];rfl
theorem Sol.new (space:Int):Sol (Tm space) λ_=>none:=⟨⟨rfl,λ_=>rfl⟩,rfl,λ_=>rfl,λm i h=>by cases h⟩
theorem Sol.used (h:Sol D V) (ok:Bl D N){B:Nat}(hB:∀m b,V m=some b->b.length<=B) (o:Option Nat):Bv D o<=((names D.seen).length:Int)*(B:Int):=by
 unfold Bv
 have:=Vz (l:=(names D.seen).map (weigh D o)) (B:=(B:Int)) λx hx=>by
  obtain ⟨m,_,rfl⟩:=List.mem_map.1 hx
  unfold weigh
  have hv:=h.view m
  cases hs:D.seen m with
  |none=>dsimp only;omega
  |some i =>
   rw [hs] at hv
   have hb:(fl D i).data.length<=B:=hB m _ hv.symm
   dsimp only
   split<;>omega
 rwa [List.length_map] at this
theorem Bc7 (h:Sol D V) (ok:Bl D N) (hn:Ba n=true) (hl:V n=none->(names D.seen).length<16) (hr:(b.length:Int)<=D.space-Bv D (D.seen n)) :
  (Nk D n b).2=0/\Sol (Nk D n b).1 (Ec V n (some b))/\(Nk D n b).1.space=D.space/\(Nk D n b).1.steps=D.steps/\(names (Nk D n b).1.seen).length<=(names D.seen).length+1/\(V n≠none->(names (Nk D n b).1.seen).length=(names D.seen).length):=by
 have hno:¬((D.seen n=none/\16<=(names D.seen).length)\/(b.length:Int)>D.space-Bv D (D.seen n)):=by
  rintro (⟨h1,h2⟩|h2)
  ·have:=hl (h.Ig.1 h1);omega
  ·omega
 obtain ⟨l1,l2⟩:=ok.seen.names
 cases hs:D.seen n with
 | none =>
  have e:Nk D n b=({ D with lasts:=Dn D.seen n (some D.files.length),acts:=[],files:=D.files++[⟨b,b.length,1⟩] },0):=by
   unfold Nk
   rw [if_neg (by rw [h.q.up];simp),if_neg (by rw [hn];simp),if_neg hno,hs]
  obtain ⟨E,hE⟩:∃E:Dk,E={ D with lasts:=Dn D.seen n (some D.files.length),acts:=[],files:=D.files++[⟨b,b.length,1⟩] }:=⟨_,rfl⟩
  rw [←hE] at e
  rw [e]
  have hseen:E.seen=Dn D.seen n (some D.files.length):=by rw [hE];rfl
  have hfiles:E.files=D.files++[⟨b,b.length,1⟩]:=by rw [hE]
  have hfn:fl E D.files.length=⟨b,b.length,1⟩:=by
   unfold fl;rw [hfiles,List.getD_eq_getElem?_getD];simp
  have hfo:∀i,i<D.files.length->fl E i=fl D i:=λi hi=>by
   unfold fl;rw [hfiles,List.getD_eq_getElem?_getD,List.getD_eq_getElem?_getD,List.getElem?_append_left hi]
  refine ⟨rfl,⟨by rw [hE];exact ⟨h.q.up,h.q.plan⟩,by rw [hE],λm=>?_,λm i hi=>?_⟩,by rw [hE],by rw [hE],?_,λhh=>absurd (h.Ig.1 hs) hh⟩
  ·dsimp only
   rw [hseen];unfold Dn Ec
   split
   ·rw [Option.map_some,hfn]
   ·rw [←h.view m]
    cases hm:D.seen m with
    |none=>rfl
    |some i=>rw [Option.map_some,Option.map_some,hfo i (ok.seen.ids m i hm)]
  ·dsimp only at hi ⊢
   rw [hseen] at hi;unfold Dn at hi
   split at hi
   ·cases hi;rw [hfn]
   ·rw [hfo i (ok.seen.ids m i hi)];exact h.dry m i hi
  ·dsimp only
   rw [hseen,Jc (Qi l1 hs)];simp
 | some i =>
  have e:Nk D n b=({ Dsk.settle D with files:=Ku D.files i λf=>⟨b,b.length,f.count+1⟩ },0):=by
   unfold Nk
   rw [if_neg (by rw [h.q.up];simp),if_neg (by rw [hn];simp),if_neg hno,hs]
  obtain ⟨g,hg,hfl⟩:=Qb ok hs
  obtain ⟨E,hE⟩:∃E:Dk,E={ Dsk.settle D with files:=Ku D.files i λf=>⟨b,b.length,f.count+1⟩ }:=⟨_,rfl⟩
  rw [←hE] at e
  rw [e]
  have hseen:E.seen=D.seen:=by rw [hE];rfl
  have hf2:∀j,fl E j=if j=i then ⟨b,b.length,g.count+1⟩ else fl D j:=λj=>by rw [hE];exact Ak1 hg _ j
  refine ⟨rfl,⟨by rw [hE];exact ⟨h.q.up,h.q.plan⟩,by rw [hE];rfl,λm=>?_,λm j hj=>?_⟩,by rw [hE];rfl,by rw [hE];rfl,?_,λ_=>by dsimp only;rw [hseen]⟩
  ·dsimp only
   rw [hseen];unfold Ec
   split
   ·rename_i hm;rw [hm,hs,Option.map_some,hf2,if_pos rfl]
   ·rename_i hm
    rw [←h.view m]
    cases hsm:D.seen m with
    |none=>rfl
    |some j =>
     have:j≠i:=λhh=>hm (ok.seen.inj m n i (by rw [hsm,hh]) hs)
     rw [Option.map_some,Option.map_some,hf2,if_neg this]
  ·dsimp only at hj ⊢
   rw [hseen] at hj
   rw [hf2]
   split
   ·rfl
   ·exact h.dry m j hj
  ·dsimp only;rw [hseen];exact Nat.le_succ _
def Ci (D:Dk) (n:Nm):Stm:=match D.seen n with|some i=>((i:Int)+1,((fl D i).data.length:Int),(fl D i).count)|none=>(0,0,0)
theorem Ai0 (q:Quiet D) (hn:Ba n=true):Ai D n=({ D with steps:=D.steps+1 },(if D.seen n=none then 162 else 0),Ci D n):=by
 unfold Ci
 cases hs:D.seen n with
 |some i=>rw [Yq q hn hs,if_neg (by simp)]
 | none =>
  have hf:Dsk.find { D with steps:=D.steps+1 } n=(none,162):=by
   rw [Fv];unfold Dsk.find;rw [if_neg (by rw [hn];simp),hs]
  unfold Ai
  rw [Gw q]
  unfold stR
  rw [hf]
  rfl
theorem Ai6 (q:Quiet D) (hn:Ba n=true):Bh D n=({ D with steps:=D.steps+1 },(if D.seen n=none then 162 else 0),((D.seen n).map λi=>(fl D i).data).getD []):=by
 cases hs:D.seen n with
 |some i=>rw [Av9 q hn hs,if_neg (by simp)];rfl
 | none =>
  have hf:Dsk.find { D with steps:=D.steps+1 } n=(none,162):=by
   rw [Fv];unfold Dsk.find;rw [if_neg (by rw [hn];simp),hs]
  unfold Bh
  rw [Gw q]
  unfold rdR
  rw [hf]
  rfl
theorem Put.sol {c:Int}(h:Put D E n k ⟨T,T.length,c⟩) (hS:Sol D V) (ok:Bl D N) (hv:V (side n)=none) (ha:E.acts=[]):Sol E (Ec V n (some T)):=by
 have h0:D.seen (side n)=none:=hS.Ig.2 hv
 have hs:E.seen=Dn D.seen n (some D.files.length):=by rw [h.seen,Af9 _ _ h0]
 have hfn:fl E D.files.length=⟨T,T.length,c⟩:=by unfold fl;rw [h.files,List.getD_eq_getElem?_getD];simp
 have hfo:∀i,i<D.files.length->fl E i=fl D i:=λi hi=>by unfold fl;rw [h.files,List.getD_eq_getElem?_getD,List.getD_eq_getElem?_getD,List.getElem?_append_left hi]
 refine ⟨h.q,ha,λm=>?_,λm i hi=>?_⟩
 ·rw [hs];unfold Dn Ec
  split
  ·rw [Option.map_some,hfn]
  ·rw [←hS.view m]
   cases hm:D.seen m with
   |none=>rfl
   |some i=>rw [Option.map_some,Option.map_some,hfo i (ok.seen.ids m i hm)]
 ·rw [hs] at hi;unfold Dn at hi
  split at hi
  ·cases hi;rw [hfn]
  ·rw [hfo i (ok.seen.ids m i hi)];exact hS.dry m i hi
end
end Dq
end Go.Proofs.YtmooldhpiopcgaaGreatDoor
namespace Go.Proofs.YtmooldhpiopcgaaGreatDoor
namespace Dq
open Go Go.Vx Dsk
section
variable {D E:Dk}{N M:Nat}{n:Nm}{k:Int}{g:Fl}{T b:List UInt8}{V:Vw}{X:Fil}{force:Bool}
theorem Put.later (h:Put { D with steps:=D.steps+1 } E n k g):Put D E n (k+1) g:=⟨h.q,h.files,h.seen,by rw [h.steps];show D.steps+1+k=_;omega,h.space,h.ok⟩
def Jd (D:Dk) (X:Fil):Stm:=if D.seen X.name≠none/\Ci D X.name=X.tried then Ci D X.name else X.known
theorem Bw4 (q:Quiet D) (hn:Ba X.name=true):Eo D X b force =
  if force=false/\Ci D X.name≠Jd D X then ({ D with steps:=D.steps+1 },170,{ X with known:=Jd D X }) else
  ((Ey { D with steps:=D.steps+1 } X.name (X.mark++b) X.tried (Jd D X)).1,(Ey { D with steps:=D.steps+1 } X.name (X.mark++b) X.tried (Jd D X)).2.1,
   { X with tried:=(Ey { D with steps:=D.steps+1 } X.name (X.mark++b) X.tried (Jd D X)).2.2.1,known:=(Ey { D with steps:=D.steps+1 } X.name (X.mark++b) X.tried (Jd D X)).2.2.2 }):=by
 unfold Eo
 rw [Ai0 q hn]
 dsimp only
 have h1:¬((if D.seen X.name=none then (162:Int) else 0)≠0/\(if D.seen X.name=none then (162:Int) else 0)≠162):=by split<;>simp
 have h2:(if (if D.seen X.name=none then (162:Int) else 0)=0/\Ci D X.name=X.tried then Ci D X.name else X.known)=Jd D X:=by
  unfold Jd
  by_cases h:D.seen X.name=none<;>simp [h]
 rw [if_neg h1,h2]
theorem Vj (q:Quiet D) (ok:Bl D N) (hu:userName X.name=true) (hl:D.seen (side X.name)=none->(names D.seen).length<16) (hr:Bv D none+(X.mark++b).length<=D.space) (hk:force=true\/Ci D X.name=Jd D X) :
  ∃c,(Eo D X b force).2=(0,{ X with tried:=((D.files.length:Int)+1,((X.mark++b).length:Int),c),known:=((D.files.length:Int)+1,((X.mark++b).length:Int),c) }) /\
   Put D (Eo D X b force).1 X.name ((if D.seen (side X.name)=none then 6 else 8)+(((X.mark++b).length+1023)/1024:Nat)) ⟨X.mark++b,(X.mark++b).length,c⟩/\(Eo D X b force).1.acts=[]/\(Eo D X b force).1.lasts=(Eo D X b force).1.seen:=by
 obtain ⟨hn,_⟩:=Jl hu
 have q1:Quiet { D with steps:=D.steps+1 }:=⟨q.up,q.plan⟩
 obtain ⟨c,h1,h2,h3,h4⟩:=Am1 (T:=X.mark++b) q1 (Ae2 ok) hu hl hr X.tried (Jd D X)
 have e:=Bw4 (b:=b) (force:=force) q hn
 rw [if_neg (by rintro ⟨hf,hh⟩;rcases hk with hk|hk;rw [hk] at hf;cases hf;exact hh hk)] at e
 rw [e,h1]
 refine ⟨c,rfl,?_,h3,h4⟩
 have:=h2.later
 have hk:((if D.seen (side X.name)=none then 5 else 7)+(((X.mark++b).length+1023)/1024:Nat)+1:Int)=(if D.seen (side X.name)=none then 6 else 8)+(((X.mark++b).length+1023)/1024:Nat):=by split<;>omega
 rw [←hk]
 exact this
theorem Bp6 {g:List UInt8->Int}{enc limit:Int}(q:Quiet D) (hu:userName n=true) (he:0<=enc/\enc<=4) (hl:0<=limit/\limit<=65536) (h:D.seen n=none) :
  Na g D n enc limit=({ D with steps:=D.steps+1 },0,some ⟨n,[],(0,0,0),(0,0,0)⟩,⟨if 1>enc then 1 else enc,0,[],true⟩):=by
 obtain ⟨hn,_⟩:=Jl hu
 unfold Na
 rw [if_neg (by rw [hu];simp),if_neg (by omega),if_neg (by omega),Ai0 q hn,if_pos h]
 rfl
theorem Ap3 {g:List UInt8->Int}{enc limit:Int}(q:Quiet D) (hu:userName n=true) (he:0<=enc/\enc<=4) (hl:0<=limit/\limit<=65536){i:Nat}(h:D.seen n=some i){b:List UInt8}(hb:(fl D i).data=b) (hf:(b.length:Int)-(Il g enc b).2<=limit) :
  Na g D n enc limit=({ D with steps:=D.steps+1+1 },0,some ⟨n,b.take (Il g enc b).2.toNat,Ci D n,(0,0,0)⟩,⟨(Il g enc b).1,(Il g enc b).2,b.drop (Il g enc b).2.toNat,false⟩):=by
 obtain ⟨hn,_⟩:=Jl hu
 have q1:Quiet { D with steps:=D.steps+1 }:=⟨q.up,q.plan⟩
 have hs:({ D with steps:=D.steps+1 }:Dk).seen n=some i:=h
 have hr:Bh { D with steps:=D.steps+1 } n=({ D with steps:=D.steps+1+1 },0,b):=by
  rw [Ai6 q1 hn,hs,if_neg (by simp)]
  show (_,_,(fl { D with steps:=D.steps+1 } i).data)=_
  have:(fl { D with steps:=D.steps+1 } i).data=b:=hb
  rw [this]
 have hst:Ai D n=({ D with steps:=D.steps+1 },0,Ci D n):=by rw [Ai0 q hn,if_neg (by rw [h];simp)]
 unfold Na
 rw [if_neg (by rw [hu];simp),if_neg (by omega),if_neg (by omega),hst]
 dsimp only
 rw [if_neg (show ¬(0:Int)=162 by decide),if_neg (show ¬(0:Int)≠0 by decide),hr]
 dsimp only
 rw [if_neg (show ¬(0:Int)≠0 by decide),if_neg (by omega)]
end
end Dq
end Go.Proofs.YtmooldhpiopcgaaGreatDoor
namespace Go.Proofs.YtmooldhpiopcgaaGreatDoor
open Go Go.Vx
def F13 (a0:(Sl×ByteArray×Int×Sl×Unit)) (a1:Sl) (a2:(Int×Sl×Unit)) (K:Bool->Wp):Wp:=Ad (.cells #[a0.1.v,(.string a0.2.1),(vI a0.2.2.1),a0.2.2.2.1.v] 39) λb1=>Ad (.cells #[(vI a2.1),a2.2.1.v] 72) λb2=>cB 14 #[] λx3=>sif (!x3) (K false) (lds c39 (at0 b1) λ(x4:(Sl×ByteArray×Int×Sl×Unit))=>cB 20 #[(vA c39 x4)] λx5=>sif (!x5) (K true) (lds c39 (at0 b1) λ(x6:(Sl×ByteArray×Int×Sl×Unit))=>Aa Tryz.prog 21 #[(vA c39 x6)] (.tup [(.one .ptr),(.one .bool)]) λ(x7:(Option Addr×Bool×Unit))=>sif (!x7.2.1) (K false) (jU (λJ8=>sI (λs10 again11=>jB (λJ12=>sif (decide (s10.1<((a1.len:Nat):Int))) (J12 ((decide (s10.1<20)),())) (J12 (false,()))) λs13=>sif s13.1 (jU (λJ14=>ixl (.sl) a1 s10.1 2 λ(x17:Sl)=>sif (decide (((x17.len:Nat):Int)>60000)) (J14 ()) (ixl (.sl) a1 s10.1 2 λ(x19:Sl)=>Aa Tryz.prog 26 #[(.pointer x7.1),x19.v] rP λ(x20:Option Addr)=>drew<|nn x7.1 λp21=>ld (.ptr) p21 λ(x22:Option Addr)=>ixf (.sl) a1 s10.1 2 1 λ(x24:Sl)=>cS 45 #[x24.v] λx25=>keep (λw=>w.cell? p21=some (Cell.val (.ptr) x22))<|Aa Tryz.prog 35 #[(.pointer x22),x25.v] (.tup []) λ(x26:(Unit))=>sif (Option.isNone x20) (K false) (nn x7.1 λp27=>ld (.ptr) (p27.add 1) λ(x28:Option Addr)=>cN 27 #[(.pointer x28),(.pointer x20),(.bool false)] λx29=>jB (λJ30=>drew<|ix a1.a a1.len s10.1 λp32=>ld (.sl) (p32.add (scaled (Int.toNat s10.1) 2)) λ(x33:Sl)=>cS 39 #[(.pointer x20)] λx34=>keep (λw=>w.cell? (p32.add (scaled (Int.toNat s10.1) 2))=some (Cell.val (.sl) x33))<|cB 22 #[x34.v,x33.v] λx35=>sif (!x35) (J30 (true,())) (ixf (.sl) a1 s10.1 2 1 λ(x37:Sl)=>cS 45 #[x37.v] λx38=>sif (((x38.len:Nat):Int)==0) (J30 ((x29 !=0),())) (J30 (false,())))) λs31=>sif s31.1 (K false) (J14 ())))) λs15=>again11 ((IntKind.wrap .i64 (s10.1+1)),())) (J8 ())) (0,())) λs9=>ld (.sl) (ad b1 3) λ(x39:Sl)=>Aa Tryz.prog 26 #[(.pointer x7.1),x39.v] rP λ(x40:Option Addr)=>nn x7.1 λp41=>ld (.ptr) p41 λ(x42:Option Addr)=>Aa Tryz.prog 35 #[(.pointer x42),(.slice none 0 0)] (.tup []) λ(x43:(Unit))=>jB (λJ44=>sif (Option.isNone x40) (J44 (true,())) (nn x7.1 λp46=>ld (.ptr) (p46.add 1) λ(x47:Option Addr)=>cN 27 #[(.pointer x47),(.pointer x40),(.bool false)] λx48=>J44 ((x48 !=0),()))) λs45=>sif s45.1 (K false) (jB (λJ49=>drew<|nn x7.1 λp51=>ld (.ptr) p51 λ(x52:Option Addr)=>ld (.str) (ad b1 1) λ(x53:ByteArray)=>ld (.sl) (ad b1 3) λ(x54:Sl)=>cS 23 #[(.pointer x7.1),x54.v] λx55=>keep (λw=>w.cell? (ad b1 1)=some (Cell.val (.str) x53))<|keep (λw=>w.cell? p51=some (Cell.val (.ptr) x52))<|cB 28 #[(.pointer x52),(.string x53),x55.v] λx56=>sif (!x56) (J49 (true,())) (lds c39 (at0 b1) λ(x57:(Sl×ByteArray×Int×Sl×Unit))=>cB 29 #[(.pointer x7.1),(vA c39 x57),(.bool true)] λx58=>J49 ((!x58),()))) λs50=>sif s50.1 (K false) (drew<|nn x7.1 λp59=>ld (.ptr) p59 λ(x60:Option Addr)=>lds c72 (at0 b2) λ(x61:(Int×Sl×Unit))=>Aa Tryz.prog 41 #[(vA c72 x61)] (.one (.agg c72)) λ(x62:(Int×Sl×Unit))=>keep (λw=>w.cell? p59=some (Cell.val (.ptr) x60))<|Aa Tryz.prog 40 #[(.pointer x60),(vA c72 x62)] (.tup []) λ(x63:(Unit))=>nn x7.1 λp64=>ld (.ptr) p64 λ(x65:Option Addr)=>Aa Tryz.prog 42 #[(.pointer x65)] (.tup []) λ(x66:(Unit))=>jB (λJ67=>drew<|nn x7.1 λp69=>ld (.ptr) p69 λ(x70:Option Addr)=>ld (.str) (ad b1 1) λ(x71:ByteArray)=>ld (.sl) (ad b1 3) λ(x72:Sl)=>cS 23 #[(.pointer x7.1),x72.v] λx73=>keep (λw=>w.cell? (ad b1 1)=some (Cell.val (.str) x71))<|keep (λw=>w.cell? p69=some (Cell.val (.ptr) x70))<|cB 28 #[(.pointer x70),(.string x71),x73.v] λx74=>sif (!x74) (J67 (true,())) (lds c39 (at0 b1) λ(x75:(Sl×ByteArray×Int×Sl×Unit))=>cB 29 #[(.pointer x7.1),(vA c39 x75),(.bool true)] λx76=>J67 ((!x76),()))) λs68=>sif s68.1 (K false) (jB (λJ77=>cN 47 #[(.pointer x40)] λx79=>Ad (.cells #[(vI 98)] 3) λb80=>Ad (.cells #[(vI 0),(vI (if x79<1 then x79 else 1)),(.slice (some (at0 b80)) 1 1)] 89) λb81=>cN 46 #[(.pointer x40),(.slice (some (at0 b81)) 1 1)] λx82=>sif (x82 !=0) (J77 (true,())) (nn x7.1 λp83=>ld (.ptr) (p83.add 1) λ(x84:Option Addr)=>cN 27 #[(.pointer x84),(.pointer x40),(.bool true)] λx85=>J77 ((x85 !=0),()))) λs78=>sif s78.1 (K false) (drew<|nn x7.1 λp86=>ld (.ptr) p86 λ(x87:Option Addr)=>ld (.str) (ad b1 1) λ(x88:ByteArray)=>cS 39 #[(.pointer x40)] λx89=>keep (λw=>w.cell? (ad b1 1)=some (Cell.val (.str) x88))<|keep (λw=>w.cell? p86=some (Cell.val (.ptr) x87))<|cS 23 #[(.pointer x7.1),x89.v] λx90=>keep (λw=>w.cell? (ad b1 1)=some (Cell.val (.str) x88))<|keep (λw=>w.cell? p86=some (Cell.val (.ptr) x87))<|cB 28 #[(.pointer x87),(.string x88),x90.v] λx91=>sif x91 (lds c39 (at0 b1) λ(x92:(Sl×ByteArray×Int×Sl×Unit))=>cB 29 #[(.pointer x7.1),(vA c39 x92),(.bool true)] λx93=>K x93) (K false))))))))
def h13:Hint:=(hS (hR 3) (hS (hS (hR 2) (hC (hS (hR 1) hL) hL)) (hS (hS (hR 3) (hC (hS (hR 1) hL) hL)) (hS (hR 7) (hS (hS (hR 2) (hC (hS (hR 1) hL) hL)) (hJ (0x7fffffffffffffffe000e40,[]) (hS (hR 1) (.block (.loop 0x7fffffffffffffffe000e40 [(9,tI)] (hS (hJ (8556380160,[(32,tB)]) (.region [] (.ops 5 (.split 29 (hO 3) (.skips 2 (hO 1))))) (hC hL hL)) (hJ (0x7fffffffffffff800000c40,[]) (.block (hS (hS (hR 7) (hC hL hL)) (hS (hR 8) (hS (.region (lR 11) (hO 11)) (hS (hS (hR 2) (hC (hS (hR 1) hL) hL)) (hS (hR 7) (hJ ((mR [(68,91)]),[(90,tB)]) (.region [0,2,3,4,5,6,1,7,8,9,10,11,12,13,14,15,16,17,18,19,20,21,22] (.ops 10 (.split 77 (.skips 12 (hO 1)) (.ops 9 (.split 86 (hO 4) (.skips 2 (hO 2))))))) (hC (hS (hR 1) hL) hL)))))))) (hR 3)))))) (hS (hR 5) (hS (hR 5) (hS (hJ ((mR [(100,111)]),[(110,tB)]) (.region [] (.ops 3 (.split 102 (.skips 7 (hO 1)) (hO 8)))) (hC (hS (hR 1) hL) hL)) (hS (hJ ((mR [(111,129)]),[(128,tB)]) (.region (lR 18) (.ops 13 (.split 123 (.skips 4 (hO 1)) (hO 5)))) (hC (hS (hR 1) hL) hL)) (hS (.region (lR 7) (hO 7)) (hS (hR 5) (hS (hJ ((mR [(141,159)]),[(158,tB)]) (.region (lR 18) (.ops 13 (.split 153 (.skips 4 (hO 1)) (hO 5)))) (hC (hS (hR 1) hL) hL)) (hS (hJ ((mR [(159,177)]),[(176,tB)]) (.region [] (.ops 10 (.split 168 (.skips 7 (hO 1)) (hO 8)))) (hC (hS (hR 1) hL) hL)) (hS (.region (lR 17) (.ops 12 (.split 188 (hO 5) (.skips 3 (hO 2))))) hL)))))))))))))))
theorem j13 {a0:(Sl×ByteArray×Int×Sl×Unit)}{a1:Sl}{a2:(Int×Sl×Unit)}{K:Bool->Wp}{w:World}(h:F13 a0 a1 a2 K w):Aa Tryz.prog 13 #[(vA c39 a0),a1.v,(vA c72 a2)] rB K w:=tied Am Tryz.func13 h13 _ h
def F14  (K:Bool->Wp):Wp:=Aa Tryz.prog 17 #[(vI 100)] (.tup [(.one .ptr),(.one .any)]) λ(x1:(Option Addr×Value×Unit))=>jB (λJ2=>sif (Option.isNone x1.1) (J2 (true,())) (rdB Tryz.prog (do eqGuard .neq 26 (Operand.tmp 16) (Operand.const Value.nilIface) x1.2.1 .nilIface;binOp .neq 26 x1.2.1 .nilIface:Sem Value) λr4=>sif r4 (J2 (true,())) (Ad (.cells #[(.int .u8 111),(.int .u8 108),(.int .u8 100)] 5) λb5=>Dp Tryz.prog rS (convert 30 30 (.slice (some (at0 b5)) 3 3)) λx6=>Aa Tryz.prog 32 #[(.pointer x1.1),(.string { data:=#[97] }),x6.v] (.one (.one .any)) λ(x7:Value)=>rdB Tryz.prog (do eqGuard .neq 26 (Operand.tmp 23) (Operand.const Value.nilIface) x7 .nilIface;binOp .neq 26 x7 .nilIface:Sem Value) λr8=>J2 (r8,())))) λs3=>sif s3.1 (K false) (Aa Tryz.prog 18 #[(.pointer x1.1),(.string { data:=#[97] }),(vI 1),(vI 10)] (.tup [(.one .ptr),(.agg c32),(.one cI)]) λ(x9:(Option Addr×(Int×Int×Sl×Bool×Unit)×Int×Unit))=>Ad (.cells #[(vI 0),(vI 0),(.slice none 0 0),(.bool false)] 32) λb10=>Ae (at0 b10) (vA c32 x9.2.1) 4<|Ad (.cells #[(.int .u8 110),(.int .u8 101),(.int .u8 119)] 5) λb11=>Dp Tryz.prog rS (convert 30 30 (.slice (some (at0 b11)) 3 3)) λx12=>Aa Tryz.prog 48 #[(vI 1),x12.v,(vI 10)] (.tup [(.one .ptr),(.one cI)]) λ(x13:(Option Addr×Int×Unit))=>jB (λJ14=>sif (Option.isNone x9.1) (J14 (true,())) (sif (Option.isNone x13.1) (J14 (true,())) (sif (x9.2.2.1 !=0) (J14 (true,())) (sif (x13.2.1 !=0) (J14 (true,())) (ld (.sl) (ad b10 2) λ(x16:Sl)=>Dp Tryz.prog (.one (.one .str)) (convert 30 9 x16.v) λx17=>sif (!(ByteArray.toList x17==ByteArray.toList ({ data:=#[111,108,100] }))) (J14 (true,())) (cN 27 #[(.pointer x9.1),(.pointer x13.1),(.bool false)] λx18=>J14 ((x18 !=0),()))))))) λs15=>sif s15.1 (K false) (Aa Tryz.prog 49 #[(.pointer x1.1),(.string { data:=#[97] })] (.tup [(.one .sl),(.one .any)]) λ(x19:(Sl×Value×Unit))=>rdB Tryz.prog (do eqGuard .eql 26 (Operand.tmp 69) (Operand.const Value.nilIface) x19.2.1 .nilIface;binOp .eql 26 x19.2.1 .nilIface:Sem Value) λr20=>sif r20 (Dp Tryz.prog (.one (.one .str)) (convert 30 9 x19.1.v) λx21=>K (ByteArray.toList x21==ByteArray.toList ({ data:=#[110,101,119] }))) (K false)))
def h14:Hint:=(hS (hR 1) (hS (hR 6) (hS (hJ (67100672,[(25,tB)]) (.region [] (.ops 3 (.split 15 (.skips 2 (.ops 2 (.skips 5 (hO 1)))) (.ops 4 (.split 19 (.skips 5 (hO 1)) (hO 6)))))) (hC (hS (hR 1) hL) hL)) (hS (hR 10) (hS (hR 8) (hS (hJ ((mR [(38,64)]),[(63,tB)]) (.region [] (.ops 3 (.split 40 (.skips 2 (.ops 2 (.skips 2 (.ops 2 (.skips 2 (.ops 2 (.skips 4 (.ops 2 (.skips 4 (hO 1)))))))))) (.ops 4 (.split 44 (.skips 2 (.ops 2 (.skips 2 (.ops 2 (.skips 4 (.ops 2 (.skips 4 (hO 1)))))))) (.ops 4 (.split 48 (.skips 2 (.ops 2 (.skips 4 (.ops 2 (.skips 4 (hO 1)))))) (.ops 4 (.split 52 (.skips 4 (.ops 2 (.skips 4 (hO 1)))) (.ops 6 (.split 58 (.skips 4 (hO 1)) (hO 5)))))))))))) (hC (hS (hR 1) hL) hL)) (hS (hR 7) (hS (.region [] (.ops 3 (.split 71 (hO 5) (.skips 3 (hO 2))))) hL))))))))
theorem j14 {K:Bool->Wp}{w:World}(h:F14  K w):Aa Tryz.prog 14 #[] rB K w:=tied Am Tryz.func14 h14 _ h
def F16 (a0:ByteArray) (K:Bool->Wp):Wp:=jB (λJ1=>sif (decide (((ByteArray.size a0:Nat):Int)<1)) (J1 (true,())) (sif (decide (((ByteArray.size a0:Nat):Int)>31)) (J1 (true,())) (Av1 a0 (IntKind.wrap .i64 (((ByteArray.size a0:Nat):Int)-1)) λb3=>J1 ((((b3.toNat:Nat):Int)==126),())))) λs2=>sif s2.1 (K false) (jU (λJ4=>sI (λs6 again7=>sif (decide (s6.1<((ByteArray.size a0:Nat):Int))) (Av1 a0 s6.1 λb8=>jB (λJ9=>sif (decide (((b8.toNat:Nat):Int)>=97)) (sif (decide (((b8.toNat:Nat):Int)<=122)) (J9 (false,())) (sif (decide (((b8.toNat:Nat):Int)>=65)) (sif (decide (((b8.toNat:Nat):Int)<=90)) (J9 (false,())) (sif (decide (((b8.toNat:Nat):Int)>=48)) (sif (decide (((b8.toNat:Nat):Int)<=57)) (J9 (false,())) (sif (((b8.toNat:Nat):Int)==46) (J9 (false,())) (sif (((b8.toNat:Nat):Int)==95) (J9 (false,())) (sif (((b8.toNat:Nat):Int)==45) (J9 (false,())) (J9 ((!(((b8.toNat:Nat):Int)==126)),())))))) (sif (((b8.toNat:Nat):Int)==46) (J9 (false,())) (sif (((b8.toNat:Nat):Int)==95) (J9 (false,())) (sif (((b8.toNat:Nat):Int)==45) (J9 (false,())) (J9 ((!(((b8.toNat:Nat):Int)==126)),()))))))) (sif (decide (((b8.toNat:Nat):Int)>=48)) (sif (decide (((b8.toNat:Nat):Int)<=57)) (J9 (false,())) (sif (((b8.toNat:Nat):Int)==46) (J9 (false,())) (sif (((b8.toNat:Nat):Int)==95) (J9 (false,())) (sif (((b8.toNat:Nat):Int)==45) (J9 (false,())) (J9 ((!(((b8.toNat:Nat):Int)==126)),())))))) (sif (((b8.toNat:Nat):Int)==46) (J9 (false,())) (sif (((b8.toNat:Nat):Int)==95) (J9 (false,())) (sif (((b8.toNat:Nat):Int)==45) (J9 (false,())) (J9 ((!(((b8.toNat:Nat):Int)==126)),())))))))) (sif (decide (((b8.toNat:Nat):Int)>=65)) (sif (decide (((b8.toNat:Nat):Int)<=90)) (J9 (false,())) (sif (decide (((b8.toNat:Nat):Int)>=48)) (sif (decide (((b8.toNat:Nat):Int)<=57)) (J9 (false,())) (sif (((b8.toNat:Nat):Int)==46) (J9 (false,())) (sif (((b8.toNat:Nat):Int)==95) (J9 (false,())) (sif (((b8.toNat:Nat):Int)==45) (J9 (false,())) (J9 ((!(((b8.toNat:Nat):Int)==126)),())))))) (sif (((b8.toNat:Nat):Int)==46) (J9 (false,())) (sif (((b8.toNat:Nat):Int)==95) (J9 (false,())) (sif (((b8.toNat:Nat):Int)==45) (J9 (false,())) (J9 ((!(((b8.toNat:Nat):Int)==126)),()))))))) (sif (decide (((b8.toNat:Nat):Int)>=48)) (sif (decide (((b8.toNat:Nat):Int)<=57)) (J9 (false,())) (sif (((b8.toNat:Nat):Int)==46) (J9 (false,())) (sif (((b8.toNat:Nat):Int)==95) (J9 (false,())) (sif (((b8.toNat:Nat):Int)==45) (J9 (false,())) (J9 ((!(((b8.toNat:Nat):Int)==126)),())))))) (sif (((b8.toNat:Nat):Int)==46) (J9 (false,())) (sif (((b8.toNat:Nat):Int)==95) (J9 (false,())) (sif (((b8.toNat:Nat):Int)==45) (J9 (false,())) (J9 ((!(((b8.toNat:Nat):Int)==126)),())))))))) λs10=>sif s10.1 (K false) (again7 ((IntKind.wrap .i64 (s6.1+1)),()))) (J4 ())) (0,())) λs5=>K true)
def h16:Hint:=(hS (hR 1) (hS (hJ (2097120,[(20,tB)]) (.region [] (.ops 4 (.split 8 (.skips 3 (.ops 2 (.skips 6 (hO 1)))) (.ops 5 (.split 13 (.skips 6 (hO 1)) (hO 7)))))) (hC (hS (hR 1) hL) hL)) (hJ (0x1fffffffffffe0001c,[]) (hS (hR 1) (.block (.loop 0x1fffffffffffe0001c [(3,tI)] (hS (hS (hR 4) (hC hL hL)) (hS (.block (hS (hR 4) (hJ ((mR [(30,69)]),[(68,tB)]) (.region [] (.ops 3 (.split 32 (.ops 4 (.split 36 (.skips 6 (.ops 2 (.skips 6 (.ops 2 (.skips 2 (.ops 2 (.skips 2 (.ops 2 (.skips 2 (.ops 2 (.skips 2 (hO 2)))))))))))) (.ops 3 (.split 39 (.ops 5 (.split 44 (.skips 6 (.ops 2 (.skips 2 (.ops 2 (.skips 2 (.ops 2 (.skips 2 (.ops 2 (.skips 2 (hO 2)))))))))) (.ops 3 (.split 47 (.ops 5 (.split 52 (.skips 2 (.ops 2 (.skips 2 (.ops 2 (.skips 2 (.ops 2 (.skips 2 (hO 2)))))))) (.ops 4 (.split 56 (.skips 2 (.ops 2 (.skips 2 (.ops 2 (.skips 2 (hO 2)))))) (.ops 4 (.split 60 (.skips 2 (.ops 2 (.skips 2 (hO 2)))) (.ops 4 (.split 64 (.skips 2 (hO 2)) (hO 4))))))))) (.skips 2 (.ops 7 (.split 56 (.skips 2 (.ops 2 (.skips 2 (.ops 2 (.skips 2 (hO 2)))))) (.ops 4 (.split 60 (.skips 2 (.ops 2 (.skips 2 (hO 2)))) (.ops 4 (.split 64 (.skips 2 (hO 2)) (hO 4)))))))))))) (.skips 2 (.ops 6 (.split 47 (.ops 5 (.split 52 (.skips 2 (.ops 2 (.skips 2 (.ops 2 (.skips 2 (.ops 2 (.skips 2 (hO 2)))))))) (.ops 4 (.split 56 (.skips 2 (.ops 2 (.skips 2 (.ops 2 (.skips 2 (hO 2)))))) (.ops 4 (.split 60 (.skips 2 (.ops 2 (.skips 2 (hO 2)))) (.ops 4 (.split 64 (.skips 2 (hO 2)) (hO 4))))))))) (.skips 2 (.ops 7 (.split 56 (.skips 2 (.ops 2 (.skips 2 (.ops 2 (.skips 2 (hO 2)))))) (.ops 4 (.split 60 (.skips 2 (.ops 2 (.skips 2 (hO 2)))) (.ops 4 (.split 64 (.skips 2 (hO 2)) (hO 4))))))))))))))) (.skips 2 (.ops 5 (.split 39 (.ops 5 (.split 44 (.skips 6 (.ops 2 (.skips 2 (.ops 2 (.skips 2 (.ops 2 (.skips 2 (.ops 2 (.skips 2 (hO 2)))))))))) (.ops 3 (.split 47 (.ops 5 (.split 52 (.skips 2 (.ops 2 (.skips 2 (.ops 2 (.skips 2 (.ops 2 (.skips 2 (hO 2)))))))) (.ops 4 (.split 56 (.skips 2 (.ops 2 (.skips 2 (.ops 2 (.skips 2 (hO 2)))))) (.ops 4 (.split 60 (.skips 2 (.ops 2 (.skips 2 (hO 2)))) (.ops 4 (.split 64 (.skips 2 (hO 2)) (hO 4))))))))) (.skips 2 (.ops 7 (.split 56 (.skips 2 (.ops 2 (.skips 2 (.ops 2 (.skips 2 (hO 2)))))) (.ops 4 (.split 60 (.skips 2 (.ops 2 (.skips 2 (hO 2)))) (.ops 4 (.split 64 (.skips 2 (hO 2)) (hO 4)))))))))))) (.skips 2 (.ops 6 (.split 47 (.ops 5 (.split 52 (.skips 2 (.ops 2 (.skips 2 (.ops 2 (.skips 2 (.ops 2 (.skips 2 (hO 2)))))))) (.ops 4 (.split 56 (.skips 2 (.ops 2 (.skips 2 (.ops 2 (.skips 2 (hO 2)))))) (.ops 4 (.split 60 (.skips 2 (.ops 2 (.skips 2 (hO 2)))) (.ops 4 (.split 64 (.skips 2 (hO 2)) (hO 4))))))))) (.skips 2 (.ops 7 (.split 56 (.skips 2 (.ops 2 (.skips 2 (.ops 2 (.skips 2 (hO 2)))))) (.ops 4 (.split 60 (.skips 2 (.ops 2 (.skips 2 (hO 2)))) (.ops 4 (.split 64 (.skips 2 (hO 2)) (hO 4))))))))))))))))) (hC (hS (hR 1) hL) hL)))) (hR 3)))))) (hS (hR 1) hL))))
theorem j16 {a0:ByteArray}{K:Bool->Wp}{w:World}(h:F16 a0 K w):Aa Tryz.prog 16 #[(.string a0)] rB K w:=tied Am Tryz.func16 h16 _ h
def F20 (a0:(Sl×ByteArray×Int×Sl×Unit)) (K:Bool->Wp):Wp:=Ad (.cells #[a0.1.v,(.string a0.2.1),(vI a0.2.2.1),a0.2.2.2.1.v] 39) λb1=>jB (λJ2=>ld (.str) (ad b1 1) λ(x4:ByteArray)=>cB 16 #[(.string x4)] λx5=>sif (!x5) (J2 (true,())) (lI (ad b1 2) λx6=>sif (decide (x6<0)) (J2 (true,())) (lI (ad b1 2) λx7=>sif (decide (x7>4)) (J2 (true,())) (ld (.sl) (ad b1 3) λ(x8:Sl)=>sif (decide (((x8.len:Nat):Int)>60000)) (J2 (true,())) (ld (.sl) (at0 b1) λ(x9:Sl)=>J2 ((decide (((x9.len:Nat):Int)>14)),())))))) λs3=>sif s3.1 (K false) (jU (λJ10=>sI (λs12 again13=>ld (.sl) (at0 b1) λ(x14:Sl)=>sif (decide (s12.1<((x14.len:Nat):Int))) (jB (λJ15=>ld (.sl) (at0 b1) λ(x17:Sl)=>ixl (.str) x17 s12.1 2 λ(x19:ByteArray)=>cB 16 #[(.string x19)] λx20=>sif (!x20) (J15 (true,())) (ld (.sl) (at0 b1) λ(x21:Sl)=>ixf (.sl) x21 s12.1 2 1 λ(x23:Sl)=>J15 ((decide (((x23.len:Nat):Int)>60000)),()))) λs16=>sif s16.1 (K false) (again13 ((IntKind.wrap .i64 (s12.1+1)),()))) (J10 ())) (0,())) λs11=>K true)
def h20:Hint:=(hS (hR 2) (hS (hJ (0x3ffffff0,[(29,tB)]) (.region [] (.ops 5 (.split 8 (.skips 3 (.ops 2 (.skips 3 (.ops 2 (.skips 4 (.ops 2 (.skips 4 (hO 1)))))))) (.ops 5 (.split 13 (.skips 3 (.ops 2 (.skips 4 (.ops 2 (.skips 4 (hO 1)))))) (.ops 5 (.split 18 (.skips 4 (.ops 2 (.skips 4 (hO 1)))) (.ops 6 (.split 24 (.skips 4 (hO 1)) (hO 5)))))))))) (hC (hS (hR 1) hL) hL)) (hJ (0x7fffffc000000c,[]) (hS (hR 1) (.block (.loop 0x7fffffc000000c [(3,tI)] (hS (hS (hR 5) (hC hL hL)) (hS (.block (hJ ((mR [(37,55)]),[(54,tB)]) (.region [] (.ops 9 (.split 45 (.skips 8 (hO 1)) (hO 9)))) (hC (hS (hR 1) hL) hL))) (hR 3)))))) (hS (hR 1) hL))))
theorem j20 {a0:(Sl×ByteArray×Int×Sl×Unit)}{K:Bool->Wp}{w:World}(h:F20 a0 K w):Aa Tryz.prog 20 #[(vA c39 a0)] rB K w:=tied Am Tryz.func20 h20 _ h
def F21 (a0:(Sl×ByteArray×Int×Sl×Unit)) (K:(Option Addr×Bool×Unit)->Wp):Wp:=Ad (.cells #[a0.1.v,(.string a0.2.1),(vI a0.2.2.1),a0.2.2.2.1.v] 39) λb1=>Aa Tryz.prog 17 #[(vI 1048576)] (.tup [(.one .ptr),(.one .any)]) λ(x2:(Option Addr×Value×Unit))=>jB (λJ3=>sif (Option.isNone x2.1) (J3 (true,())) (rdB Tryz.prog (do eqGuard .neq 26 (Operand.tmp 18) (Operand.const Value.nilIface) x2.2.1 .nilIface;binOp .neq 26 x2.2.1 .nilIface:Sem Value) λr5=>J3 (r5,()))) λs4=>sif s4.1 (K (none,false,())) (Ad (.cells #[(.pointer x2.1),(.pointer none),(vI 0),(vI 0),(.slice none 0 0),(.bool false),(.slice none 0 0),(.bool false)] 47) λb6=>jU (λJ7=>sI (λs9 again10=>ld (.sl) (at0 b1) λ(x11:Sl)=>sif (decide (s9.1<((x11.len:Nat):Int))) (jU (λJ12=>drew<|ld (.sl) (at0 b1) λ(x14:Sl)=>ix x14.a x14.len s9.1 λp15=>ld (.str) (p15.add (scaled (Int.toNat s9.1) 2)) λ(x16:ByteArray)=>ld (.sl) (at0 b1) λ(x17:Sl)=>ixf (.sl) x17 s9.1 2 1 λ(x19:Sl)=>cS 33 #[x19.v] λx20=>keep (λw=>w.cell? (p15.add (scaled (Int.toNat s9.1) 2))=some (Cell.val (.str) x16))<|keep (λw=>w.cell? (at0 b1)=some (Cell.val (.sl) x14))<|Aa Tryz.prog 32 #[(.pointer x2.1),(.string x16),x20.v] (.one (.one .any)) λ(x21:Value)=>rdB Tryz.prog (do eqGuard .neq 26 (Operand.tmp 45) (Operand.const Value.nilIface) x21 .nilIface;binOp .neq 26 x21 .nilIface:Sem Value) λr22=>sif r22 (K (none,false,())) (drew<|ld (.sl) (at0 b1) λ(x23:Sl)=>ixl (.str) x23 s9.1 2 λ(x25:ByteArray)=>ld (.str) (ad b1 1) λ(x26:ByteArray)=>sif (ByteArray.toList x25==ByteArray.toList x26) (ld (.sl) (at0 b1) λ(x27:Sl)=>ixf (.sl) x27 s9.1 2 1 λ(x29:Sl)=>cS 33 #[x29.v] λx30=>nn (some (at0 b6)) λp31=>stC (p31.add 6) x30.v<|nn (some (at0 b6)) λp32=>stC (p32.add 7) (.bool true)<|J12 ()) (J12 ()))) λs13=>again10 ((IntKind.wrap .i64 (s9.1+1)),())) (J7 ())) (0,())) λs8=>ld (.str) (ad b1 1) λ(x33:ByteArray)=>lI (ad b1 2) λx34=>Aa Tryz.prog 18 #[(.pointer x2.1),(.string x33),(vI x34),(vI 65536)] (.tup [(.one .ptr),(.agg c32),(.one cI)]) λ(x35:(Option Addr×(Int×Int×Sl×Bool×Unit)×Int×Unit))=>Ad (.cells #[(vI 0),(vI 0),(.slice none 0 0),(.bool false)] 32) λb36=>Ae (at0 b36) (vA c32 x35.2.1) 4<|jB (λJ37=>drew<|sif (Option.isNone x35.1) (J37 (true,())) (sif (x35.2.2.1 !=0) (J37 (true,())) (ld (.bool) (ad b36 3) λ(x39:Bool)=>nn (some (at0 b6)) λp40=>ld (.bool) (p40.add 7) λ(x41:Bool)=>rdB Tryz.prog (do eqGuard .eql 4 (Operand.tmp 87) (Operand.tmp 91) (.bool x39) (.bool x41);binOp .eql 4 (.bool x39) (.bool x41):Sem Value) λr42=>sif r42 (J37 (true,())) (lI (ad b36 1) λx43=>sif (decide (x43<0)) (J37 (true,())) (lI (ad b36 1) λx44=>nn (some (at0 b6)) λp45=>ld (.sl) (p45.add 6) λ(x46:Sl)=>sif (decide (x44>((x46.len:Nat):Int))) (J37 (true,())) (lI (at0 b36) λx47=>sif (decide (x47<1)) (J37 (true,())) (lI (at0 b36) λx48=>J37 ((decide (x48>4)),())))))))) λs38=>sif s38.1 (K (none,false,())) (nn (some (at0 b6)) λp49=>stC (p49.add 1) (.pointer x35.1)<|lds c32 (at0 b36) λ(x50:(Int×Int×Sl×Bool×Unit))=>nn (some (at0 b6)) λp51=>Ae (p51.add 2) (vA c32 x50) 4<|K ((some (at0 b6)),true,())))
def h21:Hint:=(hS (hR 3) (hS (hR 6) (hS (hJ (2064384,[(20,tB)]) (.region [] (.ops 3 (.split 17 (.skips 2 (hO 1)) (hO 3)))) (hC (hS (hR 2) hL) hL)) (hS (hR 4) (hJ (0x1fffffffffff00008c,[]) (hS (hR 1) (.block (.loop 0x1fffffffffff00008c [(7,tI)] (hS (hS (hR 5) (hC hL hL)) (hJ (0x1fffffffff8000000c,[]) (.block (hS (hS (.region (lR 16) (hO 16)) (hC (hS (hR 2) hL) hL)) (hS (.region (lR 9) (hO 9)) (hC (hS (hR 11) (hR 4)) hL)))) (hR 3)))))) (hS (hR 14) (hS (hJ ((mR [(79,119)]),[(118,tB)]) (.region (lR 40) (.ops 3 (.split 81 (.skips 2 (.ops 2 (.skips 7 (.ops 2 (.skips 3 (.ops 2 (.skips 8 (.ops 2 (.skips 3 (.ops 2 (.skips 3 (hO 1)))))))))))) (.ops 4 (.split 85 (.skips 7 (.ops 2 (.skips 3 (.ops 2 (.skips 8 (.ops 2 (.skips 3 (.ops 2 (.skips 3 (hO 1)))))))))) (.ops 9 (.split 94 (.skips 3 (.ops 2 (.skips 8 (.ops 2 (.skips 3 (.ops 2 (.skips 3 (hO 1)))))))) (.ops 5 (.split 99 (.skips 8 (.ops 2 (.skips 3 (.ops 2 (.skips 3 (hO 1)))))) (.ops 10 (.split 109 (.skips 3 (.ops 2 (.skips 3 (hO 1)))) (.ops 5 (.split 114 (.skips 3 (hO 1)) (hO 4)))))))))))))) (hC (hS (hR 2) hL) hL)) (hS (hR 5) (hS (hR 5) (hS (hR 3) hL))))))))))
theorem j21 {a0:(Sl×ByteArray×Int×Sl×Unit)}{K:(Option Addr×Bool×Unit)->Wp}{w:World}(h:F21 a0 K w):Aa Tryz.prog 21 #[(vA c39 a0)] (.tup [(.one .ptr),(.one .bool)]) K w:=tied Am Tryz.func21 h21 _ h
def F22 (a0:Sl) (a1:Sl) (K:Bool->Wp):Wp:=sif (((a0.len:Nat):Int) !=((a1.len:Nat):Int)) (K false) (jU (λJ1=>sI (λs3 again4=>sif (decide (s3.1<((a0.len:Nat):Int))) (drew<|ixl (.int .u8) a0 s3.1 1 λ(x6:Int)=>ixl (.int .u8) a1 s3.1 1 λ(x8:Int)=>sif (x6 !=x8) (K false) (again4 ((IntKind.wrap .i64 (s3.1+1)),()))) (J1 ())) (0,())) λs2=>K true)
def h22:Hint:=(hS (hR 1) (hS (hS (hR 5) (hC (hS (hR 1) hL) hL)) (hJ (67106864,[]) (hS (hR 1) (.block (.loop 67106864 [(5,tI)] (hS (hS (hR 4) (hC hL hL)) (hS (.block (hS (.region (lR 9) (hO 9)) (hC (hS (hR 1) hL) hL))) (hR 3)))))) (hS (hR 1) hL))))
theorem j22 {a0:Sl}{a1:Sl}{K:Bool->Wp}{w:World}(h:F22 a0 a1 K w):Aa Tryz.prog 22 #[a0.v,a1.v] rB K w:=tied Am Tryz.func22 h22 _ h
def F23 (a0:Option Addr) (a1:Sl) (K:Sl->Wp):Wp:=drew<|nn a0 λp1=>ld (.sl) (p1.add 6) λ(x2:Sl)=>nn a0 λp3=>ld cI ((p3.add 2).add 1) λ(x4:Int)=>slc x2.a 0 x4 ((x2.cap:Nat):Int) x2.cap 1 λx5=>cS 33 #[x5.v] λx6=>Dp Tryz.prog rS (Builtin.append_ #[30,30] 30 #[x6.v,a1.v]) λ(x7:Sl)=>K x7
def h23:Hint:=(hS (hR 1) (hS (.region [0,1,2,3,4,5,6,7,8,9,11,10,12,13] (hO 14)) hL))
theorem j23 {a0:Option Addr}{a1:Sl}{K:Sl->Wp}{w:World}(h:F23 a0 a1 K w):Aa Tryz.prog 23 #[(.pointer a0),a1.v] rS K w:=tied Am Tryz.func23 h23 _ h
def F26 (a0:Option Addr) (a1:Sl) (K:Option Addr->Wp):Wp:=drew<|nn a0 λp1=>ld cI (p1.add 2) λ(x2:Int)=>cS 33 #[a1.v] λx3=>keep (λw=>w.cell? (p1.add 2)=some (Cell.val cI x2))<|Aa Tryz.prog 48 #[(vI x2),x3.v,(vI 65536)] (.tup [(.one .ptr),(.one cI)]) λ(x4:(Option Addr×Int×Unit))=>sif (x4.2.1 !=0) (K none) (K x4.1)
def h26:Hint:=(hS (hR 1) (hS (.region (lR 13) (hO 13)) (hS (hS (hR 2) (hC (hS (hR 1) hL) hL)) (hS (hR 2) hL))))
theorem j26 {a0:Option Addr}{a1:Sl}{K:Option Addr->Wp}{w:World}(h:F26 a0 a1 K w):Aa Tryz.prog 26 #[(.pointer a0),a1.v] rP K w:=tied Am Tryz.func26 h26 _ h
def F28 (a0:Option Addr) (a1:ByteArray) (a2:Sl) (K:Bool->Wp):Wp:=Aa Tryz.prog 49 #[(.pointer a0),(.string a1)] (.tup [(.one .sl),(.one .any)]) λ(x1:(Sl×Value×Unit))=>rdB Tryz.prog (do eqGuard .eql 26 (Operand.tmp 15) (Operand.const Value.nilIface) x1.2.1 .nilIface;binOp .eql 26 x1.2.1 .nilIface:Sem Value) λr2=>sif r2 (cB 22 #[x1.1.v,a2.v] λx3=>K x3) (K false)
def h28:Hint:=(hS (hR 1) (hS (hR 8) (hS (.region [] (.ops 3 (.split 17 (hO 5) (.skips 3 (hO 2))))) hL)))
theorem j28 {a0:Option Addr}{a1:ByteArray}{a2:Sl}{K:Bool->Wp}{w:World}(h:F28 a0 a1 a2 K w):Aa Tryz.prog 28 #[(.pointer a0),(.string a1),a2.v] rB K w:=tied Am Tryz.func28 h28 _ h
def F29 (a0:Option Addr) (a1:(Sl×ByteArray×Int×Sl×Unit)) (a2:Bool) (K:Bool->Wp):Wp:=Ad (.cells #[a1.1.v,(.string a1.2.1),(vI a1.2.2.1),a1.2.2.2.1.v] 39) λb1=>nn a0 λp2=>ld (.ptr) p2 λ(x3:Option Addr)=>cS 59 #[(.pointer x3)] λx4=>jB (λJ5=>Jv (S:=Bool×Int×Unit) (λs7 again8=>sif (decide (s7.2.1<((x4.len:Nat):Int))) (drew<|ixl (.str) x4 s7.2.1 1 λ(x10:ByteArray)=>ld (.str) (ad b1 1) λ(x11:ByteArray)=>jB (λJ12=>sif s7.1 (J12 (true,())) (J12 ((ByteArray.toList x10==ByteArray.toList x11),()))) λs13=>jB (λJ14=>Jv (S:=Bool×Int×Unit) (λs16 again17=>ld (.sl) (at0 b1) λ(x18:Sl)=>sif (decide (s16.2.1<((x18.len:Nat):Int))) (jB (λJ19=>drew<|sif s16.1 (J19 (true,())) (ld (.sl) (at0 b1) λ(x21:Sl)=>ixl (.str) x21 s16.2.1 2 λ(x23:ByteArray)=>ixl (.str) x4 s7.2.1 1 λ(x25:ByteArray)=>J19 ((ByteArray.toList x23==ByteArray.toList x25),()))) λs20=>again17 (s20.1,(IntKind.wrap .i64 (s16.2.1+1)),())) (J14 (s16.1,()))) ((ByteArray.toList x10==ByteArray.toList x11),0,())) λs15=>sif (!s15.1) (K false) (again8 (s13.1,(IntKind.wrap .i64 (s7.2.1+1)),()))) (J5 (s7.1,()))) (false,0,())) λs6=>jU (λJ26=>sI (λs28 again29=>ld (.sl) (at0 b1) λ(x30:Sl)=>sif (decide (s28.1<((x30.len:Nat):Int))) (jB (λJ31=>Jv (S:=Bool×Int×Unit) (λs33 again34=>ld (.sl) (at0 b1) λ(x35:Sl)=>sif (decide (s33.2.1<((x35.len:Nat):Int))) (jB (λJ36=>drew<|sif s33.1 (ld (.sl) (at0 b1) λ(x38:Sl)=>ixl (.str) x38 s33.2.1 2 λ(x40:ByteArray)=>ld (.sl) (at0 b1) λ(x41:Sl)=>ixl (.str) x41 s28.1 2 λ(x43:ByteArray)=>J36 ((!(ByteArray.toList x40==ByteArray.toList x43)),())) (J36 (false,()))) λs37=>again34 (s37.1,(IntKind.wrap .i64 (s33.2.1+1)),())) (J31 (s33.1,()))) (true,(IntKind.wrap .i64 (s28.1+1)),())) λs32=>jB (λJ44=>drew<|sif s32.1 (ld (.sl) (at0 b1) λ(x46:Sl)=>ixl (.str) x46 s28.1 2 λ(x48:ByteArray)=>ld (.str) (ad b1 1) λ(x49:ByteArray)=>sif (!(ByteArray.toList x48==ByteArray.toList x49)) (nn a0 λp50=>ld (.ptr) p50 λ(x51:Option Addr)=>ld (.sl) (at0 b1) λ(x52:Sl)=>ixl (.str) x52 s28.1 2 λ(x54:ByteArray)=>ld (.sl) (at0 b1) λ(x55:Sl)=>ixf (.sl) x55 s28.1 2 1 λ(x57:Sl)=>cB 28 #[(.pointer x51),(.string x54),x57.v] λx58=>J44 ((!x58),())) (J44 (false,()))) (J44 (false,()))) λs45=>sif s45.1 (K false) (again29 ((IntKind.wrap .i64 (s28.1+1)),()))) (J26 ())) (0,())) λs27=>sif s6.1 (K true) (K (!a2))
def h29:Hint:=(hS (hR 2) (hS (hR 6) (hS (hR 1) (hJ (0xffffffffff00f40,[(8,tB)]) (hS (hR 1) (.block (.loop 0xffffffffff00f40 [(8,tB),(9,tI)] (hS (hS (hR 4) (hC hL hL)) (hS (.block (hS (.region (lR 8) (hO 8)) (hJ (0x1e00000100,[(8,tB)]) (.region [] (.ops 2 (.split 34 (.skips 1 (hO 2)) (hO 3)))) (hJ (0x3ffffe000000c00,[(10,tB)]) (hS (hR 1) (.block (.loop 0x3ffffe000000c00 [(10,tB),(11,tI)] (hS (hS (hR 5) (hC hL hL)) (hJ (0x3fff00000000400,[(10,tB)]) (.block (.region (lR 15) (.ops 2 (.split 45 (.skips 11 (hO 2)) (hO 13))))) (hR 3)))))) (hS (hR 2) (hC (hS (hR 1) hL) hL)))))) (hR 3)))))) (hJ (0xffffffffffffffff000000000007040,[]) (hS (hR 1) (.block (.loop 0xffffffffffffffff000000000007040 [(12,tI)] (hS (hS (hR 5) (hC hL hL)) (hS (.block (hS (hR 1) (hJ ((mR [(13,15),(67,92)]),[(13,tB)]) (hS (hR 3) (.block (.loop (mR [(13,15),(69,92)]) [(13,tB),(14,tI)] (hS (hS (hR 5) (hC hL hL)) (hJ ((mR [(13,14),(76,92)]),[(13,tB)]) (.block (.region (lR 17) (.ops 2 (.split 77 (hO 15) (.skips 13 (hO 2)))))) (hR 3)))))) (hJ ((mR [(92,124)]),[(123,tB)]) (.region (lR 32) (.ops 2 (.split 93 (.ops 11 (.split 104 (hO 19) (.skips 18 (hO 1)))) (.skips 9 (.ops 2 (.skips 18 (hO 1))))))) (hC (hS (hR 1) hL) hL))))) (hR 3)))))) (hS (.region [] (.ops 2 (.split 125 (.skips 2 (hO 2)) (hO 4)))) hL))))))
theorem j29 {a0:Option Addr}{a1:(Sl×ByteArray×Int×Sl×Unit)}{a2:Bool}{K:Bool->Wp}{w:World}(h:F29 a0 a1 a2 K w):Aa Tryz.prog 29 #[(.pointer a0),(vA c39 a1),(.bool a2)] rB K w:=tied Am Tryz.func29 h29 _ h
def F33 (a0:Sl) (K:Sl->Wp):Wp:=Dp Tryz.prog rS (Builtin.append_ #[30,30] 30 #[(.slice none 0 0),a0.v]) λ(x1:Sl)=>K x1
def h33:Hint:=(hS (hR 1) (hS (hR 3) hL))
theorem j33 {a0:Sl}{K:Sl->Wp}{w:World}(h:F33 a0 K w):Aa Tryz.prog 33 #[a0.v] rS K w:=tied Am Tryz.func33 h33 _ h
def F41 (a0:(Int×Sl×Unit)) (K:(Int×Sl×Unit)->Wp):Wp:=Ad (.cells #[(vI a0.1),a0.2.1.v] 72) λb1=>Ad (.cells #[(vI 0),(.slice none 0 0)] 72) λb2=>drew<|lI (at0 b1) λx3=>ld (.sl) (ad b1 1) λ(x4:Sl)=>Dp Tryz.prog rS (Builtin.append_ #[70,70] 70 #[(.slice none 0 0),x4.v]) λ(x5:Sl)=>keep (λw=>w.cell? (at0 b1)=some (Cell.val cI x3))<|Ae (at0 b2) (.agg #[(vI x3),x5.v]) 2<|lds c72 (at0 b2) λ(x6:(Int×Sl×Unit))=>K x6
def h41:Hint:=(hS (hR 2) (hS (.region (lR 7) (hO 7)) hL))
theorem j41 {a0:(Int×Sl×Unit)}{K:(Int×Sl×Unit)->Wp}{w:World}(h:F41 a0 K w):Aa Tryz.prog 41 #[(vA c72 a0)] (.one (.agg c72)) K w:=tied Am Tryz.func41 h41 _ h
def F45 (a0:Sl) (K:Sl->Wp):Wp:=jS (λJ1=>Jv (S:=Sl×Int×Unit) (λs3 again4=>sif (decide (s3.2.1<((a0.len:Nat):Int))) (jS (λJ5=>jB (λJ7=>ixf cI a0 s3.2.1 5 1 λ(x10:Int)=>sif (decide (x10>=1)) (ixf cI a0 s3.2.1 5 1 λ(x12:Int)=>J7 ((decide (x12<=3)),())) (J7 (false,()))) λs8=>sif s8.1 (drew<|ixI a0 s3.2.1 5 λx14=>ixf cI a0 s3.2.1 5 1 λ(x16:Int)=>ixf cI a0 s3.2.1 5 2 λ(x18:Int)=>Ad (.cells #[(vI x14),(vI x16),(vI x18),(vI 0),(.slice none 0 0)] 132) λb19=>Dp Tryz.prog rS (Builtin.append_ #[69,69] 69 #[s3.1.v,(.slice (some (at0 b19)) 1 1)]) λ(x20:Sl)=>J5 (x20,())) (J5 (s3.1,()))) λs6=>again4 (s6.1,(IntKind.wrap .i64 (s3.2.1+1)),())) (J1 (s3.1,()))) (⟨none,0,0⟩,0,())) λs2=>K s2.1
def h45:Hint:=(hS (hR 1) (hS (hR 1) (hJ (0xffffffffff8,[(3,tS)]) (hS (hR 1) (.block (.loop 0xffffffffff8 [(3,tS),(4,tI)] (hS (hS (hR 4) (hC hL hL)) (hJ (0xffffffff808,[(3,tS)]) (.block (hJ (33552384,[(24,tB)]) (.region [] (.ops 7 (.split 17 (hO 7) (.skips 6 (hO 1))))) (hC (.region (lR 20) (hO 20)) hL))) (hR 3)))))) (hS (hR 2) hL))))
theorem j45 {a0:Sl}{K:Sl->Wp}{w:World}(h:F45 a0 K w):Aa Tryz.prog 45 #[a0.v] rS K w:=tied Am Tryz.func45 h45 _ h
end Go.Proofs.YtmooldhpiopcgaaGreatDoor
namespace Go.Proofs.YtmooldhpiopcgaaGreatDoor
namespace Dq
open Go Go.Vx Dsk Cdc Trx
section
variable {w w':World}{S F F':Nat->Prop}{d:Nat}{D:Dk}{N:Nat}
theorem Bt5 {b:Nat}{fr:Nat×Nat}{l:List UInt8}(h:w.heap[b]?=some (.cells (bv l).toArray 5 fr)):By w ⟨some (at0 b),l.length,l.length⟩ l :=
 ⟨by simp,Nat.le_refl _,.inr ⟨b,0,(bv l).toArray,fr,rfl,h,by simp,λj v hj=>by simpa using hj⟩⟩
theorem Bd8 {l m:List UInt8}:(ByteArray.toList ⟨l.toArray⟩==ByteArray.toList ⟨m.toArray⟩)=decide (l=m):=by
 rw [bytes_eq,decide_eq_decide]
 constructor
 ·intro h
  have:=congrArg (λb:ByteArray=>b.data.toList) h
  simpa using this
 ·rintro rfl;rfl
abbrev nmA:Nm:={ data:=#[97] }
abbrev Rx:List UInt8:=[111,108,100]
abbrev tNew:List UInt8:=[110,101,119]
theorem Cm1 (g:List UInt8->Int):Il g 1 Rx=(1,0):=by
 unfold Il
 rw [if_neg (by decide),if_neg (by decide),if_neg (by decide)]
theorem Ba9 (g:List UInt8->Int):∃(D1 D2:Dk) (X:Fil) (D3:Dk),(Nk (Tm 100) nmA Rx)=(D1,0)/\Na g D1 nmA 1 10=(D2,0,some X,⟨1,0,Rx,false⟩)/\X.mark=[]/\X.name=nmA/\(Eo D2 X tNew false).1=D3/\(Eo D2 X tNew false).2.1=0/\(Bh D3 nmA).2.1=0/\(Bh D3 nmA).2.2=tNew:=by
 have ok0:=Ax2 (space:=100) (by decide) (by decide)
 have s0:=Sol.new 100
 have hu0:Bv (Tm 100) none<=((names (Tm 100).seen).length:Int)*(0:Nat):=s0.used ok0 (λm b hb=>by cases hb) none
 have hn0:(names (Tm 100).seen).length=0:=Jc (l:=[]) ⟨List.nodup_nil,λn=>by constructor;(intro h;cases h);(intro h;cases h)⟩
 have hu:userName nmA=true:=by decide
 obtain ⟨hn,hsn⟩:=Jl hu
 obtain ⟨p1,p2,p3,p4,p5,_⟩:=Bc7 (n:=nmA) (b:=Rx) s0 ok0 hn (λ_=>by rw [hn0];decide) (by
  show (3:Int)<=100-Bv (Tm 100) none
  rw [hn0] at hu0;simp at hu0;omega)
 obtain ⟨D1,hD1⟩:∃D1,D1=(Nk (Tm 100) nmA Rx).1:=⟨_,rfl⟩
 have okP:Bl (Nk (Tm 100) nmA Rx).1 (0+1):=Bq0 ok0 nmA Rx
 rw [←hD1] at p2 p3 p4 p5 okP
 have hv:=p2.view nmA
 have hvn:Ec (λ_=>none) nmA (some Rx) nmA=some Rx:=by unfold Ec;rw [if_pos rfl]
 rw [hvn] at hv
 obtain ⟨i,hi,hd⟩:=Option.map_eq_some_iff.1 hv
 have ho:=Ap3 (g:=g) (enc:=1) (limit:=10) p2.q hu (by decide) (by decide) hi hd (by rw [Cm1];decide)
 rw [Cm1] at ho
 obtain ⟨X,hX⟩:∃X:Fil,X=⟨nmA,[],Ci D1 nmA,(0,0,0)⟩:=⟨_,rfl⟩
 have ho:Na g D1 nmA 1 10=({ D1 with steps:=D1.steps+1+1 },0,some X,⟨1,0,Rx,false⟩):=by rw [hX];exact ho
 have s2:Sol { D1 with steps:=D1.steps+1+1 } _:=p2.st (D1.steps+1+1)
 have ok2:Bl { D1 with steps:=D1.steps+1+1 } (0+1+1+1):=Ae2 (Ae2 okP)
 have hXn:X.name=nmA:=by rw [hX]
 have hXm:X.mark=[]:=by rw [hX]
 have hside:D1.seen (side nmA)=none:=p2.Ig.2 (by unfold Ec;rw [if_neg (Qr nmA)])
 have hused:=p2.used okP (B:=3) (λm b hb=>by
  unfold Ec at hb
  split at hb
  ·cases hb;decide
  ·cases hb) none
 rw [hn0] at p5
 obtain ⟨c,h1,h2,h3,h4⟩:=Vj (X:=X) (b:=tNew) (force:=false) s2.q ok2 (by rw [hXn];exact hu) (λ_=>by show (names D1.seen).length<16;omega) (by
  rw [hXm]
  show Bv D1 none+3<=D1.space
  have:D1.space=100:=p3
  rw [this]
  have h5:((names D1.seen).length:Int)<=1:=by omega
  have:((names D1.seen).length:Int)*((3:Nat):Int)<=1*3:=Int.mul_le_mul_of_nonneg_right h5 (by decide)
  omega) (.inr (by
  unfold Jd
  have e1:Ci { D1 with steps:=D1.steps+1+1 } X.name=X.known:=by rw [hX];rfl
  rw [e1];split<;>rfl))
 refine ⟨D1,_,X,_,by rw [hD1,←p1],ho,hXm,hXn,rfl,by rw [h1],?_⟩
 rw [hXm,hXn] at h2
 have s3:=h2.sol s2 ok2 (by unfold Ec;rw [if_neg (Qr nmA)]) h3
 have hv3:=s3.view nmA
 have hvn3:Ec (Ec (λ_=>none) nmA (some Rx)) nmA (some ([]++tNew)) nmA=some ([]++tNew):=by unfold Ec;rw [if_pos rfl]
 rw [hvn3] at hv3
 obtain ⟨i3,hi3,hd3⟩:=Option.map_eq_some_iff.1 hv3
 rw [Ai6 s3.q hn,hi3,if_neg (by simp)]
 exact ⟨rfl,hd3⟩
set_option maxHeartbeats 1000000 in
theorem Bk7 (hl:Kw w){K:Bool->Wp}(hK:∀w',Ext w w'->K true w'):Aa Tryz.prog 14 #[] rB K w:=by
 refine j14 ?_
 unfold F14
 have hp:0<w.heap.size:=by obtain ⟨c,t,fr,h,_⟩:=hl;exact lt_of_heap h
 obtain ⟨D1,D2,X,D3,a1,a2,a3,a4,a5,a6,a7,a8⟩:=Ba9 λ_=>0
 have ok0:=Ax2 (space:=100) (by decide) (by decide)
 refine newS (by decide) (by decide) hp λd F w1 A1 e1 hF=>?_
 have hz1:=e1.size
 refine Ag (λx W=>x=(false,())/\∃F',DS W d F' D1 2/\Ext w W/\∀k,F' k->w.heap.size<=k) (Ac (λh=>by cases h) λ_=>Kz (Ap ?_) uE) ?_
 ·refine Aq λb5 w2 e2 n2 hb2 hz2=>Cc5 (n:=3) (m:=3) uB ub n2 λw3 fr n3 u3=>?_
  have hx:By w3 ⟨some (at0 b5),3,3⟩ Rx:=Bt5 (l:=Rx) n3
  have A3:=(A1.ext e2).frame u3 λk hk hh=>by have:=A1.lt _ hk;omega
  have e3:Ext w w3:=(e1.trans e2).step u3 λk hk=>by omega
  refine Ck2 (x:=⟨some (at0 b5),3,3⟩) A3 (by omega) hx.x (λk hk=>⟨hx.Em hk,λhh=>by
   obtain ⟨q,hq,rfl⟩:=hk
   cases hq
   have:=A1.lt _ hh
   have:b5<w1.heap.size:=this
   omega⟩) λF4 w4 v4 hv4 A4 u4 hF4=>?_
  have a1':Nk (Tm 100) { data:=#[97] } Rx=(D1,0):=a1
  rw [a1'] at hv4 A4
  rw [hv4.ok rfl]
  have z3:=e3.size
  exact Kz ⟨rfl,F4,A4,e3.step u4 λk hk=>hF k hk,λk hk=>(hF4 k hk).elim (hF k) λhh=>by omega⟩ uE
 rintro _ W1 ⟨rfl,F1,B1,E1,G1⟩
 have zz1:=E1.size
 refine Ap (Qe (g:=λ_=>0) (λ_=>.inr (.inl (by decide))) B1 (by omega) (hl.ext E1) (by decide) λF2 w2 fo sd R=>?_)
 have a2':Na (λ_=>0) D1 { data:=#[97] } 1 10=(D2,0,some X,⟨1,0,Rx,false⟩):=a2
 rw [a2'] at R ⊢
 obtain ⟨f,sm,rfl,hX,hf,hsm⟩:=R.file
 have E2:Ext w w2:=E1.step R.upd λk hk=>G1 k hk
 have G2:∀k,F2 k->w.heap.size<=k:=λk hk=>(R.new k hk).elim (G1 k) λhh=>by omega
 have zz2:=E2.size
 refine Aq λb10 w3 e3 n3 hb3 hz3=>Fb n3 rfl rfl (by decide) λw4 u4 n4 hz4=>?_
 have n4:w4.heap[b10]?=some (.cells (Cells.vals c32 (Aj8 1 0 sd false)).toArray 32 (0,0)):=n4
 have e24:Ext w2 w4:=e3.step u4 λk hk=>by omega
 refine Aq λb11 w5 e5 n5 hb5 hz5=>Cc5 (n:=3) (m:=3) uB ub n5 λw6 fr n6 u6=>?_
 have e46:Ext w4 w6:=e5.step u6 λk hk=>by omega
 have e26:=e24.trans e46
 have hx:By w6 ⟨some (at0 b11),3,3⟩ tNew:=Bt5 (l:=tNew) n6
 refine _root_.Go.Proofs.YtmooldhpiopcgaaGreatDoor.Qe (e:=.u8) (lim:=10) (s:=⟨some (at0 b11),3,3⟩) hx (by decide) (by decide) λp O M w7 hT _ hM e7 hO=>?_
 have e27:=e26.trans e7
 have E7:=E2.trans e27
 have A7:=R.disk.ext e27
 have X7:=hX.ext e27
 have z7:=e27.size
 have z26:=e26.size
 refine Ag (λx W=>x=(false,())/\∃F',DS W d F' D3 6000/\Ext w W/\∀k,F' k->w.heap.size<=k) ?_ ?_
 ·refine Ac (λh=>by cases h) λ_=>Ac (λh=>by cases h) λ_=>Ac (λh=>by cases h) λ_=>Ac (λh=>by cases h) λ_=>?_
  refine Ah ((e46.trans e7).ext_get n4) (off:=2) (x:=sd) rfl (Rl uB ub us ((R.data.in.ext e27).x) ?_)
  have:(ByteArray.toList ⟨Rx.toArray⟩==ByteArray.toList ({ data:=#[111,108,100] }:ByteArray))=true:=by
   have:=Bd8 (l:=Rx) (m:=Rx)
   rw [decide_eq_true rfl] at this
   exact this
  rw [this]
  refine Ac (λh=>by cases h) λ_=>Xq A7 (by omega) hT (λk hk=>⟨λhh=>by have:=hO k hk;have:=R.disk.lt _ hh;omega,λhh=>by have:=hO k hk;have:=lt_of_heap hX.at_.box;omega⟩) X7 λF8 w8 A8 _ _ _ u8 hF8=>?_
  rw [hM] at A8 ⊢
  rw [a5] at A8
  rw [a6]
  refine ⟨rfl,F8,A8.mono (by omega),E7.step u8 λk hk=>hk.elim (G2 k) λhh=>by omega,λk hk=>(hF8 k hk).elim (G2 k) λhh=>by have:=E7.size;omega⟩
 ·rintro _ W8 ⟨rfl,F8,A8,E8,G8⟩
  refine Ap (Bo6 A8 (by omega) λF9 w9 sx v9 hv9 A9 u9 hF9 row9 _=>?_)
  have a7':(Bh D3 { data:=#[97] }).2.1=0:=a7
  have a8':(Bh D3 { data:=#[97] }).2.2=tNew:=a8
  rw [a7'] at hv9
  rw [a8'] at row9
  rw [hv9.ok rfl]
  have E9:Ext w w9:=E8.step u9 λk hk=>G8 k hk
  refine O9 (Di (Rl uB ub us row9.in.x ?_)) uE
  have:(ByteArray.toList ⟨tNew.toArray⟩==ByteArray.toList ({ data:=#[110,101,119] }:ByteArray))=true:=by
   have:=Bd8 (l:=tNew) (m:=tNew)
   rw [decide_eq_true rfl] at this
   exact this
  rw [this]
  exact hK w9 E9
end
end Dq
end Go.Proofs.YtmooldhpiopcgaaGreatDoor
namespace Go.Proofs.YtmooldhpiopcgaaGreatDoor
namespace Dq
open Go Go.Vx Dsk Cdc Trx
section
variable {w w':World}{S F F':Nat->Prop}{d:Nat}{D:Dk}{N:Nat}
theorem Bn1 {s:ByteArray}{i:Nat}(h:i<s.size):s[i]?=some (s.get! i):=by
 have h1:=get_at h
 rw [Array.getElem?_toList] at h1
 have h':i<s.data.size:=h
 rw [getElem?_pos s i h]
 rw [getElem?_pos s.data i h'] at h1
 exact h1
set_option maxHeartbeats 1000000 in
theorem X0 {n:Nm}(hs:n.size<2^62){K:Bool->Wp}(hK:K (userName n) w):Aa Tryz.prog 16 #[.string n] rB K w:=by
 refine j16 ?_
 unfold F16
 refine Bj (decide (n.size=0\/32<=n.size\/n.data.back?=some 126),()) ?_ ?_
 ·refine Ac (λh=>⟨Dx ⟨λ_=>decide_eq_true (.inl ?_),λ_=>rfl⟩,rfl⟩) λh=>Ac (λh2=>⟨Dx ⟨λ_=>decide_eq_true (.inr (.inl ?_)),λ_=>rfl⟩,rfl⟩) λh2=>?_
  ·have:=of_decide_eq_true h;omega
  ·have:=of_decide_eq_true h2;omega
  have h:n.size≠0:=by have:=of_decide_eq_false h;omega
  have h2:¬32<=n.size:=by have:=of_decide_eq_false h2;omega
  have ew:IntKind.wrap .i64 (((ByteArray.size n:Nat):Int)-1)=((n.size-1:Nat):Int):=by rw [wrap64 (by omega) (by omega)];omega
  rw [ew]
  refine ⟨n.get! (n.size-1),⟨by omega,by rw [Int.toNat_natCast];exact Bn1 (by omega)⟩,Dx ?_,rfl⟩
  have hb:n.data.back?=some (n.get! (n.size-1)):=by
   rw [Array.back?_eq_getElem?]
   have:=get_at (s:=n) (i:=n.size-1) (by omega)
   rw [Array.getElem?_toList] at this
   exact this
  have e126:=L6 (n.get! (n.size-1)) 126 (by decide)
  have e126:(((n.get! (n.size-1)).toNat:Int)==126)=(n.get! (n.size-1)==126):=e126
  rw [e126,beq_iff_eq,decide_eq_true_eq,hb]
  constructor
  ·intro hh;exact .inr (.inr (by rw [hh]))
  ·rintro (hh|hh|hh)
   ·exact absurd hh h
   ·exact absurd hh h2
   ·exact Option.some.inj hh
 refine Ac (λh=>?_) λh=>?_
 ·have h:=of_decide_eq_true h
  have:userName n=false:=by
   unfold userName Ba
   rcases h with h|h|h
   ·simp [h]
   ·have:¬n.size<32:=by omega
    simp [this]
   ·simp [h]
  rw [this] at hK;exact hK
 have h:=of_decide_eq_false h
 simp only [not_or] at h
 obtain ⟨h1,h2,h3⟩:=h
 have h4:n.size<32:=by omega
 have h5:n.size<=32:=by omega
 have hu:userName n=n.data.toList.all Es:=by
  unfold userName Ba
  simp [h1,h3,h4,h5]
 rw [hu] at hK
 refine Ag (λ_ W=>w=W/\n.data.toList.all Es=true) ?_ ?_
 ·refine Bz (λs W=>∃i:Nat,s=((i:Int),())/\w=W/\i<=n.size/\∀j,j<i->Es (n.get! j)=true) (λs _=>n.size-s.1.toNat) ⟨0,rfl,rfl,by omega,λj hj=>by omega⟩ ?_
  rintro _ _ ⟨i,rfl,rfl,hi,hok⟩
  refine Ac (λhlt=>?_) λhge=>?_
  ·have hlt:i<n.size:=by have:=of_decide_eq_true hlt;omega
   refine ⟨n.get! i,⟨by omega,by rw [Int.toNat_natCast];exact Bn1 hlt⟩,?_⟩
   obtain ⟨c,hc⟩:∃c:Nat,c=(n.get! i).toNat:=⟨_,rfl⟩
   have hokb:Es (n.get! i)=decide ((97<=c/\c<=122)\/(65<=c/\c<=90)\/(48<=c/\c<=57)\/c=46\/c=95\/c=45\/c=126):=by rw [hc];rfl
   rw [←hc]
   refine Bj (!Es (n.get! i),()) ?_ (Ac (λhb=>?_) λhb=>?_)
   ·rw [hokb]
    repeat' refine Ac (λ_=>?_) λ_=>?_
    all_goals
     refine ⟨Dx ?_,rfl⟩
     clear hK hu hok
     simp only [decide_eq_true_eq,decide_eq_false_iff_not,beq_iff_eq,beq_eq_false_iff_ne,ne_eq,Bool.not_eq_true',bne_iff_ne,Bool.false_eq_true,false_iff,Decidable.not_not,ge_iff_le] at *
     omega
   ·have hb:Es (n.get! i)=false:=by simpa using hb
    have:n.data.toList.all Es=false:=by
     rw [Bool.eq_false_iff];intro hh
     rw [List.all_eq_true] at hh
     have:=hh _ (List.mem_of_getElem? (get_at hlt))
     rw [hb] at this;cases this
    rw [this] at hK;exact hK
   ·have hb:Es (n.get! i)=true:=by simpa using hb
    rw [wrap64 (by omega) (by omega)]
    refine ⟨⟨i+1,by rw [show ((i:Int)+1)=((i+1:Nat):Int) by omega],rfl,by omega,λj hj=>?_⟩,?_⟩
    ·by_cases hj':j=i
     ·rw [hj'];exact hb
     ·exact hok j (by omega)
    ·show n.size-((i:Int)+1).toNat<n.size-(i:Int).toNat
     omega
  ·have hge:=of_decide_eq_false hge
   refine ⟨rfl,?_⟩
   rw [List.all_eq_true]
   intro x hx
   obtain ⟨j,hj⟩:=List.mem_iff_getElem?.1 hx
   have hlt:=(List.getElem?_eq_some_iff.1 hj).1
   have hlt:j<n.size:=by simpa using hlt
   rw [get_at hlt] at hj
   cases hj
   exact hok j (by omega)
 ·rintro _ _ ⟨rfl,hall⟩
  rw [hall] at hK;exact hK
end
end Dq
end Go.Proofs.YtmooldhpiopcgaaGreatDoor
namespace Go.Proofs.YtmooldhpiopcgaaGreatDoor
namespace Dq
open Go Go.Vx Dsk Cdc Trx
section
variable {w w':World}{S F F':Nat->Prop}{d:Nat}{D:Dk}{N:Nat}
abbrev Fls:=List (Nm×List UInt8)
structure Ve (w:World) (s:Sl) (rows:List (Cells.T c65)) (fs:Fls):Prop where
 row:SlX w s 2 (flat c65 rows)
 len:rows.length=fs.length
 at_:∀(i:Nat) r f,rows[i]?=some r->fs[i]?=some f->r.1=f.1/\Bytes w r.2.1 f.2/\f.1.size<2^62/\f.2.length<=2^30
theorem Ve.ext {s:Sl}{rows:List (Cells.T c65)}{fs:Fls}(h:Ve w s rows fs) (e:Ext w w'):Ve w' s rows fs :=
 ⟨h.row.ext e,h.len,λi r f hr hf=>let ⟨a,b,c⟩:=h.at_ i r f hr hf;⟨a,b.ext e,c⟩⟩
theorem Ve.slen {s:Sl}{rows:List (Cells.T c65)}{fs:Fls}(h:Ve w s rows fs):fs.length=s.len:=by
 have:=SlX.Oi (cs:=c65) h.row (by decide);rw [←h.len];exact this
theorem Ve.in_ {s:Sl}{rows:List (Cells.T c65)}{fs:Fls}(h:Ve w s rows fs){i:Nat}(hi:i<fs.length):∃t r f,Cj w s t 2 (flat c65 rows)/\rows[i]?=some r/\fs[i]?=some f/\r.1=f.1/\Bytes w r.2.1 f.2/\f.1.size<2^62/\f.2.length<=2^30:=by
 obtain ⟨t,ht⟩:=SlX.Af2 h.row (by rw [←h.slen];omega)
 have hir:i<rows.length:=by rw [h.len];exact hi
 have hr:rows[i]?=some rows[i]:=List.getElem?_eq_getElem hir
 have hf:fs[i]?=some fs[i]:=List.getElem?_eq_getElem hi
 exact ⟨t,_,_,ht,hr,hf,h.at_ i _ _ hr hf⟩
structure Scn (w:World) (x:Cells.T c39) (rows:List (Cells.T c65)) (fs:Fls) (bs:List UInt8):Prop where
 files:Ve w x.1 rows fs
 data:Bytes w x.2.2.2.1 bs
 nm:x.2.1.size<2^62
 dl:bs.length<=2^30
theorem Scn.ext {x:Cells.T c39}{rows:List (Cells.T c65)}{fs:Fls}{data:List UInt8}(h:Scn w x rows fs data) (e:Ext w w'):Scn w' x rows fs data:=⟨h.files.ext e,h.data.ext e,h.nm,h.dl⟩
abbrev Ko (x:Cells.T c39):Array Value:=(Cells.vals c39 x).toArray
theorem Qw {rows:List (Cells.T c65)}{s:Sl}{t:TypeId}(h:Cj w s t 2 (flat c65 rows)){i:Nat}{r:Cells.T c65}(hr:rows[i]?=some r){K:Addr->ByteArray->Wp}(hK:∀p,K p r.1 w) :
  ix s.a s.len (i:Int) (λp=>ld .str (p.add (scaled (Int.toNat (i:Int)) 2)) (K p)) w :=
 D8 (c:=.str) (cs:=c65) h (by omega) (by rw [Int.toNat_natCast];exact hr) rfl hK
theorem H6 {rows:List (Cells.T c65)}{s:Sl}{t:TypeId}(h:Cj w s t 2 (flat c65 rows)){i:Nat}{r:Cells.T c65}(hr:rows[i]?=some r){K:Addr->Sl->Wp}(hK:∀p,K p r.2.1 w) :
  ix s.a s.len (i:Int) (λp=>ld .sl ((p.add (scaled (Int.toNat (i:Int)) 2)).add 1) (K p)) w :=
 Vm (c:=.sl) (cs:=c65) (j:=1) h (by omega) (by rw [Int.toNat_natCast];exact hr) rfl hK
theorem Ad5 {s t:Sl}{l m:List UInt8}(hs:Bytes w s l) (ht:Bytes w t m) (hl:l.length<=2^60){K:Bool->Wp}(hK:∀w',Ext w w'->K (decide (l=m)) w'):Aa Tryz.prog 22 #[s.v,t.v] rB K w:=by
 refine j22 (a0:=s) (a1:=t) ?_
 unfold F22
 have h1:=Ic hs
 have h2:=Ic ht
 refine Ac (λh=>?_) λh=>?_
 ·have h:s.len≠t.len:=λhh=>by rw [hh] at h;simp at h
  rw [decide_eq_false (λhh=>h (by rw [←h1,←h2,hh]))] at hK
  exact hK _ (Ext.refl _)
 have h:s.len=t.len:=by
  have:((s.len:Nat):Int)=t.len:=by simpa using h
  omega
 refine Ag (λ_ W=>Ext w W/\l=m) ?_ ?_
 ·refine Bz (λs W=>∃i:Nat,s=((i:Int),())/\Ext w W/\i<=l.length/\∀j,j<i->l[j]?=m[j]?) (λs _=>l.length-s.1.toNat) ⟨0,rfl,Ext.refl _,Nat.zero_le _,λj hj=>by omega⟩ ?_
  rintro _ W ⟨i,rfl,e,hi,hj⟩
  dsimp only
  refine Ac (λhlt=>?_) λhge=>?_
  ·have hlt:i<l.length:=by have:=of_decide_eq_true hlt;omega
   obtain ⟨x,hx⟩:∃x,l[i]?=some x:=⟨_,List.getElem?_eq_getElem hlt⟩
   obtain ⟨y,hy⟩:∃y,m[i]?=some y:=⟨_,List.getElem?_eq_getElem (by omega)⟩
   refine Dh λw1 e1 _=>?_
   have e01:=e.trans e1
   refine byt (hs.ext e01) (by omega) (x:=x) (by rw [Int.toNat_natCast];exact hx) λ_=>byt (ht.ext e01) (by omega) (x:=y) (by rw [Int.toNat_natCast];exact hy) λ_=>Ac (λhne=>?_) λhe=>?_
   ·have hxy:x≠y:=λhh=>by rw [hh] at hne;simp at hne
    rw [decide_eq_false (λhh=>hxy (by rw [hh,hy] at hx;exact (Option.some.inj hx).symm))] at hK
    exact hK _ e01
   ·have hxy:x=y:=by
     have:(x.toNat:Int)=y.toNat:=by simpa using he
     exact UInt8.toNat_inj.1 (by omega)
    rw [wrap64 (by omega) (by omega)]
    refine ⟨⟨i+1,by rw [show ((i:Int)+1)=((i+1:Nat):Int) by omega],e01,by omega,λj hj'=>?_⟩,?_⟩
    ·by_cases hji:j=i
     ·rw [hji,hx,hy,hxy]
     ·exact hj j (by omega)
    ·show l.length-((i:Int)+1).toNat<l.length-(i:Int).toNat
     omega
  ·have hge:¬i<l.length:=by have:=of_decide_eq_false hge;omega
   refine ⟨e,List.ext_getElem? λj=>?_⟩
   by_cases hji:j<i
   ·exact hj j hji
   ·rw [List.getElem?_eq_none (by omega),List.getElem?_eq_none (by omega)]
 ·rintro _ W ⟨e,h⟩
  rw [decide_eq_true h] at hK;exact hK _ e
theorem Ud {s:Sl}{l:List UInt8}(hs:Bytes w s l) (hl:l.length<=2^40){K:Sl->Wp}(hK:∀s' w',En w' w.heap.size s' l->Ext w w'->K s' w'):Aa Tryz.prog 33 #[s.v] rS K w:=by
 refine j33 (a0:=s) ?_
 unfold F33
 have h1:=Ic hs
 refine Fg EB uB (B:=w.heap.size) (s:=⟨none,0,0⟩) (vs:=[]) (Au.nil _ _ _ _) hs (Rn _) (by dsimp only;omega) (Nat.le_refl _) λs' w' h' _ u' _=>hK s' w' (by simpa using h') ((Ext.refl w).step u' λk hk=>Kt hk)
def Sj (fs:Fls) (n:Nm) (enc:Int) (data:List UInt8):Bool:=userName n&&(decide (0<=enc)&&(decide (enc<=4)&&(decide (data.length<=60000)&&(decide (fs.length<=14)&&fs.all λf=>userName f.1&&decide (f.2.length<=60000)))))
set_option maxHeartbeats 1000000 in
theorem Au8 {x:Cells.T c39}{rows:List (Cells.T c65)}{fs:Fls}{data:List UInt8}(h:Scn w x rows fs data){K:Bool->Wp}(hK:∀w',Ext w w'->K (Sj fs x.2.1 x.2.2.1 data) w'):Aa Tryz.prog 20 #[.agg (Ko x)] rB K w:=by
 refine j20 (a0:=x) ?_
 unfold F20
 have hdl:=Ic h.data
 have hfl:=h.files.slen
 obtain ⟨(sf:Sl),(nm:ByteArray),(enc:Int),(sd:Sl),⟨⟩⟩:=x
 dsimp only at h hdl hfl hK ⊢
 refine Aq λb w1 e1 n1 hb hz=>?_
 have h:=h.ext e1
 refine Ag (λy W=>w1=W/\y=(!(userName nm&&(decide (0<=enc)&&(decide (enc<=4)&&(decide (data.length<=60000)&&decide (fs.length<=14))))),())) ?_ ?_
 ·refine Ah n1 (off:=1) (x:=nm) rfl (X0 h.nm (Ac (λhc=>?_) λhc=>?_))
  ·have hc:userName nm=false:=by simpa using hc
   exact ⟨rfl,by rw [hc];rfl⟩
  have hc:userName nm=true:=by simpa using hc
  refine Ah n1 (off:=2) (x:=enc) rfl (Ac (λhc1=>?_) λhc1=>?_)
  ·have hc1:=of_decide_eq_true hc1
   exact ⟨rfl,by rw [hc,decide_eq_false (p:=0<=enc) (by omega)];rfl⟩
  have hc1:=of_decide_eq_false hc1
  refine Ah n1 (off:=2) (x:=enc) rfl (Ac (λhc2=>?_) λhc2=>?_)
  ·have hc2:=of_decide_eq_true hc2
   exact ⟨rfl,by rw [hc,decide_eq_true (p:=0<=enc) (by omega),decide_eq_false (p:=enc<=4) (by omega)];rfl⟩
  have hc2:=of_decide_eq_false hc2
  refine Ah n1 (off:=3) (x:=sd) rfl (Ac (λhc3=>?_) λhc3=>?_)
  ·have hc3:=of_decide_eq_true hc3
   exact ⟨rfl,by rw [hc,decide_eq_true (p:=0<=enc) (by omega),decide_eq_true (p:=enc<=4) (by omega),decide_eq_false (p:=data.length<=60000) (by omega)];rfl⟩
  have hc3:=of_decide_eq_false hc3
  refine Ah n1 (off:=0) (x:=sf) rfl ⟨rfl,?_⟩
  rw [hc,decide_eq_true (p:=0<=enc) (by omega),decide_eq_true (p:=enc<=4) (by omega),decide_eq_true (p:=data.length<=60000) (by omega)]
  congr 1
  rw [Bool.eq_iff_iff]
  simp only [decide_eq_true_eq,Bool.true_and,Bool.not_eq_true',decide_eq_false_iff_not]
  omega
 rintro _ _ ⟨rfl,rfl⟩
 dsimp only
 have hall:Sj fs nm enc data=((userName nm&&(decide (0<=enc)&&(decide (enc<=4)&&(decide (data.length<=60000)&&decide (fs.length<=14)))))&&fs.all λf=>userName f.1&&decide (f.2.length<=60000)):=by
  unfold Sj
  cases userName nm<;>cases decide (0<=enc)<;>cases decide (enc<=4)<;>cases decide (data.length<=60000)<;>cases decide (fs.length<=14)<;>rfl
 refine Ac (λhc=>?_) λhc=>?_
 ·have hc:=(Bool.not_eq_true' _).mp hc
  rw [hall,hc] at hK
  exact hK _ e1
 have hc:=(Bool.not_eq_false' _).mp hc
 rw [hall,hc,Bool.true_and] at hK
 have hn14:fs.length<=14:=by
  simp only [Bool.and_eq_true,decide_eq_true_eq] at hc
  exact hc.2.2.2.2
 refine Ag (λ_ W=>Ext w W/\(fs.all λf=>userName f.1&&decide (f.2.length<=60000))=true) ?_ ?_
 ·refine Bz (λs W=>∃i:Nat,s=((i:Int),())/\Ext w1 W/\i<=fs.length/\∀(j:Nat) f,j<i->fs[j]?=some f->(userName f.1&&decide (f.2.length<=60000))=true) (λs _=>fs.length-s.1.toNat) ⟨0,rfl,Ext.refl _,Nat.zero_le _,λj f hj=>by omega⟩ ?_
  rintro _ W ⟨i,rfl,e,hi,hj⟩
  dsimp only
  have nW:=e.ext_get n1
  have hW:=h.ext e
  refine Ah nW (off:=0) (x:=sf) rfl (Ac (λhlt=>?_) λhge=>?_)
  ·have hlt:i<fs.length:=by have:=of_decide_eq_true hlt;omega
   obtain ⟨t,r,f,hin,hr,hf,g1,g2,g3,g4⟩:=hW.files.in_ hlt
   have hrl:=Ic g2
   have hfalse:(userName f.1&&decide (f.2.length<=60000))=false->(fs.all λf=>userName f.1&&decide (f.2.length<=60000))=false:=λhh=>by
    rw [Bool.eq_false_iff];intro ha
    rw [List.all_eq_true] at ha
    have:=ha f (List.mem_of_getElem? hf)
    rw [hh] at this;cases this
   refine Ag (λy W'=>W=W'/\y=(!(userName f.1&&decide (f.2.length<=60000)),())) ?_ ?_
   ·refine Ah nW (off:=0) (x:=sf) rfl (Qw hin hr λ_=>?_)
    rw [g1]
    refine X0 g3 (Ac (λhu=>?_) λhu=>?_)
    ·have hu:userName f.1=false:=by simpa using hu
     exact ⟨rfl,by rw [hu];rfl⟩
    have hu:userName f.1=true:=by simpa using hu
    refine Ah nW (off:=0) (x:=sf) rfl (H6 hin hr λ_=>⟨rfl,?_⟩)
    rw [hu,Bool.true_and]
    congr 1
    rw [Bool.eq_iff_iff]
    simp only [decide_eq_true_eq,Bool.not_eq_true',decide_eq_false_iff_not]
    omega
   rintro _ _ ⟨rfl,rfl⟩
   dsimp only
   refine Ac (λhb=>?_) λhb=>?_
   ·have hb:=(Bool.not_eq_true' _).mp hb
    rw [hfalse hb] at hK
    exact hK _ (e1.trans e)
   have hb:=(Bool.not_eq_false' _).mp hb
   rw [wrap64 (by omega) (by omega)]
   refine ⟨⟨i+1,by rw [show ((i:Int)+1)=((i+1:Nat):Int) by omega],e,by omega,λj f' hj' hf'=>?_⟩,?_⟩
   ·by_cases hji:j=i
    ·rw [hji,hf] at hf';cases hf';exact hb
    ·exact hj j f' (by omega) hf'
   ·show fs.length-((i:Int)+1).toNat<fs.length-(i:Int).toNat
    omega
  ·have hge:¬i<fs.length:=by have:=of_decide_eq_false hge;omega
   refine ⟨e1.trans e,?_⟩
   rw [List.all_eq_true]
   intro f hf
   obtain ⟨j,hj'⟩:=List.mem_iff_getElem?.1 hf
   exact hj j f (by have:=(List.getElem?_eq_some_iff.1 hj').1;omega) hj'
 rintro _ W ⟨e,ha⟩
 rw [ha] at hK
 exact hK _ e
end
end Dq
end Go.Proofs.YtmooldhpiopcgaaGreatDoor
namespace Go.Proofs.YtmooldhpiopcgaaGreatDoor
namespace Dq
open Go Go.Vx Dsk Cdc Trx
section
variable {w w':World}{S F F':Nat->Prop}{d:Nat}{D:Dk}{N:Nat}
theorem Ar9 (e:Ext w w'){b off:Nat}{v:Value}(h:w.cell? ⟨b,off,none⟩=some v):w'.cell? ⟨b,off,none⟩=some v:=by
 unfold World.cell? at h ⊢
 simp only at h ⊢
 split at h
 ·rename_i c t fr hb
  rw [e.ext_get hb];exact h
 all_goals simp_all
theorem Bq7 {rows:List (Cells.T c65)}{s:Sl}{t:TypeId}(h:Cj w s t 2 (flat c65 rows)){i:Nat}{r:Cells.T c65}(hr:rows[i]?=some r){K:Addr->ByteArray->Wp}(hK:∀p,(∀w',Ext w w'->w'.cell? (p.add (scaled (Int.toNat (i:Int)) 2))=some (Cell.val .str r.1))->K p r.1 w) :
  ix s.a s.len (i:Int) (λp=>ld .str (p.add (scaled (Int.toNat (i:Int)) 2)) (K p)) w:=by
 have hlt:=(List.getElem?_eq_some_iff.1 hr).1
 have hl:=Cj.Oi (cs:=c65) h (by decide)
 refine h.ix (by omega) (by omega) (by decide) λb off ha hv=>?_
 have h0:=hv 0 (.string r.1) (by
  have:=flat_get c65 rows i 0 r hr (by decide)
  rw [Int.toNat_natCast]
  rw [show i*2+0=i*(c65:List Cell).length+0 from rfl,this];rfl)
 rw [addr_add]
 have h1:w.cell? (⟨b,off+scaled (Int.toNat (i:Int)) 2,none⟩:Addr)=some (.string r.1):=by simpa [Gm] using h0
 refine Af0 (x:=r.1) h1 (hK _ λw' e=>?_)
 rw [addr_add]
 exact Ar9 e h1
def Az (fs:Fls):Vw:=fs.foldl (λV f=>Ec V f.1 (some f.2)) λ_=>none
theorem Ac0 {fs:Fls}{i:Nat}{f:Nm×List UInt8}(h:fs[i]?=some f):Az (fs.take (i+1))=Ec (Az (fs.take i)) f.1 (some f.2):=by
 unfold Az
 rw [List.take_add_one,h,List.foldl_append];rfl
theorem Am6 {P:Nm->List UInt8->Prop}:∀(fs:Fls) (V:Vw),(∀n b,V n=some b->P n b)->(∀f∈fs,P f.1 f.2)->∀n b,fs.foldl (λV f=>Ec V f.1 (some f.2)) V n=some b->P n b
 |[],V,h,_=>h
 | f::r,V,h,hf=>Am6 r (Ec V f.1 (some f.2)) (λn b hb=>by
   unfold Ec at hb
   split at hb
   ·rename_i hn;cases hb;rw [hn];exact hf f List.mem_cons_self
   ·exact h n b hb) λg hg=>hf g (List.mem_cons_of_mem _ hg)
theorem Py {P:Nm->List UInt8->Prop}{fs:Fls}(h:∀f∈fs,P f.1 f.2):∀n b,Az fs n=some b->P n b:=Am6 fs _ (λn b hb=>by cases hb) h
theorem Xo {fs:Fls}{n:Nm}{enc:Int}{data:List UInt8}(h:Sj fs n enc data=true):userName n=true/\(0<=enc/\enc<=4)/\data.length<=60000/\fs.length<=14/\∀f∈fs,userName f.1=true/\f.2.length<=60000:=by
 unfold Sj at h
 simp only [Bool.and_eq_true,decide_eq_true_eq,List.all_eq_true] at h
 exact ⟨h.1,⟨h.2.1,h.2.2.1⟩,h.2.2.2.1,h.2.2.2.2.1,h.2.2.2.2.2⟩
structure Stg (w:World) (st d f:Nat) (F:Nat->Prop) (D:Dk) (N:Nat) (X:Fil) (sm sd so:Sl) (enc:Int) (new was:Bool) (dat old:List UInt8) (B:Nat):Prop where
 box:w.heap[st]?=some (.cells #[.pointer (some (at0 d)),.pointer (some (at0 f)),.int .i64 enc,.int .i64 ((X.mark.length:Nat):Int),.slice sd.a sd.len sd.cap,.bool new,.slice so.a so.len so.cap,.bool was] 47 (0,0))
 disk:DS w d F D N
 file:FS w f d X sm F
 old:En w B so old
 dat:En w B sd dat
 oF:∀k,so.blk k->¬F k
 dF:∀k,sd.blk k->¬F k
 nst:¬F st
 lst:B<=st
 lf:B<=f
 lF:∀k,F k->B<=k
section
variable {st f:Nat}{X X':Fil}{sm sd so:Sl}{enc:Int}{new was:Bool}{dat old:List UInt8}{B N':Nat}{D':Dk}
theorem Stg.next (h:Stg w st d f F D N X sm sd so enc new was dat old B) (A:DS w' d F' D' N') (hX:FS w' f d X' sm F') (hm:X'.mark=X.mark) (u:Upd (λk=>F k\/k=f) w w') (hF:∀k,F' k->F k\/w.heap.size<=k):Stg w' st d f F' D' N' X' sm sd so enc new was dat old B:=by
 have hsf:st≠f:=λhh=>by
  have h1:=h.box
  rw [hh,h.file.at_.box] at h1
  cases h1
 have lst:=lt_of_heap h.box
 have byf:∀{s:Sl} {l:List UInt8},En w B s l->∀k,s.blk k->k≠f:=λhs k hk hh=>by
  obtain ⟨c,fr,hc⟩:=hs.in.Bc hk
  rw [hh,h.file.at_.box] at hc;cases hc
 refine ⟨?_,A,hX,h.old.upd u λk _ hk hh=>hh.elim (h.oF k hk) (byf h.old k hk),h.dat.upd u λk _ hk hh=>hh.elim (h.dF k hk) (byf h.dat k hk),λk hk hh=>(hF k hh).elim (h.oF k hk) λhl=>by have:=h.old.in.Em hk;omega,
  λk hk hh=>(hF k hh).elim (h.dF k hk) λhl=>by have:=h.dat.in.Em hk;omega,λhh=>(hF _ hh).elim h.nst λhl=>by omega,h.lst,h.lf,λk hk=>(hF k hk).elim (h.lF k) λhl=>by have:=h.lst;omega⟩
 rw [hm]
 exact u.get h.box λhh=>hh.elim h.nst hsf
theorem Stg.ext (h:Stg w st d f F D N X sm sd so enc new was dat old B) (e:Ext w w'):Stg w' st d f F D N X sm sd so enc new was dat old B :=
 ⟨e.ext_get h.box,h.disk.ext e,h.file.ext e,h.old.ext e,h.dat.ext e,h.oF,h.dF,h.nst,h.lst,h.lf,h.lF⟩
theorem Stg.turn (h:Stg w st d f F D N X sm sd so enc new was dat old B) (A:DS w' d F' D' N') (u:Upd F w w') (hF:∀k,F' k->F k\/w.heap.size<=k):Stg w' st d f F' D' N' X sm sd so enc new was dat old B :=
 h.next A (h.file.step h.disk u hF) rfl (u.mono λk _ hk=>.inl hk) hF
theorem Stg.mono (h:Stg w st d f F D N X sm sd so enc new was dat old B) (hN:N<=N'):Stg w st d f F D N' X sm sd so enc new was dat old B :=
 ⟨h.box,h.disk.mono hN,h.file,h.old,h.dat,h.oF,h.dF,h.nst,h.lst,h.lf,h.lF⟩
end
structure Start (g:List UInt8->Int) (fs:Fls) (n:Nm) (enc:Int) (D:Dk) (X:Fil) (lod:Lod):Prop where
 sol:Sol D (Az fs)
 space:D.space=1048576
 names:(names D.seen).length<=14
 name:X.name=n
 known:X.known=Ci D n
 tried:X.tried=(0,0,0)
 rng:1<=lod.enc/\lod.enc<=4
 at_:match Az fs n with
  |some b=>lod=⟨(Il g enc b).1,(Il g enc b).2,b.drop (Il g enc b).2.toNat,false⟩/\X.mark=b.take (Il g enc b).2.toNat
  |none=>lod=⟨if 1>enc then 1 else enc,0,[],true⟩/\X.mark=[]
theorem Az5 {g:List UInt8->Int}(hg:∀l,1<=g l/\g l<=4){enc:Int}(he:0<=enc/\enc<=4) (b:List UInt8):1<=(Il g enc b).1/\(Il g enc b).1<=4:=by
 unfold Il
 split
 ·rename_i h
  have h2:=h.2
  unfold Gp at h2 ⊢
  repeat' split
  ·exact ⟨by show (1:Int)<=1;decide,by show (1:Int)<=4;decide⟩
  ·exact ⟨by show (1:Int)<=2;decide,by show (2:Int)<=4;decide⟩
  ·exact ⟨by show (1:Int)<=3;decide,by show (3:Int)<=4;decide⟩
  ·simp_all
 ·split
  ·exact hg b
  ·split<;>(show 1<=enc/\enc<=4;omega)
end
end Dq
end Go.Proofs.YtmooldhpiopcgaaGreatDoor
namespace Go.Proofs.YtmooldhpiopcgaaGreatDoor
namespace Dq
open Go Go.Vx Dsk Cdc Trx Flp
section
variable {w w':World}{S F F':Nat->Prop}{d:Nat}{D:Dk}{N:Nat}
theorem u4b:Tryz.prog.underlying 4=some .bool:=C4.und
abbrev gG:List UInt8->Int:=λl=>(Ol l).1
abbrev stc (d:Nat) (so:Sl) (was:Bool):Array Value:=#[.pointer (some (at0 d)),.pointer none,.int .i64 0,.int .i64 0,.slice none 0 0,.bool false,.slice so.a so.len so.cap,.bool was]
theorem Be9 {D:Dk}{V:Vw}(h:Sol D V) (ok:Bl D N) (hs:D.space=1048576) (hn:(names D.seen).length<=14) (hB:∀m b,V m=some b->b.length<=60003) (o:Option Nat):Bv D o<=840042:=by
 have:=h.used ok (B:=60003) hB o
 have h2:((names D.seen).length:Int)*((60003:Nat):Int)<=14*60003:=Int.mul_le_mul_of_nonneg_right (by omega) (by decide)
 omega
theorem An7 {g:List UInt8->Int}(hg:∀l,1<=g l/\g l<=4){fs:Fls}{n:Nm}{enc:Int}(sol:Sol D (Az fs)) (hsp:D.space=1048576) (hnm:(names D.seen).length<=14) (hu:userName n=true) (he:0<=enc/\enc<=4) (hfs:∀f∈fs,f.2.length<=60000) :
  ∃D2 X lod,Na g D n enc 65536=(D2,0,some X,lod)/\Start g fs n enc D2 X lod/\lod.new = !(Az fs n).isSome/\lod.mark=(X.mark.length:Int)/\X.mark.length<=((Az fs n).getD []).length:=by
 cases hv:Az fs n with
 | none =>
  have hs:D.seen n=none:=sol.Ig.2 hv
  refine ⟨_,_,_,Bp6 sol.q hu he (by decide) hs,⟨sol.st _,hsp,hnm,rfl,?_,rfl,?_,?_⟩,rfl,rfl,Nat.le_refl _⟩
  ·show (0,0,0)=Ci { D with steps:=D.steps+1 } n
   unfold Ci
   have:({ D with steps:=D.steps+1 }:Dk).seen n=none:=hs
   rw [this]
  ·show 1<=(if 1>enc then 1 else enc)/\(if 1>enc then 1 else enc)<=4
   split<;>omega
  ·rw [hv];exact ⟨rfl,rfl⟩
 | some b =>
  have hview:=sol.view n
  rw [hv] at hview
  obtain ⟨i,hi,hd⟩:=Option.map_eq_some_iff.1 hview
  have hb:b.length<=60000:=Py (P:=λ_ b=>b.length<=60000) hfs n b hv
  obtain ⟨m0,m1,m2⟩:=Yf (g:=g) (enc:=enc) (b:=b)
  refine ⟨_,_,_,Ap3 (g:=g) sol.q hu he (by decide) hi hd (by omega),⟨sol.st _,hsp,hnm,rfl,rfl,rfl,Az5 hg he b,?_⟩,rfl,?_,?_⟩
  ·rw [hv];exact ⟨rfl,rfl⟩
  ·show (Il g enc b).2=((b.take (Il g enc b).2.toNat).length:Int)
   rw [List.length_take];omega
  ·show (b.take (Il g enc b).2.toNat).length<=b.length
   rw [List.length_take];omega
set_option maxHeartbeats 2000000 in
theorem Bn8 (hl:Kw w){x:Cells.T c39}{rows:List (Cells.T c65)}{fs:Fls}{data:List UInt8}(h:Scn w x rows fs data) (hs:Sj fs x.2.1 x.2.2.1 data=true){K:(Option Addr×Bool×Unit)->Wp}
  (hK:∀w' st d f F D X sm sd so lod,Ext w w'->Stg w' st d f F D 40 X sm sd so lod.enc lod.new (Az fs x.2.1).isSome lod.data ((Az fs x.2.1).getD []) w.heap.size->Start gG fs x.2.1 x.2.2.1 D X lod->K (some (at0 st),true,()) w') :
  Aa Tryz.prog 21 #[.agg (Ko x)] (.tup [(.one .ptr),(.one .bool)]) K w:=by
 refine j21 (a0:=x) ?_
 unfold F21
 have hp:0<w.heap.size:=by obtain ⟨c,t,fr,h,_⟩:=hl;exact lt_of_heap h
 obtain ⟨(sf:Sl),(nm:ByteArray),(enc:Int),(sd:Sl),⟨⟩⟩:=x
 dsimp only at h hK hs ⊢
 obtain ⟨hu,he,hdl,hfl,hfs⟩:=Xo hs
 obtain ⟨hn,hsn⟩:=Jl hu
 have hsl:=h.files.slen
 dsimp only at hsl
 refine Aq λb1 w1 e1 n1 hb1 hz1=>newS (by decide) (by decide) (by omega) λd F0 w2 A2 e2 hF2=>?_
 refine Bj (false,()) (Ac (λh=>by cases h) λ_=>Kz ⟨rfl,rfl⟩ uE) (Ap ?_)
 have n2:=e2.ext_get n1
 refine Aq λb6 w3 e3 n3 hb6 hz3=>?_
 have A3:=A2.ext e3
 have n13:=e3.ext_get n2
 have E3:=(e1.trans e2).trans e3
 have zz1:=e1.size
 have zz2:=e2.size
 have zz3:=e3.size
 have z13:=lt_of_heap n1
 refine Ag (λ_ W=>∃F D so,Ext w W/\DS W d F D (2*fs.length)/\(∀k,F k->w.heap.size<=k)/\¬F b6/\¬F b1/\W.heap[b1]?=some (.cells (Ko (sf,nm,enc,sd,())) 39 (0,0)) /\
   W.heap[b6]?=some (.cells (stc d so (Az fs nm).isSome) 47 (0,0))/\En W w.heap.size so ((Az fs nm).getD [])/\(∀k,so.blk k->¬F k)/\Sol D (Az fs)/\D.space=1048576/\(names D.seen).length<=fs.length) ?_ ?_
 ·refine Bz (λs W=>∃(i:Nat) (F:Nat->Prop) (D:Dk) (so:Sl),s=((i:Int),())/\i<=fs.length/\Ext w W/\DS W d F D (2*i)/\(∀k,F k->w.heap.size<=k)/\¬F b6/\¬F b1/\W.heap[b1]?=some (.cells (Ko (sf,nm,enc,sd,())) 39 (0,0)) /\
   W.heap[b6]?=some (.cells (stc d so (Az (fs.take i) nm).isSome) 47 (0,0))/\En W w.heap.size so ((Az (fs.take i) nm).getD [])/\(∀k,so.blk k->¬F k)/\Sol D (Az (fs.take i))/\D.space=1048576/\(names D.seen).length<=i) (λs _=>fs.length-s.1.toNat)
   ⟨0,F0,Tm 1048576,⟨none,0,0⟩,rfl,Nat.zero_le _,E3,A3,λk hk=>by have:=hF2 k hk;omega,λhh=>by have:=A2.lt _ hh;omega,λhh=>by have:=hF2 _ hh;omega,n13,n3,Au.nil _ _ _ _,λk hk=>Kt hk,Sol.new _,rfl,by
    rw [Jc (l:=[]) ⟨List.nodup_nil,λn=>by constructor;(intro h;cases h);(intro h;cases h)⟩];exact Nat.le_refl _⟩ ?_
  rintro _ W ⟨i,F,D,so,rfl,hi,eW,AW,hF,nb6,nb1,m1,m6,oW,hoF,sol,hsp,hnm⟩
  dsimp only
  have hW:=h.ext eW
  refine Ah m1 (off:=0) (x:=sf) rfl (Ac (λhlt=>?_) λhge=>?_)
  ·have hlt:i<fs.length:=by have:=of_decide_eq_true hlt;omega
   obtain ⟨t,r,f,hin,hr,hf,g1,g2,g3,g4⟩:=hW.files.in_ hlt
   obtain ⟨hfu,hfl2⟩:=hfs f (List.mem_of_getElem? hf)
   have hvs:=Ac0 hf
   have ei:IntKind.wrap .i64 ((i:Int)+1)=((i+1:Nat):Int):=by rw [wrap64 (by omega) (by omega)];omega
   rw [ei]
   refine Ag (λ_ W'=>∃F' D' so',Ext w W'/\DS W' d F' D' (2*(i+1))/\(∀k,F' k->w.heap.size<=k)/\¬F' b6/\¬F' b1/\W'.heap[b1]?=some (.cells (Ko (sf,nm,enc,sd,())) 39 (0,0))/\W'.heap[b6]?=some (.cells (stc d so' (Az (fs.take (i+1)) nm).isSome) 47 (0,0))/\En W' w.heap.size so' ((Az (fs.take (i+1)) nm).getD [])/\(∀k,so'.blk k->¬F' k)/\Sol D' (Az (fs.take (i+1)))/\D'.space=1048576/\(names D'.seen).length<=i+1) ?_ (by
    rintro _ W8 ⟨F',D',so',E8,A8,hF',nb6',nb1',m18,m68,o8,hoF8,sol',hsp',hnm'⟩
    refine ⟨⟨i+1,F',D',so',rfl,by omega,E8,A8,hF',nb6',nb1',m18,m68,o8,hoF8,sol',hsp',hnm'⟩,?_⟩
    show fs.length-((i+1:Nat):Int).toNat<fs.length-(i:Int).toNat
    omega)
   refine Dh λW1 e4 _=>?_
   refine Ah (e4.ext_get m1) (off:=0) (x:=sf) rfl ?_
   have hW1:=hW.ext e4
   obtain ⟨t1,r1,f1,hin1,hr1,hf1,g11,g12,g13,g14⟩:=hW1.files.in_ hlt
   obtain rfl:r=r1:=Option.some.inj (hr.symm.trans hr1)
   obtain rfl:f=f1:=Option.some.inj (hf.symm.trans hf1)
   refine Bq7 hin1 hr λp hkp=>Ah (e4.ext_get m1) (off:=0) (x:=sf) rfl (H6 hin1 hr λ_=>Ud g12 (by omega) λs1 W2 o2 e5=>Ar (hkp W2 e5) (Ar (cell_of (off:=0) (e5.ext_get (e4.ext_get m1)) rfl) ?_))
   have e45:=e4.trans e5
   have A5:=AW.ext e45
   have room:Bv D (D.seen f.1)<=840042:=Be9 sol AW.ok hsp (by omega) (λm b hb=>by
    have:=Py (P:=λ_ b=>b.length<=60000) (fs:=fs.take i) (λg hg=>(hfs g (List.mem_of_mem_take hg)).2) m b hb
    omega) _
   obtain ⟨p1,p2,p3,p4,p5,_⟩:=Bc7 (n:=f.1) (b:=f.2) sol AW.ok (Jl hfu).1 (λ_=>by omega) (by rw [hsp];omega)
   rw [g1]
   refine Ck2 A5 (by omega) o2.in.x (λk hk=>⟨o2.in.Em hk,λhh=>by have:=AW.lt _ hh;have:=o2.Ew hk;have:=e4.size;omega⟩) λF6 W6 v6 hv6 A6 u6 hF6=>?_
   rw [p1] at hv6
   rw [hv6.ok rfl]
   refine Kz (Ap ?_) uE
   have z5:=e45.size
   have E6:Ext w W6:=(eW.trans e45).step u6 λk hk=>hF k hk
   have m16:W6.heap[b1]?=_:=u6.get (e45.ext_get m1) nb1
   have m66:W6.heap[b6]?=_:=u6.get (e45.ext_get m6) nb6
   have lb1:=lt_of_heap m1
   have lb6:=lt_of_heap m6
   have h6:=h.ext E6
   have o6:En W6 w.heap.size so ((Az (fs.take i) nm).getD []):=(oW.ext e45).upd u6 λk _ hk hh=>hoF k hk hh
   have nF6:∀b,¬F b->b<W.heap.size->¬F6 b:=λb hb hb2 hh=>(hF6 b hh).elim hb λhl=>by omega
   have hoF6:∀k,so.blk k->¬F6 k:=λk hk=>nF6 k (hoF k hk) (oW.in.Em hk)
   have hF6':∀k,F6 k->w.heap.size<=k:=λk hk=>(hF6 k hk).elim (hF k) λhl=>by have:=eW.size;omega
   have hfn6:(Az (fs.take (i+1)) nm)=if nm=f.1 then some f.2 else Az (fs.take i) nm:=by rw [hvs];rfl
   refine Dh λW7 e7 _=>?_
   refine Ah (e7.ext_get m16) (off:=0) (x:=sf) rfl ?_
   obtain ⟨t7,r7,f7,hin7,hr7,hf7,g71,g72,g73,g74⟩:=(h6.ext e7).files.in_ hlt
   obtain rfl:r=r7:=Option.some.inj (hr.symm.trans hr7)
   obtain rfl:f=f7:=Option.some.inj (hf.symm.trans hf7)
   refine Qw hin7 hr λ_=>Ah (e7.ext_get m16) (off:=1) (x:=nm) rfl ?_
   rw [g1,bytes_eq]
   refine Ac (λhq=>?_) λhq=>?_
   ·have hq:f.1=nm:=of_decide_eq_true hq
    rw [if_pos hq.symm] at hfn6
    refine Ah (e7.ext_get m16) (off:=0) (x:=sf) rfl (H6 hin7 hr λ_=>Ud g72 (by omega) λs8 W8 o8 e8=>Af ?_)
    have e78:=e7.trans e8
    rw [addr_add]
    refine Ei (e78.ext_get m66) (by show 0+6<8;decide) λW9 u9 n9 z9=>Af ?_
    rw [addr_add]
    refine Ei n9 (by rw [Array.size_setIfInBounds];show 0+7<8;decide) λW10 u10 n10 z10=>?_
    have z8:=e78.size
    have e810:Upd (λk=>k=b6) W8 W10:=u9.trans u10
    have b1ne:b1≠b6:=by omega
    have z6:=E6.size
    have z7:=e7.size
    refine ⟨F6,_,s8,(E6.trans e78).step e810 λk hk=>by omega,((A6.ext e78).mono (by omega)).frame e810 λk hk hh=>nF6 b6 nb6 lb6 (hh▸hk),hF6',nF6 _ nb6 lb6,nF6 _ nb1 lb1,e810.get (e78.ext_get m16) b1ne,?_,?_,(λk hk hh=>by have:=o8.Ew hk;have:=A6.lt _ hh;omega),by rw [hvs];exact p2,p3.trans hsp,by omega⟩
    ·rw [hfn6];exact n10
    ·rw [hfn6]
     refine (o8.mono (by omega)).upd e810 λk _ hk hh=>?_
     obtain ⟨c,fr,hc⟩:=o8.in.Bc hk
     rw [hh,e78.ext_get m66] at hc;cases hc
   ·have hq:f.1≠nm:=of_decide_eq_false hq
    rw [if_neg (λhh=>hq hh.symm)] at hfn6
    rw [←hfn6] at m66 o6
    exact ⟨F6,_,so,E6.trans e7,(A6.ext e7).mono (by omega),hF6',nF6 _ nb6 lb6,nF6 _ nb1 lb1,e7.ext_get m16,e7.ext_get m66,o6.ext e7,hoF6,by rw [hvs];exact p2,p3.trans hsp,by omega⟩
  ·have hge:¬i<fs.length:=by have:=of_decide_eq_false hge;omega
   obtain rfl:i=fs.length:=by omega
   rw [List.take_of_length_le (Nat.le_refl _)] at m6 oW sol
   exact ⟨F,D,so,eW,AW,hF,nb6,nb1,m1,m6,oW,hoF,sol,hsp,hnm⟩
 rintro _ W ⟨F,D,so,eW,AW,hF,nb6,nb1,m1,m6,oW,hoF,sol,hsp,hnm⟩
 dsimp only
 have lb1:=lt_of_heap m1
 have lb6:=lt_of_heap m6
 obtain ⟨D2,X,lod,ho,hst,hnew,hmk,hml⟩:=An7 (g:=gG) Ar2 sol hsp (by omega) hu he (λf hf=>(hfs f hf).2)
 refine Ah m1 (off:=1) (x:=nm) rfl (Ah m1 (off:=2) (x:=enc) rfl (Qe (g:=gG) (λ_=>.inl Bs5) AW (by omega) (hl.ext eW) (by have:=h.nm;dsimp only at this;exact this) λF4 W4 fo sl R=>?_))
 rw [ho] at R ⊢
 obtain ⟨f,sm,rfl,hX,hf,hsm⟩:=R.file
 have hzW:=eW.size
 have E4:Ext w W4:=eW.step R.upd λk hk=>hF k hk
 have m64:W4.heap[b6]?=_:=R.upd.get m6 nb6
 have nF4:∀b,¬F b->b<W.heap.size->¬F4 b:=λb hb hb2 hh=>(R.new b hh).elim hb λhl=>by omega
 have o4:En W4 w.heap.size so _:=oW.upd R.upd λk _ hk hh=>hoF k hk hh
 have z4:=E4.size
 have hz4:=R.upd.size
 refine Aq λb36 W5 e5 n5 hb5 hz5=>Fb n5 rfl rfl (by decide) λW6 u6 n6 hz6=>?_
 have n6:W6.heap[b36]?=some (.cells (Cells.vals c32 (Aj8 lod.enc lod.mark sl lod.new)).toArray 32 (0,0)):=n6
 have e46:Ext W4 W6:=e5.step u6 λk hk=>by omega
 have m66:=e46.ext_get m64
 have hso:=Ic o4.in.x
 have hrng:=hst.rng
 refine Ag (λy W=>y=(false,())/\Ext W6 W) ?_ ?_
 ·refine Dh λW7 e7 _=>?_
  refine Ac (λh=>by cases h) λ_=>Ac (λh=>by cases h) λ_=>Ah (e7.ext_get n6) (off:=3) (x:=lod.new) rfl (Af ?_)
  rw [addr_add]
  refine Ah (e7.ext_get m66) (off:=0+7) (x:=(Az fs nm).isSome) rfl (Bc6 u4b (Ac (λh=>?_) λ_=>?_))
  ·rw [hnew] at h;cases hvv:(Az fs nm).isSome<;>rw [hvv] at h<;>cases h
  refine Ah (e7.ext_get n6) (off:=1) (x:=lod.mark) rfl (Ac (λh=>?_) λ_=>Ah (e7.ext_get n6) (off:=1) (x:=lod.mark) rfl (Af ?_))
  ·have:=of_decide_eq_true h;omega
  rw [addr_add]
  refine Ah (e7.ext_get m66) (off:=0+6) (x:=so) rfl (Ac (λh=>?_) λ_=>Ah (e7.ext_get n6) (off:=0) (x:=lod.enc) rfl (Ac (λh=>?_) λ_=>Ah (e7.ext_get n6) (off:=0) (x:=lod.enc) rfl ⟨?_,e7⟩))
  ·have:=of_decide_eq_true h;omega
  ·have:=of_decide_eq_true h;omega
  ·rw [decide_eq_false (by omega)]
 rintro _ W7 ⟨rfl,e67⟩
 have e47:=e46.trans e67
 refine Ap (Af ?_)
 rw [addr_add]
 refine Ei (e47.ext_get m64) (by show 0+1<8;decide) λW8 u8 n8 z8=>?_
 have b36ne:b36≠b6:=by have:=e5.size;have:=R.upd.size;omega
 refine Gi (x:=Aj8 lod.enc lod.mark sl lod.new) (u8.get (e67.ext_get n6) b36ne) (λi v hv=>Vl i v hv) (Af ?_)
 rw [addr_add]
 refine Fb n8 rfl rfl (by rw [Array.size_setIfInBounds];show 0+2+4<=8;decide) λW9 u9 n9 z9=>?_
 have e79:Upd (λk=>k=b6) W7 W9:=u8.trans u9
 have z47:=e47.size
 have nb64:=nF4 _ nb6 lb6
 have hb6w:w.heap.size<=b6:=by omega
 have byb:∀{s:Sl} {l:List UInt8} {B:Nat},En W4 B s l->∀k,s.blk k->k≠b6:=λhs k hk hh=>by
  obtain ⟨c,fr,hc⟩:=hs.in.Bc hk
  rw [hh,m64] at hc;cases hc
 have X7:=hX.ext e47
 have fne:f≠b6:=λhh=>by
  have:=hX.at_.box
  rw [hh,m64] at this;cases this
 refine hK W9 b6 d f F4 D2 X sm sl so lod ((E4.trans e47).step e79 λk hk=>by omega) ⟨?_,((R.disk.ext e47).mono (by omega)).frame e79 λk hk hh=>nb64 (hh▸hk),⟨X7.at_.upd e79 fne λk hk hh=>?_,X7.nf,X7.nm,X7.laid.upd e79 (by omega),X7.small,X7.name,X7.nz⟩,(o4.ext e47).upd e79 λk _ hk hh=>byb o4 k hk hh,((R.data.ext e47).mono (by omega)).upd e79 λk _ hk hh=>byb R.data k hk hh,λk hk=>nF4 k (hoF k hk) (oW.in.Em hk),R.apart,nb64,hb6w,by omega,λk hk=>(R.new k hk).elim (hF k) λhl=>by omega⟩ hst
 ·rw [hmk] at n9
  exact n9
 ·obtain ⟨c,fr,hc⟩:=hX.at_.mkr.Bc hk
  rw [hh,m64] at hc;cases hc
end
end Dq
end Go.Proofs.YtmooldhpiopcgaaGreatDoor
namespace Go.Proofs.YtmooldhpiopcgaaGreatDoor
namespace Dq
open Go Go.Vx Dsk Cdc Trx
section
variable {w w':World}{S F F':Nat->Prop}{d:Nat}{D:Dk}{N:Nat}{st f:Nat}{X:Fil}{sm sd so:Sl}{enc:Int}{new was:Bool}{dat old:List UInt8}{B:Nat}{s:Sl}{l:List UInt8}
theorem SlX.lie {s:Sl}{sz:Nat}{us:List Value}(h:SlX w s sz us):Lie (λk=>k<w.heap.size) s:=by
 rcases h.at_ with ⟨h,_⟩|⟨t,h⟩
 ·exact .inl h
 ·exact .inr λk hk=>h.Em hk
theorem Cg5 (h:1<=enc/\enc<=4):∃e:Enc,enc=e.num:=by
 have:enc=1\/enc=2\/enc=3\/enc=4:=by omega
 rcases this with rfl|rfl|rfl|rfl
 ·exact ⟨.u8,rfl⟩
 ·exact ⟨.le,rfl⟩
 ·exact ⟨.be,rfl⟩
 ·exact ⟨.l1,rfl⟩
theorem Ac6 (h:Stg w st d f F D N X sm sd so enc new was dat old B) (he:1<=enc/\enc<=4) (hs:Bytes w s l) (hl:l.length<=65536){K:Option Addr->Wp}
  (hK:∀w' p e O M,Txt w' p e 65536 0 O M->bOf M=l->Ext w w'->(∀k,O k->w.heap.size<=k)->K (some (at0 p)) w'):Aa Tryz.prog 26 #[.pointer (some (at0 st)),s.v] rP K w:=by
 refine j26 (a1:=s) ?_
 unfold F26
 obtain ⟨e,rfl⟩:=Cg5 he
 refine Dh λw1 e1 _=>Af ?_
 rw [addr_add]
 refine Ah (e1.ext_get h.box) (off:=0+2) (x:=e.num) rfl (Ud (hs.ext e1) (by omega) λs2 w2 o2 e2=>Ar (cell_of (off:=0+2) (e2.ext_get (e1.ext_get h.box)) rfl) ?_)
 refine _root_.Go.Proofs.YtmooldhpiopcgaaGreatDoor.Qe (e:=e) (lim:=65536) o2.in hl (by decide) λp O M w3 hT _ hM e3 hO=>?_
 refine Ac (λhh=>by cases hh) λ_=>hK w3 p e O M hT hM ((e1.trans e2).trans e3) λk hk=>by have:=hO k hk;have:=(e1.trans e2).size;omega
theorem I5 (h:Stg w st d f F D N X sm sd so enc new was dat old B) (hm:X.mark.length<=old.length) (hol:old.length<=2^30) (hs:Bytes w s l) (hl:l.length<=2^30){K:Sl->Wp}
  (hK:∀w' s',En w' w.heap.size s' (old.take X.mark.length++l)->Ext w w'->K s' w'):Aa Tryz.prog 23 #[.pointer (some (at0 st)),s.v] rS K w:=by
 refine j23 (a1:=s) ?_
 unfold F23
 refine Dh λw1 e1 _=>Af ?_
 rw [addr_add]
 refine Ah (e1.ext_get h.box) (off:=0+6) (x:=so) rfl (Af ?_)
 rw [addr_add,addr_add]
 refine Ah (e1.ext_get h.box) (off:=0+2+1) (x:=((X.mark.length:Nat):Int)) rfl ?_
 have ho:=h.old.in.ext e1
 have hol2:old.length=so.len:=By.len ho
 have hcap:=ho.le
 have hsl:=Ic hs
 refine Xp ho (by omega) (by omega) (by omega) (by omega) (by omega) λs1 hs1 hl1 _=>?_
 have et:(old.drop (0:Int).toNat).take (((X.mark.length:Nat):Int).toNat-(0:Int).toNat)=old.take X.mark.length:=rfl
 rw [et] at hs1
 have htl:(old.take X.mark.length).length=X.mark.length:=by rw [List.length_take];omega
 have z1:=e1.size
 refine Ud hs1.x (by omega) λs2 w2 o2 e2=>?_
 have e12:=e1.trans e2
 have h2l:=Ic o2.in.x
 have z2:=e12.size
 refine Fg EB uB (B:=w.heap.size) (o2.mono z1) (hs.ext e12) (Rn _) (by omega) z2 λs' w' h' _ u' _=>hK w' s' (by rw [←List.map_append] at h';exact h') (e12.step u' λk hk=>by have:=o2.Ew hk;omega)
theorem Vp (A:DS w d F D N) (hN:N+2<=2^30){n:Nm}(hs:Bytes w s l) (hl:l.length<=2^40) (hb:Lie (λk=>¬F k) s){K:Bool->Wp}
  (hK:∀F' w',DS w' d F' (Bh D n).1 (N+2)->Upd F w w'->(∀k,F' k->F k\/w.heap.size<=k)->K (decide ((Bh D n).2.1=0/\(Bh D n).2.2=l)) w'):Aa Tryz.prog 28 #[.pointer (some (at0 d)),.string n,s.v] rB K w:=by
 refine j28 (a2:=s) ?_
 unfold F28
 have hlen:=Ao9 A.ok n
 refine Bo6 A hN λF1 w1 s1 v hv A1 u1 hF1 o1 hb1=>hv.Bd4 (Ac (λh0=>?_) λh0=>?_)
 ·have h0:=of_decide_eq_true h0
  refine Ad5 o1.in.x (SlX.Bm0 hs hb u1 λk hk=>hk) (by omega) λw2 e2=>?_
  have hk:=hK F1 w2 (A1.ext e2) (u1.trans (Upd.Aj e2)) hF1
  have:decide ((Bh D n).2.1=0/\(Bh D n).2.2=l)=decide ((Bh D n).2.2=l):=by rw [h0];simp
  rw [this] at hk
  exact hk
 ·have h0:=of_decide_eq_false h0
  have hk:=hK F1 w1 A1 u1 hF1
  rw [decide_eq_false (λhh=>h0 hh.1)] at hk
  exact hk
theorem Ck4 (A:DS w d F D N){K:Unit->Wp}(hK:∀F' w',DS w' d F' (plan D []) (N+2)->Upd F w w'->(∀k,F' k->F k\/w.heap.size<=k)->K () w') :
  Aa Tryz.prog 35 #[.pointer (some (at0 d)),.slice none 0 0] (.tup []) K w:=by
 refine Ad8 (x:=⟨none,0,0⟩) (rows:=[]) (fl:=[]) A.disk ⟨⟨.inl ⟨rfl,rfl⟩⟩,.inl rfl,rfl,λi r g h=>by simp at h⟩ (by decide) λF' w' A' u hF=>hK _ w' (A.of A' (Aj3 (A.ok.mono (Nat.le_add_right _ _)) _) hF A.pos) u λk hk=>hF k hk.1
end
end Dq
end Go.Proofs.YtmooldhpiopcgaaGreatDoor
namespace Go.Proofs.YtmooldhpiopcgaaGreatDoor
namespace Dq
open Go Go.Vx Dsk Cdc Trx
section
variable {w w':World}{S F F':Nat->Prop}{d:Nat}{D:Dk}{N:Nat}{g:List UInt8->Int}{fs:Fls}{n:Nm}{enc:Int}{X:Fil}{lod:Lod}
theorem Start.By9 (h:Start g fs n enc D X lod):X.mark=((Az fs n).getD []).take X.mark.length/\X.mark.length<=((Az fs n).getD []).length:=by
 have:=h.at_
 split at this
 ·rename_i b hb
  rw [hb,this.2]
  simp only [Option.getD_some,List.length_take]
  refine ⟨?_,by omega⟩
  rw [List.take_eq_take_iff];omega
 ·rename_i hb
  rw [hb,this.2]
  exact ⟨rfl,Nat.zero_le _⟩
theorem Bf8 (n:Nm):userName (side n)=false:=by
 unfold userName
 have:(side n).data.back?=some 126:=by unfold side;simp
 rw [this];simp
theorem Be7 (h:∀f∈fs,userName f.1=true) (n:Nm):Az fs (side n)=none:=by
 cases hv:Az fs (side n) with
 |none=>rfl
 |some b =>
  have:=Py (P:=λn _=>userName n=true) h _ _ hv
  rw [Bf8] at this;cases this
theorem Cf6 (h:∀f∈fs,f.2.length<=60000) (n:Nm):((Az fs n).getD []).length<=60000:=by
 cases hv:Az fs n with
 |none=>exact Nat.zero_le _
 |some b=>exact Py (P:=λ_ b=>b.length<=60000) h _ _ hv
end
end Dq
end Go.Proofs.YtmooldhpiopcgaaGreatDoor
namespace Go.Proofs.YtmooldhpiopcgaaGreatDoor
namespace Dq
open Go Go.Vx Dsk Cdc Trx
section
variable {w w':World}{S F F':Nat->Prop}{d:Nat}{D:Dk}{N:Nat}{st f:Nat}{X:Fil}{sm sd so:Sl}{enc:Int}{new was:Bool}{dat old:List UInt8}{B:Nat}{s:Sl}{l:List UInt8}{fs:Fls}{V:Vw}
theorem Be8 {j:Nat}{f:Nm×List UInt8}(hj:fs[j]?=some f) (hl:∀(k:Nat) g,j<k->fs[k]?=some g->g.1≠f.1):Az fs f.1=some f.2:=by
 have key:∀i,j<i->i<=fs.length->Az (fs.take i) f.1=some f.2:=by
  intro i
  induction i with
  |zero=>intro h;omega
  | succ i ih =>
   intro h1 h2
   obtain ⟨g,hg⟩:∃g,fs[i]?=some g:=⟨_,List.getElem?_eq_getElem (by omega)⟩
   rw [Ac0 hg]
   unfold Ec
   by_cases hij:i=j
   ·subst hij;rw [hj] at hg;cases hg;rw [if_pos rfl]
   ·rw [if_neg (λhh=>hl i g (by omega) hg hh.symm)]
    exact ih (by omega) (by omega)
 have:=key fs.length (List.getElem?_eq_some_iff.1 hj).1 (Nat.le_refl _)
 rwa [List.take_of_length_le (Nat.le_refl _)] at this
theorem Ac1 {n:Nm}{b:List UInt8}(h:Az fs n=some b):∃(j:Nat) (f:Nm×List UInt8),fs[j]?=some f/\f.1=n:=by
 have:=Py (P:=λn _=>∃(j:Nat) (f:Nm×List UInt8),fs[j]?=some f/\f.1=n) (fs:=fs) (λf hf=>by
  obtain ⟨j,hj⟩:=List.mem_iff_getElem?.1 hf
  exact ⟨j,f,hj,rfl⟩) n b h
 exact this
theorem Bb6 {s:Sl}{l:List Nm}(h:Cj w s 9 1 (l.map Value.string)){i:Nat}{n:Nm}(hn:l[i]?=some n){K:Addr->ByteArray->Wp}(hK:∀p,K p n w) :
  ix s.a s.len (i:Int) (λp=>ld .str (p.add (scaled (Int.toNat (i:Int)) 1)) (K p)) w :=
 Ay2 (c:=.str) (xs:=l) h.x (by omega) (by rw [Int.toNat_natCast];exact hn) hK
set_option maxHeartbeats 4000000 in
theorem Yw {w0:World} {x:Cells.T c39} {rows:List (Cells.T c65)} (h:Stg w st d f F D N X sm sd so enc new was dat old B) (sol:Sol D V) (hx:Ve w0 x.1 rows fs) (e0:Ext w0 w) (hw0:w0.heap.size=B) (hfs:∀f∈fs,userName f.1=true) (hf14:fs.length<=2^20) (hN:N+2*fs.length+2<=2^30) {must:Bool}
  (hA:∀n b,V n=some b->n=x.2.1\/∃(j:Nat) (f:Nm×List UInt8),fs[j]?=some f/\f.1=n) (hB:∀n,n≠x.2.1->∀b,Az fs n=some b->V n=some b) (hM:must=true->V x.2.1≠none) {K:Bool->Wp}
  (hK:∀F' w' k,Stg w' st d f F' { D with steps:=k } (N+2*fs.length) X sm sd so enc new was dat old B->Upd F w w'->(∀k,F' k->F k\/w.heap.size<=k)->K true w') :
  Aa Tryz.prog 29 #[.pointer (some (at0 st)),.agg (Ko x),.bool must] rB K w:=by
 refine j29 (a1:=x) ?_
 unfold F29
 obtain ⟨(sf:Sl),(nm:ByteArray),(en:Int),(sb:Sl),⟨⟩⟩:=x
 dsimp only at hA hB hM hx ⊢
 have hsl:=hx.slen
 obtain ⟨L,hL⟩:∃L,L=names D.seen:=⟨_,rfl⟩
 obtain ⟨⟨hLn,hLm⟩,hL16⟩:=h.disk.ok.seen.names
 rw [←hL] at hLn hLm hL16
 refine Aq λb1 w1 e1 n1 hb1 hz1=>Af (Ah (e1.ext_get h.box) (off:=0) (x:=some (at0 d)) rfl (Ab5 (h.disk.ext e1).disk h.disk.ok λs4 w2 o4 e2=>?_))
 rw [if_neg (by rw [sol.q.up];simp),←hL] at o4
 have n1:w1.heap[b1]?=some (.cells (Ko (sf,nm,en,sb,())) 39 (0,0)):=n1
 have e12:=e1.trans e2
 have n2:=e2.ext_get n1
 have hLl:L.length=s4.len:=by have:=o4.in.len;simpa using this
 refine Ag (λy W=>∃own:Bool,y=(own,())/\(own=true↔nm∈L)/\Ext w2 W) ?_ ?_
 ·refine Bz (λs W=>∃(i:Nat) (own:Bool),s=(own,(i:Int),())/\(own=true↔nm∈L.take i)/\i<=L.length/\Ext w2 W) (λs _=>L.length-s.2.1.toNat) ⟨0,false,rfl,by simp,Nat.zero_le _,Ext.refl _⟩ ?_
  rintro _ W ⟨i,own,rfl,hown,hi,eW⟩
  dsimp only
  refine Ac (λhlt=>?_) λhge=>?_
  ·have hlt:i<L.length:=by have:=of_decide_eq_true hlt;omega
   obtain ⟨n,hn⟩:∃n,L[i]?=some n:=⟨_,List.getElem?_eq_getElem hlt⟩
   have htk:L.take (i+1)=L.take i++[n]:=by rw [List.take_add_one,hn];rfl
   have hnV:∃b,V n=some b:=by
    have h1:=(hLm n).1 (List.mem_of_getElem? hn)
    cases hv:V n with
    |none=>rw [sol.Ig.2 hv] at h1;cases h1
    |some b=>exact ⟨b,rfl⟩
   refine Dh λW1 e4 _=>?_
   have e24:=eW.trans e4
   refine Bb6 (o4.in.ext e24) hn λ_=>Ah (e24.ext_get n2) (off:=1) (x:=nm) rfl ?_
   rw [bytes_eq]
   refine Ag (λy W'=>∃own':Bool,y=(own',())/\(own'=true↔nm∈L.take (i+1))/\W1=W') (Ac (λho=>⟨true,rfl,?_,rfl⟩) λho=>⟨_,rfl,?_,rfl⟩) ?_
   ·rw [htk];exact ⟨λ_=>List.mem_append_left _ (hown.1 ho),λ_=>rfl⟩
   ·have hno:nm∉L.take i:=λhh=>by rw [hown.2 hh] at ho;cases ho
    rw [htk,decide_eq_true_eq]
    constructor
    ·rintro rfl;exact List.mem_append_right _ List.mem_cons_self
    ·intro hh
     rcases List.mem_append.1 hh with hh|hh
     ·exact absurd hh hno
     ·exact (List.mem_singleton.1 hh).symm
   rintro _ _ ⟨own',rfl,hown',rfl⟩
   refine Ag (λy W'=>y=(true,())/\Ext w2 W') ?_ ?_
   ·refine Bz (λs W'=>∃(j:Nat) (b:Bool),s=(b,(j:Int),())/\(b=true↔n=nm\/∃(k:Nat) (f:Nm×List UInt8),k<j/\fs[k]?=some f/\f.1=n)/\j<=fs.length/\Ext w2 W') (λs _=>fs.length-s.2.1.toNat) ⟨0,decide (n=nm),rfl,?_,Nat.zero_le _,e24⟩ ?_
    ·rw [decide_eq_true_eq]
     exact ⟨.inl,λhh=>hh.elim id λ⟨k,f,hk,_⟩=>by omega⟩
    rintro _ W3 ⟨j,b,rfl,hb,hj,e3⟩
    dsimp only
    have n3:=e3.ext_get n2
    refine Ah n3 (off:=0) (x:=sf) rfl (Ac (λhlt2=>?_) λhge2=>?_)
    ·have hlt2:j<fs.length:=by have:=of_decide_eq_true hlt2;omega
     refine Ag (λy W'=>∃b':Bool,y=(b',())/\(b'=true↔n=nm\/∃(k:Nat) (f:Nm×List UInt8),k<j+1/\fs[k]?=some f/\f.1=n)/\Ext w2 W') ?_ ?_
     ·refine Dh λW5 e5 _=>?_
      have e25:=e3.trans e5
      refine Ac (λhb1=>⟨true,rfl,⟨λ_=>?_,λ_=>rfl⟩,e25⟩) λhb1=>?_
      ·rcases hb.1 hb1 with hh|⟨k,f,hk,hh⟩
       ·exact .inl hh
       ·exact .inr ⟨k,f,by omega,hh⟩
      obtain ⟨t,r,fl,hin,hr,hf,g1,g2,g3,g4⟩:=((hx.ext e0).ext (e12.trans e25)).in_ hlt2
      refine Ah (e25.ext_get n2) (off:=0) (x:=sf) rfl (Qw hin hr λ_=>Bb6 (o4.in.ext e25) hn λ_=>⟨_,rfl,?_,e25⟩)
      rw [bytes_eq,decide_eq_true_eq,g1]
      constructor
      ·intro hh;exact .inr ⟨j,fl,by omega,hf,hh⟩
      ·rintro (hh|⟨k,f',hk,hf',hh⟩)
       ·rw [hb.2 (.inl hh)] at hb1;cases hb1
       ·by_cases hkj:k=j
        ·subst hkj;rw [hf] at hf';cases hf';exact hh
        ·rw [hb.2 (.inr ⟨k,f',by omega,hf',hh⟩)] at hb1;cases hb1
     rintro _ W6 ⟨b',rfl,hb',e6⟩
     rw [wrap64 (by omega) (by omega)]
     refine ⟨⟨j+1,b',by rw [show ((j:Int)+1)=((j+1:Nat):Int) by omega],hb',by omega,e6⟩,?_⟩
     show fs.length-((j:Int)+1).toNat<fs.length-(j:Int).toNat
     omega
    ·have hge2:¬j<fs.length:=by have:=of_decide_eq_false hge2;omega
     have hbt:b=true:=by
      obtain ⟨bb,hbb⟩:=hnV
      refine hb.2 ((hA n bb hbb).imp id λ⟨k,f,hf,hh⟩=>⟨k,f,by have:=(List.getElem?_eq_some_iff.1 hf).1;omega,hf,hh⟩)
     rw [hbt]
     exact ⟨rfl,e3⟩
   rintro _ W6 ⟨rfl,e6⟩
   refine Ac (λhh=>by cases hh) λ_=>?_
   rw [wrap64 (by omega) (by omega)]
   refine ⟨⟨i+1,own',by rw [show ((i:Int)+1)=((i+1:Nat):Int) by omega],hown',by omega,e6⟩,?_⟩
   show L.length-((i:Int)+1).toNat<L.length-(i:Int).toNat
   omega
  ·have hge:¬i<L.length:=by have:=of_decide_eq_false hge;omega
   rw [List.take_of_length_le (by omega)] at hown
   exact ⟨own,rfl,hown,eW⟩
 rintro _ w3 ⟨own,rfl,hown,e3⟩
 have e13:=e12.trans e3
 have h3:=h.ext e13
 have n3:=e3.ext_get n2
 have nb1:¬F b1:=λhh=>by have:=h.disk.lt _ hh;omega
 have lb1:=lt_of_heap n3
 have z13:=e13.size
 refine Ag (λ_ W=>∃F' k,Stg W st d f F' { D with steps:=k } (N+2*fs.length) X sm sd so enc new was dat old B/\Upd F w W/\(∀k,F' k->F k\/w.heap.size<=k)) ?_ ?_
 ·refine Bz (λs W=>∃(j:Nat) (F':Nat->Prop) (k:Int),s=((j:Int),())/\j<=fs.length/\Stg W st d f F' { D with steps:=k } (N+2*j) X sm sd so enc new was dat old B/\Upd F w W/\(∀k,F' k->F k\/w.heap.size<=k)/\¬F' b1/\W.heap[b1]?=some (.cells (Ko (sf,nm,en,sb,())) 39 (0,0))/\Ext w0 W) (λs _=>fs.length-s.1.toNat)
   ⟨0,F,D.steps,rfl,Nat.zero_le _,h3,Upd.Aj e13,λk hk=>.inl hk,nb1,n3,e0.trans e13⟩ ?_
  rintro _ W ⟨j,F1,k1,rfl,hj,sW,uW,hF1,nF1,nW,eW⟩
  dsimp only
  have lbW:=lt_of_heap nW
  refine Ah nW (off:=0) (x:=sf) rfl (Ac (λhlt=>?_) λhge=>?_)
  ·have hlt:j<fs.length:=by have:=of_decide_eq_true hlt;omega
   obtain ⟨t,r,fl,hin,hr,hf,g1,g2,g3,g4⟩:=(hx.ext eW).in_ hlt
   obtain ⟨_,r0,fl0,_,hr0,hf0,_,g20,_,_⟩:=hx.in_ hlt
   obtain rfl:r=r0:=Option.some.inj (hr.symm.trans hr0)
   obtain rfl:fl=fl0:=Option.some.inj (hf.symm.trans hf0)
   have ej:IntKind.wrap .i64 ((j:Int)+1)=((j+1:Nat):Int):=by rw [wrap64 (by omega) (by omega)];omega
   rw [ej]
   refine Ag (λy W'=>∃b:Bool,y=(b,())/\(b=true->∀(k:Nat) (g:Nm×List UInt8),j<k->fs[k]?=some g->g.1≠fl.1)/\Ext W W') ?_ ?_
   ·refine Bz (λs W'=>∃(i:Nat) (b:Bool),s=(b,(i:Int),())/\j<i/\i<=fs.length/\(b=true->∀(k:Nat) (g:Nm×List UInt8),j<k->k<i->fs[k]?=some g->g.1≠fl.1)/\Ext W W') (λs _=>fs.length-s.2.1.toNat) ⟨j+1,true,rfl,by omega,by omega,λ_ k g h1 h2=>by omega,Ext.refl _⟩ ?_
    rintro _ W3 ⟨i,b,rfl,hji,hi,hb,e3⟩
    dsimp only
    refine Ah (e3.ext_get nW) (off:=0) (x:=sf) rfl (Ac (λhlt2=>?_) λhge2=>?_)
    ·have hlt2:i<fs.length:=by have:=of_decide_eq_true hlt2;omega
     refine Ag (λy W'=>∃b':Bool,y=(b',())/\(b'=true->∀(k:Nat) (g:Nm×List UInt8),j<k->k<i+1->fs[k]?=some g->g.1≠fl.1)/\Ext W W') ?_ ?_
     ·refine Dh λW5 e5 _=>?_
      have e35:=e3.trans e5
      refine Ac (λhb1=>?_) λhb1=>⟨false,rfl,(λhh=>by cases hh),e35⟩
      obtain ⟨t2,r2,f2,hin2,hr2,hf2,q1,q2,q3,q4⟩:=((hx.ext eW).ext e35).in_ hlt2
      obtain ⟨t5,r5,f5,hin5,hr5,hf5,p1,p2,p3,p4⟩:=((hx.ext eW).ext e35).in_ hlt
      obtain rfl:r=r5:=Option.some.inj (hr.symm.trans hr5)
      refine Ah (e35.ext_get nW) (off:=0) (x:=sf) rfl (Qw hin2 hr2 λ_=>Ah (e35.ext_get nW) (off:=0) (x:=sf) rfl (Qw hin5 hr λ_=>⟨_,rfl,?_,e35⟩))
      rw [bytes_eq,q1,g1]
      intro hne k g hjk hki hg
      have hne:f2.1≠fl.1:=by simpa using hne
      by_cases hk:k=i
      ·subst hk;rw [hf2] at hg;cases hg;exact hne
      ·exact hb hb1 k g hjk (by omega) hg
     rintro _ W6 ⟨b',rfl,hb',e6⟩
     rw [wrap64 (by omega) (by omega)]
     refine ⟨⟨i+1,b',by rw [show ((i:Int)+1)=((i+1:Nat):Int) by omega],by omega,by omega,hb',e6⟩,?_⟩
     show fs.length-((i:Int)+1).toNat<fs.length-(i:Int).toNat
     omega
    ·have hge2:¬i<fs.length:=by have:=of_decide_eq_false hge2;omega
     exact ⟨b,rfl,λhh k g hjk hg=>hb hh k g hjk (by have:=(List.getElem?_eq_some_iff.1 hg).1;omega) hg,e3⟩
   rintro _ W4 ⟨b,rfl,hb,e4⟩
   refine Ag (λy W'=>y=(false,())/\∃(F':Nat->Prop) (k:Int),Stg W' st d f F' { D with steps:=k } (N+2*(j+1)) X sm sd so enc new was dat old B/\Upd F w W'/\(∀k,F' k->F k\/w.heap.size<=k)/\¬F' b1/\W'.heap[b1]?=some (.cells (Ko (sf,nm,en,sb,())) 39 (0,0))/\Ext w0 W') ?_ ?_
   ·refine Dh λW5 e5 _=>?_
    have e45:=e4.trans e5
    have s5:=sW.ext e45
    have n5:=e45.ext_get nW
    have u5:=uW.trans (Upd.Aj e45)
    have e05:=eW.trans e45
    obtain ⟨t5,r5,f5,hin5,hr5,hf5,p1,p2,p3,p4⟩:=(hx.ext e05).in_ hlt
    obtain rfl:r=r5:=Option.some.inj (hr.symm.trans hr5)
    refine Ac (λhb1=>?_) λ_=>⟨rfl,F1,k1,s5.mono (by omega),u5,hF1,nF1,n5,e05⟩
    refine Ah n5 (off:=0) (x:=sf) rfl (Qw hin5 hr λ_=>Ah n5 (off:=1) (x:=nm) rfl (Ac (λhne=>?_) λ_=>⟨rfl,F1,k1,s5.mono (by omega),u5,hF1,nF1,n5,e05⟩))
    rw [bytes_eq,g1] at hne
    have hne:fl.1≠nm:=by simpa using hne
    have hv:=hB fl.1 hne fl.2 (Be8 hf (hb hb1))
    have hu:=hfs fl (List.mem_of_getElem? hf)
    refine Af (Ah s5.box (off:=0) (x:=some (at0 d)) rfl (Ah n5 (off:=0) (x:=sf) rfl (Qw hin5 hr λ_=>Ah n5 (off:=0) (x:=sf) rfl (H6 hin5 hr λ_=>?_))))
    rw [g1]
    have hlie:Lie (λk=>¬F1 k) r.2.1:=(SlX.lie g20).imp id λhh k hk hf1=>by have:=hh k hk;have:=sW.lF k hf1;omega
    refine Vp s5.disk (by omega) (g2.ext e45) (by omega) hlie λF6 W6 A6 u6 hF6=>?_
    have solk:Sol { D with steps:=k1 } V:=sol.st k1
    have hsv:=solk.view fl.1
    rw [hv] at hsv
    obtain ⟨ii,hii,hdd⟩:=Option.map_eq_some_iff.1 hsv
    have hrd:=Ai6 solk.q (Jl hu).1
    rw [hii,if_neg (by simp)] at hrd
    have hrd:Bh { D with steps:=k1 } fl.1=({ D with steps:=k1+1 },0,fl.2):=by rw [hrd];show (_,_,(Option.map _ (some ii)).getD [])=_;simp only [Option.map_some,Option.getD_some];rw [hdd]
    rw [hrd] at A6 ⊢
    refine ⟨by simp,F6,k1+1,(s5.turn A6 u6 hF6).mono (by omega),?_,?_,?_,u6.get n5 nF1,e05.step u6 λk hk=>by have:=sW.lF k hk;omega⟩
    ·exact u5.new u6 λk hk hh=>(hF1 k hh).resolve_right (by omega)
    ·exact λk hk=>(hF6 k hk).elim (hF1 k) λhl=>.inr (by have:=u5.size;omega)
    ·exact λhh=>(hF6 _ hh).elim nF1 λhl=>by have:=lt_of_heap n5;omega
   rintro _ W6 ⟨rfl,F6,k6,s6,u6,hF6,nF6,n6,e6⟩
   refine Ac (λhh=>by cases hh) λ_=>?_
   refine ⟨⟨j+1,F6,k6,rfl,by omega,s6,u6,hF6,nF6,n6,e6⟩,?_⟩
   show fs.length-((j+1:Nat):Int).toNat<fs.length-(j:Int).toNat
   omega
  ·have hge:¬j<fs.length:=by have:=of_decide_eq_false hge;omega
   exact ⟨F1,k1,sW.mono (by omega),uW,hF1⟩
 rintro _ W ⟨F1,k1,sW,uW,hF1⟩
 have hk:=hK F1 W k1 sW uW hF1
 refine Ac (λ_=>hk) λho=>?_
 have hm:must=false:=by
  cases hmm:must with
  |false=>rfl
  | true =>
   have hv:=hM hmm
   have:nm∈L:=(hLm nm).2 (by
    cases hs:D.seen nm with
    |none=>exact absurd (sol.Ig.1 hs) hv
    |some i=>rfl)
   rw [hown.2 this] at ho;cases ho
 rw [hm];exact hk
end
end Dq
end Go.Proofs.YtmooldhpiopcgaaGreatDoor
namespace Go.Proofs.YtmooldhpiopcgaaGreatDoor
namespace Dq
open Go Go.Vx Dsk Cdc Trx
section
variable {w w':World}{S F F':Nat->Prop}{d:Nat}{D E:Dk}{N:Nat}{st f:Nat}{X:Fil}{sm sd so:Sl}{enc:Int}{new was:Bool}{dat old:List UInt8}{B:Nat}{s:Sl}{l b T:List UInt8}{fs:Fls}{V:Vw}{n:Nm}{k:Int}{force:Bool}{g:List UInt8->Int}{lod:Lod}
theorem Start.Ck7 (h:Start g fs n enc D X lod):X.mark.length<=3:=by
 have:=h.at_
 split at this
 ·rename_i b hb
  obtain ⟨m0,m1,m2⟩:=Yf (g:=g) (enc:=enc) (b:=b)
  rw [this.2,List.length_take];omega
 ·rw [this.2];exact Nat.zero_le _
theorem Put.stamp {m:Nat}{c:Int}(h:Put D E n k ⟨T,m,c⟩):Ci E n=((D.files.length:Int)+1,(T.length:Int),c):=by
 have hs:E.seen n=some D.files.length:=by rw [h.seen];unfold Dn;rw [if_pos rfl]
 have hfn:fl E D.files.length=⟨T,m,c⟩:=by unfold fl;rw [h.files,List.getD_eq_getElem?_getD];simp
 unfold Ci
 rw [hs]
 show ((D.files.length:Int)+1,((fl E D.files.length).data.length:Int),(fl E D.files.length).count)=_
 rw [hfn]
theorem Ky:(Eo D X b force).2.2.mark=X.mark/\(Eo D X b force).2.2.name=X.name:=by
 unfold Eo
 dsimp only
 repeat' split
 all_goals exact ⟨rfl,rfl⟩
theorem Ax9 {f f':Dir}{l:List Nm}(h:Lists f l) (hs:∀m,(f' m).isSome=(f m).isSome):Lists f' l:=⟨h.1,λm=>by rw [hs];exact h.2 m⟩
theorem Bn4 (sol:Sol E V) (ok:Bl E N) (hsp:E.space=1048576) (hnm:(Dsk.names E.seen).length<=14\/(V X.name≠none/\(Dsk.names E.seen).length<=15)) (hu:userName X.name=true) (hV:∀m b,V m=some b->b.length<=60003) (hside:V (side X.name)=none) (hm:X.mark.length<=3) (hb:b.length<=65536) (hk:force=true\/Ci E X.name=Jd E X) :
  ∃c,(Eo E X b force).2=(0,{ X with tried:=((E.files.length:Int)+1,((X.mark++b).length:Int),c),known:=((E.files.length:Int)+1,((X.mark++b).length:Int),c) }) /\
   Put E (Eo E X b force).1 X.name (6+(((X.mark++b).length+1023)/1024:Nat)) ⟨X.mark++b,(X.mark++b).length,c⟩/\Sol (Eo E X b force).1 (Ec V X.name (some (X.mark++b)))/\(Eo E X b force).1.space=1048576/\(Dsk.names (Eo E X b force).1.seen).length<=15:=by
 have hsn:E.seen (side X.name)=none:=sol.Ig.2 hside
 have hn15:(Dsk.names E.seen).length<=15:=by rcases hnm with h|⟨_,h⟩<;>omega
 have hused:Bv E none<=900045:=by
  have:=sol.used ok (B:=60003) hV none
  have h2:((Dsk.names E.seen).length:Int)*((60003:Nat):Int)<=15*60003:=Int.mul_le_mul_of_nonneg_right (by omega) (by decide)
  omega
 obtain ⟨c,h1,h2,h3,_⟩:=Vj (X:=X) (b:=b) (force:=force) sol.q ok hu (λ_=>by omega) (by rw [hsp,List.length_append];omega) hk
 rw [if_pos hsn] at h2
 refine ⟨c,h1,h2,h2.sol sol ok hside h3,h2.space.trans hsp,?_⟩
 obtain ⟨l1,_⟩:=ok.seen.names
 rw [h2.seen,Af9 _ _ hsn]
 cases hsx:E.seen X.name with
 | none =>
  have h14:(Dsk.names E.seen).length<=14:=by
   rcases hnm with h|⟨h,_⟩
   ·exact h
   ·exact absurd (sol.Ig.1 hsx) h
  rw [Jc (Qi l1 hsx)]
  simp only [List.length_append,List.length_cons,List.length_nil];omega
 | some i =>
  rw [Jc (Ax9 l1 λm=>by
   unfold Dn;split
   ·rename_i hmm;rw [hmm,hsx];rfl
   ·rfl)]
  exact hn15
structure Xl (w:World) (p:Nat) (e:Enc) (O:Nat->Prop) (M:Parts) (F:Nat->Prop) (f:Nat) (l:List UInt8):Prop where
 txt:Txt w p e 65536 0 O M
 is:bOf M=l
 no:∀k,O k->¬F k/\k≠f
section
variable {p:Nat}{e:Enc}{O:Nat->Prop}{M:Parts}
theorem Xl.ext (h:Xl w p e O M F f l) (u:Ext w w'):Xl w' p e O M F f l:=⟨h.txt.upd u (λ_ _ hh=>hh) (λ_ hh=>hh.elim),h.is,h.no⟩
theorem Xl.turn (h:Xl w p e O M F f l) (A:DS w d F D N) (u:Upd F w w') (hF:∀k,F' k->F k\/w.heap.size<=k):Xl w' p e O M F' f l :=
 ⟨h.txt.upd u (λk hk hh=>(h.no k hk).1 hh) (A.no λ_=>rfl),h.is,λk hk=>⟨λhh=>(hF k hh).elim (h.no k hk).1 λhl=>by have:=h.txt.own k hk;omega,(h.no k hk).2⟩⟩
theorem Cc0 (h:Stg w st d f F D N X sm sd so enc new was dat old B) (t:Xl w p e O M F f l) (hN:N+6010<=2^30){force:Bool}{K:Int->Wp}
  (hK:∀F' w',Stg w' st d f F' (Eo D X l force).1 (N+5004) (Eo D X l force).2.2 sm sd so enc new was dat old B->Xl w' p e O M F' f l->Upd (λk=>F k\/k=f) w w'->(∀k,F' k->F k\/w.heap.size<=k)->K (Eo D X l force).2.1 w') :
  Aa Tryz.prog 27 #[.pointer (some (at0 f)),.pointer (some (at0 p)),.bool force] rI K w :=
 Xq h.disk hN t.txt t.no h.file λF' w' A' X' T' hO' u hF=>by
  rw [t.is] at *
  exact hK F' w' (h.next A' X' Ky.1 u hF) ⟨T',t.is,hO'⟩ u hF
end
end
end Dq
end Go.Proofs.YtmooldhpiopcgaaGreatDoor
namespace Go.Proofs.YtmooldhpiopcgaaGreatDoor
namespace Dq
open Go Go.Vx Dsk Cdc Trx
section
variable {w w':World}{S F F':Nat->Prop}{d:Nat}{D:Dk}{N:Nat}{g:List UInt8->Int}{fs:Fls}{n:Nm}{enc:Int}{X:Fil}{lod:Lod}{V:Vw}{b:List UInt8}
theorem Ao8 (sol:Sol D V) (hn:Ba n=true) (hv:V n=some b):Bh D n=({ D with steps:=D.steps+1 },0,b):=by
 have hsv:=sol.view n
 rw [hv] at hsv
 obtain ⟨ii,hii,hdd⟩:=Option.map_eq_some_iff.1 hsv
 have hrd:=Ai6 sol.q hn
 rw [hii,if_neg (by simp)] at hrd
 rw [hrd];show (_,_,(Option.map _ (some ii)).getD [])=_;simp only [Option.map_some,Option.getD_some];rw [hdd]
theorem Vt:Ec V n (some b) n=some b:=by unfold Ec;rw [if_pos rfl]
theorem Bb2 {m:Nm}(h:m≠n):Ec V n (some b) m=V m:=by unfold Ec;rw [if_neg h]
theorem Bl7 {a:List UInt8}:Ec (Ec V n (some a)) n (some b)=Ec V n (some b):=by
 funext m;unfold Ec;split<;>rfl
theorem Cc2:∀m c,Ec (Az fs) n (some b) m=some c->m=n\/∃(j:Nat) (f:Nm×List UInt8),fs[j]?=some f/\f.1=m:=λm c h=>by
 by_cases hm:m=n
 ·exact .inl hm
 ·rw [Bb2 hm] at h;exact .inr (Ac1 h)
theorem Cc1:∀m,m≠n->∀c,Az fs m=some c->Ec (Az fs) n (some b) m=some c:=λm hm c h=>by rw [Bb2 hm];exact h
section
variable {st f:Nat}{sm sd so:Sl}{new was:Bool}{dat old:List UInt8}{B:Nat}{p:Nat}{e:Enc}{O:Nat->Prop}{M:Parts}{l:List UInt8}
end
end
end Dq
end Go.Proofs.YtmooldhpiopcgaaGreatDoor
namespace Go.Proofs.YtmooldhpiopcgaaGreatDoor
namespace Dq
open Go Go.Vx Dsk
section
variable {D D' E:Dk}{N:Nat}{sd n:Nm}{A:Vw->Prop}{U V W:Vw}{s:Stm}{P:Int->Option Bq}{fs fs':List Fl}{f f':Dir}{g:Fl}{T b:List UInt8}
structure Hol (fs:List Fl) (f:Dir) (V:Vw) (sd:Nm):Prop where
 no:∀m,m≠sd->f m=none->V m=none
 at_:∀m i,m≠sd->f m=some i->∃g,fs[i]?=some g/\g.synced=g.data.length/\V m=some g.data
theorem Hol.dir (h:Hol fs f V sd) (hf:∀m,m≠sd->f' m=f m):Hol fs f' V sd :=
 ⟨λm hm h0=>h.no m hm (by rw [←hf m hm];exact h0),λm i hm h0=>h.at_ m i hm (by rw [←hf m hm];exact h0)⟩
theorem Hol.files (h:Hol fs f V sd) (hf:∀m i,m≠sd->f m=some i->fs'[i]?=fs[i]?):Hol fs' f V sd :=
 ⟨h.no,λm i hm h0=>by obtain ⟨g,a,b,c⟩:=h.at_ m i hm h0;exact ⟨g,by rw [hf m i hm h0];exact a,b,c⟩⟩
def Ci4 (P:Int->Option Bq):Prop:=∀k f,P k=some f->f.kind≠4/\f.kind≠5
structure Pre (sd:Nm) (P:Int->Option Bq) (A:Vw->Prop) (D:Dk):Prop where
 up:D.down=false
 plan:D.plan=P
 ok:∃M,Bl D M
 pre:∀k,∃W,A W/\Hol D.files (Ez (D.acts.take k) D.lasts) W sd
structure St (sd:Nm) (P:Int->Option Bq) (A:Vw->Prop) (U:Vw) (n:Nm) (s:Stm) (D:Dk):Prop extends Pre sd P A D where
 now:Hol D.files D.seen U sd
 apart:∀k m j,m≠sd->Ez (D.acts.take k) D.lasts m=some j->D.seen sd≠some j
 stp:Ci D n=s
 space:D.space=1048576
 beside:∀i,D.seen sd=some i->(fl D i).data.length<=60003
structure Ci5 (sd:Nm) (A:Vw->Prop) (D:Dk):Prop where
 down:D.down=true
 acts:D.acts=[]
 ok:∃M,Bl D M
 view:∃W,A W/\Hol D.files D.lasts W sd
theorem Zn (f:Dir) (bytes:List Int){k:Nat}{g:Fl}(hg:g.synced=g.data.length):∀(l:List Nm) (i:Nat) (fs:List Fl),fs[k]?=some g->(Ij f bytes l i fs)[k]?=some g
 |[],_,_,h=>h
 |n::r,i,fs,h=>by
  unfold Ij
  refine Zn f bytes hg r (i+1) _ ?_
  unfold Ku
  rw [List.getElem?_modify,h]
  split
  ·show some (g.cut _)=some g;rw [Bd6 hg]
  ·rfl
theorem Pre.crash (h:Pre sd P A D) (nm:Int) (bytes:List Int):Ci5 sd A (Dsk.crash D nm bytes):=by
 obtain ⟨M,ok⟩:=h.ok
 have hok:=Wq ok nm bytes
 have e:Dsk.crash D nm bytes={ D with lasts:=Ez (D.acts.take (min (max nm 0).toNat D.acts.length)) D.lasts,acts:=[],files:=Ij (Ez (D.acts.take (min (max nm 0).toNat D.acts.length)) D.lasts) bytes (names (Ez (D.acts.take (min (max nm 0).toNat D.acts.length)) D.lasts)) 0 D.files,down:=true }:=by
  unfold Dsk.crash
  rw [if_neg (by rw [h.up];simp)]
 obtain ⟨W,hA,hW⟩:=h.pre (min (max nm 0).toNat D.acts.length)
 rw [e] at hok ⊢
 refine ⟨rfl,rfl,⟨M,hok⟩,W,hA,?_⟩
 dsimp only
 generalize Ez (D.acts.take (min (max nm 0).toNat D.acts.length)) D.lasts=f at hW ⊢
 exact ⟨hW.no,λm i hm h0=>by obtain ⟨g,a,b,c⟩:=hW.at_ m i hm h0;exact ⟨g,Zn f bytes b _ _ _ a,b,c⟩⟩
def Saf (R:Dk->Prop) (sd:Nm) (P:Int->Option Bq) (A:Vw->Prop) (D:Dk):Prop:=R D\/(Ci5 sd A D/\¬Ci4 P)
theorem Saf.mono {R R':Dk->Prop}(h:Saf R sd P A D) (hR:R D->R' D):Saf R' sd P A D:=h.imp hR id
theorem Oa {α:Type}{R:Dk->Prop}{Q:Dk->α->Prop}{a:α}{act:Dk->Dk×Int×α}{part:Option (Int->Dk->Dk×Int×α)}(hR:∀E,R E->Pre sd P A E) (hup:D.down=false) (hpl:D.plan=P) (h0:R { D with steps:=D.steps+1 })
  (ha:R (act { D with steps:=D.steps+1 }).1) (hn:(act { D with steps:=D.steps+1 }).2.1=0->Q (act { D with steps:=D.steps+1 }).1 (act { D with steps:=D.steps+1 }).2.2)
  (hp:∀pt,part=some pt->∀k,R (pt k { D with steps:=D.steps+1 }).1/\(pt k { D with steps:=D.steps+1 }).2.1≠0) :
  Saf R sd P A (Dsk.step D a act part).1/\((Dsk.step D a act part).2.1=0->Q (Dsk.step D a act part).1 (Dsk.step D a act part).2.2):=by
 unfold Dsk.step
 rw [if_neg (by rw [hup];simp)]
 split
 ·exact ⟨.inl ha,hn⟩
 ·rename_i f hf
  rw [hpl] at hf
  unfold Tq
  split
  ·exact ⟨.inl h0,λh=>by simp at h⟩
  split
  ·cases part with
   |none=>exact ⟨.inl h0,λh=>by simp at h⟩
   |some pt=>exact ⟨.inl (hp pt rfl _).1,λh=>absurd h (hp pt rfl _).2⟩
  split
  ·rename_i hk
   exact ⟨.inr ⟨(hR _ h0).crash _ _,λhm=>(hm _ _ hf).1 hk⟩,λh=>by simp at h⟩
  split
  ·rename_i hk
   exact ⟨.inr ⟨(hR _ ha).crash _ _,λhm=>(hm _ _ hf).2 hk⟩,λh=>by simp at h⟩
  split
  ·refine ⟨.inl ha,λh=>?_⟩
   dsimp only at h
   split at h
   ·rename_i h';exact absurd h h'
   ·simp at h
  ·exact ⟨.inl ha,hn⟩
theorem Bf3 {α:Type}{a:α}{act:Dk->Dk×Int×α}{part:Option (Int->Dk->Dk×Int×α)}(h:D.down=true):Dsk.step D a act part=(D,165,a):=by unfold Dsk.step;rw [if_pos h]
def Bsd (sd:Nm) (g:Fl) (D:Dk):Prop:=∃i,D.seen sd=some i/\D.files[i]?=some g
theorem Bsd.find (h:Bsd sd g D) (hn:Ba sd=true):∃i,Dsk.find D sd=(some i,0)/\D.seen sd=some i/\D.files[i]?=some g:=by
 obtain ⟨i,h1,h2⟩:=h
 refine ⟨i,?_,h1,h2⟩
 unfold Dsk.find;rw [if_neg (by rw [hn];simp),h1]
theorem Qp (hs:D'.seen n=D.seen n) (hf:∀i,D.seen n=some i->fl D' i=fl D i):Ci D' n=Ci D n:=by
 unfold Ci;rw [hs]
 cases h:D.seen n with
 |none=>rfl
 |some i=>dsimp only;rw [hf i h]
theorem Ac8 (D:Dk) (a:Nh) (k:Nat):(∃k',Ez ((D.acts++[a]).take k) D.lasts=Ez (D.acts.take k') D.lasts)\/Ez ((D.acts++[a]).take k) D.lasts=a.on D.seen:=by
 by_cases h:k<=D.acts.length
 ·exact .inl ⟨k,by rw [List.take_append_of_le_length h]⟩
 ·right;rw [List.take_of_length_le (by simp;omega)];exact Iw D a
theorem St.st (h:St sd P A U n s D):St sd P A U n s { D with steps:=D.steps+1 }:=by
 obtain ⟨M,ok⟩:=h.ok
 exact ⟨⟨h.up,h.plan,⟨_,Ae2 ok⟩,h.pre⟩,h.now,h.apart,h.stp,h.space,h.beside⟩
theorem St.mono {A':Vw->Prop}(h:St sd P A U n s D) (hA:∀W,A W->A' W):St sd P A' U n s D :=
 ⟨⟨h.up,h.plan,h.ok,λk=>let ⟨W,a,b⟩:=h.pre k;⟨W,hA W a,b⟩⟩,h.now,h.apart,h.stp,h.space,h.beside⟩
theorem St.file (h:St sd P A U n s D) (hns:n≠sd){i:Nat}(hi:D.seen sd=some i) (hg:D.files[i]?=some g) (φ:Fl->Fl) (hl:(φ g).data.length<=60003) (ok:∃M,Bl { D with files:=Ku D.files i φ } M) :
  St sd P A U n s { D with files:=Ku D.files i φ }/\Bsd sd (φ g) { D with files:=Ku D.files i φ }:=by
 have hp:∀j,j≠i->(Ku D.files i φ)[j]?=D.files[j]?:=λj hj=>by
  unfold Ku;rw [List.getElem?_modify]
  cases D.files[j]? with
  |none=>rfl
  |some x=>show some (if i=j then φ x else x)=some x;rw [if_neg (λhh=>hj hh.symm)]
 have hi2:(Ku D.files i φ)[i]?=some (φ g):=by
  unfold Ku;rw [List.getElem?_modify,hg]
  show some (if i=i then φ g else g)=some (φ g);rw [if_pos rfl]
 have apn:∀m j,m≠sd->D.seen m=some j->j≠i:=λm j hm hj hh=>by
  have:=h.apart D.acts.length m j hm (by rw [List.take_length];exact hj)
  exact this (hh▸hi)
 refine ⟨⟨⟨h.up,h.plan,ok,λk=>?_⟩,?_,λk m j hm hj=>h.apart k m j hm hj,?_,h.space,λj hj=>?_⟩,i,hi,hi2⟩
 ·obtain ⟨W,hA,hW⟩:=h.pre k
  exact ⟨W,hA,hW.files λm j hm hj=>hp j λhh=>h.apart k m j hm hj (hh▸hi)⟩
 ·exact h.now.files λm j hm hj=>hp j (apn m j hm hj)
 ·rw [←h.stp]
  refine Qp rfl λj hj=>?_
  show (Ku D.files i φ).getD j _=_
  rw [Ak1 hg,if_neg (apn n j hns hj)];rfl
 ·have hj:D.seen sd=some j:=hj
  rw [hi] at hj;cases hj
  show ((Ku D.files i φ).getD i ⟨[],0,0⟩).data.length<=60003
  rw [Ak1 hg,if_pos rfl];exact hl
theorem St.deed (h:St sd P A U n s D) (hns:n≠sd){a:Nh}(ha:D'.acts=D.acts++[a]) (hl:D'.lasts=D.lasts) (hu:D'.down=D.down) (hpl:D'.plan=D.plan) (hsp:D'.space=D.space) (ok':∃M,Bl D' M) (hon:∀f m,m≠sd->a.on f m=f m)
  (hfi:∀i,i<D.files.length->D'.files[i]?=D.files[i]?) (hnew:∀i,D'.seen sd=some i->D.files.length<=i/\(fl D' i).data.length<=60003):St sd P A U n s D':=by
 obtain ⟨M,ok⟩:=h.ok
 have hseen:D'.seen=a.on D.seen:=by unfold Dk.seen;rw [ha,hl];exact Iw D a
 have hpref:∀k,∃k',∀m,m≠sd->Ez (D'.acts.take k) D'.lasts m=Ez (D.acts.take k') D.lasts m:=λk=>by
  rw [ha,hl]
  rcases Ac8 D a k with ⟨k',e⟩|e
  ·exact ⟨k',λm _=>by rw [e]⟩
  ·exact ⟨D.acts.length,λm hm=>by rw [e,hon _ m hm,List.take_length];rfl⟩
 refine ⟨⟨hu.trans h.up,hpl.trans h.plan,ok',λk=>?_⟩,?_,λk m j hm hj hh=>?_,?_,hsp.trans h.space,λi hi=>(hnew i hi).2⟩
 ·obtain ⟨k',e⟩:=hpref k
  obtain ⟨W,hA,hW⟩:=h.pre k'
  exact ⟨W,hA,(hW.files λm j _ hj=>hfi j ((ok.good k').ids m j hj)).dir e⟩
 ·rw [hseen];exact (h.now.files λm j _ hj=>hfi j (ok.seen.ids m j hj)).dir (hon D.seen)
 ·obtain ⟨k',e⟩:=hpref k
  rw [e m hm] at hj
  have h1:=(ok.good k').ids m j hj
  have h2:=(hnew j hh).1
  omega
 ·rw [←h.stp]
  refine Qp (by rw [hseen];exact hon _ n hns) λi hi=>?_
  unfold fl
  rw [List.getD_eq_getElem?_getD,List.getD_eq_getElem?_getD,hfi i (ok.seen.ids n i hi)]
theorem E5 (hn:Ba sd=true) (h:D.seen sd=none):Dsk.find D sd=(none,162):=by unfold Dsk.find;rw [if_neg (by rw [hn];simp),h]
theorem Xd {i:Nat}(hn:Ba sd=true) (h:D.seen sd=some i):Dsk.find D sd=(some i,0):=by unfold Dsk.find;rw [if_neg (by rw [hn];simp),h]
theorem St.mkd (h:St sd P A U n s D) (hns:n≠sd) (hn:Ba sd=true):St sd P A U n s (mkR sd D).1/\((mkR sd D).2=0->Bsd sd ⟨[],0,0⟩ (mkR sd D).1):=by
 obtain ⟨M,ok⟩:=h.ok
 have hok:=Bq2 ok sd
 cases hs:D.seen sd with
 |some i =>
  have e:mkR sd D=(D,163):=by unfold mkR;rw [Xd hn hs];rfl
  rw [e];exact ⟨h,λhh=>by cases hh⟩
 | none =>
  by_cases hl:16<=(names D.seen).length
  ·have e:mkR sd D=(D,161):=by unfold mkR;rw [E5 hn hs];dsimp only;rw [if_neg (by decide),if_neg (by decide),if_pos hl]
   rw [e];exact ⟨h,λhh=>by cases hh⟩
  ·have e:mkR sd D=({ D with files:=D.files++[⟨[],0,0⟩],acts:=D.acts++[.mk sd D.files.length] },0):=by unfold mkR;rw [E5 hn hs];dsimp only;rw [if_neg (by decide),if_neg (by decide),if_neg hl]
   rw [e] at hok ⊢
   have hseen:({ D with files:=D.files++[⟨[],0,0⟩],acts:=D.acts++[.mk sd D.files.length] }:Dk).seen sd=some D.files.length:=by
    have:({ D with files:=D.files++[⟨[],0,0⟩],acts:=D.acts++[.mk sd D.files.length] }:Dk).seen=Dn D.seen sd (some D.files.length):=Iw D (.mk sd D.files.length)
    rw [this];unfold Dn;rw [if_pos rfl]
   refine ⟨h.deed hns (a:=.mk sd D.files.length) rfl rfl rfl rfl rfl ⟨_,hok⟩ (λf m hm=>?_) (λi hi=>?_) (λi hi=>?_),λ_=>⟨_,hseen,?_⟩⟩
   ·show Dn f sd _ m=f m;unfold Dn;rw [if_neg hm]
   ·show (D.files++[_])[i]?=_;rw [List.getElem?_append_left hi]
   ·dsimp only at hi
    rw [hseen] at hi;cases hi
    refine ⟨Nat.le_refl _,?_⟩
    unfold fl
    show ((D.files++[(⟨[],0,0⟩:Fl)]).getD D.files.length ⟨[],0,0⟩).data.length<=60003
    rw [List.getD_eq_getElem?_getD];simp
   ·show (D.files++[_])[D.files.length]?=_;simp
theorem St.rm (h:St sd P A U n s D) (hns:n≠sd) (hn:Ba sd=true):St sd P A U n s (rmR sd D).1:=by
  obtain ⟨M,ok⟩:=h.ok
  have hok:=Bp9 ok sd
  cases hs:D.seen sd with
  | none => have e:rmR sd D=(D,162):=by unfold rmR;rw [E5 hn hs]
            rw [e];exact h
  | some i =>
    have e:rmR sd D=({ D with acts:=D.acts++[.rm sd] },0):=by unfold rmR;rw [Xd hn hs]
    rw [e] at hok ⊢
    refine h.deed hns (a:=.rm sd) rfl rfl rfl rfl rfl ⟨_,hok⟩ (λf m hm=>?_) (λi hi=>rfl) (λi hi=>?_)
    · show Dn f sd _ m=f m;unfold Dn;rw [if_neg hm]
    · have:({ D with acts:=D.acts++[.rm sd] }:Dk).seen=Dn D.seen sd none:=Iw D (.rm sd)
      dsimp only at hi
      rw [this] at hi;unfold Dn at hi;rw [if_pos rfl] at hi;cases hi
theorem St.ap (h:St sd P A U n s D) (hns:n≠sd) (hn:Ba sd=true) (hB:Bsd sd g D) (hl:g.data.length+b.length<=60003) :
  St sd P A U n s (apR sd b D).1/\((apR sd b D).2.1=0->∃c,Bsd sd ⟨g.data++b,g.synced,c⟩ (apR sd b D).1):=by
 obtain ⟨M,ok⟩:=h.ok
 have hok:=Bc8 ok sd b
 obtain ⟨i,h1,h2,h3⟩:=hB.find hn
 unfold apR at hok ⊢
 rw [h1] at hok ⊢
 dsimp only at hok ⊢
 obtain ⟨k,hk⟩:∃k:Int,k=if room D<(b.length:Int) then room D else b.length:=⟨_,rfl⟩
 rw [←hk] at hok ⊢
 have hkb:k<=b.length:=by rw [hk];split<;>omega
 obtain ⟨s1,s2⟩:=h.file hns h2 h3 (λf=>⟨f.data++b.take k.toNat,f.synced,if k>0 then f.count+1 else f.count⟩) (by simp only [List.length_append,List.length_take];omega) ⟨_,hok⟩
 refine ⟨s1,λhe=>⟨if k>0 then g.count+1 else g.count,?_⟩⟩
 have:k.toNat=b.length:=by
  split at he
  ·simp at he
  ·omega
 have e:b.take k.toNat=b:=by rw [this,List.take_length]
 rw [e] at s2 ⊢
 exact s2
theorem St.sy (h:St sd P A U n s D) (hns:n≠sd) (hn:Ba sd=true) (hB:Bsd sd g D) (hl:g.data.length<=60003):St sd P A U n s (syR sd D).1/\Bsd sd ⟨g.data,g.data.length,g.count⟩ (syR sd D).1:=by
 obtain ⟨M,ok⟩:=h.ok
 have hok:=Bp8 ok sd
 obtain ⟨i,h1,h2,h3⟩:=hB.find hn
 unfold syR at hok ⊢
 rw [h1] at hok ⊢
 exact h.file hns h2 h3 (λf=>⟨f.data,f.data.length,f.count⟩) hl ⟨_,hok⟩
theorem St.mv (h:St sd P A U n s D) (hns:n≠sd) (hn:Ba sd=true) (hn':Ba n=true){c:Int}(hB:Bsd sd ⟨T,T.length,c⟩ D) (hA:A (Ec U n (some T))) :
  ∃i:Nat,D.seen sd=some i/\(mvR sd n D).2=0/\St sd P A (Ec U n (some T)) n ((i:Int)+1,(T.length:Int),c) (mvR sd n D).1:=by
 obtain ⟨M,ok⟩:=h.ok
 have hok:=Bq1 ok sd n
 obtain ⟨i,h1,h2,h3⟩:=hB.find hn
 have e:mvR sd n D=({ D with acts:=D.acts++[.mv sd n i] },0):=by
  unfold mvR;rw [if_neg (by rw [hn'];simp),h1];dsimp only;rw [if_neg (λhh=>hns hh.symm)]
 rw [e] at hok ⊢
 have hseen:({ D with acts:=D.acts++[.mv sd n i] }:Dk).seen=Dn (Dn D.seen sd none) n (some i):=Iw D (.mv sd n i)
 have hnow:Hol D.files (Dn (Dn D.seen sd none) n (some i)) (Ec U n (some T)) sd:=by
  refine ⟨λm hm h0=>?_,λm j hm hj=>?_⟩
  ·unfold Dn at h0;unfold Ec
   split at h0
   ·cases h0
   ·rename_i hmn
    try rw [if_neg hm] at h0
    rw [if_neg hmn];exact h.now.no m hm h0
  ·unfold Dn at hj;unfold Ec
   split at hj
   ·rename_i hmn;cases hj;exact ⟨_,h3,rfl,by rw [if_pos hmn]⟩
   ·rename_i hmn
    try rw [if_neg hm] at hj
    rw [if_neg hmn];exact h.now.at_ m j hm hj
 have hsd:({ D with acts:=D.acts++[.mv sd n i] }:Dk).seen sd=none:=by
  rw [hseen];unfold Dn;rw [if_neg (λhh=>hns hh.symm),if_pos rfl]
 refine ⟨i,h2,rfl,⟨h.up,h.plan,⟨_,hok⟩,λk=>?_⟩,by dsimp only;rw [hseen];exact hnow,λk m j _ _ hh=>?_,?_,h.space,λj hj=>?_⟩
 ·dsimp only
  rcases Ac8 D (.mv sd n i) k with ⟨k',e'⟩|e'
  ·rw [e'];exact h.pre k'
  ·rw [e'];exact ⟨_,hA,hnow⟩
 ·dsimp only at hh;rw [hsd] at hh;cases hh
 ·unfold Ci
  have:({ D with acts:=D.acts++[.mv sd n i] }:Dk).seen n=some i:=by rw [hseen];unfold Dn;rw [if_pos rfl]
  rw [this]
  have hf:fl ({ D with acts:=D.acts++[.mv sd n i] }:Dk) i=⟨T,T.length,c⟩:=by unfold fl;rw [List.getD_eq_getElem?_getD];show (D.files[i]?).getD _=_;rw [h3];rfl
  dsimp only
  rw [hf]
 ·dsimp only at hj;rw [hsd] at hj;cases hj
theorem St.settle (h:St sd P A U n s D) (hA:A U):St sd P A U n s (Dsk.settle D)/\St sd P (λW=>W=U) U n s (Dsk.settle D):=by
 obtain ⟨M,ok⟩:=h.ok
 have hok:=Uj ok
 have key:∀A':Vw->Prop,A' U->St sd P A' U n s (Dsk.settle D):=λA' hA' =>
  ⟨⟨h.up,h.plan,⟨_,hok⟩,λk=>⟨U,hA',by show Hol D.files (Ez (([]:List Nh).take k) D.seen) U sd;rw [List.take_nil];exact h.now⟩⟩,h.now,λk m j hm hj=>h.apart D.acts.length m j hm (by
   rw [List.take_length]
   have:Ez (([]:List Nh).take k) D.seen m=some j:=hj
   rw [List.take_nil] at this;exact this),h.stp,h.space,h.beside⟩
 exact ⟨key A hA,key _ rfl⟩
end
end Dq
end Go.Proofs.YtmooldhpiopcgaaGreatDoor
namespace Go.Proofs.YtmooldhpiopcgaaGreatDoor
namespace Dq
open Go Go.Vx Dsk
section
variable {D D' E:Dk}{N:Nat}{sd n:Nm}{A:Vw->Prop}{U V W:Vw}{s:Stm}{P:Int->Option Bq}{fs fs':List Fl}{f f':Dir}{g:Fl}{T b:List UInt8}{X:Fil}{force:Bool}
theorem St.pr (h:St sd P A U n s D):Pre sd P A D:=h.toPre
theorem St.Aq0 (h:St sd P A U n s D) (hns:n≠sd) (hn:Ba sd=true):Saf (St sd P A U n s) sd P A (Dj D sd).1/\((Dj D sd).2.1=0->St sd P A U n s (Dj D sd).1/\Bsd sd ⟨[],0,0⟩ (Dj D sd).1):=by
 obtain ⟨h1,h2⟩:=h.st.mkd hns hn
 exact Oa (a:=()) (act:=u (mkR sd)) (part:=none) (R:=St sd P A U n s) (Q:=λE _=>St sd P A U n s E/\Bsd sd ⟨[],0,0⟩ E) (λ_ hE=>hE.pr) h.up h.plan h.st h1 (λe=>⟨h1,h2 e⟩) λ_ h=>nomatch h
theorem St.O7 (h:St sd P A U n s D) (hns:n≠sd) (hn:Ba sd=true):Saf (St sd P A U n s) sd P A (Ea D sd).1/\((Ea D sd).2.1=0->St sd P A U n s (Ea D sd).1):=by
 have h1:=h.st.rm hns hn
 exact Oa (a:=()) (act:=u (rmR sd)) (part:=none) (R:=St sd P A U n s) (Q:=λE _=>St sd P A U n s E) (λ_ hE=>hE.pr) h.up h.plan h.st h1 (λ_=>h1) λ_ h=>nomatch h
theorem St.Ba7 (h:St sd P A U n s D) (hns:n≠sd) (hn:Ba sd=true) (hB:Bsd sd g D) (hl:g.data.length+b.length<=60003) :
  Saf (St sd P A U n s) sd P A (Bo D sd b).1/\((Bo D sd b).2.1=0->St sd P A U n s (Bo D sd b).1/\∃c,Bsd sd ⟨g.data++b,g.synced,c⟩ (Bo D sd b).1):=by
 have hB1:Bsd sd g { D with steps:=D.steps+1 }:=hB
 obtain ⟨h1,h2⟩:=h.st.ap hns hn hB1 hl
 refine Oa (a:=(0:Int)) (act:=apR sd b) (part:=some (Vr sd b)) (R:=St sd P A U n s) (Q:=λE _=>St sd P A U n s E/\∃c,Bsd sd ⟨g.data++b,g.synced,c⟩ E) (λ_ hE=>hE.pr) h.up h.plan h.st h1 (λe=>⟨h1,h2 e⟩) λpt hpt k=>?_
 cases hpt
 obtain ⟨h3,_⟩:=h.st.ap (b:=b.take (min (max k 0) b.length).toNat) hns hn hB1 (by rw [List.length_take];omega)
 refine ⟨h3,?_⟩
 unfold Vr
 dsimp only
 split
 ·rename_i hh;exact hh.1
 ·decide
theorem St.Bn0 (h:St sd P A U n s D) (hns:n≠sd) (hn:Ba sd=true) (hB:Bsd sd g D) (hl:g.data.length<=60003) :
  Saf (St sd P A U n s) sd P A (Dc D sd).1/\((Dc D sd).2.1=0->St sd P A U n s (Dc D sd).1/\Bsd sd ⟨g.data,g.data.length,g.count⟩ (Dc D sd).1):=by
 have hB1:Bsd sd g { D with steps:=D.steps+1 }:=hB
 obtain ⟨h1,h2⟩:=h.st.sy hns hn hB1 hl
 exact Oa (a:=()) (act:=u (syR sd)) (part:=none) (R:=St sd P A U n s) (Q:=λE _=>St sd P A U n s E/\Bsd sd ⟨g.data,g.data.length,g.count⟩ E) (λ_ hE=>hE.pr) h.up h.plan h.st h1 (λ_=>⟨h1,h2⟩) λ_ h=>nomatch h
theorem St.Ad3 (h:St sd P A U n s D){m:Nm}(hm:Ba m=true):Saf (St sd P A U n s) sd P A (Ai D m).1 /\
  ((Ai D m).2.1=0->St sd P A U n s (Ai D m).1/\(Ai D m).2.2=Ci D m/\D.seen m≠none/\(Ai D m).1.seen=D.seen/\(Ai D m).1.files=D.files):=by
 have e:(stR m { D with steps:=D.steps+1 }).1={ D with steps:=D.steps+1 }:=st_fst _ _
 have key:=Oa (D:=D) (a:=((0,0,0):Stm)) (act:=stR m) (part:=none) (R:=St sd P A U n s) (Q:=λE x=>St sd P A U n s E/\x=Ci D m/\D.seen m≠none/\E.seen=D.seen/\E.files=D.files) (λ_ hE=>hE.pr) h.up h.plan h.st (by rw [e];exact h.st) (λh0=>by
  rw [e]
  cases hs:D.seen m with
  | none =>
   have hf:stR m { D with steps:=D.steps+1 }=({ D with steps:=D.steps+1 },162,0,0,0):=by
    unfold stR;rw [Fv,E5 hm hs]
   rw [hf] at h0;cases h0
  |some i =>
   refine ⟨h.st,?_,by simp,rfl,rfl⟩
   unfold stR Ci;rw [Fv,Xd hm hs,hs];rfl) (λ_ h=>nomatch h)
 refine ⟨key.1,λh0=>?_⟩
 have:=key.2 h0
 refine ⟨this.1,?_,this.2.2⟩
 rw [←this.2.1]
 exact if_pos h0
theorem Au5 (hup:D.down=false){m:Nm}(hm:Ba m=true) (h:(Ai D m).2.1=162):D.seen m=none/\(Ai D m).2.2=(0,0,0):=by
 refine ⟨?_,by show (if _ then _ else _)=_;rw [if_neg (by intro h0;have h0:(Ai D m).2.1=0:=h0;rw [h] at h0;cases h0)]⟩
 cases hs:D.seen m with
 |none=>rfl
 | some i =>
  exfalso
  have e:stR m { D with steps:=D.steps+1 }=({ D with steps:=D.steps+1 },0,(i:Int)+1,((fl D i).data.length:Int),(fl D i).count):=by
   unfold stR;rw [Fv,Xd hm hs];rfl
  have h:(Dsk.step D ((0,0,0):Stm) (stR m) none).2.1=162:=h
  unfold Dsk.step at h
  rw [if_neg (by rw [hup];simp)] at h
  split at h
  ·rw [e] at h;cases h
  ·unfold Tq at h
   repeat' split at h
   all_goals first|(rw [e] at h;revert h;simp)|(revert h;simp)
theorem St.Av8 (h:St sd P A U n s D) (hns:n≠sd) (hn:Ba sd=true) (hn':Ba n=true){c:Int}(hB:Bsd sd ⟨T,T.length,c⟩ D) (hA:A (Ec U n (some T))) :
  ∃s2:Stm,s2=Ci D sd/\1<=s2.1/\Saf (λE=>St sd P A U n s E\/St sd P A (Ec U n (some T)) n s2 E) sd P A (Eu D sd n).1/\((Eu D sd n).2.1=0->St sd P A (Ec U n (some T)) n s2 (Eu D sd n).1):=by
 have hB1:Bsd sd ⟨T,T.length,c⟩ { D with steps:=D.steps+1 }:=hB
 obtain ⟨i,hi,_,h1⟩:=h.st.mv hns hn hn' hB1 hA
 have hi:D.seen sd=some i:=hi
 obtain ⟨j,hj,hg⟩:=hB
 rw [hi] at hj;cases hj
 have hst:Ci D sd=((i:Int)+1,(T.length:Int),c):=by
  unfold Ci;rw [hi]
  have hf:fl D i=⟨T,T.length,c⟩:=by unfold fl;rw [List.getD_eq_getElem?_getD,hg];rfl
  dsimp only;rw [hf]
 refine ⟨_,hst.symm,by show (1:Int)<=(i:Int)+1;omega,?_⟩
 exact Oa (a:=()) (act:=u (mvR sd n)) (part:=none) (R:=λE=>St sd P A U n s E\/St sd P A (Ec U n (some T)) n ((i:Int)+1,(T.length:Int),c) E) (Q:=λE _=>St sd P A (Ec U n (some T)) n ((i:Int)+1,(T.length:Int),c) E) (λ_ hE=>hE.elim (λh=>h.pr) λh=>h.pr) h.up h.plan (.inl h.st) (.inr h1) (λ_=>h1) λ_ h=>nomatch h
theorem St.An4 (h:St sd P A U n s D) (hA:A U):Saf (St sd P A U n s) sd P A (Cm D).1/\((Cm D).2.1=0->St sd P (λW=>W=U) U n s (Cm D).1):=by
 obtain ⟨h1,h2⟩:=h.st.settle hA
 exact Oa (a:=()) (act:=u λD=>(Dsk.settle D,0)) (part:=none) (R:=St sd P A U n s) (Q:=λE _=>St sd P (λW=>W=U) U n s E) (λ_ hE=>hE.pr) h.up h.plan h.st h1 (λ_=>h2) λ_ h=>nomatch h
theorem Zd (h:Ci5 sd A D) (m:Nm):Ea D m=(D,165,()):=Bf3 h.down
theorem Av4 {R:Dk->Prop}(hR:∀E,R E->∃U s,St sd P A U n s E/\∀E',St sd P A U n s E'->R E') (hns:n≠sd) (hn:Ba sd=true) (h:Saf R sd P A D):Saf R sd P A (Ea D sd).1:=by
 rcases h with h|⟨h,hm⟩
 ·obtain ⟨U,s,h1,h2⟩:=hR _ h
  exact (h1.O7 hns hn).1.mono (h2 _)
 ·rw [Zd h];exact .inr ⟨h,hm⟩
theorem Ad6 {R:Dk->Prop}(hR:∀E,R E->∃U s,St sd P A U n s E/\∀E',St sd P A U n s E'->R E') (hns:n≠sd) (hn:Ba sd=true) (h:Saf R sd P A D) (e:Int) (t:Stm):Saf R sd P A (clean D sd e t).1:=by
 unfold clean
 split
 ·exact h
 ·exact Av4 hR hns hn h
theorem St.Bk5 (h:St sd P A U n s D) (hns:n≠sd) (hn:Ba sd=true):Saf (St sd P A U n s) sd P A (Cb D sd).1/\((Cb D sd).2=0->St sd P A U n s (Cb D sd).1/\Bsd sd ⟨[],0,0⟩ (Cb D sd).1):=by
 obtain ⟨m1,m2⟩:=h.Aq0 hns hn
 unfold Cb
 dsimp only
 split
 ·rename_i h163
  rcases m1 with m1|⟨m1,hm⟩
  ·obtain ⟨r1,r2⟩:=m1.O7 hns hn
   split
   ·rename_i h0
    exact (r2 h0).Aq0 hns hn
   ·rename_i h0
    exact ⟨r1,λhh=>absurd hh h0⟩
  ·rw [Zd m1]
   dsimp only
   rw [if_neg (by decide)]
   exact ⟨.inr ⟨m1,hm⟩,λhh=>by cases hh⟩
 ·exact ⟨m1,m2⟩
theorem Ar7 (hns:n≠sd) (hn:Ba sd=true):∀(m:Nat) (T:List UInt8),T.length<=m->∀{D:Dk}{g:Fl},St sd P A U n s D->Bsd sd g D->g.data.length+T.length<=60003 ->
  Saf (St sd P A U n s) sd P A (Dy sd T D).1/\((Dy sd T D).2=0->St sd P A U n s (Dy sd T D).1/\∃c,Bsd sd ⟨g.data++T,g.synced,c⟩ (Dy sd T D).1)
 |0,T,hm,D,g,h,hB,hl=>by
  obtain rfl:T=[]:=List.length_eq_zero_iff.1 (by omega)
  rw [Nw,List.append_nil]
  exact ⟨.inl h,λ_=>⟨h,g.count,hB⟩⟩
 | m+1,T,hm,D,g,h,hB,hl=>by
  by_cases hT:T=[]
  ·subst hT
   rw [Nw,List.append_nil]
   exact ⟨.inl h,λ_=>⟨h,g.count,hB⟩⟩
  ·have hpos:0<T.length:=List.length_pos_iff.2 hT
   have hlen:(T.take 1024).length+(T.drop 1024).length=T.length:=by rw [List.length_take,List.length_drop];omega
   obtain ⟨a1,a2⟩:=h.Ba7 (b:=T.take 1024) hns hn hB (by omega)
   rw [Rj hT]
   split
   ·rename_i h0
    obtain ⟨s1,c,b1⟩:=a2 h0
    have:=Ar7 hns hn m (T.drop 1024) (by rw [List.length_drop];omega) s1 b1 (by simp only [List.length_append];omega)
    have e1:(g.data++T.take 1024)++T.drop 1024=g.data++T:=by rw [List.append_assoc,List.take_append_drop]
    dsimp only at this
    rw [e1] at this
    exact this
   ·rename_i h0
    exact ⟨a1,λhh=>absurd hh h0⟩
theorem St.Bo3 (h:St (side n) P A U n s D) (hu:userName n=true) (hT:T.length<=60003) (hA:A (Ec U n (some T))) (t:Stm) :
  Saf (λE=>St (side n) P A U n s E\/(1<=(Gs D n T t).2.2.1/\St (side n) P A (Ec U n (some T)) n (Gs D n T t).2.2 E)) (side n) P A (Gs D n T t).1 /\
   ((Gs D n T t).2.1=0->1<=(Gs D n T t).2.2.1/\St (side n) P A (Ec U n (some T)) n (Gs D n T t).2.2 (Gs D n T t).1):=by
 obtain ⟨hn',hn⟩:=Jl hu
 have hns:n≠side n:=λhh=>Qr n hh.symm
 have hR1:∀t':Stm,∀E,(St (side n) P A U n s E\/(1<=t'.1/\St (side n) P A (Ec U n (some T)) n t' E))->∃U' s',St (side n) P A U' n s' E/\∀E',St (side n) P A U' n s' E'->(St (side n) P A U n s E'\/(1<=t'.1/\St (side n) P A (Ec U n (some T)) n t' E')):=λt' E hE=>by
  rcases hE with hE|⟨h1,hE⟩
  ·exact ⟨_,_,hE,λE' h'=>.inl h'⟩
  ·exact ⟨_,_,hE,λE' h'=>.inr ⟨h1,h'⟩⟩
 have cl:∀{E:Dk} {e:Int} (he:e≠0) (t':Stm),Saf (St (side n) P A U n s) (side n) P A E->Saf (λZ=>St (side n) P A U n s Z\/(1<=(clean E (side n) e t').2.2.1/\St (side n) P A (Ec U n (some T)) n (clean E (side n) e t').2.2 Z)) (side n) P A (clean E (side n) e t').1/\((clean E (side n) e t').2.1=0->1<=(clean E (side n) e t').2.2.1/\St (side n) P A (Ec U n (some T)) n (clean E (side n) e t').2.2 (clean E (side n) e t').1):=λ{E e} he t' hE=>by
  refine ⟨Ad6 (hR1 (clean E (side n) e t').2.2) hns hn (hE.mono .inl) e t',λh0=>?_⟩
  unfold clean at h0;rw [if_neg he] at h0;exact absurd h0 he
 obtain ⟨b1,b2⟩:=h.Bk5 hns hn
 by_cases hb:(Cb D (side n)).2≠0
 ·rw [Bc4 hb];exact cl hb t b1
 have hb:(Cb D (side n)).2=0:=Decidable.byContradiction hb
 obtain ⟨s1,B1⟩:=b2 hb
 obtain ⟨f1,f2⟩:=Ar7 hns hn T.length T (Nat.le_refl _) s1 B1 (by simpa using hT)
 by_cases hf:(Dy (side n) T (Cb D (side n)).1).2≠0
 ·rw [Bc3 hb hf];exact cl hf t f1
 have hf:(Dy (side n) T (Cb D (side n)).1).2=0:=Decidable.byContradiction hf
 obtain ⟨s2,c,B2⟩:=f2 hf
 rw [List.nil_append] at B2
 obtain ⟨y1,y2⟩:=s2.Bn0 hns hn B2 hT
 by_cases hy:(Dc (Dy (side n) T (Cb D (side n)).1).1 (side n)).2.1≠0
 ·rw [Bc2 hb hf hy];exact cl hy t y1
 have hy:(Dc (Dy (side n) T (Cb D (side n)).1).1 (side n)).2.1=0:=Decidable.byContradiction hy
 obtain ⟨s3,B3⟩:=y2 hy
 dsimp only at B3
 obtain ⟨p1,p2⟩:=s3.Ad3 hn
 by_cases hp:(Ai (Dc (Dy (side n) T (Cb D (side n)).1).1 (side n)).1 (side n)).2.1≠0
 ·rw [Bc1 hb hf hy hp];exact cl hp t p1
 have hp:(Ai (Dc (Dy (side n) T (Cb D (side n)).1).1 (side n)).1 (side n)).2.1=0:=Decidable.byContradiction hp
 obtain ⟨s4,q1,q2,q3,q4⟩:=p2 hp
 obtain ⟨E3,hE3⟩:∃E3,E3=(Dc (Dy (side n) T (Cb D (side n)).1).1 (side n)).1:=⟨_,rfl⟩
 rw [←hE3] at s3 B3 s4 q1 q2 q3 q4 hp
 have B4:Bsd (side n) ⟨T,T.length,c⟩ (Ai E3 (side n)).1:=by
  obtain ⟨i,h1,h2⟩:=B3
  exact ⟨i,by rw [q3];exact h1,by rw [q4];exact h2⟩
 have est:Ci (Ai E3 (side n)).1 (side n)=Ci E3 (side n):=Qp (by rw [q3]) λi _=>by unfold fl;rw [q4]
 obtain ⟨st2,h2,h3,r1,r2⟩:=s4.Av8 hns hn hn' B4 hA
 rw [est,←q1] at h2
 subst h2
 have hp':(Ai (Dc (Dy (side n) T (Cb D (side n)).1).1 (side n)).1 (side n)).2.1=0:=by rw [←hE3];exact hp
 rw [Ai4 hb hf hy hp',←hE3]
 obtain ⟨er,her⟩:∃er,er=(Eu (Ai E3 (side n)).1 (side n) n).2.1:=⟨_,rfl⟩
 rw [←her] at r2 ⊢
 have e2:∀E:Dk,(clean E (side n) er (Ai E3 (side n)).2.2).2.2=(Ai E3 (side n)).2.2:=λE=>by unfold clean;split<;>rfl
 refine ⟨?_,λh0=>?_⟩
 ·refine Ad6 (hR1 _) hns hn (r1.mono λhh=>hh.imp id λhh=>?_) er _
  rw [e2];exact ⟨h3,hh⟩
 ·have her0:er=0:=by
   unfold clean at h0
   split at h0
   ·assumption
   ·exact h0
  rw [e2]
  refine ⟨h3,?_⟩
  unfold clean
  rw [if_pos her0]
  exact r2 her0
def Kn (s known tried:Stm):Prop:=s=known\/(s=tried/\1<=s.1)
theorem St.write_any (h:St (side n) P A U n s D) (hu:userName n=true) (hT:T.length<=60003) (hA:A (Ec U n (some T))) (t:Stm) :
  Saf (λE=>∃U' s',(U'=U\/U'=Ec U n (some T))/\St (side n) P A U' n s' E/\Kn s' (Ey D n T t s).2.2.2 (Ey D n T t s).2.2.1) (side n) P A (Ey D n T t s).1 /\
   ((Ey D n T t s).2.1=0->∃s',St (side n) P (λW=>W=Ec U n (some T)) (Ec U n (some T)) n s' (Ey D n T t s).1/\s'=(Ey D n T t s).2.2.2):=by
 obtain ⟨r1,r2⟩:=h.Bo3 hu hT hA t
 obtain ⟨r,hr⟩:∃r,r=Gs D n T t:=⟨_,rfl⟩
 have e:Ey D n T t s=if r.2.1≠0 then (r.1,r.2.1,r.2.2,s) else ((Cm r.1).1,(Cm r.1).2.1,r.2.2,r.2.2):=by rw [hr];rfl
 rw [e]
 rw [←hr] at r1 r2
 split
 ·rename_i h0
  refine ⟨r1.mono λhh=>?_,λhh=>absurd hh h0⟩
  rcases hh with hh|⟨h1,hh⟩
  ·exact ⟨U,s,.inl rfl,hh,.inl rfl⟩
  ·exact ⟨_,_,.inr rfl,hh,.inr ⟨rfl,h1⟩⟩
 ·rename_i h0
  obtain ⟨h1,h2⟩:=r2 (Decidable.byContradiction h0)
  obtain ⟨y1,y2⟩:=h2.An4 hA
  exact ⟨y1.mono λhh=>⟨_,_,.inr rfl,hh,.inl rfl⟩,λhh=>⟨_,y2 hh,rfl⟩⟩
theorem Au4 (h:1<=(Ci D n).1):D.seen n≠none:=λhh=>by
 unfold Ci at h;rw [hh] at h
 have h:(1:Int)<=0:=h
 omega
theorem St.Bn9 (h:St (side X.name) P A U X.name s D) (hu:userName X.name=true) (hT:(X.mark++b).length<=60003) (hA:A (Ec U X.name (some (X.mark++b)))) (hk:Kn s X.known X.tried) :
  Saf (λE=>∃U' s',(U'=U\/U'=Ec U X.name (some (X.mark++b)))/\St (side X.name) P A U' X.name s' E/\Kn s' (Eo D X b force).2.2.known (Eo D X b force).2.2.tried) (side X.name) P A (Eo D X b force).1 /\
   ((Eo D X b force).2.1=0->∃s',St (side X.name) P (λW=>W=Ec U X.name (some (X.mark++b))) (Ec U X.name (some (X.mark++b))) X.name s' (Eo D X b force).1/\Kn s' (Eo D X b force).2.2.known (Eo D X b force).2.2.tried):=by
 obtain ⟨hn',hn⟩:=Jl hu
 obtain ⟨p1,p2⟩:=h.Ad3 hn'
 obtain ⟨st,hst⟩:∃st,st=Ai D X.name:=⟨_,rfl⟩
 have hnone:=λhh=>Au5 (D:=D) h.up hn' hh
 rw [←hst] at p1 p2 hnone
 have hsv:Eo D X b force=if st.2.1≠0/\st.2.1≠162 then (st.1,st.2.1,X) else
   if force=false/\st.2.2≠(if st.2.1=0/\st.2.2=X.tried then st.2.2 else X.known) then (st.1,170,{ X with known:=if st.2.1=0/\st.2.2=X.tried then st.2.2 else X.known }) else
   ((Ey st.1 X.name (X.mark++b) X.tried (if st.2.1=0/\st.2.2=X.tried then st.2.2 else X.known)).1,(Ey st.1 X.name (X.mark++b) X.tried (if st.2.1=0/\st.2.2=X.tried then st.2.2 else X.known)).2.1,{ X with tried:=(Ey st.1 X.name (X.mark++b) X.tried (if st.2.1=0/\st.2.2=X.tried then st.2.2 else X.known)).2.2.1,known:=(Ey st.1 X.name (X.mark++b) X.tried (if st.2.1=0/\st.2.2=X.tried then st.2.2 else X.known)).2.2.2 }):=by
  rw [hst];rfl
 rw [hsv]
 split
 ·rename_i h0
  exact ⟨p1.mono λhh=>⟨U,s,.inl rfl,hh,hk⟩,λhh=>absurd hh h0.1⟩
 rename_i h0
 have hst1:st.2.2=s/\(if st.2.1=0/\st.2.2=X.tried then st.2.2 else X.known)=s:=by
  by_cases h1:st.2.1=0
  ·obtain ⟨_,q1,q2,_⟩:=p2 h1
   have e1:st.2.2=s:=by rw [q1,h.stp]
   refine ⟨e1,?_⟩
   rw [e1]
   split
   ·rfl
   ·rename_i hh
    rcases hk with hk|⟨hk,_⟩
    ·exact hk.symm
    ·exact absurd ⟨h1,hk⟩ hh
  ·have h2:st.2.1=162:=Decidable.byContradiction λhh=>h0 ⟨h1,hh⟩
   obtain ⟨q1,q2⟩:=hnone h2
   have e0:s=(0,0,0):=by rw [←h.stp];unfold Ci;rw [q1]
   rw [if_neg (λhh=>h1 hh.1),q2,e0]
   refine ⟨rfl,?_⟩
   rcases hk with hk|⟨_,hk⟩
   ·rw [←hk,e0]
   ·rw [e0] at hk;exact absurd hk (by decide)
 rw [hst1.2,hst1.1]
 rw [if_neg (λhh=>hh.2 rfl)]
 rcases p1 with p1|⟨p1,hm⟩
 ·obtain ⟨w1,w2⟩:=p1.write_any hu hT hA X.tried
  exact ⟨w1,λhh=>let ⟨s',a,b⟩:=w2 hh;⟨s',a,.inl b⟩⟩
 ·exfalso
  have hd:=p1.down
  have:st.2.1=0\/st.2.1=162:=by
   by_cases h1:st.2.1=0
   ·exact .inl h1
   ·exact .inr (Decidable.byContradiction λhh=>h0 ⟨h1,hh⟩)
  rcases this with h1|h1
  ·have:=(p2 h1).1.up;rw [hd] at this;cases this
  ·have hdn:∀(a:Stm) (act:Dk->Dk×Int×Stm) (hact:(act { D with steps:=D.steps+1 }).1={ D with steps:=D.steps+1 }) ,(Dsk.step D a act none).2.1=162->(Dsk.step D a act none).1.down=false:=λa act hact=>by
    unfold Dsk.step
    rw [if_neg (by rw [h.up];simp)]
    split
    ·intro _;rw [hact];exact h.up
    ·unfold Tq
     repeat' split
     all_goals first|(intro _;rw [hact];exact h.up)|(intro _;exact h.up)|(intro hh;revert hh;simp)
   have:=hdn (0,0,0) (stR X.name) (st_fst _ _) (by have h1':=h1;rw [hst] at h1';exact h1')
   rw [hst] at hd
   have hd:(Dsk.step D ((0,0,0):Stm) (stR X.name) none).1.down=true:=hd
   rw [hd] at this;cases this
end
end Dq
end Go.Proofs.YtmooldhpiopcgaaGreatDoor
namespace Go.Proofs.YtmooldhpiopcgaaGreatDoor
namespace Dq
open Go Go.Vx Dsk
section
variable {D D' E:Dk}{N:Nat}{sd n:Nm}{A:Vw->Prop}{U V W:Vw}{s:Stm}{P:Int->Option Bq}{g:Fl}{T b:List UInt8}{X:Fil}{force:Bool}{k:Int}
theorem Bv2 (D:Dk){B:Nat}(hB:∀m i,D.seen m=some i->(fl D i).data.length<=B):Bv D none<=((names D.seen).length:Int)*(B:Int):=by
 unfold Bv
 have:=Vz (l:=(names D.seen).map (weigh D none)) (B:=(B:Int)) λx hx=>by
  obtain ⟨m,_,rfl⟩:=List.mem_map.1 hx
  unfold weigh
  cases hs:D.seen m with
  |none=>dsimp only;omega
  |some i =>
   have hb:=hB m i hs
   dsimp only
   split<;>omega
 rwa [List.length_map] at this
theorem St.room (h:St sd P A U n s D) (ok:Bl D N) (hU:∀m b,U m=some b->b.length<=60003):Bv D none<=960048:=by
 have h1:=Bv2 D (B:=60003) λm i hi=>by
  by_cases hm:m=sd
  ·subst hm;exact h.beside i hi
  ·obtain ⟨g,a,_,c⟩:=h.now.at_ m i hm hi
   have hf:fl D i=g:=by unfold fl;rw [List.getD_eq_getElem?_getD,a];rfl
   rw [hf];exact hU m _ c
 have h2:=ok.seen.names.2
 have h3:((names D.seen).length:Int)*((60003:Nat):Int)<=16*60003:=Int.mul_le_mul_of_nonneg_right (by omega) (by decide)
 omega
theorem St.few (h:St sd P A U n s D) (ok:Bl D N){L:List Nm}(hL:L.length<=15) (hm:∀m,U m≠none->m∈L) (hs:D.seen sd=none):(names D.seen).length<=15:=by
 obtain ⟨l1,_⟩:=ok.seen.names
 refine Nat.le_trans (List.Nodup.length_le_of_subset l1.1 λm hmem=>?_) hL
 have h1:=(l1.2 m).1 hmem
 cases hi:D.seen m with
 |none=>rw [hi] at h1;cases h1
 |some i =>
  have hne:m≠sd:=λhh=>by rw [hh,hs] at hi;cases hi
  obtain ⟨g,_,_,c⟩:=h.now.at_ m i hne hi
  exact hm m (by rw [c];simp)
theorem Put.Cp0 (h:Put D E n k ⟨T,T.length,s.2.2⟩) (hU:Hol D.files D.seen U (side n)) (ok:Bl D N) (hv:U (side n)=none) (ha:E.acts=[]):Sol E (Ec U n (some T)):=by
 have hfn:fl E D.files.length=⟨T,T.length,s.2.2⟩:=by unfold fl;rw [h.files,List.getD_eq_getElem?_getD];simp
 have hfo:∀i,i<D.files.length->fl E i=fl D i:=λi hi=>by unfold fl;rw [h.files,List.getD_eq_getElem?_getD,List.getD_eq_getElem?_getD,List.getElem?_append_left hi]
 refine ⟨h.q,ha,λm=>?_,λm i hi=>?_⟩
 ·rw [h.seen];unfold Dn Ec
  split
  ·rw [Option.map_some,hfn]
  ·rename_i hmn
   split
   ·rename_i hms;rw [hms,hv];rfl
   ·rename_i hms
    cases hm:D.seen m with
    |none=>rw [hU.no m hms hm];rfl
    |some i =>
     obtain ⟨g,a,_,c⟩:=hU.at_ m i hms hm
     have hf:fl D i=g:=by unfold fl;rw [List.getD_eq_getElem?_getD,a];rfl
     rw [Option.map_some,hfo i (ok.seen.ids m i hm),hf,c]
 ·rw [h.seen] at hi;unfold Dn at hi
  split at hi
  ·cases hi;rw [hfn]
  ·split at hi
   ·cases hi
   ·rename_i hms
    obtain ⟨g,a,b,_⟩:=hU.at_ m i hms hi
    have hf:fl D i=g:=by unfold fl;rw [List.getD_eq_getElem?_getD,a];rfl
    rw [hfo i (ok.seen.ids m i hi),hf];exact b
theorem St.quiet (h:St (side X.name) P A U X.name s D) (q:Quiet D) (ok:Bl D N) (hu:userName X.name=true) (hU:∀m b,U m=some b->b.length<=60003) (hUs:U (side X.name)=none){L:List Nm}(hL:L.length<=15) (hm:∀m,U m≠none->m∈L) (hT:(X.mark++b).length<=60003) (hk:force=true\/Kn s X.known X.tried) :
  ∃c,(Eo D X b force).2=(0,{ X with tried:=((D.files.length:Int)+1,((X.mark++b).length:Int),c),known:=((D.files.length:Int)+1,((X.mark++b).length:Int),c) }) /\
   Sol (Eo D X b force).1 (Ec U X.name (some (X.mark++b)))/\(Eo D X b force).1.space=1048576/\Ci (Eo D X b force).1 X.name=((D.files.length:Int)+1,((X.mark++b).length:Int),c):=by
 have hr:=h.room ok hU
 obtain ⟨c,h1,h2,h3,_⟩:=Vj (X:=X) (b:=b) (force:=force) q ok hu (λhs=>by have:=h.few ok hL hm hs;omega) (by rw [h.space];omega) (hk.imp id λhk=>by
  rw [h.stp]
  unfold Jd
  rw [h.stp]
  split
  ·rfl
  ·rename_i hh
   rcases hk with hk|⟨hk,h1⟩
   ·exact hk
   ·exact absurd ⟨Au4 (by rw [h.stp];exact h1),hk⟩ hh)
 exact ⟨c,h1,Put.Cp0 (s:=(0,0,c)) h2 h.now ok hUs h3,h2.space.trans h.space,h2.stamp⟩
theorem Sol.hol (sol:Sol D V) (ok:Bl D N):Hol D.files D.seen V sd:=⟨λm _ h0=>sol.Ig.1 h0,λm i _ hi=>by
 obtain ⟨g,hg,hf⟩:=Qb ok hi
 have h1:=sol.view m
 rw [hi,Option.map_some,hf] at h1
 have h2:=sol.dry m i hi
 rw [hf] at h2
 exact ⟨g,hg,h2,h1.symm⟩⟩
theorem Ce0 (sol:Sol D V) (ok:Bl D N) (hv:V sd=none) (hsp:D.space=1048576) (n:Nm):St sd D.plan (λW=>W=V) V n (Ci D n) D:=by
 have hs:D.seen sd=none:=sol.Ig.2 hv
 refine ⟨⟨sol.q.up,rfl,⟨_,ok⟩,λk=>⟨V,rfl,?_⟩⟩,sol.hol ok,λk m j _ _ hh=>(by rw [hs] at hh;cases hh),rfl,hsp,λi hi=>(by rw [hs] at hi;cases hi)⟩
 rw [sol.acts,List.take_nil]
 show Hol D.files D.lasts V sd
 rw [sol.lasts];exact sol.hol ok
theorem St.planned (h:St sd P A U n s D) (fl:List (Int×Bq)):St sd (plan D fl).plan A U n s (plan D fl):=by
 obtain ⟨M,ok⟩:=h.ok
 exact ⟨⟨h.up,rfl,⟨_,Aj3 ok fl⟩,h.pre⟩,h.now,h.apart,h.stp,h.space,h.beside⟩
theorem Sol.loss (sol:Sol D V) (ok:Bl D N) (nm:Int) (bytes:List Int):Sol (restart (Dsk.crash D nm bytes)) V/\(restart (Dsk.crash D nm bytes)).space=D.space/\(∀m,Ci (restart (Dsk.crash D nm bytes)) m=Ci D m)/\(restart (Dsk.crash D nm bytes)).seen=D.seen:=by
 have hl:Dsk.names D.lasts=Dsk.names D.seen:=by rw [sol.lasts]
 have e:Dsk.crash D nm bytes={ D with acts:=[],down:=true }:=by
  unfold Dsk.crash
  rw [if_neg (by rw [sol.q.up];simp)]
  have h1:Ez (D.acts.take (min (max nm 0).toNat D.acts.length)) D.lasts=D.lasts:=by rw [sol.acts,List.take_nil];rfl
  rw [h1]
  have h2:=Z5 D.lasts bytes (Dsk.names D.lasts) 0 D.files λm hm=>by
   rw [hl] at hm
   obtain ⟨l1,_⟩:=ok.seen.names
   have:=(l1.2 m).1 hm
   cases hi:D.seen m with
   |none=>rw [hi] at this;cases this
   |some i =>
    obtain ⟨g,hg,hf⟩:=Qb ok hi
    have hd:=sol.dry m i hi
    rw [hf] at hd
    exact ⟨i,g,by rw [sol.lasts];exact hi,hg,hd⟩
  dsimp only
  rw [h2]
 have e2:restart (Dsk.crash D nm bytes)={ D with acts:=[],down:=false,plan:=λ_=>none,steps:=0 }:=by rw [e];rfl
 have hs:(restart (Dsk.crash D nm bytes)).seen=D.seen:=by rw [e2];show D.lasts=_;exact sol.lasts
 have hf:∀i,fl (restart (Dsk.crash D nm bytes)) i=fl D i:=λi=>by rw [e2];rfl
 refine ⟨⟨by rw [e2];exact ⟨rfl,λ_=>rfl⟩,by rw [e2],λm=>?_,λm i hi=>?_⟩,by rw [e2],λm=>Qp (by rw [hs]) λi _=>hf i,hs⟩
 ·rw [hs,←sol.view m]
  cases D.seen m with
  |none=>rfl
  |some i=>rw [Option.map_some,Option.map_some,hf]
 ·rw [hs] at hi;rw [hf];exact sol.dry m i hi
end
end Dq
end Go.Proofs.YtmooldhpiopcgaaGreatDoor
namespace Go.Proofs.YtmooldhpiopcgaaGreatDoor
namespace Dq
open Go Go.Vx Dsk Cdc Trx
section
variable {w w':World}{S P F F':Nat->Prop}{d:Nat}{D:Dk}{N:Nat}
theorem Ck3 (A:DS w d F D N){x:Sl}{rows:List (Cells.T Gj)}{fl:List (Int×Bq)}(hx:Fe w (λk=>k<w.heap.size/\¬F k) x rows fl) (hl:fl.length<=2^60){K:Unit->Wp}(hK:∀F' w',DS w' d F' (plan D fl) (N+2)->Upd F w w'->(∀k,F' k->F k\/w.heap.size<=k)->K () w') :
  Aa Tryz.prog 35 #[.pointer (some (at0 d)),x.v] (.tup []) K w :=
 Ad8 A.disk hx hl λF' w' A' u hF=>hK _ w' (A.of A' (Aj3 (A.ok.mono (Nat.le_add_right _ _)) _) hF A.pos) u λk hk=>hF k hk.1
theorem Cg9 (A:DS w d F D N) (hN:N<=2^60){c:Int×Sl×Unit}{bytes:List Int}(hc:SlX w c.2.1 1 (iv bytes)) (hcl:Lie (λk=>¬F k) c.2.1){K:Unit->Wp}
  (hK:∀F' w',DS w' d F' (crash D c.1 bytes) (N+2)->Upd F w w'->(∀k,F' k->F k\/w.heap.size<=k)->K () w') :
  Aa Tryz.prog 40 #[.pointer (some (at0 d)),.agg (Cells.vals c72 c).toArray] (.tup []) K w:=by
 obtain ⟨ms,ml,sa,pl,vs,fb,ds,A'⟩:=A.disk
 exact Z7 A' A.ok hN ⟨hc,.inl hcl⟩ λF' w' A2 u hF=>hK _ w' (A.of A2 ((Wq A.ok _ _).mono (Nat.le_add_right _ _)) hF A.pos) u λk hk=>hF k hk.1
theorem Bo2 (A:DS w d F D N){K:Unit->Wp}(hK:∀F' w',DS w' d F' (restart D) (N+2)->Upd F w w'->(∀k,F' k->F k\/w.heap.size<=k)->K () w') :
  Aa Tryz.prog 42 #[.pointer (some (at0 d))] (.tup []) K w :=
 Ai2 A.disk λw' A' u=>hK _ w' (A.of A' ((Ax1 A.ok).mono (Nat.le_add_right _ _)) (λk hk=>.inl hk) A.pos) u λk hk=>.inl hk.1
end
end Dq
end Go.Proofs.YtmooldhpiopcgaaGreatDoor
namespace Go.Proofs.YtmooldhpiopcgaaGreatDoor
namespace Dq
open Go Go.Vx Dsk Cdc Trx
section
variable {w w':World}{S P F F':Nat->Prop}{d:Nat}{D:Dk}{N:Nat}
theorem EFt:Ie Tryz.prog 69 132 5 56:=Ie.of (z:=.agg #[.int .i64 0,.int .i64 0,.int .i64 0,.int .i64 0,.slice none 0 0]) C69 Cb8 rfl rfl rfl (by decide)
theorem uFt:Tryz.prog.underlying 69=some (.slice 132):=C69.und
theorem Fe.mono {P':Nat->Prop}{x:Sl}{rows:List (Cells.T Gj)}{fl:List (Int×Bq)}(h:Fe w P x rows fl) (hp:∀k,P k->P' k):Fe w P' x rows fl :=
 ⟨h.row,h.blk.imp id λhh k hk=>hp k (hh k hk),h.len,λi r f hr hf=>let ⟨a,b,c,d,e,g,l⟩:=h.at_ i r f hr hf;⟨a,b,c,d,e,g,l.imp id λhh k hk=>hp k (hh k hk)⟩⟩
theorem Bi1 {c:Cells.T c72}{l:List Int}(hc:SlX w c.2.1 1 (iv l)) (hl:l.length<=2^44){K:(Int×Sl×Unit)->Wp}(hK:∀s w',Au w' w.heap.size s 3 1 (iv l)->Ext w w'->K (c.1,s,()) w') :
  Aa Tryz.prog 41 #[.agg (Cells.vals c72 c).toArray] (.one (.agg c72)) K w:=by
 refine j41 (a0:=c) ?_
 unfold F41
 obtain ⟨nm,s,⟨⟩⟩:=c
 dsimp only at hc hK ⊢
 have hxl:=hc.len1
 rw [List.length_map] at hxl
 refine Aq λb1 w1 e1 n1 hb1 hz1=>Aq λb2 w2 e2 n2 hb2 hz2=>Dh λw3 e3 _=>?_
 have m1:=e3.ext_get (e2.ext_get n1)
 have e03:=(e1.trans e2).trans e3
 have z3:=e3.size
 refine Ah m1 (off:=0) (x:=nm) rfl (Ah m1 (off:=1) (x:=s) rfl ?_)
 refine Fg EI uI (B:=w3.heap.size) (s:=⟨none,0,0⟩) (vs:=[]) (Au.nil _ _ _ _) (hc.ext e03) (Br7 l) (by show (0+s.len+(0+s.len)/4+512)*8<=_;omega) (Nat.le_refl _) λs4 w4 h4 hl4 u4 hb4=>?_
 have e4:Ext w3 w4:=u4.mono λk _ h=>by obtain ⟨q,hq,_⟩:=h;cases hq
 have h4:Au w4 w3.heap.size s4 3 1 (iv l):=by simpa using h4
 refine Ar (cell_of (off:=0) (e4.ext_get m1) rfl) (Fb (e4.ext_get (e3.ext_get n2)) rfl rfl (by decide) λw5 u5 n5 z5=>?_)
 have n5:w5.heap[b2]?=some (.cells (Cells.vals c72 (nm,s4,())).toArray 72 (0,0)):=n5
 refine Gi (x:=((nm,s4,()):Cells.T c72)) n5 (λi v hv=>by rw [Nat.zero_add,←Array.getElem?_toList];exact hv) (hK s4 w5 ((h4.mono (by have:=e03.size;omega)).upd u5 λk _ hk hh=>by have:=h4.Ew hk;omega) ((e03.trans e4).step u5 λk hk=>by omega))
structure He (w:World) (B:Nat) (x:Sl) (rows:List (Cells.T Gj)) (fl:List (Int×Bq)):Prop where
 row:Au w B x 132 5 (flat Gj rows)
 len:rows.length=fl.length
 at_:∀(i:Nat) (r:Cells.T Gj) (f:Int×Bq),rows[i]?=some r->fl[i]?=some f->r.1=f.1/\r.2.1=f.2.kind/\r.2.2.1=f.2.part/\r.2.2.2.1=f.2.names/\Au w B r.2.2.2.2.1 3 1 (iv f.2.bytes)/\f.2.bytes.length<=2^44
theorem He.in {B:Nat}{x:Sl}{rows:List (Cells.T Gj)}{fl:List (Int×Bq)}(h:He w B x rows fl):Fe w (λk=>B<=k/\k<w.heap.size) x rows fl :=
 ⟨h.row.in.x,.inr λk hk=>⟨h.row.Ew hk,h.row.in.Em hk⟩,h.len,λi r f hr hf=>let ⟨a,b,c,d,e,g⟩:=h.at_ i r f hr hf;⟨a,b,c,d,e.in.x,g,.inr λk hk=>⟨e.Ew hk,e.in.Em hk⟩⟩⟩
theorem He.upd {B:Nat}{x:Sl}{rows:List (Cells.T Gj)}{fl:List (Int×Bq)}(h:He w B x rows fl) (u:Ext w w'):He w' B x rows fl :=
 ⟨h.row.ext u,h.len,λi r f hr hf=>let ⟨a,b,c,d,e,g⟩:=h.at_ i r f hr hf;⟨a,b,c,d,e.ext u,g⟩⟩
theorem He.push {B:Nat}{W w5:World}{sl s2:Sl}{rows:List (Cells.T Gj)}{fl:List (Int×Bq)}(h:He W B sl rows fl){r:Cells.T Gj}{g:Int×Bq}(h5:Au w5 B s2 132 5 (flat Gj rows++Cells.vals Gj r)) (u5:Upd sl.blk W w5)
  (q:r.1=g.1/\r.2.1=g.2.kind/\r.2.2.1=g.2.part/\r.2.2.2.1=g.2.names/\Au W B r.2.2.2.2.1 3 1 (iv g.2.bytes)/\g.2.bytes.length<=2^44):He w5 B s2 (rows++[r]) (fl++[g]):=by
 have hl1:=h.len
 refine ⟨by rw [Nb];simpa [flat] using h5,by simp;omega,λi r2 f2 hr2 hf2=>?_⟩
 have keep:∀{y:Sl} {l:List Int},Au W B y 3 1 (iv l)->Au w5 B y 3 1 (iv l):=λhh=>hh.ty u5 (Cc.blk h.row.in (by decide))
 by_cases hi:i<rows.length
 ·rw [List.getElem?_append_left hi] at hr2
  rw [List.getElem?_append_left (by omega)] at hf2
  obtain ⟨a,b,c,d,e,g'⟩:=h.at_ i r2 f2 hr2 hf2
  exact ⟨a,b,c,d,keep e,g'⟩
 ·rw [List.getElem?_append_right (by omega)] at hr2
  rw [List.getElem?_append_right (by omega)] at hf2
  have h1:=List.mem_of_getElem? hr2
  have h2:=List.mem_of_getElem? hf2
  simp at h1 h2
  subst h1 h2
  obtain ⟨a,b,c,d,e,g'⟩:=q
  exact ⟨a,b,c,d,keep e,g'⟩
theorem Bi9 (r:Cells.T Gj):∀v∈Cells.vals Gj r,Du v=true:=λv hv=>by
 simp [Cells.vals,Cell.val] at hv
 rcases hv with rfl|rfl|rfl|rfl|rfl<;>rfl
def Hw (l:List (Int×Bq)):List (Int×Bq):=(l.filter λf=>decide (1<=f.2.kind/\f.2.kind<=3)).map λf=>(f.1,⟨f.2.kind,f.2.part,0,[]⟩)
theorem Ax6 (l:List (Int×Bq)) (g:Int×Bq):Hw (l++[g])=if 1<=g.2.kind/\g.2.kind<=3 then Hw l++[(g.1,⟨g.2.kind,g.2.part,0,[]⟩)] else Hw l:=by
 unfold Hw
 rw [List.filter_append,List.map_append]
 by_cases h:1<=g.2.kind/\g.2.kind<=3
 ·rw [if_pos h,List.filter_cons_of_pos (by simpa using h)];rfl
 ·rw [if_neg h,List.filter_cons_of_neg (by simpa using h)];simp
theorem Ap9 (l:List (Int×Bq)):(Hw l).length<=l.length:=by unfold Hw;rw [List.length_map];exact List.length_filter_le _ _
set_option maxHeartbeats 1000000 in
theorem Ae9 {x:Sl}{rows:List (Cells.T Gj)}{fl:List (Int×Bq)}(hx:Fe w P x rows fl) (hl:fl.length<=2^30){K:Sl->Wp}(hK:∀s rows' w',He w' w.heap.size s rows' (Hw fl)->Ext w w'->K s w') :
  Aa Tryz.prog 45 #[x.v] rS K w:=by
 refine j45 (a0:=x) ?_
 unfold F45
 have hxl:rows.length=x.len:=hx.row.Oi (cs:=Gj) (by decide)
 have hlen:=hx.len
 refine Ag (λx W=>∃rows',He W w.heap.size x.1 rows' (Hw fl)/\Ext w W) ?_ ?_
 ·refine Bz (λs W=>∃(j:Nat) (sl:Sl) (rows':List (Cells.T Gj)),s=(sl,(j:Int),())/\j<=rows.length/\He W w.heap.size sl rows' (Hw (fl.take j))/\Ext w W) (λs _=>rows.length-s.2.1.toNat)
   ⟨0,⟨none,0,0⟩,[],rfl,Nat.zero_le _,⟨Au.nil _ _ _ _,rfl,λi r f hr=>by simp at hr⟩,Ext.refl _⟩ ?_
  rintro _ W ⟨j,sl,rows',rfl,hj,hs,eW⟩
  dsimp only
  refine Ac (λh=>?_) (λh=>?_)
  ·have h:j<rows.length:=by have:=of_decide_eq_true h;omega
   obtain ⟨r,hr⟩:∃r,rows[j]?=some r:=⟨_,List.getElem?_eq_getElem h⟩
   obtain ⟨g,hg⟩:∃g,fl[j]?=some g:=⟨_,List.getElem?_eq_getElem (by omega)⟩
   have xW:=hx.upd eW λk _ h=>h
   obtain ⟨q1,q2,q3,q4,q5,q6,q7⟩:=xW.at_ j r g hr hg
   obtain ⟨t,tW⟩:=SlX.Af2 xW.row (by omega)
   have ew:IntKind.wrap .i64 ((j:Int)+1)=((j+1:Nat):Int):=by rw [wrap64 (by omega) (by omega)];omega
   have htk:Hw (fl.take (j+1))=if 1<=g.2.kind/\g.2.kind<=3 then Hw (fl.take j)++[(g.1,⟨g.2.kind,g.2.part,0,[]⟩)] else Hw (fl.take j):=by rw [List.take_add_one,hg];exact Ax6 _ g
   have hr':rows[Int.toNat (j:Int)]?=some r:=by rw [Int.toNat_natCast];exact hr
   rw [ew]
   refine Ag (λy W'=>∃(s2:Sl) (rows2:List (Cells.T Gj)),y=(s2,())/\He W' w.heap.size s2 rows2 (Hw (fl.take (j+1)))/\Ext w W') ?_ ?_
   ·refine Bj (decide (1<=g.2.kind/\g.2.kind<=3),()) (Vm (c:=.int .i64) (cs:=Gj) (j:=1) tW (by omega) hr' rfl λ_=>?_) ?_
    ·show sif (decide (r.2.1>=1)) _ _ W
     rw [q2]
     refine Ac (λh1=>Vm (c:=.int .i64) (cs:=Gj) (j:=1) tW (by omega) hr' rfl λ_=>⟨Dx ?_,rfl⟩) λh1=>⟨Dx ?_,rfl⟩
     ·have h1:(1:Int)<=g.2.kind:=of_decide_eq_true h1
      show decide (r.2.1<=3)=true↔_
      rw [q2,decide_eq_true_eq,decide_eq_true_eq]
      exact (by omega:(g.2.kind<=3)↔(1<=g.2.kind/\g.2.kind<=3))
     ·have h1:¬(1:Int)<=g.2.kind:=of_decide_eq_false h1
      rw [decide_eq_true_eq]
      constructor
      ·intro hh;cases hh
      ·intro hh;omega
    refine Ac (λhk=>?_) λhk=>?_
    ·have hk:=of_decide_eq_true hk
     rw [if_pos hk] at htk
     refine Dh λw1 e1 _=>?_
     have tW1:=tW.ext e1
     refine D8 (c:=.int .i64) (cs:=Gj) tW1 (by omega) hr' rfl λ_=>Vm (c:=.int .i64) (cs:=Gj) (j:=1) tW1 (by omega) hr' rfl λ_=>Vm (c:=.int .i64) (cs:=Gj) (j:=2) tW1 (by omega) hr' rfl λ_=>Aq λb19 w2 e2 n2 hb2 hz2=>?_
     have eA:=e1.trans e2
     have hsA:=hs.upd eA
     have hrl:rows'.length=sl.len:=hs.row.Oi (cs:=Gj) (by decide)
     have hl1:=hs.len
     have hl2:=Ap9 (fl.take j)
     rw [List.length_take] at hl2
     have hbox:SlX w2 ⟨some (at0 b19),1,1⟩ 5 (Cells.vals Gj (r.1,r.2.1,r.2.2.1,(0:Int),(⟨none,0,0⟩:Sl),())):=(Cj.Jq (n:=1) (sz:=5) n2 rfl).x
     refine Fg EFt uFt (s:=sl) (x:=⟨some (at0 b19),1,1⟩) hsA.row hbox (Bi9 _) (by show (sl.len+1+(sl.len+1)/4+512)*56<=_;omega) (by have:=eA.size;have:=eW.size;omega) λs2 w6 h6 hl6 u6 hb6=>?_
     exact ⟨s2,rows'++[(r.1,r.2.1,r.2.2.1,(0:Int),(⟨none,0,0⟩:Sl),())],rfl,by rw [htk];exact hsA.push h6 u6 ⟨q1,q2,q3,rfl,Au.nil _ _ _ _,Nat.zero_le _⟩,(eW.trans eA).step u6 λk hk=>hs.row.Ew hk⟩
    ·have hk:=of_decide_eq_false hk
     rw [if_neg hk] at htk
     exact ⟨sl,rows',rfl,by rw [htk];exact hs,eW⟩
   rintro _ W2 ⟨s2,rows2,rfl,h2,e2⟩
   exact ⟨⟨j+1,s2,rows2,rfl,h,h2,e2⟩,by simp only [Int.toNat_natCast];omega⟩
  ·have h:¬j<rows.length:=by have:=of_decide_eq_false h;omega
   rw [List.take_of_length_le (by omega)] at hs
   exact ⟨rows',hs,eW⟩
 ·rintro ⟨s,⟨⟩⟩ W ⟨rows',h1,h2⟩
  exact hK s rows' W h1 h2
end
end Dq
end Go.Proofs.YtmooldhpiopcgaaGreatDoor
namespace Go.Proofs.YtmooldhpiopcgaaGreatDoor
namespace Dq
open Go Go.Vx Dsk Cdc Trx Flp
section
variable {w w':World}{S P F F':Nat->Prop}{d:Nat}{D:Dk}{N:Nat}{fs:Fls}{n:Nm}{V U:Vw}{b:List UInt8}{X:Fil}
theorem P8 {Q:Bq->Prop}:∀(l:List (Int×Bq)) (f:Int->Option Bq),(∀x∈l,Q x.2)->(∀k g,f k=some g->Q g)->∀k g,La l f k=some g->Q g
 |[],_,_,hf=>hf
 | x::r,f,hl,hf=>by
  unfold La
  refine P8 r _ (λy hy=>hl y (List.mem_cons_of_mem _ hy)) λk g hg=>?_
  split at hg
  ·exact hf k g hg
  ·dsimp only at hg
   split at hg
   ·cases hg;exact hl x List.mem_cons_self
   ·exact hf k g hg
theorem Bh8 (D:Dk) (l:List (Int×Bq)):Ci4 (plan D (Hw l)).plan:=by
 intro k f hf
 refine P8 (Q:=λf=>f.kind≠4/\f.kind≠5) (Hw l) (λ_=>none) (λx hx=>?_) (λk g hg=>by cases hg) k f hf
 unfold Hw at hx
 obtain ⟨y,hy,rfl⟩:=List.mem_map.1 hx
 have:=(List.mem_filter.1 hy).2
 simp only [decide_eq_true_eq] at this
 dsimp only
 omega
def Rp (D:Dk) (X:Fil) (V:Vw):Prop:=∃P U s,Ci4 P/\St (side X.name) P (λ_=>True) U X.name s D/\Kn s X.known X.tried/\(∀m,m≠X.name->U m=V m)/\∀b,U X.name=some b->b.length<=60003
theorem Ao4 (hV:∀m b,V m=some b->b.length<=60003){n:Nm}(h1:∀m,m≠n->U m=V m) (h2:∀b,U n=some b->b.length<=60003):∀m b,U m=some b->b.length<=60003:=λm b hb=>by
 by_cases hm:m=n
 ·subst hm;exact h2 b hb
 ·rw [h1 m hm] at hb;exact hV m b hb
theorem Ao3 {L:List Nm}(hVL:∀m,V m≠none->m∈L){n:Nm}(hn:n∈L) (h1:∀m,m≠n->U m=V m):∀m,U m≠none->m∈L:=λm hm=>by
 by_cases h:m=n
 ·subst h;exact hn
 ·rw [h1 m h] at hm;exact hVL m hm
theorem Bw5 {T:List UInt8}(h1:∀m,m≠n->U m=V m):Ec U n (some T)=Ec V n (some T):=by
 funext m;unfold Ec;split
 ·rfl
 ·rename_i h;exact h1 m h
theorem Rp.round (h:Rp D X V) (hu:userName X.name=true) (hV:∀m b,V m=some b->b.length<=60003) (hVs:V (side X.name)=none){L:List Nm}(hL:L.length<=15) (hVL:∀m,V m≠none->m∈L) (hn:X.name∈L) (hT:(X.mark++b).length<=60003) (fl:List (Int×Bq)) :
  (Hw fl=[]->(Eo (plan D (Hw fl)) X b false).2.1=0)/\Rp (Eo (plan D (Hw fl)) X b false).1 (Eo (plan D (Hw fl)) X b false).2.2 V:=by
 obtain ⟨P,U,s,_,hst,hk,h1,h2⟩:=h
 have h0:=hst.planned (Hw fl)
 have hm:=Bh8 D fl
 obtain ⟨r1,r2⟩:=h0.Bn9 (b:=b) (force:=false) hu hT trivial hk
 have hsm:(Eo (plan D (Hw fl)) X b false).2.2.name=X.name:=Ky.2
 constructor
 ·intro he
  rw [he] at h0 ⊢
  obtain ⟨M,ok⟩:=h0.ok
  obtain ⟨c,q1,_⟩:=h0.quiet (b:=b) (force:=false) ⟨h0.up,λk=>rfl⟩ ok hu (Ao4 hV h1 h2) (by rw [h1 _ (Qr _)];exact hVs) hL (Ao3 hVL hn h1) hT (.inr hk)
  rw [q1]
 ·rcases r1 with ⟨U',s',hU',hS',hk'⟩|⟨_,hh⟩
  ·refine ⟨_,U',s',hm,by rw [hsm];exact hS',hk',?_,?_⟩
   ·rw [hsm]
    rcases hU' with rfl|rfl
    ·exact h1
    ·intro m hmn;unfold Ec;rw [if_neg hmn];exact h1 m hmn
   ·rw [hsm]
    rcases hU' with rfl|rfl
    ·exact h2
    ·intro c hc;unfold Ec at hc;rw [if_pos rfl] at hc;cases hc;exact hT
  ·exact absurd hm hh
theorem Rp.last (h:Rp D X V) (hu:userName X.name=true) (hV:∀m b,V m=some b->b.length<=60003) (hVs:V (side X.name)=none){L:List Nm}(hL:L.length<=15) (hVL:∀m,V m≠none->m∈L) (hn:X.name∈L) (hT:(X.mark++b).length<=60003) :
  (Eo (plan D []) X b false).2.1=0/\Sol (Eo (plan D []) X b false).1 (Ec V X.name (some (X.mark++b)))/\(Eo (plan D []) X b false).1.space=1048576:=by
 obtain ⟨P,U,s,_,hst,hk,h1,h2⟩:=h
 have h0:=hst.planned []
 obtain ⟨M,ok⟩:=h0.ok
 obtain ⟨c,q1,q2,q3,_⟩:=h0.quiet (b:=b) (force:=false) ⟨h0.up,λk=>rfl⟩ ok hu (Ao4 hV h1 h2) (by rw [h1 _ (Qr _)];exact hVs) hL (Ao3 hVL hn h1) hT (.inr hk)
 rw [Bw5 h1] at q2
 exact ⟨by rw [q1],q2,q3⟩
theorem Rp.first (sol:Sol D V) (ok:Bl D N) (hsp:D.space=1048576) (hVs:V (side X.name)=none) (hV:∀m b,V m=some b->b.length<=60003) (hk:X.known=Ci D X.name):Rp D X V :=
 ⟨D.plan,V,Ci D X.name,λk f hf=>(by rw [sol.q.plan k] at hf;cases hf),(Ce0 sol ok hVs hsp X.name).mono λ_ _=>trivial,.inl hk.symm,λ_ _=>rfl,λb hb=>hV _ b hb⟩
theorem Bv9 (sol:Sol D V) (ok:Bl D N){L:List Nm}(hL:L.length<=15) (hVL:∀m,V m≠none->m∈L):(Dsk.names D.seen).length<=15:=by
 obtain ⟨l1,_⟩:=ok.seen.names
 refine Nat.le_trans (List.Nodup.length_le_of_subset l1.1 λm hmem=>?_) hL
 have h1:=(l1.2 m).1 hmem
 refine hVL m λhh=>?_
 rw [sol.Ig.2 hh] at h1;cases h1
theorem Ao1 (fs:Fls) (n:Nm):∀m,Az fs m≠none->m∈n::fs.map (·.1):=λm hm=>by
 cases hv:Az fs m with
 |none=>exact absurd hv hm
 |some b =>
  obtain ⟨j,f,hf,rfl⟩:=Ac1 hv
  exact List.mem_cons_of_mem _ (List.mem_map.2 ⟨f,List.mem_of_getElem? hf,rfl⟩)
structure Ag8 (w:World) (s:Sl) (rows:List (Cells.T c86)) (rs:List (List UInt8×List (Int×Bq))):Prop where
 row:SlX w s 2 (flat c86 rows)
 len:rows.length=rs.length
 at_:∀(i:Nat) r f,rows[i]?=some r->rs[i]?=some f->Bytes w r.1 f.1/\(∃frows,Fe w (λk=>k<w.heap.size) r.2.1 frows f.2)/\f.2.length<=2^30
theorem Fe.ext {B:Nat}{x:Sl}{rows:List (Cells.T Gj)}{fl:List (Int×Bq)}(h:Fe w (λk=>k<w.heap.size) x rows fl) (e:Ext w w'):Fe w' (λk=>k<w'.heap.size) x rows fl :=
 (h.upd e λ_ _ hh=>hh).mono λk hk=>Nat.lt_of_lt_of_le hk e.size
theorem Ag8.ext {s:Sl}{rows:List (Cells.T c86)}{rs:List (List UInt8×List (Int×Bq))}(h:Ag8 w s rows rs) (e:Ext w w'):Ag8 w' s rows rs :=
 ⟨h.row.ext e,h.len,λi r f hr hf=>let ⟨a,⟨fr,b⟩,c⟩:=h.at_ i r f hr hf;⟨a.ext e,⟨fr,b.ext (B:=0) e⟩,c⟩⟩
theorem Bz4 {c:Cell}{cs:List Cell}{s:Sl}{t:TypeId}{xs:List (Cells.T cs)}(h:Cj w s t cs.length (flat cs xs)){i:Nat}{x:Cells.T cs}{y:c.T}(hx:xs[i]?=some x) (hy:(Cells.vals cs x)[0]?=some (c.val y)){K:Addr->c.T->Wp}(hK:∀p,(∀w',Ext w w'->w'.cell? (p.add (scaled (Int.toNat (i:Int)) cs.length))=some (c.val y))->K p y w) :
  ix s.a s.len (i:Int) (λp=>ld c (p.add (scaled (Int.toNat (i:Int)) cs.length)) (K p)) w:=by
 have hlt:=(List.getElem?_eq_some_iff.1 hx).1
 have hjl:0<cs.length:=by
  have:=(List.getElem?_eq_some_iff.1 hy).1
  rwa [Hf] at this
 have hl:=h.Oi hjl
 refine h.ix (by omega) (by omega) hjl λb off ha hv=>?_
 have h0:=hv 0 (c.val y) (by
  have:=flat_get cs xs i 0 x hx hjl
  rw [Int.toNat_natCast,this];exact hy)
 rw [addr_add]
 have h1:w.cell? (⟨b,off+scaled (Int.toNat (i:Int)) cs.length,none⟩:Addr)=some (c.val y):=by simpa [Gm] using h0
 refine Af0 (x:=y) h1 (hK _ λw' e=>?_)
 rw [addr_add]
 exact Ar9 e h1
end
end Dq
end Go.Proofs.YtmooldhpiopcgaaGreatDoor
namespace Go.Proofs.YtmooldhpiopcgaaGreatDoor
namespace Cdc
theorem Gl {n:Nat}(h:n<256):(UInt8.ofNat n).toNat=n:=by rw [UInt8.toNat_ofNat'];omega
theorem Ag2 (q:Nat):cont (UInt8.ofNat (128+q%64))=true:=by
 unfold cont;rw [Gl (by omega)];simp;omega
def Scalar (a:Int):Prop:=(0<=a/\a<55296)\/(57343<a/\a<=1114111)
theorem Cf8 {a:Int}(h:Scalar a) (r:Bs):nx8 (pt8 a++r)=(a,sz8 a):=by
 obtain ⟨n,rfl⟩:∃n:Nat,a=(n:Int):=Int.eq_ofNat_of_zero_le (by rcases h with h|h<;>omega)
 have hs:sz8 (n:Int)=if n<128 then 1 else if n<2048 then 2 else if n<65536 then 3 else 4:=by
  unfold sz8
  rw [if_neg (by rcases h with h|h<;>omega)]
  repeat' split
  all_goals first|rfl|omega
 unfold pt8
 rw [if_neg (by omega),hs,Int.toNat_natCast]
 by_cases h1:n<128
 ·rw [if_pos h1,if_pos rfl]
  have hb:(UInt8.ofNat n).toNat=n:=Gl (by omega)
  show nx8 (UInt8.ofNat n::r)=_
  have hbn:Io n=(1,0,0):=by unfold Io;rw [if_pos h1]
  have hr:rowOf (UInt8.ofNat n::r)=(1,1):=by simp only [rowOf,hb,hbn];rfl
  simp only [nx8,hr,hb]
  rw [if_neg (by decide)]
  rfl
 rw [if_neg h1]
 by_cases h2:n<2048
 ·rw [if_pos h2,if_neg (by decide)]
  have hb:(UInt8.ofNat (mk8 2+n/64^(2-1))).toNat=192+n/64:=by
   show (UInt8.ofNat (192+n/64)).toNat=_
   exact Gl (by omega)
  have hc:(UInt8.ofNat (128+n/64^0%64)).toNat=128+n%64:=by
   rw [Gl (by omega)];simp
  have hbn:Io (192+n/64)=(2,128,191):=by
   unfold Io;rw [if_neg (by omega),if_neg (by omega),if_pos (by omega)]
  show nx8 (UInt8.ofNat (mk8 2+n/64^(2-1))::UInt8.ofNat (128+n/64^0%64)::r)=_
  have hr:rowOf (UInt8.ofNat (mk8 2+n/64^(2-1))::UInt8.ofNat (128+n/64^0%64)::r)=(2,2):=by
   simp only [rowOf,hb,hbn,hc]
   rw [if_neg (by decide),if_neg (by omega)]
   cases r<;>rfl
  simp only [nx8,hr,hb]
  rw [if_neg (by decide)]
  show (((rest (lead 2 (192+n/64)) [UInt8.ofNat (128+n/64^0%64)]:Nat):Int),2)=_
  have:rest (lead 2 (192+n/64)) [UInt8.ofNat (128+n/64^0%64)]=n:=by
   show (192+n/64)%32*64+(UInt8.ofNat (128+n/64^0%64)).toNat%64=n
   rw [hc];omega
  rw [this]
 rw [if_neg h2]
 by_cases h3:n<65536
 ·rw [if_pos h3,if_neg (by decide)]
  have hb:(UInt8.ofNat (mk8 3+n/64^(3-1))).toNat=224+n/4096:=by
   show (UInt8.ofNat (224+n/4096)).toNat=_
   exact Gl (by omega)
  have hc:(UInt8.ofNat (128+n/64^1%64)).toNat=128+n/64%64:=by
   rw [Gl (by omega)]
  have hd:(UInt8.ofNat (128+n/64^0%64)).toNat=128+n%64:=by
   rw [Gl (by omega)];simp
  have hbn:∃lo hi,Io (224+n/4096)=(3,lo,hi)/\¬(128+n/64%64<lo\/hi<128+n/64%64):=by
   unfold Io
   rw [if_neg (by omega),if_neg (by omega),if_neg (by omega)]
   split
   ·exact ⟨_,_,rfl,by omega⟩
   ·split
    ·exact ⟨_,_,rfl,by rcases h with h|h<;>omega⟩
    ·rw [if_pos (by omega)]
     exact ⟨_,_,rfl,by omega⟩
  obtain ⟨lo,hi,hbn,hin⟩:=hbn
  show nx8 (UInt8.ofNat (mk8 3+n/64^(3-1))::UInt8.ofNat (128+n/64^1%64)::UInt8.ofNat (128+n/64^0%64)::r)=_
  have hr:rowOf (UInt8.ofNat (mk8 3+n/64^(3-1))::UInt8.ofNat (128+n/64^1%64)::UInt8.ofNat (128+n/64^0%64)::r)=(3,3):=by
   simp only [rowOf,hb,hbn,hc]
   rw [if_neg (by decide),if_neg hin]
   show (2+more 1 _,3)=_
   simp only [more,Ag2,if_true]
  simp only [nx8,hr,hb]
  rw [if_neg (by decide)]
  show (((rest (lead 3 (224+n/4096)) [UInt8.ofNat (128+n/64^1%64),UInt8.ofNat (128+n/64^0%64)]:Nat):Int),3)=_
  have:rest (lead 3 (224+n/4096)) [UInt8.ofNat (128+n/64^1%64),UInt8.ofNat (128+n/64^0%64)]=n:=by
   show ((224+n/4096)%16*64+(UInt8.ofNat (128+n/64^1%64)).toNat%64)*64+(UInt8.ofNat (128+n/64^0%64)).toNat%64=n
   rw [hc,hd];omega
  rw [this]
 rw [if_neg h3,if_neg (by decide)]
 have hb:(UInt8.ofNat (mk8 4+n/64^(4-1))).toNat=240+n/262144:=by
  show (UInt8.ofNat (240+n/262144)).toNat=_
  exact Gl (by rcases h with h|h<;>omega)
 have hc:(UInt8.ofNat (128+n/64^2%64)).toNat=128+n/4096%64:=by
  rw [Gl (by omega)]
 have hd:(UInt8.ofNat (128+n/64^1%64)).toNat=128+n/64%64:=by
  rw [Gl (by omega)]
 have he:(UInt8.ofNat (128+n/64^0%64)).toNat=128+n%64:=by
  rw [Gl (by omega)];simp
 have hbn:∃lo hi,Io (240+n/262144)=(4,lo,hi)/\¬(128+n/4096%64<lo\/hi<128+n/4096%64):=by
  unfold Io
  rw [if_neg (by omega),if_neg (by omega),if_neg (by omega),if_neg (by omega),if_neg (by omega),if_neg (by omega)]
  split
  ·exact ⟨_,_,rfl,by omega⟩
  ·split
   ·exact ⟨_,_,rfl,by omega⟩
   ·rw [if_pos (by rcases h with h|h<;>omega)]
    exact ⟨_,_,rfl,by rcases h with h|h<;>omega⟩
 obtain ⟨lo,hi,hbn,hin⟩:=hbn
 show nx8 (UInt8.ofNat (mk8 4+n/64^(4-1))::UInt8.ofNat (128+n/64^2%64)::UInt8.ofNat (128+n/64^1%64)::UInt8.ofNat (128+n/64^0%64)::r)=_
 have hr:rowOf (UInt8.ofNat (mk8 4+n/64^(4-1))::UInt8.ofNat (128+n/64^2%64)::UInt8.ofNat (128+n/64^1%64)::UInt8.ofNat (128+n/64^0%64)::r)=(4,4):=by
  simp only [rowOf,hb,hbn,hc]
  rw [if_neg (by decide),if_neg hin]
  show (2+more 2 _,4)=_
  simp only [more,Ag2,if_true]
 simp only [nx8,hr,hb]
 rw [if_neg (by decide)]
 show (((rest (lead 4 (240+n/262144)) [UInt8.ofNat (128+n/64^2%64),UInt8.ofNat (128+n/64^1%64),UInt8.ofNat (128+n/64^0%64)]:Nat):Int),4)=_
 have:rest (lead 4 (240+n/262144)) [UInt8.ofNat (128+n/64^2%64),UInt8.ofNat (128+n/64^1%64),UInt8.ofNat (128+n/64^0%64)]=n:=by
  show (((240+n/262144)%8*64+(UInt8.ofNat (128+n/64^2%64)).toNat%64)*64+(UInt8.ofNat (128+n/64^1%64)).toNat%64)*64+(UInt8.ofNat (128+n/64^0%64)).toNat%64=n
  rw [hc,hd,he];rcases h with h|h<;>omega
 rw [this]
theorem Ah4 (be:Bool) (u:Nat) (hu:u<65536):∃x y,uni be u=[x,y]/\un be x y=u:=by
 have h1:(UInt8.ofNat (u/256)).toNat=u/256:=Gl (by omega)
 have h2:(UInt8.ofNat u).toNat=u%256:=by rw [UInt8.toNat_ofNat']
 cases be with
 |false=>exact ⟨_,_,rfl,by show (UInt8.ofNat u).toNat+(UInt8.ofNat (u/256)).toNat*256=u;rw [h1,h2];omega⟩
 |true=>exact ⟨_,_,rfl,by show (UInt8.ofNat u).toNat+(UInt8.ofNat (u/256)).toNat*256=u;rw [h1,h2];omega⟩
theorem Bc9 {be:Bool}{a:Int}(h:Scalar a) (r:Bs):Lc be (Ab3 be a++r)=(a,Vy a):=by
 obtain ⟨n,rfl⟩:∃n:Nat,a=(n:Int):=Int.eq_ofNat_of_zero_le (by rcases h with h|h<;>omega)
 unfold Ab3 Vy
 have a1:¬(n:Int)<0:=by omega
 have a2:¬((n:Int) < -256\/1114111<(n:Int)):=by rcases h with h|h<;>omega
 rw [if_neg a1,if_neg a2,if_neg a1,Int.toNat_natCast]
 by_cases h1:(n:Int)<65536
 ·rw [if_pos h1,if_pos h1]
  obtain ⟨x,y,e,hu⟩:=Ah4 be n (by omega)
  rw [e]
  show Lc be (x::y::r)=_
  simp only [Lc,hu]
  rw [if_neg (by rcases h with h|h<;>omega)]
 ·rw [if_neg h1,if_neg h1]
  obtain ⟨x,y,e,hu⟩:=Ah4 be (55296+(n-65536)/1024) (by rcases h with h|h<;>omega)
  obtain ⟨x',y',e',hu'⟩:=Ah4 be (56320+n%1024) (by omega)
  rw [e,e']
  show Lc be (x::y::x'::y'::r)=_
  simp only [Lc,hu,hu']
  rw [if_pos (by rcases h with h|h<;>omega),if_pos (by omega)]
  have:(65536:Int)+(((55296+(n-65536)/1024)%1024*1024+(56320+n%1024)%1024:Nat):Int)=(n:Int):=by rcases h with h|h<;>omega
  rw [this]
theorem Cf9 {a:Int}(h0:0<=a) (h:a<=255) (r:Bs):nx1 (pt1 a++r)=(a,sz1 a):=by
 obtain ⟨n,rfl⟩:=Int.eq_ofNat_of_zero_le h0
 have:(UInt8.ofNat n).toNat=n:=Gl (by omega)
 show (((UInt8.ofNat n).toNat:Int),1)=_
 rw [this]
 unfold sz1
 rw [if_neg (by omega)]
theorem Ck5 {e:Enc}{a:Int}(h:Scalar a) (hf:sz e a≠0) (r:Bs):nx e (pt e a++r)=(a,sz e a):=by
 cases e with
 |u8=>exact Cf8 h r
 |le=>exact Bc9 h r
 |be=>exact Bc9 h r
 |l1 =>
  have hh:¬(a<0\/255<a):=λhc=>hf (by show sz1 a=0;unfold sz1;rw [if_pos hc])
  exact Cf9 (by omega) (by omega) r
theorem Bu2 {e:Enc}{a:Int}(h:Scalar a) (hf:sz e a≠0) (r:Bs):ats e (pt e a++r)=(a,sz e a)::ats e r:=by
 have hl:=Aw5 e a hf
 have hne:pt e a++r≠[]:=λhc=>by
  have:=congrArg List.length hc
  rw [List.length_append,List.length_nil] at this
  omega
 rw [Ot e hne,Ck5 h hf]
 have:(pt e a++r).drop (sz e a)=r:=by rw [←hl,List.drop_left]
 rw [this]
end Cdc
end Go.Proofs.YtmooldhpiopcgaaGreatDoor
namespace Go.Proofs.YtmooldhpiopcgaaGreatDoor
open Go Go.Vx Cdc Trx
section
variable {w w':World}{S:Nat->Prop}{p:Nat}{e:Enc}{lim na:Nat}{O:Nat->Prop}{M:Parts}
def bts (e:Enc) (l:List Int):Bs:=l.flatMap (pt e)
def prs (e:Enc) (l:List Int):As:=l.map λa=>(a,sz e a)
def Fit (e:Enc) (l:List Int):Prop:=∀a∈l,Scalar a/\sz e a≠0
theorem Bd9 {e:Enc}:∀{l:List Int},Fit e l->ats e (bts e l)=prs e l
 |[],_=>Lu e
 |a::l,h=>by
  have h1:=h a List.mem_cons_self
  show ats e (pt e a++bts e l)=_
  rw [Bu2 h1.1 h1.2,Bd9 λx hx=>h x (List.mem_cons_of_mem _ hx)]
  rfl
def Fits (e:Enc) (l:List Int):Prop:=∀a∈l,sz e a≠0
theorem Al4 {e:Enc}:∀{l:List Int},Fits e l->(bts e l).length=szs (prs e l)
 |[],_=>rfl
 |a::l,h=>by
  have ih:=Al4 λx hx=>h x (List.mem_cons_of_mem _ hx)
  show (pt e a++bts e l).length=Cdc.szs ((a,sz e a)::prs e l)
  rw [Md,List.length_append,Aw5 e a (h a List.mem_cons_self),ih]
theorem Cf7 {e:Enc}{a:Int}(h:sz e a≠0) (hs:¬Scalar a):nx e (pt e a)=(a,sz e a):=by
 have h16:∀be,Vy a≠0->Lc be (Ab3 be a)=(a,Vy a):=by
  intro be h
  unfold Vy at h ⊢
  have hr:¬(a < -256\/1114111<a):=λhc=>h (if_pos hc)
  rw [if_neg hr]
  unfold Ab3
  by_cases h0:a<0
  ·rw [if_pos h0,if_pos h0]
   show ((-1-((UInt8.ofNat (-1-a).toNat).toNat:Int),1):Int×Nat)=_
   rw [Gl (by omega)]
   congr 1;omega
  ·have hlt:a<65536:=Classical.byContradiction λhc=>hs (.inr ⟨by omega,by omega⟩)
   rw [if_neg h0,if_neg h0,if_pos hlt,if_pos hlt]
   have hu:∀x y:UInt8,Lc be [x,y]=(((un be x y:Nat):Int),2):=λx y=>by simp only [Lc];split<;>rfl
   unfold uni
   cases be with
   |true =>
    rw [if_pos rfl,hu]
    show ((((UInt8.ofNat a.toNat).toNat+(UInt8.ofNat (a.toNat/256)).toNat*256:Nat):Int),2)=_
    rw [Gl (n:=a.toNat/256) (by omega),UInt8.toNat_ofNat']
    congr 1;omega
   |false =>
    rw [if_neg (by decide),hu]
    show ((((UInt8.ofNat a.toNat).toNat+(UInt8.ofNat (a.toNat/256)).toNat*256:Nat):Int),2)=_
    rw [Gl (n:=a.toNat/256) (by omega),UInt8.toNat_ofNat']
    congr 1;omega
 cases e with
 | u8 =>
  show nx8 (pt8 a)=(a,sz8 a)
  have h:sz8 a≠0:=h
  unfold sz8 at h ⊢
  have hr:¬(a < -256\/(-129<a/\a<0)\/1114111<a\/(55296<=a/\a<=57343)):=λhc=>h (if_pos hc)
  have h0:a<0:=Classical.byContradiction λhc=>hs (by unfold Scalar;omega)
  rw [if_neg hr,if_pos (by omega)]
  unfold pt8
  rw [if_pos h0]
  obtain ⟨n,hn⟩:∃n,n=(-1-a).toNat:=⟨_,rfl⟩
  rw [←hn]
  have hb:(UInt8.ofNat n).toNat=n:=Gl (by omega)
  have hraw:(rowOf [UInt8.ofNat n]).2=0\/(rowOf [UInt8.ofNat n]).1<(rowOf [UInt8.ofNat n]).2:=by
   simp only [rowOf,hb]
   by_cases h2:(Io n).1<2
   ·rw [if_pos h2]
    left
    have h3:(Io n).1≠1:=by
     unfold Io
     rw [if_neg (by omega)]
     repeat' split
     all_goals decide
    omega
   ·rw [if_neg h2]
    right;omega
  simp only [nx8]
  rw [if_pos hraw,hb]
  congr 1;omega
 |le=>exact h16 false h
 |be=>exact h16 true h
 |l1 =>
  exfalso
  have h:sz1 a≠0:=h
  unfold sz1 at h
  have hr:¬(a<0\/255<a):=λhc=>h (if_pos hc)
  exact hs (.inl ⟨by omega,by omega⟩)
theorem Cb4 {e:Enc}{a:Int}(h:sz e a≠0):ats e (pt e a)=[(a,sz e a)]:=by
 by_cases hs:Scalar a
 ·have:=Bu2 hs h []
  rw [List.append_nil,Lu] at this;exact this
 ·have hl:=Aw5 e a h
  have hne:pt e a≠[]:=λhc=>by rw [hc] at hl;exact h hl.symm
  rw [Ot e hne,Cf7 h hs,List.drop_eq_nil_of_le (Nat.le_of_eq hl),Lu]
def Run (l:List Int):Prop:=(∀x∈l,Scalar x)\/∃v,l=[v]
theorem Cb2 {e:Enc}{l:List Int}(h:Fits e l) (hr:Run l):ats e (bts e l)=prs e l:=by
 rcases hr with hr|⟨v,rfl⟩
 ·exact Bd9 λa ha=>⟨hr a ha,h a ha⟩
 ·show ats e (pt e v++[])=_
  rw [List.append_nil,Cb4 (h v List.mem_cons_self)];rfl
theorem Av3 {e:Enc}{v:Int}(h:sz e v≠0):Scalar v↔0<=v/\(v<55296\/57343<v):=by
 have hm:v<=1114111:=by
  apply Classical.byContradiction
  intro hc
  apply h
  cases e with
  |u8=>exact if_pos (by omega)
  |le=>exact if_pos (by omega)
  |be=>exact if_pos (by omega)
  |l1=>exact if_pos (by omega)
 unfold Scalar;omega
theorem Xh (e:Enc) (l m:List Int):bts e (l++m)=bts e l++bts e m:=by simp [bts]
theorem At4 (P:Program){ts xt rt:TypeId}{e xe:TypeId}{i:TypeInfo}{z:Value}(hts:P.underlying ts=some (.slice e)) (hxt:P.underlying xt=some (.slice xe)) (hi:P.info? e=some i) (hz:i.zero=some z)
  {B:Nat} {s x:Sl} {vs us:List Value} (hs:Au w B s e i.size vs) (hx:SlX w x i.size us) (h1:∀v∈us,Du v=true) (hzl:z.cells.size=i.size)
  (hroom:(s.len+x.len+(s.len+x.len)/4+512)*i.bytes<=2^48) (hb0:0<i.bytes) (hB:B<=w.heap.size) :
  ∃s' w',(Builtin.append_ #[ts,xt] rt #[.slice s.a s.len s.cap,.slice x.a x.len x.cap]).run P w=.ok (.slice s'.a s'.len s'.cap) w'/\Au w' B s' e i.size (vs++us)/\s'.len=s.len+x.len /\
   Upd (λk=>s.blk k) w w'/\((Ext w w'/\∀k,s'.blk k->w.heap.size<=k)\/(s'.a=s.a/\∃b off c,s.a=some ⟨b,off,none⟩/\w.heap[b]?=some (.cells c e (0,0))/\w'.heap[b]?=some (.cells (setRow c (off+s.len*i.size) us) e (0,0)))):=by
 obtain ⟨s',w',hr,ho,hl,hu,hk,hex⟩:=At5 (rt:=rt) P hts hxt hi hz hs hx h1 hzl hroom hb0 hB
 refine ⟨s',w',hr,ho,hl,hu,?_⟩
 have hfx:=Gq P hx
 have hfs:=Gx P hs.in
 have hu1:=λW=>run_underlying hts W
 have hu2:=λW=>run_underlying hxt W
 have hsz:∀W,(sizeOf e).run P W=.ok i.size W:=λW=>by simp [sizeOf,run_typeInfo W hi]
 have hlen:=hs.len
 have hxlen:=hx.len
 by_cases hneed:s.len+x.len<=s.cap
 ·rcases hs.at_ with ⟨ha,hc⟩|⟨b,off,c,ha,hB',hb,hcap,hv⟩
  ·have hl0:x.len=0:=by omega
   have hsl:s.len=0:=by omega
   have hus:us=[]:=by rw [hl0,Nat.zero_mul] at hxlen;exact List.length_eq_zero_iff.1 hxlen
   have hfx':(Builtin.firstCells i.size 0 (.slice x.a 0 x.cap)).run P w=.ok #[] w:=by rw [hl0,hus] at hfx;exact hfx
   simp [Builtin.append_,hu1,hu2,hsz,Builtin.lenOf,hl0,hsl,ha,hfx',hc] at hr
   obtain ⟨⟨h1,_⟩,rfl⟩:=hr
   refine .inl ⟨Ext.refl w,λk hk=>?_⟩
   obtain ⟨q,hq,_⟩:=hk
   rw [←h1] at hq;cases hq
  ·have hfit:s.len*i.size+us.length<=s.cap*i.size:=by
    rw [hxlen,←Nat.add_mul];exact Nat.mul_le_mul_right _ hneed
   obtain ⟨w1,hr1,hu1',hb1,_⟩:=Iy P us b (off+s.len*i.size) 0 c e w h1 hb (by omega)
   simp [Builtin.append_,hu1,hu2,hsz,Builtin.lenOf,hneed,hfx,ha,addr_add,hr1] at hr
   obtain ⟨⟨h1,_⟩,rfl⟩:=hr
   exact .inr ⟨h1.symm.trans ha.symm,b,off,c,ha,hb,hb1⟩
 ·have hti:∀W,(typeInfo e).run P W=.ok i W:=λW=>run_typeInfo W hi
  have hzv:∀W,(zeroValue e).run P W=.ok z W:=λW=>by simp [zeroValue,run_typeInfo W hi,hz]
  have hle:=Go.Vx.nextslicecap_le (need:=s.len+x.len) (old:=s.cap) (by omega)
  have hroom':¬(Builtin.nextslicecap (s.len+x.len) s.cap*i.bytes>2^48):=by
   have:=Nat.mul_le_mul_right i.bytes hle
   omega
  have hfx':(Builtin.firstCells i.size x.len (.slice x.a x.len x.cap)).run P w.drew=.ok us.toArray w.drew:=Gq P (hx.ext (Ext.drew w))
  have hfs':(Builtin.firstCells i.size s.len (.slice s.a s.len s.cap)).run P w.drew=.ok vs.toArray w.drew:=Gx P (hs.in.ext (Ext.drew w))
  have hb0':¬i.bytes=0:=by omega
  simp [Builtin.append_,hu1,hu2,hsz,Builtin.lenOf,hneed,hti,hb0',hroom',run_askRoom,hfs',hfx',hzv,newRow,newObj,Sem.run,Question.forced] at hr
  obtain ⟨⟨h1,_⟩,rfl⟩:=hr
  refine .inl ⟨(Ext.drew w).trans (Ext.alloc w.drew _),λk hk=>?_⟩
  obtain ⟨q,hq,rfl⟩:=hk
  rw [←h1] at hq;cases hq
  exact Nat.le_refl _
theorem Ci3 {B:Nat}{s x:Sl}{l m:Bs}{K:Sl->Wp}(hs:Au w B s 5 1 (bv l)) (hx:SlX w x 1 (bv m)) (hroom:s.len+x.len+(s.len+x.len)/4+512<=2^48) (hB:B<=w.heap.size)
  (h:∀s' w',Au w' B s' 5 1 (bv (l++m))->s'.len=s.len+x.len->Upd s.blk w w'->(∀k,s'.blk k->s.blk k\/w.heap.size<=k) ->
   (∀y b,By w y b->(∀k,y.blk k->s.blk k->top y<=top s)->By w' y b/\∀k,y.blk k->s'.blk k->top y<=top s')->K s' w') :
  Dp Tryz.prog (.one (.one .sl)) (Builtin.append_ #[30,30] 30 #[.slice s.a s.len s.cap,.slice x.a x.len x.cap]) K w:=by
 obtain ⟨i,z,hi,hsz,hby,hz,hzs⟩:=EBy.e_
 have hs':=hs
 rw [←hsz] at hs hx
 obtain ⟨s',w',hr,ho,hl,hu,hex⟩:=At4 (rt:=30) Tryz.prog EBy.ts_ EBy.ts_ hi hz hs hx (λv hv=>by
  obtain ⟨b,_,rfl⟩:=List.mem_map.1 hv;rfl) (by rw [hsz];exact hzs) (by rw [hby];omega) (by rw [hby];decide) hB
 rw [hsz] at ho hex
 have eb:bv l++bv m=bv (l++m):=by simp [bv]
 rw [eb] at ho
 refine ⟨s',w',hr,h s' w' ho hl hu (λk hk=>?_) λy b hy hyt=>?_⟩
 ·rcases hex with ⟨_,h2⟩|⟨h1,_⟩
  ·exact .inr (h2 k hk)
  ·left
   obtain ⟨q,hq,rfl⟩:=hk
   exact ⟨q,h1▸hq,rfl⟩
 ·rcases hex with ⟨h1,h2⟩|⟨h1,b0,off,c,ha,hb0,hb1⟩
  ·exact ⟨hy.ext h1,λk hk hk'=>by have:=hy.Em hk;have:=h2 k hk';omega⟩
  ·have hts:top s<=top s':=by unfold top;rw [h1,ha];show off+s.len<=off+s'.len;omega
   have hsk:∀k,s'.blk k->s.blk k:=λk hk=>by obtain ⟨q,hq,rfl⟩:=hk;exact ⟨q,h1▸hq,rfl⟩
   refine ⟨⟨Cj.len hy,hy.le,hy.at_.imp id λ⟨b',off',c',fr',ha',hb',hcap,hv⟩=>?_⟩,λk hk hk'=>Nat.le_trans (hyt k hk (hsk k hk')) hts⟩
   by_cases hbb:b'=b0
   ·subst hbb
    rw [hb0] at hb'
    cases hb'
    have ht:=hyt b' ⟨_,ha',rfl⟩ ⟨_,ha,rfl⟩
    unfold top at ht
    rw [ha',ha] at ht
    dsimp only at ht
    have hyl:=hy.len
    refine ⟨b',off',_,_,ha',hb1,by rw [Go.Vx.size_setRow];exact hcap,λi u hu=>?_⟩
    have hil:=(List.getElem?_eq_some_iff.1 hu).1
    rw [List.length_map] at hil
    rw [Go.Vx.Gv _ _ _ _ (by omega)]
    exact hv i u hu
   ·exact ⟨b',off',c',fr',ha',hu.get hb' (λ⟨q,hq,hqb⟩=>by rw [ha] at hq;cases hq;exact hbb hqb.symm),hcap,hv⟩
theorem Its.by_ {e:Enc}:∀{l:List Pc}{M:Parts},Its w e l M->∀x∈l,∃b,By w x.bytes b
 |[],_,_,x,hx=>by cases hx
 |y::l,z::M,h,x,hx=>by
  rcases List.mem_cons.1 hx with rfl|hx
  ·exact ⟨_,h.1.by_⟩
  ·exact Its.by_ h.2 x hx
theorem Its.ty {e:Enc}{l:List Pc}{M:Parts}(h:Its w e l M) (u:Upd S w w') (hS:Cc w S 5):Its w' e l M :=
 h.upd u λx hx k hk hSk=>by
  obtain ⟨b,hb⟩:=h.by_ x hx
  obtain ⟨c,fr,hc⟩:=hb.Bc hk
  exact hS k hSk c fr hc
theorem Its.to {e:Enc}:∀{l:List Pc}{M:Parts},Its w e l M->(∀x∈l,∀b,By w x.bytes b->By w' x.bytes b)->Its w' e l M
 |[],[],_,_=>trivial
 |x::l,y::M,h,hb=>⟨⟨hb x List.mem_cons_self _ h.1.by_,h.1.sm,h.1.tag,h.1.ne,h.1.lo,h.1.hi⟩,Its.to h.2 λz hz=>hb z (List.mem_cons_of_mem _ hz)⟩
def Old (w W:World) (a0 a:Sl):Prop:=∀y b,By w y b->(∀k,y.blk k->a0.blk k->top y<=top a0)->By W y b/\∀k,y.blk k->a.blk k->top y<=top a
theorem Old.ty {W W':World}{a0 a:Sl}(h:Old w W a0 a) (u:Upd S W W') (hS:Cc W S 5):Old w W' a0 a:=λy b hy ht=>⟨(h y b hy ht).1.ty u hS,(h y b hy ht).2⟩
theorem Old.refl (w:World) (a:Sl):Old w w a a:=λy b hy ht=>⟨hy,ht⟩
theorem Aj5 (W:World) (t:TypeId):Cc W (λ_=>False) t:=λ_ h=>h.elim
end
end Go.Proofs.YtmooldhpiopcgaaGreatDoor
