/- YtolhlldgnfbemaaGreatDoorXAl3: parts of the proof, put together by program. -/
import Derived.Test.YtolhlldgnfbemaaGreatDoorXAl2
set_option linter.unusedVariables false
set_option linter.defProp false
set_option linter.unusedSimpArgs false
set_option linter.unusedSectionVars false
noncomputable section
set_option maxRecDepth 100000
namespace Go.Proofs.YtolhlldgnfbemaaGreatDoor
section
open Go Go.Vx Cdc
section
variable {w w':World}
theorem func_x {g:FuncId}{caps args:Array Value}{t:RTy}{K:t.T->Wp}(hf:((Tryz.prog.funcs[g]?).map λfn=>(fn.body.isNone,fn.name == "runtime.NumGoroutine"))=some (false,false)) (h:Aa Tryz.prog g (args++caps) t K w) :
  Cj Tryz.prog (do let d ←Deferred.ofValue (.func (.func g) #[] caps) args;invoke d.target d.args:Sem Next) t K w:=by
 refine .inl ⟨g,args++caps,?_,h⟩;have:=Ir (P:=Tryz.prog) (f:=g) (args:=args++caps) hf w;simp only [Deferred.ofValue,pure_bind,invoke];have e:(#[]++args++caps:Array Value)=args++caps:=(by simp);first
  |exact this
  |(rw [e];exact this)
theorem Uo {ty:TypeId}{v v':Value}{name:String}{f:FuncId}{a:Value}{t:RTy}{K:t.T->Wp}(hm:∀w,(Go.method (Tryz.prog.types.size+Made.depth) ty v name).run Tryz.prog w=.ok (f,v') w)
  (hf:((Tryz.prog.funcs[f]?).map λfn=>(fn.body.isNone,fn.name == "runtime.NumGoroutine"))=some (false,false)) (h:Aa Tryz.prog f #[v',a] t K w) :
  Cj Tryz.prog (invoke (.fn (.method name) #[]) (#[.iface ty v]++#[a])) t K w:=by refine .inl ⟨f,#[v',a],?_,h⟩;have h:=Ir (P:=Tryz.prog) (f:=f) (args:=#[v',a]) hf w;have e:invoke (.fn (.method name) #[]) (#[.iface ty v]++#[a])=callMethod (.iface ty v) name #[a]:=rfl;rw [e];simp only [callMethod,aA,program,Sem.run,aB,hm];exact h
theorem Ah6 {ty:TypeId}{v v':Value}{name:String}{f:FuncId}{a b:Value}{t:RTy}{K:t.T->Wp}(hm:∀w,(Go.method (Tryz.prog.types.size+Made.depth) ty v name).run Tryz.prog w=.ok (f,v') w)
  (hf:((Tryz.prog.funcs[f]?).map λfn=>(fn.body.isNone,fn.name == "runtime.NumGoroutine"))=some (false,false)) (h:Aa Tryz.prog f #[v',a,b] t K w) :
  Cj Tryz.prog (invoke (.fn (.method name) #[]) (#[.iface ty v]++#[a,b])) t K w:=by refine .inl ⟨f,#[v',a,b],?_,h⟩;have h:=Ir (P:=Tryz.prog) (f:=f) (args:=#[v',a,b]) hf w;have e:invoke (.fn (.method name) #[]) (#[.iface ty v]++#[a,b])=callMethod (.iface ty v) name #[a,b]:=rfl;rw [e];simp only [callMethod,aA,program,Sem.run,aB,hm];exact h
abbrev By (w:World) (s:Sl) (l:Bs):Prop:=Bl w s 5 1 (bv l)
theorem By.len {s:Sl}{l:Bs}(h:By w s l):l.length=s.len:=by have:=h.len1;rwa [gW] at this
theorem Ct5 (l:Bs):bv l=(l.map λb=>(b.toNat:Int)).map (Cell.int .u8).val:=by rw [jL];rfl
theorem Vp {s:Sl}{l:Bs}{n:Int}{K:Addr->Int->Wp}(h:By w s l) (h0:0<=n){b:UInt8}(hb:l[n.toNat]?=some b) (hK:∀p,K p (b.toNat:Int) w) :
  ix s.a s.len n (λp=>ld (.int .u8) (p.add (scaled (Int.toNat n) 1)) (K p)) w:=by (have h':Bl w s 5 1 ((l.map λb=>(b.toNat:Int)).map (Cell.int .u8).val):=by rw [←Ct5];exact h);exact Ew h' h0 (x:=(b.toNat:Int)) (by rw [gX,hb];rfl) hK
theorem By7 (l:Bs) (n:Nat):(bv l).drop n=bv (l.drop n):=by simp [bv]
theorem By6 (l:Bs) (n:Nat):(bv l).take n=bv (l.take n):=by simp [bv]
theorem Ay5 {s:Sl}{l:Bs}{a b m:Int}{K:Sl->Wp}(hs:By w s l) (h0:0<=a) (h1:a<=b) (h2:b<=s.len) (h3:b<=m) (h4:m<=s.cap)
  (hK:∀s',By w s' ((l.drop a.toNat).take (b.toNat-a.toNat))->s'.len=b.toNat-a.toNat->(∀k,s'.blk k->s.blk k)->K s' w):slc s.a a b m s.cap 1 K w :=
 Be8 hs h0 h1 h2 h3 h4 λs' hs' hl _ hb=>hK s' (by
  rw [dS,dS,By7,By6] at hs';exact hs') hl hb
theorem Bk5 {c:UInt8}{K:Int×Int×Int×Unit->Wp}(hK:K (((Fz c.toNat).1:Nat),((Fz c.toNat).2.1:Nat),((Fz c.toNat).2.2:Nat),()) w) :
  Aa Tryz.prog 241 #[.int .u8 (c.toNat:Int)] (.tup [(.one (.int .i64)),(.one (.int .u8)),(.one (.int .u8))]) K w:=by
 refine Ef3 ?_;unfold F241;have hlt:=c.toNat_lt;unfold Fz at hK;(repeat' refine Ac (λh=>?_) (λh=>?_));(all_goals simp only [iI,iH,jM,jO] at *);all_goals
  repeat rw [aF (by omega)] at hK
  repeat rw [aJ (by omega)] at hK
  repeat rw [aF (by omega)] at hK
  exact hK
theorem Av1 {c:UInt8}:∀{m:Nat}{r:Bs}{j:Nat},j<=more m r->(j<m/\r[j]?=some c/\cont c=true->j<more m r)
 |0,r,j,_=>λh=>absurd h.1 (by omega)
 |m+1,[],j,_=>λh=>by simp at h
 |m+1,b::r,0,_=>λh=>by
  simp at h
  simp [more,h]
 | m+1,b::r,j+1,hj=>λh=>by
  simp only [more] at hj ⊢
  split at hj
  ·rename_i hb
   rw [aF hb]
   have:=Av1 (c:=c) (m:=m) (r:=r) (j:=j) (by omega) ⟨by omega,by simpa using h.2.1,h.2.2⟩
   omega
  ·omega
theorem Av2:∀{m:Nat}{r:Bs}{j:Nat},j<more m r->∃c,r[j]?=some c/\cont c=true
 |0,r,j,h=>by cases r<;>simp [more] at h
 |m+1,[],j,h=>by simp [more] at h
 |m+1,b::r,0,h=>by
  simp only [more] at h
  split at h
  ·rename_i hb;exact ⟨b,rfl,hb⟩
  ·omega
 | m+1,b::r,j+1,h=>by
  simp only [more] at h
  split at h
  ·obtain ⟨c,hc⟩:=Av2 (m:=m) (r:=r) (j:=j) (by omega)
   exact ⟨c,by simpa using hc⟩
  ·omega
theorem Ci0:∀c:UInt8,((IntKind.wrap .u8 ((BitVec.toNat (BitVec.ofInt (IntKind.bits .u8) (c.toNat:Int) &&& BitVec.ofInt (IntKind.bits .u8) (192:Int)):Nat):Int))==(128:Int))=cont c:=by intro c;have h:∀n:Fin 256,((IntKind.wrap .u8 ((BitVec.toNat (BitVec.ofInt (IntKind.bits .u8) (n.val:Int) &&& BitVec.ofInt (IntKind.bits .u8) (192:Int)):Nat):Int))==(128:Int))=(n.val/64==2):=(by decide +kernel);exact h ⟨c.toNat,c.toNat_lt⟩
theorem Cm2 {s:Sl} {b:UInt8} {r:Bs} (hB:By w s (b::r)) {K:Int×Int×Unit->Wp} (hK:K (((rowOf (b::r)).1:Nat),((rowOf (b::r)).2:Nat),()) w) :
  Aa Tryz.prog 240 #[s.v] (.tup [(.one (.int .i64)),(.one (.int .i64))]) K w:=by
 refine Ef4 ?_;unfold F240;have hlen:r.length+1=s.len:=hB.len;refine Vp hB (by decide) (b:=b) rfl λp=>Bk5 ?_;have h4:=Bc8 b.toNat;have hbr:=Oo b r;refine Ac (λh=>?_) (λh=>?_);{simp only [iI] at h;have h2:(Fz b.toNat).1<2:=(by omega);simp only [rowOf,aF h2] at hK;exact hK};simp only [iH] at h;have h2:¬(Fz b.toNat).1<2:=(by omega);cases r with
 |nil=>simp only [rowOf,aJ h2] at hK;have:s.len=1:=(by simpa using hlen.symm);refine Ae (λx w'=>x=(true,())/\w=w') (Ac (λ_=>⟨rfl,rfl⟩) (λh=>?_)) ?_;{simp only [iH] at h;omega};{rintro _ w' ⟨rfl,rfl⟩;exact Bh hK}
 | cons c r =>
  have hl2:r.length+2=s.len:=(by simpa using hlen);refine Ae (λx w'=>x=(decide (c.toNat<(Fz b.toNat).2.1\/(Fz b.toNat).2.2<c.toNat),())/\w=w') (Ac (λh=>?_) (λ_=>?_)) ?_;{simp only [iI] at h;omega};{refine Vp hB (by decide) (b:=c) rfl λp=>Ac (λh=>?_) (λh=>Vp hB (by decide) (b:=c) rfl λp=>?_);{simp only [iI] at h;exact ⟨by rw [jP (by omega)],rfl⟩};{simp only [iH] at h;refine ⟨Az ?_,rfl⟩;simp only [iI];omega}}
  ·rintro _ w' ⟨rfl,rfl⟩;refine Ac (λh=>?_) (λh=>?_);{simp only [iI] at h;simp only [rowOf,aJ h2,aF h] at hK;exact hK}
   ·simp only [iH] at h;simp only [rowOf,aJ h2,aJ h] at hK;generalize hm:(Fz b.toNat).1-2=m at hK;have hn:(Fz b.toNat).1=m+2:=(by omega);rw [hn] at hK ⊢;refine Ae (λx w'=>x=(((2+more m r:Nat):Int),())/\w=w') ?_ ?_
    ·refine Ba (λx w'=>(∃j:Nat,x=(((2+j:Nat):Int),())/\j<=more m r)/\w=w') (λx _=>(m+2-x.1.toNat)) ⟨⟨0,rfl,iW _⟩,rfl⟩ ?_;rintro _ w' ⟨⟨j,rfl,hj⟩,rfl⟩;have hmo:=Ba8 m r;refine Ae (λx w'=>x=(decide (j<more m r),())/\w=w') ?_ ?_
     ·refine Ac (λh=>?_) (λh=>?_)
      ·simp only [iI] at h;refine Ac (λh'=>?_) (λh'=>?_)
       ·simp only [iI] at h';have hjl:j<r.length:=(by omega);have hx:(b::c::r)[((2+j:Nat):Int).toNat]?=some r[j]:=by
         have:((2+j:Nat):Int).toNat=j+2:=by omega
         rw [this];simp [hjl]
        refine Vp hB (by omega) hx λp=>⟨?_,rfl⟩;rw [Ci0];refine Az ?_;simp only [iI];refine ⟨λhc=>Av1 (c:=r[j]) hj ⟨by omega,by simp [hjl],hc⟩,λhc=>?_⟩;obtain ⟨c',h1,h2⟩:=Av2 hc;rw [jC hjl] at h1;cases h1;exact h2
       {simp only [iH] at h';exact ⟨by rw [jQ (by omega)],rfl⟩}
      {simp only [iH] at h;exact ⟨by rw [jQ (by omega)],rfl⟩}
     {rintro _ w' ⟨rfl,rfl⟩;refine Ac (λh=>?_) (λh=>?_);{simp only [iI] at h;(have e:W64 (((2+j:Nat):Int)+1)=((2+(j+1):Nat):Int):=by rw [wrap64 (by omega) (by omega)];omega);rw [e];exact ⟨⟨⟨j+1,rfl,h⟩,rfl⟩,by simp only;omega⟩};{simp only [iH] at h;have:j=more m r:=(by omega);exact ⟨by rw [this],rfl⟩}}
    {rintro _ w' ⟨rfl,rfl⟩;exact hK}
theorem Cc5 (a:Nat) (l:Bs) (c:UInt8):rest a (l++[c])=rest a l*64+c.toNat%64:=by simp [rest]
theorem Bv4:∀(l:Bs) (a:Nat),rest a l<(a+1)*64^l.length
 |[],a=>by simp [rest]
 | c::l,a=>by
  have:=Bv4 l (a*64+c.toNat%64)
  have e:rest a (c::l)=rest (a*64+c.toNat%64) l:=rfl
  rw [e,dB,Nat.pow_succ]
  refine fM this ?_
  have h:a*64+c.toNat%64+1<=(a+1)*64:=by omega
  calc (a*64+c.toNat%64+1)*64^l.length<=(a+1)*64*64^l.length:=fV _ h
   _=(a+1)*(64^l.length*64):=by rw [Nat.mul_assoc,Nat.mul_comm 64]
theorem Ab4 (c:UInt8) (k:Nat) (hk:k<=8):W64 ((BitVec.toNat (BitVec.ofInt (IntKind.bits .i64) (W64 (c.toNat:Int)) &&& BitVec.ofInt (IntKind.bits .i64) (2^k-1)):Nat):Int)=((c.toNat%2^k:Nat):Int):=by
 have hc:=c.toNat_lt;rw [wrap64 (a:=(c.toNat:Int)) (by omega) (by omega)];have h:=Ac7 (b:=IntKind.bits .i64) (k:=k) (a:=(c.toNat:Int)) (m:=2^k-1) (by omega) (by show (c.toNat:Int)<2^64;omega) rfl (by show k<=64;omega);rw [h,jH];have e:((2^k:Nat):Int)=(2:Int)^k:=(by simp);rw [e];have h0:(0:Int)<2^k:=jF (by decide);have h1:(c.toNat:Int)%2^k<=(c.toNat:Int):=by
  rw [←e,←jH]
  exact_mod_cast Nat.mod_le _ _
 have h2:=Int.emod_nonneg (c.toNat:Int) (Int.ne_of_gt h0);exact wrap64 (by omega) (by omega)
theorem Dj8 (c:UInt8):W64 ((BitVec.toNat (BitVec.ofInt (IntKind.bits .i64) (W64 (c.toNat:Int)) &&& BitVec.ofInt (IntKind.bits .i64) (31:Int)):Nat):Int)=((c.toNat%32:Nat):Int):=Ab4 c 5 (by decide)
theorem Dj9 (c:UInt8):W64 ((BitVec.toNat (BitVec.ofInt (IntKind.bits .i64) (W64 (c.toNat:Int)) &&& BitVec.ofInt (IntKind.bits .i64) (15:Int)):Nat):Int)=((c.toNat%16:Nat):Int):=Ab4 c 4 (by decide)
theorem Dk0 (c:UInt8):W64 ((BitVec.toNat (BitVec.ofInt (IntKind.bits .i64) (W64 (c.toNat:Int)) &&& BitVec.ofInt (IntKind.bits .i64) (7:Int)):Nat):Int)=((c.toNat%8:Nat):Int):=Ab4 c 3 (by decide)
theorem go_bits (a:Nat) (c:UInt8) (ha:a<2^40):W64 ((BitVec.toNat (BitVec.ofInt (IntKind.bits .i64) (W64 ((a:Int)*2^(min (Int.toNat (6:Int)) (IntKind.bits .i64)))) ||| BitVec.ofInt (IntKind.bits .i64) (W64 (IntKind.wrap .u8 ((BitVec.toNat (BitVec.ofInt (IntKind.bits .u8) (c.toNat:Int) &&& BitVec.ofInt (IntKind.bits .u8) (63:Int)):Nat):Int)))):Nat):Int)=((a*64+c.toNat%64:Nat):Int):=by have hc:=c.toNat_lt;have h1:=Ac7 (b:=IntKind.bits .u8) (k:=6) (a:=(c.toNat:Int)) (m:=63) (by omega) (by show (c.toNat:Int)<2^8;omega) rfl (by decide);rw [h1,D5 (by omega) (by omega),wrap64 (a:=(c.toNat:Int)%2^6) (by omega) (by omega)];have e:((2:Int)^(min (Int.toNat (6:Int)) (IntKind.bits .i64)))=2^6:=rfl;rw [e,wrap64 (a:=(a:Int)*2^6) (by omega) (by omega)];have h2:=Vh (b:=IntKind.bits .i64) (k:=6) (a:=(a:Int)) (c:=(c.toNat:Int)%2^6) (by omega) (by omega) (by omega) (by show _<(2:Int)^64;omega);rw [h2,wrap64 (by omega) (by omega)];omega
theorem Bi2 {s:Sl}{b:UInt8}{r:Bs}(hB:By w s (b::r)){K:Int×Int×Unit->Wp}(hK:∀w',Ext w w'->K ((nx8 (b::r)).1,((nx8 (b::r)).2:Nat),()) w') :
  Aa Tryz.prog 235 #[.agg #[],s.v] (.tup [(.one (.int .i64)),(.one (.int .i64))]) K w:=by
 refine Ef7 (a0:=()) ?_;unfold F235;have hlen:r.length+1=s.len:=hB.len;have hb:=b.toNat_lt;refine Cm λ_ w1 e1 _ _ _=>?_;have hB1:By w1 s (b::r):=hB.ext e1;refine Cm2 hB1 ?_;have hro:=Ak8 b r;have hrb:=Oo b r;have h4:=Bc8 b.toNat;have hcap:=hB.le;replace hK:=hK w1 e1;simp only [nx8] at hK;generalize hn:(rowOf (b::r)).2=n at *;generalize hh:(rowOf (b::r)).1=h at *;refine Ae (λx w'=>x=(decide (n=0\/h<n),())/\w1=w') (Ac (λhc=>?_) (λhc=>?_)) ?_;{simp only [jM] at hc;exact ⟨by rw [jP (by omega)],rfl⟩};{simp only [jO] at hc;refine ⟨Az ?_,rfl⟩;simp only [iI];omega};rintro _ w' ⟨rfl,rfl⟩;refine Ac (λhc=>?_) (λhc=>?_);{simp only [iI] at hc;rw [aF hc] at hK;refine Vp hB1 (by decide) (b:=b) rfl λp=>?_;rw [wrap64 (a:=(b.toNat:Int)) (by omega) (by omega),wrap64 (by omega) (by omega)];exact hK};simp only [iH] at hc;rw [aJ hc] at hK;refine Vp hB1 (by decide) (b:=b) rfl λp=>?_;(have hlt:lead n b.toNat<256:=by unfold lead;(repeat' split)<;>omega);refine Ae (λx w'=>x=(((lead n b.toNat:Nat):Int),())/\w1=w') ?_ ?_;{unfold lead;refine Ac (λhc=>?_) (λhc=>Ac (λhc=>?_) (λhc=>Ac (λhc=>?_) (λhc=>?_)));(all_goals simp only [jM,jO] at *);{rw [Dj8,aF (by omega)];exact ⟨rfl,trivial⟩};{rw [Dj9,aJ (by omega),aF (by omega)];exact ⟨rfl,trivial⟩};{rw [Dk0,aJ (by omega),aJ (by omega),aF (by omega)];exact ⟨rfl,trivial⟩};{rw [aJ (by omega),aJ (by omega),aJ (by omega),wrap64 (by omega) (by omega)];exact ⟨rfl,trivial⟩}};rintro _ w' ⟨rfl,rfl⟩;simp only;generalize hld:lead n b.toNat=ld at *;refine Ae (λx w'=>x=(((rest ld (r.take (n-1)):Nat):Int),())/\w1=w') ?_ ?_
 ·simp only [dB] at hro;refine Ay5 hB1 (by decide) (by omega) (by omega) (by omega) (by omega) λs' hs' hl' _=>?_;have hR:((b::r).drop (Int.toNat 1)).take (((n:Nat):Int).toNat-Int.toNat 1)=r.take (n-1):=by
   have:((n:Nat):Int).toNat-Int.toNat 1=n-1:=by omega
   rw [this];rfl
  rw [hR] at hs';generalize hRR:r.take (n-1)=R at *;have hRl:R.length=s'.len:=hs'.len;(have hR3:R.length<=3:=by rw [←hRR,gI];omega);refine Ba (λx w'=>(∃i:Nat,x=(((rest ld (R.take i):Nat):Int),(i:Int),())/\i<=R.length)/\w1=w') (λx _=>R.length-x.2.1.toNat) ⟨⟨0,by simp [rest],iW _⟩,rfl⟩ ?_;rintro _ w' ⟨⟨i,rfl,hi⟩,rfl⟩;refine Ac (λhc=>?_) (λhc=>?_)
  ·simp only [iI] at hc;have hiR:i<R.length:=(by omega);refine Vp hs' (by simp only;omega) (b:=R[i]) (by simp [hiR]) λp=>Dc (by decide) ?_;have hlt2:=Bv4 (R.take i) ld;have hb2:rest ld (R.take i)<2^40:=by
    refine fM hlt2 ?_
    have h1:64^(R.take i).length<=64^3:=jG (by decide) (by rw [gI];omega)
    calc (ld+1)*64^(R.take i).length<=256*64^3:=Nat.mul_le_mul (by omega) h1
     _<=2^40:=by decide
   dsimp only;rw [go_bits _ _ hb2];have e:rest ld (R.take i)*64+R[i].toNat%64=rest ld (R.take (i+1)):=by
    rw [←Cc5,List.take_append_getElem]
   rw [e,wrap64 (by omega) (by omega)];exact ⟨⟨⟨i+1,rfl,hiR⟩,rfl⟩,by omega⟩
  {simp only [iH] at hc;have:i=R.length:=(by omega);subst this;rw [jR];exact ⟨rfl,rfl⟩}
 rintro _ w' ⟨rfl,rfl⟩;exact hK
end
end
section
open Go Go.Vx Trx
section
variable {w w':World}
def smT (s:Dw):Cells.T c109:=((s.atoms:Int),(s.bytes:Int),(s.breaks:Int),s.lf,s.cr,())
def pcT (x:Pc):Cells.T Aj:=(x.bytes,x.tag,(x.sm.atoms:Int),(x.sm.bytes:Int),(x.sm.breaks:Int),x.sm.lf,x.sm.cr,())
abbrev smV (s:Dw):Value:=.agg (Cells.vals c109 (smT s)).toArray
abbrev pcV (x:Pc):Value:=.agg (Cells.vals Aj (pcT x)).toArray
theorem Cy3 {ty:TypeId}{v v':Value}{name:String}{f:FuncId}{t:RTy}{K:t.T->Wp}(hm:∀w,(Go.method (Tryz.prog.types.size+Made.depth) ty v name).run Tryz.prog w=.ok (f,v') w)
  (hf:((Tryz.prog.funcs[f]?).map λfn=>(fn.body.isNone,fn.name == "runtime.NumGoroutine"))=some (false,false)) (h:Aa Tryz.prog f #[v'] t K w) :
  Cj Tryz.prog (invoke (.fn (.method name) #[]) (#[.iface ty v]++#[])) t K w:=by refine .inl ⟨f,#[v'],?_,h⟩;have h:=Ir (P:=Tryz.prog) (f:=f) (args:=#[v']) hf w;have e:invoke (.fn (.method name) #[]) (#[.iface ty v]++#[])=callMethod (.iface ty v) name #[]:=rfl;rw [e];simp only [callMethod,aA,program,Sem.run,aB,hm];exact h
theorem Y9 {s o:Dw}(hs:s.Ok) (ho:o.Ok) (hb:s.bytes+o.bytes<2^60){K:Cells.T c109->Wp}(hK:∀w',Ext w w'->K (smT (s.add o)) w') :
  Aa Tryz.prog 108 #[smV s,smV o] (.one (.agg c109)) K w:=by
 have h1:=hs.byt;have h2:=hs.brk;have h3:=ho.byt;have h4:=ho.brk
 refine Ep4 (a0:=smT s) (a1:=smT o) ?_
 unfold F108
 refine (St.start w).Af λb1 w1 S1 e1=>S1.Af λb2 w2 S2 e2=>S2.Af λb3 w3 S3 e3=>?_
 refine S3.ld 2 rfl (x:=((s.atoms:Nat):Int)) rfl ?_
 refine Ac (λh=>?_) (λh=>?_)
 ·have h0:s.atoms=0:=by simp only [jM] at h;omega
  refine S3.lds 1 (smT o) rfl (S3.Ad 0 rfl rfl rfl rfl λw4 S4 u4=>S4.lds 0 (smT o) rfl ?_)
  have:=hK w4 S4.upd
  rwa [show s.add o=o by unfold Dw.add;rw [aF h0]] at this
 have h0:¬s.atoms=0:=by simp only [jO] at h;omega
 refine S3.ld 1 rfl (x:=((o.atoms:Nat):Int)) rfl (Ac (λh=>?_) (λh=>?_))
 ·have h0':o.atoms=0:=by simp only [jM] at h;omega
  refine S3.lds 2 (smT s) rfl (S3.Ad 0 rfl rfl rfl rfl λw4 S4 u4=>S4.lds 0 (smT s) rfl ?_)
  have:=hK w4 S4.upd
  rwa [show s.add o=s by unfold Dw.add;rw [aJ h0,aF h0']] at this
 have h0':¬o.atoms=0:=by simp only [jO] at h;omega
 refine S3.ld 2 rfl (x:=((s.atoms:Nat):Int)) rfl (S3.ld 1 rfl (x:=((o.atoms:Nat):Int)) rfl (S3.ld 2 rfl (x:=((s.bytes:Nat):Int)) rfl (S3.ld 1 rfl (x:=((o.bytes:Nat):Int)) rfl
  (S3.ld 2 rfl (x:=((s.breaks:Nat):Int)) rfl (S3.ld 1 rfl (x:=((o.breaks:Nat):Int)) rfl (S3.ld 2 rfl (x:=s.lf) rfl (S3.ld 1 rfl (x:=o.cr) rfl ?_)))))))
 rw [wrap64 (a:=((s.atoms:Nat):Int)+((o.atoms:Nat):Int)) (by omega) (by omega),wrap64 (a:=((s.bytes:Nat):Int)+((o.bytes:Nat):Int)) (by omega) (by omega),wrap64 (a:=((s.breaks:Nat):Int)+((o.breaks:Nat):Int)) (by omega) (by omega)]
 refine S3.Fp rfl rfl rfl λb4 w4 S4 e4=>?_
 refine Ae (λ_ w'=>St (λ_=>False) w w' [(b4,.cells (Cells.vals c109 (smT (s.add o))).toArray 109 (0,0)),(b3,.cells #[(.int .i64 0),(.int .i64 0),(.int .i64 0),(.bool false),(.bool false)] 109 (0,0))]) ?_ ?_
 ·refine Ae (λx w'=>x=(s.cr&&o.lf,())/\w4=w') (S4.ld 3 rfl (x:=s.cr) rfl (Ac (λh=>S4.ld 2 rfl (x:=o.lf) rfl ⟨by rw [h];rfl,rfl⟩) (λh=>⟨by rw [h];rfl,rfl⟩))) ?_
  rintro _ w' ⟨rfl,rfl⟩
  have lf:=hs.cr;have lf':=ho.lf
  refine Ac (λh=>?_) (λh=>?_)
  ·have h':(s.cr&&o.lf)=true:=h
   simp only [aV] at h'
   have:=lf h'.1;have:=lf' h'.2
   refine S4.ld 0 rfl (x:=((s.breaks:Nat):Int)+((o.breaks:Nat):Int)) rfl ?_
   rw [wrap64 (by omega) (by omega)]
   refine S4.stC 0 rfl (by simp) λw5 S5 u5=>?_
   have e:s.add o=⟨s.atoms+o.atoms,s.bytes+o.bytes,s.breaks+o.breaks-1,s.lf,o.cr⟩:=by unfold Dw.add;rw [aJ h0,aJ h0',aF h]
   rw [e]
   have e2:((s.breaks:Nat):Int)+((o.breaks:Nat):Int)-1=((s.breaks+o.breaks-1:Nat):Int):=by omega
   rw [e2] at S5
   exact ⟨S5.upd,S5.old,λx hx=>S5.loc x (by
    rcases aG.1 hx with rfl|hx
    ·exact aH
    ·rw [iT.1 hx];exact aI _ aH),by
    have:=S5.nd
    simp at this ⊢
    exact this.1.1⟩
  ·have e:s.add o=⟨s.atoms+o.atoms,s.bytes+o.bytes,s.breaks+o.breaks,s.lf,o.cr⟩:=by
    have h':¬(s.cr&&o.lf)=true:=λhh=>by
     have hf:(s.cr&&o.lf)=false:=h
     rw [hh] at hf;cases hf
    unfold Dw.add;rw [aJ h0,aJ h0',aJ h'];rfl
   rw [e]
   exact ⟨S4.upd,S4.old,λx hx=>S4.loc x (by
    rcases aG.1 hx with rfl|hx
    ·exact aH
    ·rw [iT.1 hx];exact aI _ aH),by
    have:=S4.nd
    simp at this ⊢
    exact this.1.1⟩
 ·intro _ w5 S5
  exact S5.lds 0 (smT (s.add o)) rfl (S5.Ad 1 rfl rfl rfl rfl λw6 S6 u6=>S6.lds 1 (smT (s.add o)) rfl (hK w6 S6.upd))
theorem Ax3 {s o:Dw}(hs:s.Ok) (ho:o.Ok) (hb:s.bytes+o.bytes<2^60){K:Cells.T c109->Wp}(hK:∀w',Ext w w'->K (smT (s.add o)) w') :
  Cj Tryz.prog (invoke (.fn (.method "Add") #[]) (#[.iface 109 (smV s)]++#[smV o])) (.one (.agg c109)) K w :=
 Uo (f:=108) (v':=smV s) (λw=>by kernel_rfl) (by kernel_rfl) (Y9 hs ho hb hK)
theorem Ab2 {x:Pc}{K:Cells.T c109->Wp}(hK:∀w',Ext w w'->K (smT x.sm) w') :
  Cj Tryz.prog (invoke (.fn (.method "Measure") #[]) (#[.iface 111 (pcV x)]++#[])) (.one (.agg c109)) K w:=by
 refine Cy3 (f:=234) (v':=pcV x) (λw=>by kernel_rfl) (by kernel_rfl) ?_
 refine Ef8 (a0:=pcT x) ?_
 unfold F234
 refine (St.start w).Af λb1 w1 S1 e1=>S1.Af λb2 w2 S2 e2=>?_
 refine Qh (S2.at_ 1 rfl) (x:=smT x.sm) (λi v hv=>?_) (S2.Ad 0 rfl rfl rfl rfl λw3 S3 u3=>S3.lds 0 (smT x.sm) rfl (hK w3 S3.upd))
 match i,hv with
 |0,hv=>exact hv
 |1,hv=>exact hv
 |2,hv=>exact hv
 |3,hv=>exact hv
 |4,hv=>exact hv
 |i+5,hv=>cases hv
theorem Dk2 {s:Dw}{k:Nat}(hk:k<2){K:Int->Wp}(hK:∀w',Ext w w'->K (if k=0 then (s.atoms:Int) else (s.breaks:Int)) w') :
  Cj Tryz.prog (invoke (.fn (.method "Key") #[]) (#[.iface 109 (smV s)]++#[.int .i64 (k:Int)])) (.one (.one (.int .i64))) K w:=by
 refine Uo (f:=233) (v':=smV s) (λw=>by kernel_rfl) (by kernel_rfl) ?_
 refine Ef9 (a0:=smT s) ?_
 unfold F233
 refine (St.start w).Af λb1 w1 S1 e1=>?_
 have:=hK w1 e1
 match k,hk with
 |0,_=>exact Ac (λ_=>S1.ld 0 rfl (x:=((s.atoms:Nat):Int)) rfl this) (λh=>by cases h)
 |1,_=>exact Ac (λh=>by cases h) (λ_=>Ac (λ_=>S1.ld 0 rfl (x:=((s.breaks:Nat):Int)) rfl this) (λh=>by cases h))
end
section
variable {w w':World}{S:Nat->Prop}
theorem _root_.Go.Vx.St.Dd1 {M:Nat->Prop}{w0:World}{ls:List (Nat×Obj)}(S:St M w0 w ls) (i:Nat){b off n:Nat}{vs:Array Value}{K:World->Prop}{c:Array Value}{t:TypeId}(hi:ls[i]?=some (b,.cells c t (0,0))) (hn:vs.size=n) (h1:vs.toList.all Gn=true) (ho:off+n<=c.size)
  (h:∀w1,St M w0 w1 (ls.set i (b,.cells (setRow c off vs.toList) t (0,0)))->K w1):Go.Vx.Ad ⟨b,off,none⟩ (.agg vs) n K w :=
 Zy (S.at_ i hi) hn h1 ho λw1 u hb _=>h w1 (Ah2 S hi u hb)
def Rk (l r:Option Addr) (x:Pc) (n h:Nat) (s:Dw):Array Value :=
 #[.pointer l,.pointer r,.slice x.bytes.a x.bytes.len x.bytes.cap,.int .i64 x.tag,.int .i64 (x.sm.atoms:Int),.int .i64 (x.sm.bytes:Int),.int .i64 (x.sm.breaks:Int),.bool x.sm.lf,.bool x.sm.cr,
  .int .i64 (n:Int),.int .i64 (h:Int),.int .i64 (s.atoms:Int),.int .i64 (s.bytes:Int),.int .i64 (s.breaks:Int),.bool s.lf,.bool s.cr]
def Trx.Tr.In (w:World):Tr->Prop
 |.nil=>True
 |.node b l x r=>w.heap[b]?=some (.cells (Rk l.ptr r.ptr x (Tr.node b l x r).size (Tr.node b l x r).Hq (tot (Tr.node b l x r).items)) 162 (0,0))/\l.In w/\r.In w
theorem Trx.Tr.In.ext:∀{t:Tr},t.In w->Ext w w'->t.In w'
 |.nil,_,_=>trivial
 |.node _ _ _ _,h,e=>⟨e.ext_get h.1,h.2.1.ext e,h.2.2.ext e⟩
theorem Trx.Tr.In.ty:∀{t:Tr},t.In w->Upd S w w'->Gs w S 162->t.In w'
 |.nil,_,_,_=>trivial
 |.node _ _ _ _,h,u,hS=>⟨u.get h.1 λhk=>hS _ hk _ _ h.1,h.2.1.ty u hS,h.2.2.ty u hS⟩
theorem Tq {b:Nat}{l r:Tr}{x:Pc}(h:(Tr.node b l x r).In w){j:Nat}{v:Value}(hv:(Rk l.ptr r.ptr x (Tr.node b l x r).size (Tr.node b l x r).Hq (tot (Tr.node b l x r).items))[j]?=some v):w.cell? ((at0 b).add j)=some v:=by rw [addr_add,dU];exact cell_of h.1 hv
theorem Am3 {b:Nat}{l r:Tr}{x:Pc}(h:(Tr.node b l x r).In w):w.cell? (at0 b)=some (.pointer l.ptr):=cell_of h.1 rfl
theorem Ea {b:Nat}{l r:Tr}{x:Pc}(h:(Tr.node b l x r).In w){K:Addr->Option Addr->Wp}(hK:K (at0 b) l.ptr w):nn (Tr.node b l x r).ptr (λp=>ld .ptr p (K p)) w :=
 Am (Ce h.1 (x:=l.ptr) rfl hK)
theorem Fe {b:Nat}{l r:Tr}{x:Pc}(h:(Tr.node b l x r).In w){K:Addr->Option Addr->Wp}(hK:K (at0 b) r.ptr w):nn (Tr.node b l x r).ptr (λp=>ld .ptr (p.add 1) (K p)) w :=
 Am (by rw [addr_add];exact Ce h.1 (x:=r.ptr) rfl hK)
theorem Pn {b:Nat}{l r:Tr}{x:Pc}(h:(Tr.node b l x r).In w):Ap w ((at0 b).add 2) 0 (Cells.vals Aj (pcT x)):=by
 rw [addr_add]
 refine Gj _ 0 λj v hv=>cell_of h.1 ?_
 match j,hv with
 |0,hv=>exact hv
 |1,hv=>exact hv
 |2,hv=>exact hv
 |3,hv=>exact hv
 |4,hv=>exact hv
 |5,hv=>exact hv
 |6,hv=>exact hv
 |j+7,hv=>cases hv
theorem Dd9 {b:Nat}{l r:Tr}{x:Pc}(h:(Tr.node b l x r).In w):Ap w ((at0 b).add 11) 0 (Cells.vals c109 (smT (tot (Tr.node b l x r).items))):=by
 rw [addr_add]
 refine Gj _ 0 λj v hv=>cell_of h.1 ?_
 match j,hv with
 |0,hv=>exact hv
 |1,hv=>exact hv
 |2,hv=>exact hv
 |3,hv=>exact hv
 |4,hv=>exact hv
 |j+5,hv=>cases hv
theorem Ia {b:Nat}{l r:Tr}{x:Pc}(h:(Tr.node b l x r).In w){K:Addr->Cells.T Aj->Wp}(hK:K (at0 b) (pcT x) w):nn (Tr.node b l x r).ptr (λp=>lds Aj (p.add 2) (K p)) w :=
 Am ⟨pcT x,Pn h,hK⟩
theorem Am2 {b:Nat}{l r:Tr}{x:Pc}(h:(Tr.node b l x r).In w){K:Addr->Cells.T c109->Wp}(hK:K (at0 b) (smT (tot (Tr.node b l x r).items)) w):nn (Tr.node b l x r).ptr (λp=>lds c109 (p.add 11) (K p)) w :=
 Am ⟨_,Dd9 h,hK⟩
theorem Ju {t:Tr}(h:t.In w){K:Int->Wp}(hK:K (t.size:Int) w):Aa Tryz.prog 115 #[.pointer t.ptr] rI K w:=by
 refine Eo9 ?_;unfold F115;cases t with
 |nil=>exact Ac (λ_=>hK) (λh=>by cases h)
 |node b l x r=>exact Ac (λh=>by cases h) (λ_=>Am (by rw [addr_add];exact Ce h.1 (x:=((Tr.node b l x r).size:Int)) rfl hK))
theorem Eh {t:Tr}(h:t.In w){K:Int->Wp}(hK:K (t.Hq:Int) w):Aa Tryz.prog 198 #[.pointer t.ptr] rI K w:=by
 refine Eh3 ?_;unfold F198;cases t with
 |nil=>exact Ac (λ_=>hK) (λh=>by cases h)
 |node b l x r=>exact Ac (λh=>by cases h) (λ_=>Am (by rw [addr_add];exact Ce h.1 (x:=((Tr.node b l x r).Hq:Int)) rfl hK))
structure Fine (l:List Pc):Prop where
 ok:Dp l
 few:l.length<2^60
 small:(tot l).bytes<2^60
theorem Eb {l m:List Pc}(h:Dp l) (h':Dp m):(tot (l++m)).bytes=(tot l).bytes+(tot m).bytes:=by rw [Ip h h'];exact (Dw.Qx _ _ (Jd h) (Jd h')).1
theorem Fine.left {l m:List Pc}(h:Fine (l++m)):Fine l:=⟨h.ok.left,by have:=h.few;rw [iE] at this;omega,by
 have:=h.small;rw [Eb h.ok.left h.ok.right] at this;omega⟩
theorem Fine.right {l m:List Pc}(h:Fine (l++m)):Fine m:=⟨h.ok.right,by have:=h.few;rw [iE] at this;omega,by
 have:=h.small;rw [Eb h.ok.left h.ok.right] at this;omega⟩
theorem Cx2 (l r:Option Addr) (x:Pc) (n h:Nat) (s s':Dw):setRow (Rk l r x n h s) 11 (Cells.vals c109 (smT s')).toArray.toList=Rk l r x n h s':=rfl
theorem Bd3 {M:Nat->Prop}{w0:World}{ls:List (Nat×Obj)}{b:Nat}{l r:Option Addr}{x:Pc}{n h:Nat}{s s':Dw}{K:World->Prop}(S:St M w0 w ((b,.cells (Rk l r x n h s) 162 (0,0))::ls))
  (hK:∀w1,St M w0 w1 ((b,.cells (Rk l r x n h s') 162 (0,0))::ls)->K w1):Ad ((at0 b).add 11) (.agg (Cells.vals c109 (smT s')).toArray) 5 K w:=by rw [addr_add];refine S.Dd1 0 (c:=Rk l r x n h s) rfl rfl rfl (by show 0+11+5<=16;decide) λw1 S1=>hK w1 ?_;rw [dU,Cx2] at S1;exact S1
theorem Ce6 {l r:Tr}{x:Pc}(hl:l.In w) (hr:r.In w) (hf:Fine (l.items++x::r.items)){K:Option Addr->Wp}(hK:∀b w',(Tr.node b l x r).In w'->Ext w w'->K (some (at0 b)) w') :
  Aa Tryz.prog 167 #[.pointer l.ptr,pcV x,.pointer r.ptr] rP K w:=by
 refine Ej7 (a1:=pcT x) ?_;unfold F167;have okl:=hf.ok.left;have okx:=hf.ok.right.head;have okr:=hf.ok.right.tail;have sl:=Ef l;have sr:=Ef r;have tl:=Sm l;have tr:=Sm r;have few:=hf.few;rw [iE,dB] at few;have small:=hf.small;have ex:x::r.items=[x]++r.items:=rfl;rw [ex,Eb okl (Dp.append (Dp.one okx) okr),Eb (Dp.one okx) okr,Zd okx] at small;refine (St.start w).Af λb1 w1 S1 e1=>S1.drew λw2 S2 e2 _=>S2.lds 0 (pcT x) rfl ?_;have e12:=e1.trans e2;have hl2:=hl.ext e12;have hr2:=hr.ext e12;refine Ju hl2 (S2.keeps 0 rfl (Ju hr2 (S2.keeps 0 rfl (Eh hl2 (S2.keeps 0 rfl (Eh hr2 (S2.keeps 0 rfl ?_)))))));have es:W64 (W64 ((l.size:Int)+1)+(r.size:Int))=(((l.size+1+r.size:Nat)):Int):=by
  rw [wrap64 (a:=(l.size:Int)+1) (by omega) (by omega),wrap64 (by omega) (by omega)];omega
 have et:W64 ((if (r.Hq:Int)>(l.Hq:Int) then (r.Hq:Int) else (l.Hq:Int))+1)=((max l.Hq r.Hq+1:Nat):Int):=by
  have e:(if (r.Hq:Int)>(l.Hq:Int) then (r.Hq:Int) else (l.Hq:Int))=((max l.Hq r.Hq:Nat):Int):=by split<;>omega
  rw [e,wrap64 (by omega) (by omega)];omega
 rw [es,et];refine S2.Af λb7 w3 S3 e3=>S3.lds 1 (pcT x) rfl (Ab2 λw4 e4=>Am ?_);have S4:=S3.ext e4;have e14:=(e12.trans e3).trans e4;have S4':St (λ_=>False) w w4 [(b7,.cells (Rk l.ptr r.ptr x (l.size+1+r.size) (max l.Hq r.Hq+1) .zero) 162 (0,0)),(b1,.cells (Cells.vals Aj (pcT x)).toArray 111 (0,0))]:=S4;refine Bd3 (s':=x.sm) S4' λw5 S5=>?_;have J0:∀(w':World) (s:Dw),St (λ_=>False) w w' [(b7,.cells (Rk l.ptr r.ptr x (l.size+1+r.size) (max l.Hq r.Hq+1) s) 162 (0,0)),(b1,.cells (Cells.vals Aj (pcT x)).toArray 111 (0,0))] ->
   Ap w' ((at0 b7).add 11) 0 (Cells.vals c109 (smT s)):=by
  intro w' s S'
  rw [addr_add]
  refine Gj _ 0 λj v hv=>cell_of (S'.at_ 0 rfl) ?_
  match j,hv with
  |0,hv=>exact hv
  |1,hv=>exact hv
  |2,hv=>exact hv
  |3,hv=>exact hv
  |4,hv=>exact hv
  |j+5,hv=>cases hv
 have okt:=Jd okl;have okt':=Jd okr;refine Ae (λ_ w'=>St (λ_=>False) w w' [(b7,.cells (Rk l.ptr r.ptr x (l.size+1+r.size) (max l.Hq r.Hq+1) ((tot l.items).add x.sm)) 162 (0,0)),(b1,.cells (Cells.vals Aj (pcT x)).toArray 111 (0,0))]) ?_ ?_
 ·cases l with
  |nil=>exact Ac (λh=>by cases h) (λ_=>S5)
  |node bl ll xl rl=>refine Ac (λ_=>S5.drew λw6 S6 e6 _=>?_) (λh=>by cases h);refine Am2 (hl.ext S6.upd) (Am ⟨_,J0 w6 x.sm S6,?_⟩);exact Ax3 okt okx (by omega) λw7 e7=>Am (Bd3 (S6.ext e7) λw8 S8=>S8)
 intro _ w6 S6;have okm:=Dw.Ad0 okt okx;have bm:=(Dw.Qx _ _ okt okx).1;have fin:(tot (l.items++x::r.items))=((tot l.items).add x.sm).add (tot r.items):=by
  rw [ex,Ip okl (Dp.append (Dp.one okx) okr),Ip (Dp.one okx) okr,Zd okx,Dw.add_assoc okt okx okt']
 refine Ae (λ_ w'=>St (λ_=>False) w w' [(b7,.cells (Rk l.ptr r.ptr x (l.size+1+r.size) (max l.Hq r.Hq+1) (((tot l.items).add x.sm).add (tot r.items))) 162 (0,0)),(b1,.cells (Cells.vals Aj (pcT x)).toArray 111 (0,0))]) ?_ ?_
 ·cases r with
  |nil=>have e:((tot l.items).add x.sm).add (tot (Tr.nil).items)=(tot l.items).add x.sm:=Dw.add_zero okm;rw [e];exact Ac (λh=>by cases h) (λ_=>S6)
  |node br lr xr rr=>refine Ac (λ_=>S6.drew λw7 S7 e7 _=>?_) (λh=>by cases h);refine Am ⟨_,J0 w7 _ S7,Am2 (hr.ext S7.upd) ?_⟩;exact Ax3 okm okt' (by omega) λw8 e8=>Am (Bd3 (S7.ext e8) λw9 S9=>S9)
 intro _ w7 S7;refine hK b7 w7 ⟨?_,hl.ext S7.upd,hr.ext S7.upd⟩ S7.upd;have:=S7.at_ 0 rfl;rw [←fin] at this;exact this
end
section
variable {w w':World}{S:Nat->Prop}
abbrev Za (w:World) (l:List Pc) (K:Option Addr->Wp):Prop:=∀(t:Tr) (w':World),t.In w'->t.items=l->Ext w w'->K t.ptr w'
theorem Za.ext {l:List Pc}{K:Option Addr->Wp}(h:Za w l K) (e:Ext w w'):Za w' l K:=λt w2 h1 h2 e2=>h t w2 h1 h2 (e.trans e2)
theorem Fine.mid {a l b:List Pc}(h:Fine (a++(l++b))):Fine l:=h.right.left
theorem Ey {l r:Tr}{x:Pc}{L:List Pc}(hl:l.In w) (hr:r.In w) (hf:Fine L) (hL:l.items++x::r.items=L){K:Option Addr->Wp}(hK:Za w L K) :
  Aa Tryz.prog 167 #[.pointer l.ptr,pcV x,.pointer r.ptr] rP K w :=
 Ce6 hl hr (hL▸hf) λb w' h1 e1=>hK _ _ h1 hL e1
theorem Ze {a b:Tr}(h:decide ((a.Hq:Int)>W64 ((b.Hq:Int)+1))=true) (hb:b.Hq<2^60):b.Hq+1<a.Hq:=by rw [wrap64 (by omega) (by omega)] at h;simp only [iI] at h;omega
theorem Ac2 {l r:Tr}{x:Pc}(hl:l.In w) (hr:r.In w) (hf:Fine (l.items++x::r.items)){K:Option Addr->Wp}(hK:Za w (l.items++x::r.items) K) :
  Aa Tryz.prog 199 #[.pointer l.ptr,pcV x,.pointer r.ptr] rP K w:=by refine Eh2 (a1:=pcT x) ?_;unfold F199;have few:=hf.few;rw [iE,dB,Ef,Ef] at few;have tl:=Sm l;have tr:=Sm r;refine (St.start w).Af λb1 w1 S1 e1=>?_;have hl1:=hl.ext e1;have hr1:=hr.ext e1;refine Eh hl1 (Eh hr1 (Ac (λh=>?_) (λh=>?_)));{have hgt:=Ze h (by omega);obtain ⟨bl,ll,lx,lr,rfl⟩:=Vb (t:=l) (by omega);refine S1.drew λw2 S2 e2 _=>?_;have hl2:=hl1.ext e2;have hr2:=hr1.ext e2;refine Ea hl2 (Fe hl2 (Eh hl2.2.1 (Bg (Tq hl2 rfl) (Eh hl2.2.2 (Ac (λh2=>?_) (λh2=>?_))))));{refine S2.drew λw3 S3 e3 _=>?_;have hl3:=hl2.ext e3;have hr3:=hr2.ext e3;refine Ea hl3 (Ia hl3 (Fe hl3 (S3.lds 0 (pcT x) rfl ?_)));have e03:=(e1.trans e2).trans e3;have eq:(Tr.node bl ll lx lr).items++x::r.items=(ll.items++[lx])++(lr.items++x::r.items):=(by simp [Tr.items]);refine Ey hl3.2.2 hr3 (L:=lr.items++x::r.items) ((eq▸hf).right) rfl λt w4 ht hti e4=>?_;refine Bg (Pn (hl3.ext e4)) (Bg (Am3 (hl3.ext e4)) ?_);exact Ey (hl3.ext e4).2.1 ht hf (by rw [hti,eq];simp) (hK.ext (e03.trans e4))};{simp only [iH,jT] at h2;obtain ⟨bm,ml,mx,mr,rfl⟩:=Vb (t:=lr) (by omega);refine Fe hl2 (S2.drew λw3 S3 e3 _=>?_);have hl3:=hl2.ext e3;have hr3:=hr2.ext e3;have hm3:=hl3.2.2;refine Ea hl3 (Ia hl3 (Ea hm3 (Ia hm3 (Fe hm3 (S3.lds 0 (pcT x) rfl ?_)))));have e03:=(e1.trans e2).trans e3;have eq:(Tr.node bl ll lx (Tr.node bm ml mx mr)).items++x::r.items=(ll.items++lx::ml.items)++([mx]++(mr.items++x::r.items)):=(by simp [Tr.items]);have hf':=eq▸hf;refine Ey hl3.2.1 hm3.2.1 (L:=ll.items++lx::ml.items) hf'.left rfl λt w4 ht hti e4=>?_;have S4:=S3.ext e4;have hm4:=hm3.ext e4;refine S4.keeps 0 rfl (Bg (Tq hm4 rfl) (Bg (Pn hm4) ?_));refine Ey hm4.2.2 (hr3.ext e4) (L:=mr.items++x::r.items) hf'.right.right rfl λt2 w5 ht2 hti2 e5=>?_;refine Bg (Pn (hm4.ext e5)) ?_;exact Ey (ht.ext e5) ht2 hf (by rw [hti,hti2,eq];simp) (hK.ext ((e03.trans e4).trans e5))}};refine Eh hr1 (Eh hl1 (Ac (λh=>?_) (λh=>?_)));{have hgt:=Ze h (by omega);obtain ⟨br,rl,rx,rr,rfl⟩:=Vb (t:=r) (by omega);refine S1.drew λw2 S2 e2 _=>?_;have hl2:=hl1.ext e2;have hr2:=hr1.ext e2;refine Fe hr2 (Ea hr2 (Eh hr2.2.2 (Bg (Am3 hr2) (Eh hr2.2.1 (Ac (λh2=>?_) (λh2=>?_))))));{refine S2.drew λw3 S3 e3 _=>?_;have hl3:=hl2.ext e3;have hr3:=hr2.ext e3;refine S3.lds 0 (pcT x) rfl (Ea hr3 (Ia hr3 (Fe hr3 ?_)));have e03:=(e1.trans e2).trans e3;have eq:l.items++x::(Tr.node br rl rx rr).items=(l.items++x::rl.items)++(rx::rr.items):=(by simp [Tr.items]);refine Ey hl3 hr3.2.1 (L:=l.items++x::rl.items) ((eq▸hf).left) rfl λt w4 ht hti e4=>?_;refine Bg (Tq (hr3.ext e4) rfl) (Bg (Pn (hr3.ext e4)) ?_);exact Ey ht (hr3.ext e4).2.2 hf (by rw [hti,eq]) (hK.ext (e03.trans e4))};{simp only [iH,jT] at h2;obtain ⟨bm,ml,mx,mr,rfl⟩:=Vb (t:=rl) (by omega);refine Ea hr2 (S2.drew λw3 S3 e3 _=>?_);have hl3:=hl2.ext e3;have hr3:=hr2.ext e3;have hm3:=hr3.2.1;refine S3.lds 0 (pcT x) rfl (Ea hm3 (Ia hm3 (Fe hm3 (Ia hr3 (Fe hr3 ?_)))));have e03:=(e1.trans e2).trans e3;have eq:l.items++x::(Tr.node br (Tr.node bm ml mx mr) rx rr).items=(l.items++x::ml.items)++([mx]++(mr.items++rx::rr.items)):=(by simp [Tr.items]);have hf':=eq▸hf;refine Ey hl3 hm3.2.1 (L:=l.items++x::ml.items) hf'.left rfl λt w4 ht hti e4=>?_;have hm4:=hm3.ext e4;have hr4:=hr3.ext e4;refine Bg (Tq hr4 rfl) (Bg (Pn hr4) (Bg (Tq hm4 rfl) (Bg (Pn hm4) ?_)));refine Ey hm4.2.2 hr4.2.2 (L:=mr.items++rx::rr.items) hf'.right.right rfl λt2 w5 ht2 hti2 e5=>?_;refine Bg (Pn (hm4.ext e5)) ?_;exact Ey (ht.ext e5) ht2 hf (by rw [hti,hti2,eq];simp) (hK.ext ((e03.trans e4).trans e5))}};exact S1.lds 0 (pcT x) rfl (Ey hl1 hr1 hf rfl (hK.ext e1))
theorem Ab5:∀(n:Nat){l r:Tr}{w:World}{x:Pc},l.Hq+r.Hq<=n->l.In w->r.In w->Fine (l.items++x::r.items)->∀{K:Option Addr->Wp},Za w (l.items++x::r.items) K ->
  Aa Tryz.prog 170 #[.pointer l.ptr,pcV x,.pointer r.ptr] rP K w:=by
 intro n;induction n with
 |zero=>intro l r w x hn hl hr hf K hK;refine Dm5 (a1:=pcT x) ?_;unfold F170;have h0:l.Hq=0:=(by omega);have h1:r.Hq=0:=(by omega);refine (St.start w).Af λb1 w1 S1 e1=>?_;have hl1:=hl.ext e1;have hr1:=hr.ext e1;refine Eh hl1 (Eh hr1 (Ac (λh=>?_) (λ_=>Eh hr1 (Eh hl1 (Ac (λh=>?_) (λ_=>?_))))));{have:=Ze h (by omega);omega};{have:=Ze h (by omega);omega};{exact S1.lds 0 (pcT x) rfl (Ey hl1 hr1 hf rfl (hK.ext e1))}
 |succ n ih=>intro l r w x hn hl hr hf K hK;refine Dm5 (a1:=pcT x) ?_;unfold F170;have few:=hf.few;rw [iE,dB,Ef,Ef] at few;have tl:=Sm l;have tr:=Sm r;refine (St.start w).Af λb1 w1 S1 e1=>?_;have hl1:=hl.ext e1;have hr1:=hr.ext e1;refine Eh hl1 (Eh hr1 (Ac (λh=>?_) (λ_=>Eh hr1 (Eh hl1 (Ac (λh=>?_) (λ_=>?_))))));{have hgt:=Ze h (by omega);obtain ⟨bl,ll,lx,lr,rfl⟩:=Vb (t:=l) (by omega);refine S1.drew λw2 S2 e2 _=>?_;have hl2:=hl1.ext e2;have hr2:=hr1.ext e2;refine Ea hl2 (Ia hl2 (Fe hl2 (S2.lds 0 (pcT x) rfl ?_)));have eq:(Tr.node bl ll lx lr).items++x::r.items=(ll.items++[lx])++(lr.items++x::r.items):=(by simp [Tr.items]);have ht:(Tr.node bl ll lx lr).Hq=max ll.Hq lr.Hq+1:=rfl;refine ih (l:=lr) (r:=r) (by omega) hl2.2.2 hr2 ((eq▸hf).right) λt w3 ht3 hti e3=>?_;refine Bg (Pn (hl2.ext e3)) (Bg (Am3 (hl2.ext e3)) ?_);(have eq2:ll.items++lx::t.items=(Tr.node bl ll lx lr).items++x::r.items:=by rw [hti,eq];simp);exact Ac2 (hl2.ext e3).2.1 ht3 (eq2▸hf) (eq2▸hK.ext ((e1.trans e2).trans e3))};{have hgt:=Ze h (by omega);obtain ⟨br,rl,rx,rr,rfl⟩:=Vb (t:=r) (by omega);refine S1.drew λw2 S2 e2 _=>?_;have hl2:=hl1.ext e2;have hr2:=hr1.ext e2;refine S2.lds 0 (pcT x) rfl (Ea hr2 (Ia hr2 (Fe hr2 ?_)));have eq:l.items++x::(Tr.node br rl rx rr).items=(l.items++x::rl.items)++(rx::rr.items):=(by simp [Tr.items]);have ht:(Tr.node br rl rx rr).Hq=max rl.Hq rr.Hq+1:=rfl;refine ih (l:=l) (r:=rl) (by omega) hl2 hr2.2.1 ((eq▸hf).left) λt w3 ht3 hti e3=>?_;refine Bg (Tq (hr2.ext e3) rfl) (Bg (Pn (hr2.ext e3)) ?_);have eq2:t.items++rx::rr.items=l.items++x::(Tr.node br rl rx rr).items:=(by rw [hti,eq]);exact Ac2 ht3 (hr2.ext e3).2.2 (eq2▸hf) (eq2▸hK.ext ((e1.trans e2).trans e3))};{exact S1.lds 0 (pcT x) rfl (Ey hl1 hr1 hf rfl (hK.ext e1))}
end
section
variable {w w':World}{S:Nat->Prop}
theorem Bj3:∀(t:Tr) (w:World) (n:Nat),t.In w->Fine t.items->n<2^61->∀{K:Option Addr×Option Addr×Unit->Wp},
  (∀(a b:Tr) (w':World),a.In w'->b.In w'->a.items=t.items.take n->b.items=t.items.drop n->Ext w w'->K (a.ptr,b.ptr,()) w') ->
  Aa Tryz.prog 120 #[.pointer t.ptr,.int .i64 (n:Int)] (.tup [(.one .ptr),(.one .ptr)]) K w:=by
 intro t;induction t with
 |nil=>intro w n ht hf hn K hK;refine Dm6 ?_;unfold F120;exact Ac (λ_=>hK .nil .nil w trivial trivial (by simp [Tr.items]) (by simp [Tr.items]) (Ext.refl w)) (λh=>by cases h)
 | node b l x r ihl ihr =>
  intro w n ht hf hn K hK;refine Dm6 ?_;unfold F120;have hfl:Fine l.items:=hf.left;have hfr:Fine r.items:=Fine.right (l:=[x]) hf.right;have sl:=Ef l;have few:=hfl.few;refine Ac (λh=>by cases h) (λ_=>Ea ht (Ju ht.2.1 (Ac (λh=>?_) (λh=>?_))))
  ·simp only [iI] at h;refine Ea ht (ihl w n ht.2.1 hfl hn λp q w1 hp hq hpi hqi e1=>Ci λw2 e2 _=>?_);have ht2:=(ht.ext e1).ext e2;refine Ia ht2 (Fe ht2 ?_);have hle:n<=l.items.length:=(by omega);have eq:q.items++x::r.items=(Tr.node b l x r).items.drop n:=by
    show _=(l.items++x::r.items).drop n
    rw [jV hle,hqi]
   have hfq:Fine (q.items++x::r.items):=by
    rw [eq]
    have e:=jD n (Tr.node b l x r).items
    exact Fine.right (l:=(Tr.node b l x r).items.take n) (e.symm▸hf)
   refine Ab5 _ (fJ _) (hq.ext e2) ht2.2.2 hfq λt3 w3 h3 h3i e3=>?_;refine hK p t3 w3 ((hp.ext e2).ext e3) h3 ?_ (by rw [h3i,eq]) ((e1.trans e2).trans e3);show _=(l.items++x::r.items).take n;rw [jW hle,hpi]
  ·simp only [iH] at h;obtain ⟨m,rfl⟩:∃m,n=l.items.length+1+m:=⟨n-l.items.length-1,by omega⟩;have ew:W64 (W64 (((l.items.length+1+m:Nat):Int)-(l.size:Int))-1)=(m:Int):=by
    rw [wrap64 (a:=((l.items.length+1+m:Nat):Int)-(l.size:Int)) (by omega) (by omega),wrap64 (by omega) (by omega)];omega
   rw [ew];refine Fe ht (ihr w m ht.2.2 hfr (by omega) λp q w1 hp hq hpi hqi e1=>Ci λw2 e2 _=>?_);have ht2:=(ht.ext e1).ext e2;refine Ea ht2 (Ia ht2 ?_);have tk:(l.items++x::r.items).take (l.items.length+1+m)=l.items++x::r.items.take m:=by
    rw [Nat.add_assoc,jX,jY 1 m,iK]
   have dr:(l.items++x::r.items).drop (l.items.length+1+m)=r.items.drop m:=by
    rw [Nat.add_assoc,jZ,jY 1 m,iP]
   have eq:l.items++x::p.items=(Tr.node b l x r).items.take (l.items.length+1+m):=by
    show _=(l.items++x::r.items).take _
    rw [tk,hpi]
   have hfq:Fine (l.items++x::p.items):=by
    rw [eq]
    have e:=jD (l.items.length+1+m) (Tr.node b l x r).items
    exact Fine.left (m:=(Tr.node b l x r).items.drop (l.items.length+1+m)) (e.symm▸hf)
   refine Ab5 _ (fJ _) ht2.2.1 (hp.ext e2) hfq λt3 w3 h3 h3i e3=>?_;refine hK t3 q w3 h3 ((hq.ext e2).ext e3) (by rw [h3i,eq]) ?_ ((e1.trans e2).trans e3);show _=(l.items++x::r.items).drop _;rw [dr,hqi]
theorem Br4:∀(l:Tr) (b:Nat) (x:Pc) (r:Tr) (w:World),(Tr.node b l x r).In w->Fine (Tr.node b l x r).items->∀{K:Cells.T Aj×Option Addr×Unit->Wp},
  (∀(y:Pc) (t:Tr) (w':World),t.In w'->y::t.items=(Tr.node b l x r).items->Ext w w'->K (pcT y,t.ptr,()) w') ->
  Aa Tryz.prog 171 #[.pointer (Tr.node b l x r).ptr] (.tup [(.agg Aj),(.one .ptr)]) K w:=by
 intro l;induction l with
 |nil=>intro b x r w ht hf K hK;refine Dm4 ?_;unfold F171;refine (St.start w).Af λb1 w1 S1 e1=>Ea (ht.ext e1) (Ac (λ_=>S1.drew λw2 S2 e2 _=>?_) (λh=>by cases h));have ht2:=(ht.ext e1).ext e2;refine Ia ht2 (Fe ht2 (S2.Ad 0 rfl rfl rfl rfl λw3 S3 u3=>?_));exact Bg (Tq (ht.ext S3.upd) rfl) (S3.lds 0 (pcT x) rfl (hK x r w3 (ht.ext S3.upd).2.2 rfl S3.upd))
 | node bl ll lx lr ih _ =>
  intro b x r w ht hf K hK;refine Dm4 ?_;unfold F171;have hfl:Fine (Tr.node bl ll lx lr).items:=hf.left;refine (St.start w).Af λb1 w1 S1 e1=>Ea (ht.ext e1) (Ac (λh=>by cases h) (λ_=>Ea (ht.ext e1) ?_));refine ih bl lx lr w1 (ht.ext e1).2.1 hfl λy t w2 h2 h2i e2=>?_;refine (S1.ext e2).Fp rfl rfl rfl λb2 w3 S3 e3=>S3.drew λw4 S4 e4 _=>S4.lds 0 (pcT y) rfl ?_;have e14:=((e1.trans e2).trans e3).trans e4;have ht4:=ht.ext e14;have eq:(Tr.node b (Tr.node bl ll lx lr) x r).items=[y]++(t.items++x::r.items):=by
   show (Tr.node bl ll lx lr).items++x::r.items=_
   rw [←h2i];rfl
  refine Ia ht4 (Fe ht4 (Ac2 ((h2.ext e3).ext e4) ht4.2.2 ((eq▸hf).right) λt5 w5 h5 h5i e5=>?_));have S5:=S4.ext e5;refine S5.keeps 0 rfl (S5.Ad 1 rfl rfl rfl rfl λw6 S6 u6=>S6.lds 1 (pcT y) rfl ?_);refine hK y t5 w6 (h5.ty u6 ?_) (by rw [h5i,eq];rfl) S6.upd;rintro k rfl c fr hc;have:=S5.at_ 1 rfl;rw [hc] at this;cases this
theorem Aw8 {l r:Tr}(hl:l.In w) (hr:r.In w) (hf:Fine (l.items++r.items)){K:Option Addr->Wp}(hK:Za w (l.items++r.items) K) :
  Aa Tryz.prog 121 #[.pointer l.ptr,.pointer r.ptr] rP K w:=by
 refine Eo4 ?_;unfold F121;cases r with
 |nil=>exact Ac (λ_=>hK l w hl (by simp [Tr.items]) (Ext.refl w)) (λh=>by cases h)
 |node b rl rx rr=>refine Ac (λh=>by cases h) (λ_=>Br4 rl b rx rr w hr hf.right λy t w1 h1 h1i e1=>?_);refine (St.start w1).Fp rfl rfl rfl λb2 w2 S2 e2=>S2.lds 0 (pcT y) rfl ?_;have eq:l.items++y::t.items=l.items++(Tr.node b rl rx rr).items:=(by rw [h1i]);exact Ab5 _ (fJ _) (hl.ext (e1.trans e2)) (h1.ext e2) (eq▸hf) (eq▸hK.ext (e1.trans e2))
end
section
variable {w w':World}{S:Nat->Prop}
theorem Av9 (cs:List Cell):∀(xs:List (Cells.T cs)) (n:Nat),(flat cs xs).drop (n*cs.length)=flat cs (xs.drop n)
 |xs,0=>by simp
 |[],n+1=>by simp [flat]
 |x::xs,n+1=>by
  have e:flat cs (x::xs)=Cells.vals cs x++flat cs xs:=rfl
  rw [e,fU,Nat.one_mul,jY,←iR,←Gm cs x,kC,iP,Gm cs x]
  exact Av9 cs xs n
theorem Av8 (cs:List Cell):∀(xs:List (Cells.T cs)) (n:Nat),(flat cs xs).take (n*cs.length)=flat cs (xs.take n)
 |xs,0=>by simp [flat]
 |[],n+1=>by simp [flat]
 |x::xs,n+1=>by
  have e:flat cs (x::xs)=Cells.vals cs x++flat cs xs:=rfl
  have e2:flat cs ((x::xs).take (n+1))=Cells.vals cs x++flat cs (xs.take n):=rfl
  rw [e,e2,fU,Nat.one_mul,jY,←Gm cs x,jX,Gm cs x,Av8 cs xs n]
abbrev Ps (w:World) (s:Sl) (l:List Pc):Prop:=Bl w s 111 7 (flat Aj (l.map pcT))
theorem Ps.len {s:Sl}{l:List Pc}(h:Ps w s l):l.length=s.len:=by
 have:=Bl.Na (cs:=Aj) h (by decide)
 rwa [gW] at this
theorem Cl8 {s:Sl}{l:List Pc}{a b m:Int}{K:Sl->Wp}(hs:Ps w s l) (h0:0<=a) (h1:a<=b) (h2:b<=s.len) (h3:b<=m) (h4:m<=s.cap)
  (hK:∀s',Ps w s' ((l.drop a.toNat).take (b.toNat-a.toNat))->K s' w):slc s.a a b m s.cap 7 K w :=
 Be8 hs h0 h1 h2 h3 h4 λs' hs' _ _ _=>hK s' (by
  have e1:=Av9 Aj (l.map pcT) a.toNat
  have e2:=Av8 Aj ((l.map pcT).drop a.toNat) (b.toNat-a.toNat)
  rw [show Aj.length=7 from rfl] at e1 e2
  rw [e1,e2,←kD,←kE] at hs'
  exact hs')
theorem Bx4 {cs:List Cell}{s:Sl}{t:TypeId}{xs:List (Cells.T cs)}{n:Int}{K:Addr->Cells.T cs->Wp}(h:Bl w s t cs.length (flat cs xs)) (hc:0<cs.length) (h0:0<=n){x:Cells.T cs}(hx:xs[n.toNat]?=some x)
  (hK:∀p,(∀w',Ext w w'->Ap w' (p.add (scaled (Int.toNat n) cs.length)) 0 (Cells.vals cs x))->K p x w) :
  ix s.a s.len n (λp=>lds cs (p.add (scaled (Int.toNat n) cs.length)) (K p)) w:=by
 have hlt:=(fG.1 hx).1;have hl:=h.Na hc;have key:∀{w':World},Bl w' s t cs.length (flat cs xs)->∀b off,s.a=some ⟨b,off,none⟩->Ap w' ((⟨b,off,none⟩:Addr).add (scaled (Int.toNat n) cs.length)) 0 (Cells.vals cs x):=by
  intro w' h' b off ha
  rcases h'.at_ with ⟨hn,_⟩|⟨b',off',c,fr,ha',hb,_,hv⟩
  ·rw [hn] at ha;cases ha
  ·rw [ha'] at ha;cases ha
   rw [addr_add]
   refine Gj _ 0 λj v hj=>?_
   have hjl:j<cs.length:=by
    have:=(fG.1 hj).1
    rwa [Gm] at this
   have h2:=hv (n.toNat*cs.length+j) v (by rw [flat_get cs xs _ j x hx hjl];exact hj)
   refine cell_of hb ?_
   rw [Ei,show off+n.toNat*cs.length+(0+j)=off+(n.toNat*cs.length+j) by omega]
   exact h2
 refine h.ix h0 (by omega) hc λb off ha hv=>⟨x,key h b off ha,hK _ λw' e=>key (h.ext e) b off ha⟩
theorem Ap5:∀(n:Nat) (l:List Pc) (s:Sl) (w:World),l.length<=n->Ps w s l->Fine l->∀{K:Option Addr->Wp},Za w l K->Aa Tryz.prog 110 #[s.v] rP K w:=by
 intro n;induction n with
 |zero=>intro l s w hn hs hf K hK;obtain rfl:l=[]:=bF.1 (by omega);have hl:=hs.len;refine Dm8 ?_;unfold F110;exact Ac (λ_=>hK .nil w trivial rfl (Ext.refl w)) (λh=>by simp at hl;simp [←hl] at h)
 | succ n ih =>
  intro l s w hn hs hf K hK;have hl:=hs.len;have hcap:=hs.le;have few:=hf.few;refine Dm8 ?_;unfold F110;refine Ac (λh=>?_) (λh=>Dc (by decide) (Ci λw1 e1 _=>?_));{simp only [jM] at h;obtain rfl:l=[]:=bF.1 (by omega);exact hK .nil w trivial rfl (Ext.refl w)};simp only [jO] at h;have hs1:Ps w1 s l:=hs.ext e1;obtain ⟨k,hk⟩:∃k,k=l.length/2:=⟨_,rfl⟩;have ek:W64 (Int.tdiv ((s.len:Nat):Int) 2)=(k:Int):=by
   rw [kF (by omega),wrap64 (by omega) (by omega)];omega
  (have ek1:W64 ((k:Int)+1)=((k+1:Nat):Int):=by rw [wrap64 (by omega) (by omega)];omega);rw [ek,ek1];have hkl:k<l.length:=(by omega);refine Cl8 hs1 (by decide) (by omega) (by omega) (by omega) (by omega) λs1 h1=>?_;refine Bx4 (cs:=Aj) (xs:=l.map pcT) hs1 (by decide) (by omega) (x:=pcT l[k]) (by rw [dF,gX,jC hkl];rfl) λp hp=>?_;refine Cl8 hs1 (by omega) (by omega) (by omega) (by omega) (by omega) λs2 h2=>?_;have t1:(l.drop (0:Int).toNat).take ((k:Int).toNat-(0:Int).toNat)=l.take k:=(by simp);have t2:(l.drop ((k+1:Nat):Int).toNat).take (((s.len:Nat):Int).toNat-((k+1:Nat):Int).toNat)=l.drop (k+1):=by
   rw [dF,dF]
   have:s.len-(k+1)=(l.drop (k+1)).length:=by rw [gJ];omega
   rw [this,jR]
  rw [t1] at h1;rw [t2] at h2;have eq:l.take k++l[k]::l.drop (k+1)=l:=(by rw [←iZ hkl,jD]);have hf':=eq.symm▸hf;refine ih (l.take k) s1 w1 (by rw [gI];omega) h1 hf'.left λa w2 ha hai e2=>Bg (hp w2 e2) ?_;refine ih (l.drop (k+1)) s2 w2 (by rw [gJ];omega) (Bl.ext h2 e2) (Fine.right (l:=[l[k]]) hf'.right) λb w3 hb hbi e3=>Bg (hp w3 (e2.trans e3)) ?_;exact Ey (ha.ext e3) hb hf (by rw [hai,hbi,eq]) (hK.ext ((e1.trans e2).trans e3))
abbrev trV (t:Tr):Value:=.agg (Cells.vals Dz (t.ptr,())).toArray
theorem Be1 {l:List Pc}{s:Sl}(hs:Ps w s l) (hf:Fine l){K:Cells.T Dz->Wp}(hK:∀(t:Tr) (w':World),t.In w'->t.items=l->Ext w w'->K (t.ptr,()) w') :
  Aa Tryz.prog 56 #[s.v] (.one (.agg Dz)) K w:=by refine A56 ?_;unfold F56;refine (St.start w).Af λb1 w1 S1 e1=>Ap5 _ l s w1 (fJ _) (Bl.ext hs e1) hf λt w2 ht hti e2=>?_;refine (S1.ext e2).Ad 0 rfl rfl rfl rfl λw3 S3 u3=>S3.lds 0 (t.ptr,()) rfl (hK t w3 (ht.ty u3 ?_) hti S3.upd);rintro k rfl c fr hc;have:=(S1.ext e2).at_ 0 rfl;rw [hc] at this;cases this
theorem H6 {t:Tr}(ht:t.In w){K:Int->Wp}(hK:∀w',Ext w w'->K (t.items.length:Int) w'):Aa Tryz.prog 72 #[trV t] rI K w:=by refine A72 (a0:=(t.ptr,())) ?_;unfold F72;refine (St.start w).Af λb1 w1 S1 e1=>S1.ld 0 rfl (x:=t.ptr) rfl (Ju (ht.ext e1) ?_);rw [←Ef];exact hK w1 e1
theorem Zc {t:Tr}(ht:t.In w){K:Cells.T c109->Wp}(hK:∀w',Ext w w'->K (smT (tot t.items)) w'):Aa Tryz.prog 61 #[trV t] (.one (.agg c109)) K w:=by
 refine A61 (a0:=(t.ptr,())) ?_;unfold F61;refine (St.start w).Af λb1 w1 S1 e1=>S1.Af λb2 w2 S2 e2=>S2.ld 1 rfl (x:=t.ptr) rfl ?_;cases t with
 |nil=>refine Ac (λ_=>S2.Af λb3 w3 S3 e3=>S3.lds 0 (smT .zero) rfl (S3.Ad 1 rfl rfl rfl rfl λw4 S4 u4=>S4.lds 1 (smT .zero) rfl (hK w4 S4.upd))) (λh=>by cases h)
 |node b l x r=>refine Ac (λh=>by cases h) (λ_=>S2.ld 1 rfl (x:=(Tr.node b l x r).ptr) rfl (Am2 (ht.ext S2.upd) ?_));exact S2.Ad 0 rfl rfl rfl rfl λw3 S3 u3=>S3.lds 0 (smT (tot (Tr.node b l x r).items)) rfl (hK w3 S3.upd)
theorem Az2 {t:Tr}{n m:Nat}{l:List Pc}{s:Sl}(ht:t.In w) (hs:Ps w s l) (hf:Fine t.items) (hfl:Fine l) (hnm:n<=m) (hm:m<=t.items.length) (hF:Fine (t.items.take n++l++t.items.drop m))
  {K:Cells.T Dz×Int×Unit->Wp} (hK:∀(t':Tr) (w':World),t'.In w'->t'.items=t.items.take n++l++t.items.drop m->Ext w w'->K ((t'.ptr,()),0,()) w') :
  Aa Tryz.prog 71 #[trV t,.int .i64 (n:Int),.int .i64 (m:Int),s.v] (.tup [(.agg Dz),(.one (.int .i64))]) K w:=by refine A71 (a0:=(t.ptr,())) ?_;unfold F71;have few:=hf.few;refine (St.start w).Af λb1 w1 S1 e1=>S1.Af λb2 w2 S2 e2=>?_;refine Ae (λx w'=>x=(false,())/\Ext w2 w') (Ac (λh=>?_) (λ_=>Ac (λh=>?_) (λ_=>S2.lds 1 (t.ptr,()) rfl (H6 (ht.ext S2.upd) λw3 e3=>⟨?_,e3⟩)))) ?_;{simp only [iI] at h;omega};{simp only [iI,kG] at h;omega};{rw [jQ (by omega)]};rintro _ w3 ⟨rfl,e3⟩;have S3:=S2.ext e3;refine Ac (λh=>by cases h) (λ_=>S3.ld 1 rfl (x:=t.ptr) rfl ?_);refine Bj3 t w3 n (ht.ext S3.upd) hf (by omega) λa a' w4 ha _ hai _ e4=>?_;have S4:=S3.ext e4;refine S4.ld 1 rfl (x:=t.ptr) rfl (Bj3 t w4 m (ht.ext S4.upd) hf (by omega) λc' c w5 _ hc _ hci e5=>?_);have S5:=S4.ext e5;refine Ap5 _ l s w5 (fJ _) (Bl.ext hs S5.upd) hfl λp w6 hp hpi e6=>?_;refine Aw8 ((ha.ext e5).ext e6) hp (by rw [hai,hpi];exact hF.left) λq w7 hq hqi e7=>?_;refine Aw8 hq ((hc.ext e6).ext e7) (by rw [hqi,hai,hpi,hci];exact hF) λt' w8 ht' hti e8=>?_;have S8:=S5.ext ((e6.trans e7).trans e8);refine S8.Ad 0 rfl rfl rfl rfl λw9 S9 u9=>S9.lds 0 (t'.ptr,()) rfl (hK t' w9 (ht'.ty u9 ?_) (by rw [hti,hqi,hai,hpi,hci]) S9.upd);rintro k rfl c fr hc;have:=S8.at_ 0 rfl;rw [hc] at this;cases this
end
section
variable {w w':World}{S:Nat->Prop}
def Cw9 (w:World):Option Addr->Nat
 |none=>0
 |some a=>match w.cell? (a.add 9) with
  |some (.int _ n)=>n.toNat
  |_=>0
theorem Lu {t:Tr}(h:t.In w):Cw9 w t.ptr=t.size:=by
 cases t with
 |nil=>rfl
 |node b l x r=>have:=Tq h (j:=9) (v:=.int .i64 ((Tr.node b l x r).size:Int)) rfl;show (match w.cell? ((at0 b).add 9) with|some (.int _ n)=>n.toNat|_=>0)=_;rw [this];exact dF _
theorem Fine.part {a l b:List Pc}{L:List Pc}(h:Fine L) (e:L=a++(l++b)):Fine l:=(e▸h).mid
theorem Z5 {t:Tr}{n:Nat}(ht:t.In w) (hf:Fine t.items) (hn:n<2^62){K:Cells.T c109->Wp}(hK:∀w',Ext w w'->K (smT (tot (t.items.take n))) w') :
  Aa Tryz.prog 116 #[trV t,.int .i64 (n:Int)] (.one (.agg c109)) K w:=by
 refine Eo8 (a0:=(t.ptr,())) ?_;unfold F116;have few:=hf.few;refine (St.start w).Af λb1 w1 S1 e1=>S1.Af λb2 w2 S2 e2=>S2.Af λb3 w3 S3 e3=>S3.lds 2 (t.ptr,()) rfl (H6 (ht.ext S3.upd) λw4 e4=>?_);have S4:=S3.ext e4;have e0:(if ((t.items.length:Nat):Int)<(n:Int) then ((t.items.length:Nat):Int) else (n:Int))=((min n t.items.length:Nat):Int):=(by split<;>omega);rw [e0];have tk:t.items.take n=t.items.take (min n t.items.length):=kH.2 (by omega);rw [tk] at hK;generalize hm:min n t.items.length=m at *;have hml:m<=t.items.length:=(by omega);let z2:Nat×Obj:=(b2,.cells #[(.int .i64 (0:Int)),(.int .i64 (0:Int)),(.int .i64 (0:Int)),(.bool false),(.bool false)] 109 (0,0));let z1:Nat×Obj:=(b1,.cells (Cells.vals Dz (t.ptr,())).toArray 104 (0,0));refine Ae (λ_ w'=>St (λ_=>False) w w' [(b3,.cells (Cells.vals c109 (smT (tot (t.items.take m)))).toArray 109 (0,0)),z2,z1]) ?_ ?_
 ·refine S4.ld 2 rfl (x:=t.ptr) rfl ?_;refine Ba (λx w'=>∃(i:Nat) (t':Tr) (a:List Pc) (r:List Pc),x=((i:Int),t'.ptr,())/\t'.In w/\t.items=a++(t'.items++r)/\i<=t'.items.length/\t.items.take m=a++t'.items.take i /\
   St (λ_=>False) w w' [(b3,.cells (Cells.vals c109 (smT (tot a))).toArray 109 (0,0)),z2,z1]) (λx w'=>Cw9 w' x.2.1) ⟨m,t,[],[],rfl,ht,by simp,hml,by simp,S4⟩ ?_
  rintro _ w5 ⟨i,t',a,r,rfl,htw,eq,hi,etk,S5⟩;have ht':=htw.ext S5.upd;have hfa:=(eq▸hf.ok).left;have hft:Fine t'.items:=Fine.part hf eq;have small:=hf.small;rw [eq,Eb hfa (eq▸hf.ok).right,Eb (eq▸hf.ok).right.left (eq▸hf.ok).right.right] at small;refine Ae (λx w'=>x=(decide (0<i),())/\w5=w') ?_ ?_
  ·cases t' with
   |nil=>have:i=0:=(by simpa [Tr.items] using hi);exact Ac (λh=>by cases h) (λ_=>⟨by rw [jQ (by omega)],rfl⟩)
   |node b l x rr=>refine Ac (λ_=>⟨Az ?_,rfl⟩) (λh=>by cases h);simp only [iI,kG];omega
  rintro _ w' ⟨rfl,rfl⟩;refine Ac (λh=>?_) (λh=>?_)
  ·simp only [iI] at h;obtain ⟨b,l,x,rr,rfl⟩:∃b l x rr,t'=.node b l x rr:=by
    cases t' with
    |nil=>simp [Tr.items] at hi;omega
    |node b l x rr=>exact ⟨b,l,x,rr,rfl⟩
   have sl:=Ef l;have srr:=Ef rr;have hti:(Tr.node b l x rr).items=l.items++x::rr.items:=rfl;(have hlen:(Tr.node b l x rr).items.length=l.items.length+1+rr.items.length:=by rw [hti];simp;omega);have few':=hft.few;have okl:Dp l.items:=hft.ok.left;have okx:x.sm.Ok:=hft.ok.right.head;have okr:Dp rr.items:=hft.ok.right.tail;have sm2:(tot (Tr.node b l x rr).items).bytes=(tot l.items).bytes+(x.sm.bytes+(tot rr.items).bytes):=by
    rw [hti,Eb okl (Dp.cons okx okr)]
    have ex:x::rr.items=[x]++rr.items:=rfl
    rw [ex,Eb (Dp.one okx) okr,Zd okx]
   have okta:=Jd hfa;refine Ea ht' (Ju ht'.2.1 (Ac (λh2=>?_) (λh2=>?_)));{simp only [iI] at h2;refine Ea ht' ⟨⟨i,l,a,x::rr.items++r,rfl,htw.2.1,by rw [eq,hti];simp,by omega,?_,S5⟩,?_⟩;{rw [etk,hti,jW (by omega)]};{dsimp only;rw [Lu ht',Lu ht'.2.1];show l.size<l.size+1+rr.size;omega}}
   ·simp only [iH] at h2;refine Ae (λ_ w'=>St (λ_=>False) w w' [(b3,.cells (Cells.vals c109 (smT ((tot a).add (tot l.items)))).toArray 109 (0,0)),z2,z1]) ?_ ?_
    ·refine Ea ht' ?_;cases l with
     |nil=>have e:(tot a).add (tot (Tr.nil).items)=tot a:=Dw.add_zero okta;rw [e];exact Ac (λh=>by cases h) (λ_=>S5)
     |node bl ll lx lr=>refine Ac (λ_=>S5.drew λw6 S6 e6 _=>S6.lds 0 (smT (tot a)) rfl ?_) (λh=>by cases h);have ht6:=ht'.ext e6;refine Ea ht6 (Am2 ht6.2.1 (Ax3 okta (Jd okl) (by omega) λw7 e7=>?_));exact (S6.ext e7).Ad 0 rfl rfl rfl rfl λw8 S8 u8=>S8
    ·intro _ w6 S6;have okm:=Dw.Ad0 okta (Jd okl);have bm:=(Dw.Qx _ _ okta (Jd okl)).1;refine S6.drew λw7 S7 e7 _=>S7.lds 0 (smT _) rfl (Ia (htw.ext S7.upd) (Ab2 λw8 e8=>?_));have S8:=S7.ext e8;refine S8.keeps 0 rfl (Ax3 okm okx (by omega) λw9 e9=>(S8.ext e9).Ad 0 rfl rfl rfl rfl λw10 S10 u10=>Fe (htw.ext S10.upd) ?_);have ew:W64 (W64 ((i:Int)-(l.size:Int))-1)=((i-l.items.length-1:Nat):Int):=by
      rw [wrap64 (a:=(i:Int)-(l.size:Int)) (by omega) (by omega),wrap64 (by omega) (by omega)];omega
     rw [ew];have es:((tot a).add (tot l.items)).add x.sm=tot (a++(l.items++[x])):=by
      rw [Ip hfa (Dp.append okl (Dp.one okx)),Ip okl (Dp.one okx),Zd okx,Dw.add_assoc okta (Jd okl) okx]
     rw [es] at S10;refine ⟨⟨i-l.items.length-1,rr,a++(l.items++[x]),r,rfl,htw.2.2,by rw [eq,hti];simp,by omega,?_,S10⟩,?_⟩;{rw [etk,hti];obtain ⟨j,hj⟩:∃j,i=l.items.length+(1+j):=⟨i-l.items.length-1,by omega⟩;have ej:i-l.items.length-1=j:=(by omega);rw [ej,hj,jX,jY 1 j,iK];simp};{dsimp only;rw [Lu (htw.ext S10.upd).2.2,Lu ht'];show rr.size<l.size+1+rr.size;omega}
  {simp only [iH] at h;have:i=0:=(by omega);subst this;rw [etk];simpa using S5}
 {intro _ w5 S5;exact S5.lds 0 (smT _) rfl (S5.Ad 1 rfl rfl rfl rfl λw6 S6 u6=>S6.lds 1 (smT _) rfl (hK w6 S6.upd))}
def atI (l:List Pc) (n:Nat):Pc×Bool:=match l[n]? with|some x=>(x,true)|none=>(Pc.zero,false)
theorem Ai3 {t:Tr}{n:Nat}(ht:t.In w) (hf:Fine t.items) (hn:n<2^62){K:Cells.T Aj×Bool×Unit->Wp}(hK:∀w',Ext w w'->K (pcT (atI t.items n).1,(atI t.items n).2,()) w') :
  Aa Tryz.prog 68 #[trV t,.int .i64 (n:Int)] (.tup [(.agg Aj),(.one .bool)]) K w:=by
 refine A68 (a0:=(t.ptr,())) ?_;unfold F68;refine (St.start w).Af λb1 w1 S1 e1=>S1.Af λb2 w2 S2 e2=>?_;let z2:Nat×Obj:=(b2,.cells (Cells.vals Aj (pcT Pc.zero)).toArray 111 (0,0));let z1:Nat×Obj:=(b1,.cells (Cells.vals Dz (t.ptr,())).toArray 104 (0,0));refine Ae (λ_ w'=>St (λ_=>False) w w' [z2,z1]/\t.items.length<=n) ?_ ?_
 ·refine S2.ld 1 rfl (x:=t.ptr) rfl ?_;refine Ba (λx w'=>∃(i:Nat) (t':Tr) (a r:List Pc),x=((i:Int),t'.ptr,())/\t'.In w/\Fine t'.items/\t.items=a++(t'.items++r)/\n=a.length+i/\(t'.items.length<=i->r=[]) /\
   St (λ_=>False) w w' [z2,z1]) (λx w'=>Cw9 w' x.2.1) ⟨n,t,[],[],rfl,ht,hf,by simp,by simp,λ_=>rfl,S2⟩ ?_
  rintro _ w5 ⟨i,t',a,r,rfl,htw,hft,eq,hi,hr,S5⟩;have ht':=htw.ext S5.upd;cases t' with
  |nil=>refine Ae (λx w'=>x=(false,())/\w5=w') (Ac (λh=>by cases h) (λ_=>⟨rfl,rfl⟩)) ?_;rintro _ w' ⟨rfl,rfl⟩;refine Ac (λh=>by cases h) (λ_=>⟨S5,?_⟩);have:=hr (iW _);rw [eq,this];simp [Tr.items];omega
  | node b l x rr =>
   refine Ae (λx w'=>x=(true,())/\w5=w') (Ac (λ_=>⟨by rw [jP (by omega)],rfl⟩) (λh=>by cases h)) ?_;rintro _ w' ⟨rfl,rfl⟩;have hti:(Tr.node b l x rr).items=l.items++x::rr.items:=rfl;have sl:=Ef l;have few':=hft.few;(have hlen:(Tr.node b l x rr).items.length=l.items.length+1+rr.items.length:=by rw [hti];simp;omega);have hfl:Fine l.items:=hft.left;have hfr:Fine rr.items:=Fine.right (l:=[x]) hft.right;refine Ac (λ_=>Ea ht' (Ju ht'.2.1 (Ac (λh2=>?_) (λh2=>Ac (λh3=>?_) (λh3=>?_))))) (λh=>by cases h)
   ·simp only [jM] at h2;have hil:i=l.items.length:=(by omega);refine Ia ht' (S5.Ad 0 rfl rfl rfl rfl λw6 S6 u6=>S6.lds 0 (pcT x) rfl ?_);have e:atI t.items n=(x,true):=by
     unfold atI
     rw [eq,hi,hil,hti]
     have:(a++(l.items++x::rr.items++r))[a.length+l.items.length]?=some x:=by
      rw [gB (by omega),kJ,eG,gB (by omega),Nat.sub_self];rfl
     rw [this]
    have:=hK w6 S6.upd;rw [e] at this;exact this
   {simp only [jO] at h2;simp only [iI] at h3;refine Ea ht' ⟨⟨i,l,a,x::rr.items++r,rfl,htw.2.1,hfl,by rw [eq,hti];simp,hi,λh=>by omega,S5⟩,?_⟩;dsimp only;rw [Lu ht',Lu ht'.2.1];show l.size<l.size+1+rr.size;omega}
   ·simp only [jO] at h2;simp only [iH] at h3;have ew:W64 (W64 ((i:Int)-(l.size:Int))-1)=((i-l.items.length-1:Nat):Int):=by
     rw [wrap64 (a:=(i:Int)-(l.size:Int)) (by omega) (by omega),wrap64 (by omega) (by omega)];omega
    rw [ew];refine Fe ht' ⟨⟨i-l.items.length-1,rr,a++(l.items++[x]),r,rfl,htw.2.2,hfr,by rw [eq,hti];simp,by simp;omega,λh=>hr (by omega),S5⟩,?_⟩;dsimp only;rw [Lu ht',Lu ht'.2.2];show rr.size<l.size+1+rr.size;omega
 {rintro _ w5 ⟨S5,hle⟩;refine S5.Af λb6 w6 S6 e6=>S6.lds 0 (pcT Pc.zero) rfl (S6.Ad 1 rfl rfl rfl rfl λw7 S7 u7=>S7.lds 1 (pcT Pc.zero) rfl ?_);(have e:atI t.items n=(Pc.zero,false):=by unfold atI;rw [kL hle]);have:=hK w7 S7.upd;rw [e] at this;exact this}
def keyOf (k:Nat) (s:Dw):Nat:=if k=0 then s.atoms else s.breaks
def X3 (k n:Nat) (l:List Pc):Nat:=((List.range (l.length+1)).find? λi=>decide (n<=keyOf k (tot (l.take i)))).getD (l.length+1)
theorem Cq1 {s:Dw}{k:Nat}(hk:k<2){K:Int->Wp}(hK:∀w',Ext w w'->K ((keyOf k s:Nat):Int) w') :
  Cj Tryz.prog (invoke (.fn (.method "Key") #[]) (#[.iface 109 (smV s)]++#[.int .i64 (k:Int)])) (.one (.one (.int .i64))) K w :=
 Dk2 hk λw' e=>by have:=hK w' e;unfold keyOf at this;split at this;{rename_i h;rw [aF h];exact this};{rename_i h;rw [aJ h];exact this}
theorem An1 {k:Nat}{a b:Dw}(ha:a.Ok) (hb:b.Ok):keyOf k a<=keyOf k (a.add b):=by unfold keyOf Dw.add;have h1:=ha.nil;have h2:=hb.lf;split;{split;{rename_i h;omega};{split;{exact fJ _};{show a.atoms<=a.atoms+b.atoms;omega}}};{split;{rename_i h;rw [h1 h];exact iW _};{split;{exact fJ _};{show a.breaks<=a.breaks+b.breaks-_;split;{rename_i h;simp only [aV] at h;have:=h2 h.2;omega};{omega}}}}
theorem Ao2 {k n:Nat}{l:List Pc}{j:Nat}(hj:j<=l.length) (h1:n<=keyOf k (tot (l.take j))) (h0:∀i,i<j->keyOf k (tot (l.take i))<n):X3 k n l=j:=by
 unfold X3;have:(List.range (l.length+1)).find? (λi=>decide (n<=keyOf k (tot (l.take i))))=some j:=by
  rw [List.find?_range_eq_some]
  refine ⟨by simpa using h1,by simp;omega,λi hi=>?_⟩
  have:=h0 i hi
  simp;omega
 rw [this];rfl
theorem Br7 {k n:Nat}{l:List Pc}(h0:∀i,i<=l.length->keyOf k (tot (l.take i))<n):X3 k n l=l.length+1:=by
 unfold X3;have:(List.range (l.length+1)).find? (λi=>decide (n<=keyOf k (tot (l.take i))))=none:=by
  rw [List.find?_range_eq_none]
  intro i hi
  have:=h0 i (by omega)
  simp;omega
 rw [this];rfl
end
section
variable {w w':World}{S:Nat->Prop}
theorem Aw1 {t:Tr} {k n:Nat} (hk:k<2) (hn:0<n) (ht:t.In w) (hf:Fine t.items) {K:Int->Wp} (hK:∀w',Ext w w'->K ((X3 k n t.items:Nat):Int) w') :
  Aa Tryz.prog 117 #[trV t,.int .i64 (k:Int),.int .i64 (n:Int)] rI K w:=by
 refine Eo7 (a0:=(t.ptr,())) ?_;unfold F117;have few:=hf.few;refine (St.start w).Af λb1 w1 S1 e1=>Ac (λh=>?_) (λ_=>S1.Af λb2 w2 S2 e2=>?_);{simp only [iI] at h;omega};let z1:Nat×Obj:=(b1,.cells (Cells.vals Dz (t.ptr,())).toArray 104 (0,0));refine Ae (λx w'=>x=((t.items.length:Int),())/\X3 k n t.items=t.items.length+1/\Ext w w') ?_ ?_
 ·refine S2.ld 1 rfl (x:=t.ptr) rfl ?_;refine Ba (λx w'=>∃(t':Tr) (a r:List Pc),x=((a.length:Int),t'.ptr,())/\t'.In w/\t.items=a++(t'.items++r)/\(∀i,i<=a.length->keyOf k (tot (t.items.take i))<n)/\(r=[]\/n<=keyOf k (tot (a++t'.items))) /\
   St (λ_=>False) w w' [(b2,.cells (Cells.vals c109 (smT (tot a))).toArray 109 (0,0)),z1]) (λx w'=>Cw9 w' x.2.1) ⟨t,[],[],rfl,ht,by simp,λi hi=>?_,.inl rfl,S2⟩ ?_
  {have:i=0:=(by simpa using hi);subst this;unfold keyOf;split<;>exact hn};rintro _ w5 ⟨t',a,r,rfl,htw,eq,hlow,hr,S5⟩;have ht':=htw.ext S5.upd;have hfa:=(eq▸hf.ok).left;have okta:=Jd hfa;cases t' with
  | nil =>
   refine Ac (λh=>by cases h) (λ_=>?_);have hr':r=[]:=by
    rcases hr with h|h
    ·exact h
    ·have:=hlow a.length (fJ _)
     rw [eq,List.take_left] at this
     simp only [Tr.items,kM] at h
     omega
   subst hr';(have el:t.items=a:=by rw [eq];simp [Tr.items]);refine ⟨by rw [el],?_,S5.upd⟩;exact Br7 λi hi=>hlow i (by rw [←el];exact hi)
  | node b l x rr =>
   have hti:(Tr.node b l x rr).items=l.items++x::rr.items:=rfl;have hft:Fine (Tr.node b l x rr).items:=Fine.part hf eq;have okl:Dp l.items:=hft.ok.left;have okx:x.sm.Ok:=hft.ok.right.head;have okr:Dp rr.items:=hft.ok.right.tail;have sl:=Ef l;have small:=hf.small;rw [eq,Eb hfa (eq▸hf.ok).right,Eb (eq▸hf.ok).right.left (eq▸hf.ok).right.right] at small;have sm2:(tot (Tr.node b l x rr).items).bytes=(tot l.items).bytes+(x.sm.bytes+(tot rr.items).bytes):=by
    rw [hti,Eb okl (Dp.cons okx okr)]
    have ex:x::rr.items=[x]++rr.items:=rfl
    rw [ex,Eb (Dp.one okx) okr,Zd okx]
   (have lens:t.items.length=a.length+(l.items.length+(1+rr.items.length)+r.length):=by rw [eq,hti];simp;omega);have okm:=Dw.Ad0 okta (Jd okl);have bm:=(Dw.Qx _ _ okta (Jd okl)).1;have el:(tot a).add (tot l.items)=tot (a++l.items):=(Ip hfa okl).symm;refine Ac (λ_=>S5.lds 0 (smT (tot a)) rfl (S5.Fp rfl rfl rfl λb9 w6 S6 e6=>?_)) (λh=>by cases h);let z2:Nat×Obj:=(b2,.cells (Cells.vals c109 (smT (tot a))).toArray 109 (0,0));refine Ae (λ_ w'=>St (λ_=>False) w w' [(b9,.cells (Cells.vals c109 (smT ((tot a).add (tot l.items)))).toArray 109 (0,0)),z2,z1]) ?_ ?_
   ·refine Ea (htw.ext S6.upd) ?_;cases l with
    |nil=>have e:(tot a).add (tot (Tr.nil).items)=tot a:=Dw.add_zero okta;rw [e];exact Ac (λh=>by cases h) (λ_=>S6)
    |node bl ll lx lr=>refine Ac (λ_=>S6.drew λw7 S7 e7 _=>S7.lds 1 (smT (tot a)) rfl ?_) (λh=>by cases h);have ht7:=htw.ext S7.upd;refine Ea ht7 (Am2 ht7.2.1 (Ax3 okta (Jd okl) (by omega) λw8 e8=>?_));exact (S7.ext e8).Ad 0 rfl rfl rfl rfl λw9 S9 u9=>S9
   ·intro _ w7 S7;refine S7.lds 0 (smT _) rfl (Cq1 hk λw8 e8=>?_);have S8:=S7.ext e8;rw [el];refine Ac (λh=>?_) (λh=>?_);{simp only [iI,jT] at h;refine Ea (htw.ext S8.upd) ⟨⟨l,a,x::rr.items++r,rfl,htw.2.1,by rw [eq,hti];simp,hlow,.inr (by omega),S8.tail⟩,?_⟩;dsimp only;rw [Lu (htw.ext S8.upd).2.1,Lu ht'];show l.size<l.size+1+rr.size;omega}
    ·simp only [iH,jT] at h;have hlt:keyOf k (tot (a++l.items))<n:=(by omega);have S8':=S8;rw [el] at S8';refine Ea (htw.ext S8.upd) (Ju (htw.ext S8.upd).2.1 (S8'.drew λw9 S9 e9 _=>S9.lds 0 (smT _) rfl (Ia (htw.ext S9.upd) (Ab2 λw10 e10=>?_))));have S10:=S9.ext e10;refine S10.keeps 0 rfl (Ax3 (el▸okm) okx (by rw [←el];omega) λw11 e11=>(S10.ext e11).Ad 1 rfl rfl rfl rfl λw12 S12 u12=>?_);have es:(tot (a++l.items)).add x.sm=tot (a++(l.items++[x])):=by
      rw [←eG,Ip (Dp.append hfa okl) (Dp.one okx),Zd okx]
     rw [es] at S12;refine S12.lds 1 (smT _) rfl (Cq1 hk λw13 e13=>?_);have S13:=S12.ext e13;have ew:W64 ((a.length:Int)+W64 ((l.size:Int)+1))=((a.length+l.items.length+1:Nat):Int):=by
      rw [wrap64 (a:=(l.size:Int)+1) (by omega) (by omega),wrap64 (by omega) (by omega)];omega
     rw [ew];have hlow2:∀i,i<=a.length+l.items.length->keyOf k (tot (t.items.take i))<n:=by
      intro i hi
      by_cases h1:i<=a.length
      ·exact hlow i h1
      ·obtain ⟨j,rfl⟩:∃j,i=a.length+j:=⟨i-a.length,by omega⟩
       have e1:t.items.take (a.length+j)=a++l.items.take j:=by
        rw [eq,jX,hti,eG,jW (by omega)]
       have e2:a++l.items=(a++l.items.take j)++l.items.drop j:=by simp
       have okt:Dp (l.items.take j):=λy hy=>okl y (iU hy)
       have okd:Dp (l.items.drop j):=λy hy=>okl y (iV hy)
       rw [e1]
       rw [e2,Ip (Dp.append hfa okt) okd] at hlt
       exact Nat.lt_of_le_of_lt (An1 (Jd (Dp.append hfa okt)) (Jd okd)) hlt
     have etk:t.items.take (a.length+l.items.length+1)=a++(l.items++[x]):=by
      rw [eq,hti,Nat.add_assoc,jX,eG,jX]
      rfl
     refine Ac (λh2=>?_) (λh2=>?_);{simp only [iI,jT] at h2;have:=Ao2 (k:=k) (n:=n) (l:=t.items) (j:=a.length+l.items.length+1) (by omega) (by rw [etk];omega) λi hi=>hlow2 i (by omega);rw [←this];exact hK w13 S13.upd};{simp only [iH,jT] at h2;refine Fe (htw.ext S13.upd) ⟨⟨rr,a++(l.items++[x]),r,by simp;omega,htw.2.2,by rw [eq,hti];simp,λi hi=>?_,?_,S13.tail⟩,?_⟩;{by_cases h1:i<=a.length+l.items.length;{exact hlow2 i h1};{(have:i=a.length+l.items.length+1:=by simp at hi;omega);rw [this,etk];omega}};{rcases hr with h|h;{exact .inl h};{refine .inr ?_;(have:a++(l.items++[x])++rr.items=a++(Tr.node b l x rr).items:=by rw [hti];simp);rw [this];exact h}};{dsimp only;rw [Lu (htw.ext S13.upd).2.2,Lu ht'];show rr.size<l.size+1+rr.size;omega}}
 {rintro _ w5 ⟨rfl,hfi,he⟩;(have ew:W64 ((t.items.length:Int)+1)=((X3 k n t.items:Nat):Int):=by rw [hfi,wrap64 (by omega) (by omega)];omega);show K (W64 ((t.items.length:Int)+1)) w5;rw [ew];exact hK w5 he}
end
section
variable {w w':World}{S:Nat->Prop}
theorem Ji {m:Nat}{o o':Obj}(hm:w.heap[m]?=some o):Upd (λk=>k=m) w (w.putObj m o')/\(w.putObj m o').heap[m]?=some o':=Bm3 hm
def De9:Obj->Bool
 |.cells _ t _=>t==162||(t==163||(t==164||t==111))
 |.deferred _=>true
 |_=>false
structure Fh (W W':World):Prop where
 size:W.heap.size<=W'.heap.size
 at_:∀(k:Nat) (o:Obj),W.heap[k]?=some o->De9 o=true->W'.heap[k]?=some o
theorem Fh.refl (W:World):Fh W W:=⟨fJ _,λ_ _ h _=>h⟩
theorem Fh.trans {W W' W'':World}(h:Fh W W') (h':Fh W' W''):Fh W W'':=⟨fK h.size h'.size,λk o ho hp=>h'.at_ k o (h.at_ k o ho hp) hp⟩
theorem Fh.ext {W W':World}(e:Ext W W'):Fh W W':=⟨e.size,λ_ _ h _=>e.ext_get h⟩
theorem Fh.upd {W W':World}(u:Upd S W W') (h:∀k,S k->∀o,W.heap[k]?=some o->De9 o=false):Fh W W' :=
 ⟨u.size,λk o ho hp=>u.get ho λhk=>by rw [h k hk o ho] at hp;cases hp⟩
theorem Trx.Tr.In.stay:∀{t:Tr},t.In w->Fh w w'->t.In w'
 |.nil,_,_=>trivial
 |.node _ _ _ _,h,s=>⟨s.at_ _ _ h.1 rfl,h.2.1.stay s,h.2.2.stay s⟩
theorem Cw0 {l:Nat}{v:Value}{R:Bool->Wp}(h:Bl5 Tryz.prog l [v] R w) :
  Cj Tryz.prog (do let d ←Deferred.ofValue (.func (.yield l) #[] #[]) #[v];invoke d.target d.args:Sem Next) (.one (.one .bool)) R w:=by obtain ⟨f,tmps,assign,body,h1,h2⟩:=h;refine .inr (.inr ⟨l,f,tmps,assign,body,?_,h2⟩);simp only [Deferred.ofValue,pure_bind,invoke];exact h1
structure ItE (l b1 b2:Nat) (W:World):Prop where
 y:W.heap[b1]?=some (.cells #[.func (.yield l) #[] #[]] 163 (0,0))
 f:W.heap[b2]?=some (.cells #[.func (.func 114) #[] #[.pointer (some (at0 b2)),.pointer (some (at0 b1))]] 164 (0,0))
theorem ItE.stay {l b1 b2:Nat}(h:ItE l b1 b2 w) (s:Fh w w'):ItE l b1 b2 w':=⟨s.at_ _ _ h.y rfl,s.at_ _ _ h.f rfl⟩
theorem Bq4 {l b1 b2:Nat}{rc:LoopState->Option Code->Loop}{its:List Pc}{Inv:Nat->Wp}{Brk:World->Prop}
  (hx:∀j W W',Inv j W->Ext W W'->Inv j W')
  (hy:∀(j:Nat) (x:Pc) (W:World) (K:Bool->Wp),its[j]?=some x->Inv j W->W.heap[l]?=some (.loop (rc .ready none)) ->
   (∀c W',Fh W W'->(c=true->Inv (j+1) W'/\W'.heap[l]?=some (.loop (rc .ready none)))->(c=false->Brk W')->K c W')->Bl5 Tryz.prog l [pcV x] K W) :
  ∀(t:Tr) (m:Nat) (pre post:List Pc) (W:World) (K:Bool->Wp),t.In W->ItE l b1 b2 W->W.heap[l]?=some (.loop (rc .ready none))->Fine t.items->m<2^61->its=pre++(t.items.drop m++post)->Inv pre.length W ->
   (∀c W',Fh W W'->(c=true->Inv (pre.length+(t.items.length-m)) W'/\W'.heap[l]?=some (.loop (rc .ready none)))->(c=false->Brk W')->K c W') ->
   Aa Tryz.prog 114 #[.pointer t.ptr,.int .i64 (m:Int),.pointer (some (at0 b2)),.pointer (some (at0 b1))] rB K W:=by
 intro t;induction t with
 |nil=>intro m pre post W K _ hE hr _ _ hi hI hK;refine Dm7 ?_;unfold F114;refine Ae (λs W'=>s=(true,())/\W=W') (Ac (λ_=>⟨rfl,rfl⟩) (λh=>by cases h)) ?_;rintro _ _ ⟨rfl,rfl⟩;exact Bh (hK true W (Fh.refl W) (λ_=>⟨by simpa [Tr.items] using hI,hr⟩) (λh=>by cases h))
 | node b lt x rt ihl ihr =>
  intro m pre post W K ht hE hr hf hm hi hI hK;refine Dm7 ?_;unfold F114;have hti:(Tr.node b lt x rt).items=lt.items++x::rt.items:=rfl;have hsz:(Tr.node b lt x rt).items.length=(Tr.node b lt x rt).size:=Ef _;have hsl:=Ef lt;(have hlen:(Tr.node b lt x rt).items.length=lt.items.length+1+rt.items.length:=by rw [hti];simp;omega);have few:=hf.few;have hfl:Fine lt.items:=hf.left;have hfr:Fine rt.items:=by
   have h2:Fine (x::rt.items):=(hti▸hf).right
   have ex:x::rt.items=[x]++rt.items:=rfl
   exact (ex▸h2).right
  refine Ae (λs W'=>s=(decide ((m:Int)>=(((Tr.node b lt x rt).size:Nat):Int)),())/\W=W') (Ac (λh=>by cases h) (λ_=>Am (by rw [addr_add];exact Ce ht.1 (x:=((Tr.node b lt x rt).size:Int)) rfl ⟨rfl,rfl⟩))) ?_;rintro _ _ ⟨rfl,rfl⟩;refine Ac (λh=>?_) (λh=>?_);{simp only [iI,jT] at h;refine hK true W (Fh.refl W) (λ_=>⟨?_,hr⟩) (λh=>by cases h);have:(Tr.node b lt x rt).items.length-m=0:=(by omega);rw [this];exact hI};simp only [iH,jT] at h;refine Ea ht (Ju ht.2.1 ?_);refine Ae (λs W'=>(s.1=false->Fh W W'/\Inv (pre.length+(lt.items.length-m)) W'/\W'.heap[l]?=some (.loop (rc .ready none)))/\(s.1=true->Fh W W'/\Brk W')) ?_ ?_;{refine Ci λW1 e1 _=>?_;have s1:=Fh.ext e1;refine Ac (λh2=>?_) (λh2=>?_);{simp only [iI] at h2;refine Ce (hE.stay s1).f (x:=(.func (.func 114) #[] #[.pointer (some (at0 b2)),.pointer (some (at0 b1))]:Value)) rfl ?_;refine Ea (ht.stay s1) (func_x (by kernel_rfl) ?_);refine ihl m pre (x::rt.items++post) W1 _ (ht.2.1.stay s1) (hE.stay s1) (e1.ext_get hr) hfl hm ?_ (hx _ _ _ hI e1) ?_;{rw [hi,hti,jV (by omega)];simp};{intro c W2 s2 ht2 hf2;refine ⟨λhc=>?_,λhc=>?_⟩;{have hct:c=true:=(by simpa using hc);obtain ⟨i2,r2⟩:=ht2 hct;exact ⟨s1.trans s2,i2,r2⟩};{have hcf:c=false:=(by simpa using hc);exact ⟨s1.trans s2,hf2 hcf⟩}}};{simp only [iH] at h2;refine ⟨λ_=>⟨s1,?_,e1.ext_get hr⟩,λh=>by cases h⟩;have:lt.items.length-m=0:=(by omega);rw [this];exact hx _ _ _ hI e1}};rintro ⟨sb,_⟩ W2 ⟨hA,hB⟩;refine Ac (λe=>?_) (λe=>?_);{obtain ⟨s2,hb2⟩:=hB e;exact hK false W2 s2 (λh=>by cases h) (λ_=>hb2)};obtain ⟨s2,i2,r2⟩:=hA e;refine Ae (λs W'=>(s.1=false->Fh W W'/\Inv (pre.length+(lt.items.length-m)+(if m<=lt.items.length then 1 else 0)) W'/\W'.heap[l]?=some (.loop (rc .ready none)))/\(s.1=true->Fh W W'/\Brk W')) ?_ ?_;{refine Ci λW3 e3 _=>?_;have s3:=s2.trans (Fh.ext e3);refine Ac (λh3=>?_) (λh3=>?_);{simp only [iI] at h3;have hle:m<=lt.items.length:=(by omega);refine Ce (hE.stay s3).y (x:=(.func (.yield l) #[] #[]:Value)) rfl ?_;refine Ia (ht.stay s3) (Cw0 (hy (pre.length+(lt.items.length-m)) x W3 _ ?_ (hx _ _ _ i2 e3) (e3.ext_get r2) ?_));{rw [hi,hti,jV hle,gB (by omega),eG,gB (by rw [gJ];omega)];(have:pre.length+(lt.items.length-m)-pre.length-(lt.items.drop m).length=0:=by rw [gJ];omega);rw [this];rfl};{intro c W4 s4 ht4 hf4;refine ⟨λhc=>?_,λhc=>?_⟩;{have hct:c=true:=(by simpa using hc);obtain ⟨i4,r4⟩:=ht4 hct;rw [aF hle];exact ⟨s3.trans s4,i4,r4⟩};{have hcf:c=false:=(by simpa using hc);exact ⟨s3.trans s4,hf4 hcf⟩}}};{simp only [iH] at h3;refine ⟨λ_=>⟨s3,?_,e3.ext_get r2⟩,λh=>by cases h⟩;rw [aJ (by omega)];exact hx _ _ _ i2 e3}};rintro ⟨sb,_⟩ W4 ⟨hA,hB⟩;refine Ac (λe=>?_) (λe=>?_);{obtain ⟨s4,hb4⟩:=hB e;exact hK false W4 s4 (λh=>by cases h) (λ_=>hb4)};obtain ⟨s4,i4,r4⟩:=hA e;refine Ci λW5 e5 _=>?_;have s5:=s4.trans (Fh.ext e5);refine Ce (hE.stay s5).f (x:=(.func (.func 114) #[] #[.pointer (some (at0 b2)),.pointer (some (at0 b1))]:Value)) rfl ?_;refine Fe (ht.stay s5) (func_x (by kernel_rfl) ?_);have ew:(if W64 (W64 ((m:Int)-(lt.size:Int))-1)>0 then W64 (W64 ((m:Int)-(lt.size:Int))-1) else 0)=((m-lt.items.length-1:Nat):Int):=by
   rw [wrap64 (a:=(m:Int)-(lt.size:Int)) (by omega) (by omega),wrap64 (by omega) (by omega)]
   split<;>omega
  rw [ew];have fin:∀(pre':List Pc),its=pre'++(rt.items.drop (m-lt.items.length-1)++post)->pre'.length=pre.length+(lt.items.length-m)+(if m<=lt.items.length then 1 else 0) ->
    Aa Tryz.prog 114 #[.pointer rt.ptr,.int .i64 ((m-lt.items.length-1:Nat):Int),.pointer (some (at0 b2)),.pointer (some (at0 b1))] rB K W5:=by
   intro pre' hp hl
   refine ihr _ pre' post W5 K (ht.2.2.stay s5) (hE.stay s5) (e5.ext_get r4) hfr (by omega) hp (by rw [hl];exact hx _ _ _ i4 e5) ?_
   intro c W6 s6 ht6 hf6
   refine hK c W6 (s5.trans s6) (λhc=>?_) hf6
   have h6:=ht6 hc
   have el:pre'.length+(rt.items.length-(m-lt.items.length-1))=pre.length+((Tr.node b lt x rt).items.length-m):=by
    rw [hl,hlen];split<;>omega
   rw [el] at h6
   exact h6
  by_cases hle:m<=lt.items.length;{refine fin (pre++(lt.items.drop m++[x])) ?_ ?_;{rw [hi,hti,jV hle];have:m-lt.items.length-1=0:=(by omega);rw [this];simp};{rw [aF hle];simp;omega}};{refine fin pre ?_ ?_;{rw [hi,hti,List.drop_append];have e1:lt.items.drop m=[]:=iY (by omega);obtain ⟨q,hq⟩:∃q,m-lt.items.length=q+1:=⟨m-lt.items.length-1,by omega⟩;rw [e1,hq];simp};{rw [aJ hle];omega}}
theorem Af2 {t:Tr}{n b1 b2:Nat}{vals:Cells.T Aj×Unit->List Value}{body:Nat->(LoopState->Option Code->Loop)->(Bool->Wp)->Cells.T Aj×Unit->Wp}{aft':Nat->Option Code->Wp}
  (hv:∀s,vals s=[.agg (Cells.vals Aj s.1).toArray]) (h1:w.heap[b1]?=some (.cells #[.pointer t.ptr] 104 (0,0))) (h2:w.heap[b2]?=some (.cells #[.int .i64 (n:Int)] 3 (0,0))) (ht:t.In w) (hf:Fine t.items) (hn:n<2^61)
  (Inv:Nat->Wp) (Brk:Code->Wp) (h0:∀W,Ext w W->w.heap.size+2<=W.heap.size->Inv 0 W) (hx:∀j W W',Inv j W->Ext W W'->Inv j W')
  (hb:∀(rc:LoopState->Option Code->Loop) j x R W,(t.items.drop n)[j]?=some x->Inv j W->W.heap[w.heap.size+1]?=some (.loop (rc .ready none)) ->
   (∀W',Fh W W'->Inv (j+1) W'->W'.heap[w.heap.size+1]?=some (.loop (rc .ready none))->R true W')->(∀e W',Fh W W'->W'.heap[w.heap.size+1]?=some (.loop (rc .done (some e)))->Brk e W'->R false W')->body (w.heap.size+1) rc R (pcT x,()) W)
  (he:∀W W',Inv (t.items.length-n) W->W'.heap[w.heap.size]?=some (.deferred (some []))->Upd (λk=>k=w.heap.size+1) W W'->aft' w.heap.size none W')
  (hk:∀e W W',Brk e W->W'.heap[w.heap.size]?=some (.deferred (some []))->Upd (λk=>k=w.heap.size+1) W W'->aft' w.heap.size (some e) W') :
  Az8 Tryz.prog vals (.func (.func 113) #[] #[.pointer (some (at0 b1)),.pointer (some (at0 b2))]) body aft' w:=by
 intro rc hyield;have e0:Ext w (w.alloc (.deferred (some []))):=Ext.alloc w _;generalize hW0:w.alloc (.deferred (some []))=W0 at *;(have d0:W0.heap[w.heap.size]?=some (.deferred (some [])):=by rw [←hW0];exact heap_alloc w _);(have z0:W0.heap.size=w.heap.size+1:=by rw [←hW0];simp);have e1:Ext W0 (W0.alloc (.loop (rc .ready none))):=Ext.alloc W0 _;(have l1:(W0.alloc (.loop (rc .ready none))).heap[w.heap.size+1]?=some (.loop (rc .ready none)):=by rw [←z0];exact heap_alloc W0 _);have z1:(W0.alloc (.loop (rc .ready none))).heap.size=w.heap.size+2:=(by simp [z0]);generalize hW1:W0.alloc (.loop (rc .ready none))=W1 at *;refine ⟨113,#[.func (.yield (w.heap.size+1)) #[] #[],.pointer (some (at0 b1)),.pointer (some (at0 b2))],?_,?_⟩;{simp only [Deferred.ofValue,pure_bind,invoke];exact Ir (P:=Tryz.prog) (f:=113) (by kernel_rfl) W1};have e01:=e0.trans e1;refine Ep0 ?_;unfold F113;refine Dc rfl ((St.start W1).Af λc1 W2 S2 e2=>S2.Af λc2 W3 S3 e3=>Dc rfl (S3.stC 0 rfl (by decide) λW4 S4 u4=>?_));have e14:=S4.upd;have hE:ItE (w.heap.size+1) c1 c2 W4:=⟨S4.at_ 1 rfl,S4.at_ 0 rfl⟩;have ew4:=e01.trans e14;refine S4.ld 0 rfl (x:=(.func (.func 114) #[] #[.pointer (some (at0 c2)),.pointer (some (at0 c1))]:Value)) rfl (Ce (ew4.ext_get h1) (x:=t.ptr) rfl (Ce (ew4.ext_get h2) (x:=(n:Int)) rfl (func_x (by kernel_rfl) ?_)));have ew:(if (n:Int)>0 then (n:Int) else 0)=(n:Int):=(by split<;>omega);rw [ew];refine Bq4 (Inv:=Inv) (Brk:=λW=>∃e,W.heap[w.heap.size+1]?=some (.loop (rc .done (some e)))/\Brk e W) (its:=t.items.drop n) (rc:=rc) hx ?_ t n [] [] W4 _ (ht.ext ew4) hE (e14.ext_get l1) hf hn (by simp) (h0 W4 ew4 (by have:=e14.size;omega)) ?_;{intro j x W K hj hI hr hK;have:=hyield K (pcT x,()) W hr (hb rc j x K W hj hI hr (λW' s i r=>hK true W' s (λ_=>⟨i,r⟩) (λh=>by cases h)) (λe W' s r b=>hK false W' s (λh=>by cases h) (λ_=>⟨e,r,b⟩)));rw [hv] at this;exact this}
 ·intro c W5 s5 ht5 hf5;have d5:=s5.at_ _ _ (e14.ext_get (e1.ext_get d0)) rfl;have fin:∀st pe,W5.heap[w.heap.size+1]?=some (.loop (rc st pe))->(W5.putObj (w.heap.size+1) (.loop (rc .exhausted pe))).heap[w.heap.size]?=some (.deferred (some []))/\Upd (λk=>k=w.heap.size+1) W5 (W5.putObj (w.heap.size+1) (.loop (rc .exhausted pe))):=by
   intro st pe h
   obtain ⟨u,_⟩:=Ji (o':=.loop (rc .exhausted pe)) h
   exact ⟨u.get d5 (by omega),u⟩
  cases c with
  |true=>obtain ⟨i5,r5⟩:=ht5 rfl;obtain ⟨d6,u6⟩:=fin _ _ r5;refine ⟨.ready,none,r5,by decide,he W5 _ ?_ d6 u6⟩;simpa using i5
  |false=>obtain ⟨e,r5,b5⟩:=hf5 rfl;obtain ⟨d6,u6⟩:=fin _ _ r5;exact ⟨.done,some e,r5,by decide,hk e W5 _ b5 d6 u6⟩
end
end
section
open Go Go.Vx Cdc
section
variable {w w':World}
def lw (be:Bool):Int:=if be then 1 else 0
theorem As4 {s:Sl}{be:Bool}{a b:UInt8}{r:Bs}(hB:By w s (a::b::r)){K:Int->Wp}(hK:∀w',Ext w w'->K ((un be a b:Nat):Int) w') :
  Aa Tryz.prog 247 #[.agg #[.int .i64 (lw be)],s.v] rI K w:=by
 refine Ee9 (a0:=(lw be,())) ?_;unfold F247;have ha:=a.toNat_lt;have hb:=b.toNat_lt;refine Cm λb1 w1 e1 n1 _ _=>Ci λw2 e2 _=>?_;have n2:=e2.ext_get n1;have hB2:By w2 s (a::b::r):=hB.ext (e1.trans e2);refine Ce n2 (x:=lw be) rfl ?_;have bits:∀x y:UInt8,W64 ((BitVec.toNat (BitVec.ofInt (IntKind.bits .i64) (W64 (x.toNat:Int)) ||| BitVec.ofInt (IntKind.bits .i64) (W64 ((W64 (y.toNat:Int))*2^(min (Int.toNat (8:Int)) (IntKind.bits .i64))))):Nat):Int)=((x.toNat+y.toNat*256:Nat):Int):=by
  intro x y
  have hx:=x.toNat_lt
  have hy:=y.toNat_lt
  have e:((2:Int)^(min (Int.toNat (8:Int)) (IntKind.bits .i64)))=2^8:=rfl
  rw [e,wrap64 (a:=(x.toNat:Int)) (by omega) (by omega),wrap64 (a:=(y.toNat:Int)) (by omega) (by omega),wrap64 (a:=(y.toNat:Int)*2^8) (by omega) (by omega)]
  have h:=Cd8 (b:=IntKind.bits .i64) (k:=8) (a:=(y.toNat:Int)) (c:=(x.toNat:Int)) (by omega) (by omega) (by omega) (by show _<(2:Int)^64;omega)
  rw [h,wrap64 (by omega) (by omega)]
  omega
 cases be with
 |false=>have e0:lw false=0:=rfl;have e1':W64 (1-(0:Int))=1:=(by decide);rw [e0] at n2 ⊢;refine Vp hB2 (by decide) (b:=a) rfl λp=>Ce n2 (x:=(0:Int)) rfl ?_;rw [e1'];refine Vp hB2 (by decide) (b:=b) rfl λp=>Dc (by decide) ?_;rw [bits];exact hK w2 (e1.trans e2)
 |true=>have e0:lw true=1:=rfl;have e1':W64 (1-(1:Int))=0:=(by decide);rw [e0] at n2 ⊢;refine Vp hB2 (by decide) (b:=b) rfl λp=>Ce n2 (x:=(1:Int)) rfl ?_;rw [e1'];refine Vp hB2 (by decide) (b:=a) rfl λp=>Dc (by decide) ?_;rw [bits];exact hK w2 (e1.trans e2)
theorem Cf5 {u:Nat}(hu:u<65536){K:Bool->Wp}(hK:K (decide (u/1024=54)) w):Aa Tryz.prog 248 #[.int .i64 (u:Int)] rB K w:=by
 refine Ee8 ?_;unfold F248;have h:=Cv6 (a:=(u:Int)) (m:=1023) (by omega) (by omega) rfl;have e:(((BitVec.toNat (BitVec.ofInt (IntKind.bits .i64) (u:Int) &&& ~~~(BitVec.ofInt (IntKind.bits .i64) (1023:Int))):Nat):Int))=(u:Int)/1024*1024:=h;rw [e,wrap64 (by omega) (by omega)];have:((u:Int)/1024*1024==(55296:Int))=decide (u/1024=54):=by
  rw [gV];simp only [jM,iI];omega
 rw [this];exact hK
theorem Cp3 {u:Nat}(hu:u<65536){K:Bool->Wp}(hK:K (decide (u/1024=55)) w):Aa Tryz.prog 249 #[.int .i64 (u:Int)] rB K w:=by
 refine Ee7 ?_;unfold F249;have h:=Cv6 (a:=(u:Int)) (m:=1023) (by omega) (by omega) rfl;have e:(((BitVec.toNat (BitVec.ofInt (IntKind.bits .i64) (u:Int) &&& ~~~(BitVec.ofInt (IntKind.bits .i64) (1023:Int))):Nat):Int))=(u:Int)/1024*1024:=h;rw [e,wrap64 (by omega) (by omega)];have:((u:Int)/1024*1024==(56320:Int))=decide (u/1024=55):=by
  rw [gV];simp only [jM,iI];omega
 rw [this];exact hK
theorem Cl1 (be:Bool) (a b:UInt8):un be a b<65536:=by have ha:=a.toNat_lt;have hb:=b.toNat_lt;unfold un;split<;>omega
theorem X0 {s:Sl}{be:Bool}{b:UInt8}{r:Bs}(hB:By w s (b::r)){K:Int×Int×Unit->Wp}(hK:∀w',Ext w w'->K ((Jq be (b::r)).1,((Jq be (b::r)).2:Nat),()) w') :
  Aa Tryz.prog 242 #[.agg #[.int .i64 (lw be)],s.v] (.tup [(.one (.int .i64)),(.one (.int .i64))]) K w:=by
 refine Ef2 (a0:=(lw be,())) ?_;unfold F242;have hlen:r.length+1=s.len:=hB.len;have hcap:=hB.le;have hb:=b.toNat_lt;refine Cm λb1 w1 e1 n1 _ _=>?_;have hB1:By w1 s (b::r):=hB.ext e1;cases r with
 |nil=>have hl:s.len=1:=(by simpa using hlen.symm);refine Ac (λ_=>?_) (λh=>by simp [hl] at h);refine Vp hB1 (by decide) (b:=b) rfl λp=>?_;rw [wrap64 (a:=(b.toNat:Int)) (by omega) (by omega),wrap64 (by omega) (by omega)];exact hK w1 e1
 | cons c r =>
  have hl2:r.length+2=s.len:=(by simpa using hlen);refine Ac (λh=>?_) (λ_=>?_);{simp only [jM] at h;omega};refine Qh n1 (x:=(lw be,())) (λi v hv=>by rw [dU,←dM];exact hv) (As4 hB1 λw2 e2=>?_);have hB2:=hB1.ext e2;have hu:=Cl1 be b c;have n2:=e2.ext_get n1;have short:¬(un be b c/1024=54/\∃d e r',r=d::e::r'/\un be d e/1024=55)->Jq be (b::c::r)=(((un be b c:Nat):Int),2):=by
   intro h
   simp only [Jq]
   split
   ·rename_i h1
    split
    ·rename_i d e r'
     split
     ·rename_i h2;exact absurd ⟨h1,d,e,r',rfl,h2⟩ h
     ·rfl
    ·rfl
   ·rfl
  refine Ae (λ_ w'=>Ext w w'/\¬(un be b c/1024=54/\∃d e r',r=d::e::r'/\un be d e/1024=55)) ?_ ?_
  ·refine Ae (λx w'=>x=(decide (un be b c/1024=54/\4<=s.len),())/\w2=w') ?_ ?_;{refine Cf5 hu (Ac (λh=>?_) (λh=>?_));{simp only [iI] at h;refine ⟨Az ?_,rfl⟩;simp only [iI];omega};{simp only [iH] at h;exact ⟨by rw [jQ (by omega)],rfl⟩}}
   ·rintro _ w' ⟨rfl,rfl⟩;refine Ac (λh=>?_) (λh=>?_)
    ·simp only [iI] at h;obtain ⟨d,e,r',rfl⟩:∃d e r',r=d::e::r':=by
      match r,hl2 with
      |[],hl2=>simp at hl2;omega
      |[_],hl2=>simp at hl2;omega
      |d::e::r',_=>exact ⟨d,e,r',rfl⟩
     refine Ci λw3 e3 _=>?_;have n3:=e3.ext_get n2;have hB3:=hB2.ext e3;refine Qh n3 (x:=(lw be,())) (λi v hv=>by rw [dU,←dM];exact hv) ?_;refine Ay5 hB3 (by decide) (by omega) (by omega) (by omega) (by omega) λs' hs' hl' _=>?_;have hR:((b::c::d::e::r').drop (Int.toNat 2)).take (((s.len:Nat):Int).toNat-Int.toNat 2)=d::e::r':=by
      have:((s.len:Nat):Int).toNat-Int.toNat 2=(d::e::r').length:=by simp at hl2 ⊢;omega
      rw [this]
      show (d::e::r').take _=_
      rw [jR]
     rw [hR] at hs';refine As4 hs' λw4 e4=>Cp3 (Cl1 be d e) ?_;have e04:=(e1.trans e2).trans (e3.trans e4);refine Ac (λh5=>Dc (by decide) ?_) (λh5=>?_)
     ·simp only [iI] at h5;have hv:=Cl1 be d e;have g1:=Ac7 (b:=IntKind.bits .i64) (k:=10) (a:=((un be b c:Nat):Int)) (m:=1023) (by omega) (by show _<(2:Int)^64;omega) rfl (by decide);have g2:=Ac7 (b:=IntKind.bits .i64) (k:=10) (a:=((un be d e:Nat):Int)) (m:=1023) (by omega) (by show _<(2:Int)^64;omega) rfl (by decide);have ep:((2:Int)^(min (Int.toNat (10:Int)) (IntKind.bits .i64)))=2^10:=rfl;rw [g1,g2,ep,wrap64 (a:=((un be b c:Nat):Int)%2^10) (by omega) (by omega),wrap64 (a:=((un be d e:Nat):Int)%2^10) (by omega) (by omega),
       wrap64 (a:=((un be b c:Nat):Int)%2^10*2^10) (by omega) (by omega),wrap64 (a:=65536+((un be b c:Nat):Int)%2^10*2^10) (by omega) (by omega),wrap64 (by omega) (by omega)]
      have:=hK w4 e04;simp only [Jq,aF h.1,aF h5] at this;have e':65536+((un be b c:Nat):Int)%2^10*2^10+((un be d e:Nat):Int)%2^10=65536+((un be b c%1024*1024+un be d e%1024:Nat):Int):=(by omega);rw [e'];exact this
     {simp only [iH] at h5;refine ⟨e04,?_⟩;rintro ⟨_,d',e',r'',hr,h6⟩;cases hr;exact h5 h6}
    {simp only [iH] at h;refine ⟨e1.trans e2,?_⟩;rintro ⟨h6,d',e',r'',rfl,_⟩;simp at hl2;omega}
  {rintro _ w' ⟨hw,hno⟩;have:=hK w' hw;rw [short hno] at this;exact this}
theorem Bi3 {s:Sl}{b:UInt8}{r:Bs}(hB:By w s (b::r)){K:Int×Int×Unit->Wp}(hK:∀w',Ext w w'->K ((nx1 (b::r)).1,((nx1 (b::r)).2:Nat),()) w') :
  Aa Tryz.prog 251 #[.agg #[],s.v] (.tup [(.one (.int .i64)),(.one (.int .i64))]) K w:=by refine Ee5 (a0:=()) ?_;unfold F251;have hb:=b.toNat_lt;refine Cm λ_ w1 e1 _ _ _=>?_;have hB1:By w1 s (b::r):=hB.ext e1;refine Vp hB1 (by decide) (b:=b) rfl λp=>?_;rw [wrap64 (by omega) (by omega)];exact hK w1 e1
def Af8:Enc->Value
 |.u8=>.iface 183 (.agg #[])
 |.le=>.iface 185 (.agg #[.int .i64 0])
 |.be=>.iface 185 (.agg #[.int .i64 1])
 |.l1=>.iface 186 (.agg #[])
theorem Ba5 {e:Enc}{K:Value->Wp}(hK:K (Af8 e) w):Aa Tryz.prog 107 #[.int .i64 e.num] (.one (.one .any)) K w:=by
 refine Ep5 ?_;unfold F107;cases e with
 |u8=>exact Ac (λ_=>hK) (λh=>by cases h)
 |le=>exact Ac (λh=>by cases h) (λ_=>Ac (λ_=>hK) (λh=>by cases h))
 |be=>exact Ac (λh=>by cases h) (λ_=>Ac (λh=>by cases h) (λ_=>Ac (λ_=>hK) (λh=>by cases h)))
 |l1=>exact Ac (λh=>by cases h) (λ_=>Ac (λh=>by cases h) (λ_=>Ac (λh=>by cases h) (λ_=>Ac (λ_=>hK) (λh=>by cases h))))
theorem Yu (e:Enc):∃t v,Af8 e=.iface t v:=by cases e<;>exact ⟨_,_,rfl⟩
theorem Cs6 (e:Enc):Bp6 Tryz.prog (Af8 e) "copyist/codec.first" := by cases e;{exact ⟨_,_,rfl,λw=>by kernel_rfl⟩};{exact ⟨_,_,rfl,λw=>by kernel_rfl⟩};{exact ⟨_,_,rfl,λw=>by kernel_rfl⟩};{exact ⟨_,_,rfl,λw=>by kernel_rfl⟩}
theorem Da0 {e:Enc}{s:Sl}{l:Bs}(hB:By w s l) (hl:l≠[]){K:Int×Int×Unit->Wp}(hK:∀w',Ext w w'->K ((nx e l).1,((nx e l).2:Nat),()) w') :
  Cj Tryz.prog (invoke (.fn (.method "copyist/codec.first") #[]) (#[Af8 e]++#[.slice s.a s.len s.cap])) (.tup [(.one (.int .i64)),(.one (.int .i64))]) K w:=by
 cases l with
 |nil=>exact absurd rfl hl
 |cons b r =>
  cases e with
  |u8=>exact Uo (f:=235) (v':=.agg #[]) (λw=>by kernel_rfl) (by kernel_rfl) (Bi2 hB hK)
  |le=>exact Uo (f:=242) (v':=.agg #[.int .i64 (lw false)]) (λw=>by kernel_rfl) (by kernel_rfl) (X0 hB hK)
  |be=>exact Uo (f:=242) (v':=.agg #[.int .i64 (lw true)]) (λw=>by kernel_rfl) (by kernel_rfl) (X0 hB hK)
  |l1=>exact Uo (f:=251) (v':=.agg #[]) (λw=>by kernel_rfl) (by kernel_rfl) (Bi3 hB hK)
theorem Vj {e:Enc}{s:Sl}{l:Bs}(hB:By w s l){n:Nat}(hn:n<l.length){K:Int×Int×Unit->Wp}(hK:∀w',Ext w w'->K ((nx e (l.drop n)).1,((nx e (l.drop n)).2:Nat),()) w') :
  Aa Tryz.prog 54 #[.int .i64 e.num,s.v,.int .i64 (n:Int)] (.tup [(.one (.int .i64)),(.one (.int .i64))]) K w:=by
 refine A54 ?_;unfold F54;have hlen:=hB.len;have hcap:=hB.le;refine Ba5 ?_;refine Ae (λx w'=>x=(false,())/\w=w') ?_ ?_;{obtain ⟨t,v,hc⟩:=Yu e;rw [hc];refine Az6 ?_ ⟨_,Tryz.underlying153⟩;refine Ac (λh=>by cases h) (λ_=>Ac (λh=>?_) (λ_=>?_));{simp only [iI] at h;omega};{exact ⟨by rw [jQ (by omega)],rfl⟩}};rintro _ w' ⟨rfl,rfl⟩;refine Ac (λh=>by cases h) (λ_=>Ci λw1 e1 _=>?_);have hB1:=hB.ext e1;refine Ay5 hB1 (by omega) (by omega) (by omega) (by omega) (by omega) λs' hs' hl' _=>Dc (Cs6 e) ?_;have hR:(l.drop (n:Int).toNat).take (((s.len:Nat):Int).toNat-(n:Int).toNat)=l.drop n:=by
  have:((s.len:Nat):Int).toNat-(n:Int).toNat=(l.drop n).length:=by rw [gJ];omega
  rw [this,dF,jR]
 rw [hR] at hs';refine Da0 hs' (λh=>?_) λw2 e2=>hK w2 (e1.trans e2);have:=fC List.length h;rw [gJ,dR] at this;omega
end
end
section
namespace Cdc
def sz8 (a:Int):Nat:=if a < -256\/(-129<a/\a<0)\/1114111<a\/(55296<=a/\a<=57343) then 0 else if a<128 then 1 else if a<2048 then 2 else if a<65536 then 3 else 4
def Iq (a:Int):Nat:=if a < -256\/1114111<a then 0 else if a<0 then 1 else if a<65536 then 2 else 4
def sz1 (a:Int):Nat:=if a<0\/255<a then 0 else 1
def sz:Enc->Int->Nat
 |.u8,a=>sz8 a
 |.le,a=>Iq a
 |.be,a=>Iq a
 |.l1,a=>sz1 a
def cts:Nat->Nat->Bs
 |0,_=>[]
 |k+1,a=>UInt8.ofNat (128+a/64^k%64)::cts k a
def mk8 (n:Nat):Nat:=if n=2 then 192 else if n=3 then 224 else 240
def pt8 (a:Int):Bs:=if a<0 then [UInt8.ofNat (-1-a).toNat] else if sz8 a=1 then [UInt8.ofNat a.toNat] else UInt8.ofNat (mk8 (sz8 a)+a.toNat/64^(sz8 a-1))::cts (sz8 a-1) a.toNat
def uni (be:Bool) (u:Nat):Bs:=if be then [UInt8.ofNat (u/256),UInt8.ofNat u] else [UInt8.ofNat u,UInt8.ofNat (u/256)]
def Ar6 (be:Bool) (a:Int):Bs:=if a<0 then [UInt8.ofNat (-1-a).toNat] else if a<65536 then uni be a.toNat else uni be (55296+(a.toNat-65536)/1024)++uni be (56320+a.toNat%1024)
def pt1 (a:Int):Bs:=[UInt8.ofNat a.toNat]
def pt:Enc->Int->Bs
 |.u8,a=>pt8 a
 |.le,a=>Ar6 false a
 |.be,a=>Ar6 true a
 |.l1,a=>pt1 a
theorem Bc0:∀(k a:Nat),(cts k a).length=k
 |0,_=>rfl
 |k+1,a=>fC (·+1) (Bc0 k a)
theorem Ag7 (be:Bool) (u:Nat):(uni be u).length=2:=by unfold uni;split<;>rfl
theorem Aa4 (e:Enc) (a:Int) (h:sz e a≠0):(pt e a).length=sz e a:=by
 have h16:∀be,Iq a≠0->(Ar6 be a).length=Iq a:=by
  intro be h
  simp only [Ar6,Iq] at h ⊢
  repeat' split at h
  ·exact absurd rfl h
  ·rename_i h1 h2;rw [aF h2,aJ h1,aF h2];rfl
  ·rename_i h1 h2 h3;rw [aJ h2,aF h3,aJ h1,aJ h2,aF h3];exact Ag7 _ _
  ·rename_i h1 h2 h3;rw [aJ h2,aJ h3,aJ h1,aJ h2,aJ h3,iE,Ag7,Ag7]
 cases e with
 |u8=>simp only [sz,pt,pt8] at h ⊢;by_cases h0:a<0;{rw [aF h0];simp only [sz8] at h ⊢;split at h;{exact absurd rfl h};{rename_i h1;rw [aJ h1,aF (by omega)];rfl}};{rw [aJ h0];split;{rename_i h1;rw [h1];rfl};{simp only [dB,Bc0];omega}}
 |le=>exact h16 _ h
 |be=>exact h16 _ h
 |l1=>simp only [sz,sz1] at h ⊢;split at h;exact absurd rfl h;rename_i h1;rw [aJ h1];rfl
end Cdc
end
section
open Go Go.Vx Cdc
section
variable {w w':World}
theorem EBy:Je Tryz.prog 22 5 1 1:=Je.of (z:=.int .u8 0) C22 C5 rfl rfl rfl (by decide)
theorem uBy:Tryz.prog.underlying 22=some (.slice 5):=EBy.ts_
theorem Aj5 {a:Int}{K:Int->Wp}(hK:∀w',Ext w w'->K ((sz8 a:Nat):Int) w'):Aa Tryz.prog 239 #[.agg #[],.int .i64 a] rI K w:=by
 refine Ef5 (a0:=()) ?_;unfold F239;refine Cm λ_ w1 e1 _ _ _=>?_;refine Ae (λx w'=>x=(decide (a < -256\/(-129<a/\a<0)\/1114111<a\/(55296<=a/\a<=57343)),())/\w1=w') ?_ ?_
 ·(repeat' refine Ac (λh=>?_) (λh=>?_));(all_goals simp only [iI,iH,kG,jT] at *);all_goals
   refine ⟨?_,trivial⟩
   first
    |(rw [jP (by omega)];done)
    |(rw [jQ (by omega)];done)
    |(refine Az ?_;simp only [iI];omega)
 rintro _ w' ⟨rfl,rfl⟩;replace hK:=hK w1 e1;unfold sz8 at hK;refine Ac (λh=>?_) (λh=>?_);{simp only [iI] at h;rw [aF h] at hK;exact hK};{simp only [iH] at h;rw [aJ h] at hK;refine Ac (λh=>?_) (λh=>Ac (λh=>?_) (λh=>Ac (λh=>?_) (λh=>?_)));(all_goals simp only [iI,iH] at *);{rw [aF h] at hK;exact hK};{rw [aJ (by omega),aF h] at hK;exact hK};{rw [aJ (by omega),aJ (by omega),aF h] at hK;exact hK};{rw [aJ (by omega),aJ (by omega),aJ h] at hK;exact hK}}
theorem Ad7 {be:Bool}{a:Int}{K:Int->Wp}(hK:∀w',Ext w w'->K ((Iq a:Nat):Int) w'):Aa Tryz.prog 246 #[.agg #[.int .i64 (lw be)],.int .i64 a] rI K w:=by
 refine Ef0 (a0:=(lw be,())) ?_;unfold F246;refine Cm λ_ w1 e1 _ _ _=>?_;refine Ae (λx w'=>x=(decide (a < -256\/1114111<a),())/\w1=w') ?_ ?_
 ·(repeat' refine Ac (λh=>?_) (λh=>?_));(all_goals simp only [iI,iH,kG,jT] at *);all_goals
   refine ⟨?_,trivial⟩
   first
    |(rw [jP (by omega)];done)
    |(rw [jQ (by omega)];done)
    |(refine Az ?_;simp only [iI];omega)
 rintro _ w' ⟨rfl,rfl⟩;replace hK:=hK w1 e1;unfold Iq at hK;refine Ac (λh=>?_) (λh=>?_);{simp only [iI] at h;rw [aF h] at hK;exact hK};{simp only [iH] at h;rw [aJ h] at hK;refine Ac (λh=>?_) (λh=>Ac (λh=>?_) (λh=>?_));(all_goals simp only [iI,iH] at *);{rw [aF h] at hK;exact hK};{rw [aJ (by omega),aF h] at hK;exact hK};{rw [aJ (by omega),aJ h] at hK;exact hK}}
theorem Bn1 {a:Int}{K:Int->Wp}(hK:∀w',Ext w w'->K ((sz1 a:Nat):Int) w'):Aa Tryz.prog 255 #[.agg #[],.int .i64 a] rI K w:=by
 refine Ee3 (a0:=()) ?_;unfold F255;refine Cm λ_ w1 e1 _ _ _=>?_;refine Ae (λx w'=>x=(decide (a<0\/255<a),())/\w1=w') ?_ ?_
 ·(repeat' refine Ac (λh=>?_) (λh=>?_));(all_goals simp only [iI,iH,kG,jT] at *);all_goals
   refine ⟨?_,trivial⟩
   first
    |(rw [jP (by omega)];done)
    |(rw [jQ (by omega)];done)
    |(refine Az ?_;simp only [iI];omega)
 rintro _ w' ⟨rfl,rfl⟩;replace hK:=hK w1 e1;unfold sz1 at hK;refine Ac (λh=>?_) (λh=>?_);{simp only [iI] at h;rw [aF h] at hK;exact hK};{simp only [iH] at h;rw [aJ h] at hK;exact hK}
theorem Cm0 {e:Enc}{a:Int}{K:Int->Wp}(hK:∀w',Ext w w'->K ((sz e a:Nat):Int) w') :
  Cj Tryz.prog (invoke (.fn (.method "copyist/codec.size") #[]) (#[Af8 e]++#[.int .i64 a])) (.one (.one (.int .i64))) K w:=by
 cases e with
 |u8=>exact Uo (f:=239) (v':=.agg #[]) (λw=>by kernel_rfl) (by kernel_rfl) (Aj5 hK)
 |le=>exact Uo (f:=246) (v':=.agg #[.int .i64 (lw false)]) (λw=>by kernel_rfl) (by kernel_rfl) (Ad7 hK)
 |be=>exact Uo (f:=246) (v':=.agg #[.int .i64 (lw true)]) (λw=>by kernel_rfl) (by kernel_rfl) (Ad7 hK)
 |l1=>exact Uo (f:=255) (v':=.agg #[]) (λw=>by kernel_rfl) (by kernel_rfl) (Bn1 hK)
theorem Cb2 {e:Enc}{a:Int}{K:Int->Wp}(hK:∀w',Ext w w'->K ((sz e a:Nat):Int) w'):Aa Tryz.prog 65 #[.int .i64 e.num,.int .i64 a] rI K w:=by refine A65 ?_;unfold F65;refine Ba5 ?_;have hx:=Cm0 (w:=w) (e:=e) (a:=a) hK;obtain ⟨t,v,hc⟩:=Yu e;rw [hc] at hx ⊢;exact Az6 (Ac (λh=>by cases h) λ_=>hx) ⟨_,Tryz.underlying153⟩
theorem app1 {B:Nat}{s:Sl}{l:Bs}{c:UInt8}{v:Int}{K:Sl->Wp}(hv:v=(c.toNat:Int)) (ho:Ar w B s 5 1 (bv l)) (hr:s.len<2^44) (hB:B<=w.heap.size)
  (hK:∀s' w',Ar w' B s' 5 1 (bv (l++[c]))->s'.len=s.len+1->Upd s.blk w w'->(∀k,s'.blk k->s.blk k\/w.heap.size<=k)->K s' w') :
  Af (.cells #[.int .u8 v] 5) (λb=>Du Tryz.prog (.one (.one .sl)) (Builtin.append_ #[22,22] 22 #[.slice s.a s.len s.cap,.slice (some (at0 b)) 1 1]) K) w:=by subst hv;refine Cm λb w1 e1 n1 _ _=>?_;refine Bl2 (x:=⟨some (at0 b),1,1⟩) EBy uBy (ho.ext e1) (Bl.Jp (n:=1) (sz:=1) n1 rfl) (λv hv=>by simp at hv;subst hv;rfl) (by dsimp only;omega) (fK hB e1.size) λs' w2 o2 hl u2 hb=>?_;refine hK s' w2 ?_ hl ((Upd.Ed e1).trans u2) λk hk=>(hb k hk).imp id (fK e1.size);simpa [bv] using o2
end
section
variable {w w':World}
abbrev Yx (w:World) (B:Nat) (s:Sl) (l bs:Bs) (K:Sl->Wp):Prop :=
 ∀s' w',Ar w' B s' 5 1 (bv (l++bs))->s'.len=s.len+bs.length->Upd s.blk w w'->(∀k,s'.blk k->s.blk k\/w.heap.size<=k)->K s' w'
theorem Yx.then {B:Nat}{s s1:Sl}{l b1 b2:Bs}{w1:World}{K:Sl->Wp}(hK:Yx w B s l (b1++b2) K) (hl:s1.len=s.len+b1.length) (u:Upd s.blk w w1) (hb:∀k,s1.blk k->s.blk k\/w.heap.size<=k) :
  Yx w1 B s1 (l++b1) b2 K:=λs' w' ho hl' u' hb' =>
 hK s' w' (by rw [←eG];exact ho) (by rw [hl',hl,iE];omega) (u.new u' λk hk h=>(hb k h).resolve_right (by omega)) λk hk=>by rcases hb' k hk with h|h;{exact hb k h};{exact .inr (fK u.size h)}
theorem Yx.ext {B:Nat}{s:Sl}{l bs:Bs}{w1:World}{K:Sl->Wp}(hK:Yx w B s l bs K) (e:Ext w w1):Yx w1 B s l bs K:=λs' w' ho hl' u' hb' =>
 hK s' w' ho hl' ((Upd.Ed e).trans u') λk hk=>(hb' k hk).imp id (fK e.size)
theorem app1' {B:Nat}{s:Sl}{l:Bs}{c:UInt8}{v:Int}{K:Sl->Wp}(hv:v=(c.toNat:Int)) (ho:Ar w B s 5 1 (bv l)) (hr:s.len<2^44) (hB:B<=w.heap.size) (hK:Yx w B s l [c] K) :
  Af (.cells #[.int .u8 v] 5) (λb=>Du Tryz.prog (.one (.one .sl)) (Builtin.append_ #[22,22] 22 #[.slice s.a s.len s.cap,.slice (some (at0 b)) 1 1]) K) w:=app1 hv ho hr hB hK
theorem Ko (n:Nat) (h:n<256):((UInt8.ofNat n).toNat:Int)=(n:Int):=by rw [kN];omega
theorem Cs4 (a j:Nat) (hj:j<=2):IntKind.wrap .u8 ((BitVec.toNat (BitVec.ofInt (IntKind.bits .u8) (128:Int) ||| BitVec.ofInt (IntKind.bits .u8) (IntKind.wrap .u8 ((BitVec.toNat (BitVec.ofInt (IntKind.bits .u8) (IntKind.wrap .u8 (Int.fdiv (a:Int) (2^(min (Int.toNat (W64 ((6:Int)*(j:Int)))) (IntKind.bits .i64))))) &&& BitVec.ofInt (IntKind.bits .u8) (63:Int)):Nat):Int))):Nat):Int)=((UInt8.ofNat (128+a/64^j%64)).toNat:Int):=by
 have e:((2:Int)^(min (Int.toNat (W64 ((6:Int)*(j:Int)))) (IntKind.bits .i64)))=((64^j:Nat):Int):=by
  match j,hj with
  |0,_=>decide
  |1,_=>decide
  |2,_=>decide
 rw [e,kP _ (kQ _),←Int.natCast_ediv];generalize a/64^j=q;rw [Bm1 (a:=(q:Int))];have h1:=Ac7 (b:=IntKind.bits .u8) (k:=6) (a:=(q:Int)%256) (m:=63) (by omega) (by show _<(2:Int)^8;omega) rfl (by decide);rw [h1,D5 (a:=(q:Int)%256%2^6) (by omega) (by omega)];have h2:=Vh (b:=IntKind.bits .u8) (k:=6) (a:=2) (c:=(q:Int)%256%2^6) (by omega) (by omega) (by omega) (by show _<(2:Int)^8;omega);have e2:(2:Int)*2^6=128:=(by decide);rw [e2] at h2;rw [h2,D5 (by omega) (by omega),Ko _ (by omega)];omega
theorem Cq8 (a n:Nat) (hn:n=sz8 a) (h2:2<=n):∃x:Int,([(0:Int),0,192,224,240])[n]?=some x/\IntKind.wrap .u8 ((BitVec.toNat (BitVec.ofInt (IntKind.bits .u8) x ||| BitVec.ofInt (IntKind.bits .u8) (IntKind.wrap .u8 (Int.fdiv (a:Int) (2^(min (Int.toNat (W64 ((6:Int)*(W64 ((n:Int)-(1:Int)))))) (IntKind.bits .i64)))))):Nat):Int)=((UInt8.ofNat (mk8 n+a/64^(n-1))).toNat:Int):=by
 have go:∀(k:Nat) (q m:Int),0<=q->q<2^k->0<=m->m*2^k+q<256->IntKind.wrap .u8 ((BitVec.toNat (BitVec.ofInt (IntKind.bits .u8) (m*2^k) ||| BitVec.ofInt (IntKind.bits .u8) (IntKind.wrap .u8 q)):Nat):Int)=m*2^k+q:=by
  intro k q m h0 h1 hm h3
  have hp:(0:Int)<=m*2^k:=Int.mul_nonneg hm (Int.le_of_lt (jF (by decide)))
  rw [D5 (a:=q) h0 (by omega),Vh (b:=IntKind.bits .u8) hm h0 h1 h3,D5 (by omega) h3]
 unfold sz8 at hn;split at hn;{omega};split at hn;{omega};split at hn;{subst hn;refine ⟨192,rfl,?_⟩;have e:((2:Int)^(min (Int.toNat (W64 ((6:Int)*(W64 (((2:Nat):Int)-(1:Int)))))) (IntKind.bits .i64)))=((64:Nat):Int):=(by decide);rw [e,kP _ (by omega)];have:=go 5 ((a:Int)/((64:Nat):Int)) 6 (by omega) (by omega) (by omega) (by omega);have e2:(6:Int)*2^5=192:=(by decide);rw [e2] at this;rw [this];have e3:mk8 2+a/64^(2-1)=192+a/64:=rfl;rw [e3,Ko _ (by omega)];omega};split at hn;{subst hn;refine ⟨224,rfl,?_⟩;have e:((2:Int)^(min (Int.toNat (W64 ((6:Int)*(W64 (((3:Nat):Int)-(1:Int)))))) (IntKind.bits .i64)))=((4096:Nat):Int):=(by decide);rw [e,kP _ (by omega)];have:=go 4 ((a:Int)/((4096:Nat):Int)) 14 (by omega) (by omega) (by omega) (by omega);have e2:(14:Int)*2^4=224:=(by decide);rw [e2] at this;rw [this];have e3:mk8 3+a/64^(3-1)=224+a/4096:=rfl;rw [e3,Ko _ (by omega)];omega};{subst hn;refine ⟨240,rfl,?_⟩;have e:((2:Int)^(min (Int.toNat (W64 ((6:Int)*(W64 (((4:Nat):Int)-(1:Int)))))) (IntKind.bits .i64)))=((262144:Nat):Int):=(by decide);rw [e,kP _ (by omega)];have:=go 3 ((a:Int)/((262144:Nat):Int)) 30 (by omega) (by omega) (by omega) (by omega);have e2:(30:Int)*2^3=240:=(by decide);rw [e2] at this;rw [this];have e3:mk8 4+a/64^(4-1)=240+a/262144:=rfl;rw [e3,Ko _ (by omega)];omega}
theorem By0:∀(m a k:Nat),k<m->(cts m a)[k]?=some (UInt8.ofNat (128+a/64^(m-1-k)%64))
 |0,_,k,h=>absurd h (by omega)
 |m+1,a,0,_=>rfl
 |m+1,a,k+1,h=>by
  have e:m+1-1-(k+1)=m-1-k:=by omega
  rw [e]
  exact By0 m a k (by omega)
theorem Cc9 {B:Nat}{s:Sl}{l:Bs}{a:Int}{K:Sl->Wp}(hf:sz8 a≠0) (ho:Ar w B s 5 1 (bv l)) (hr:s.len<2^43) (hB:B<=w.heap.size) (hK:Yx w B s l (pt8 a) K) :
  Aa Tryz.prog 238 #[.agg #[],s.v,.int .i64 a] rS K w:=by
 refine Ef6 (a0:=()) ?_;unfold F238;refine Cm λb1 w1 e1 n1 _ _=>?_;refine Qh n1 (x:=()) (λi v hv=>by cases hv) (Aj5 λw2 e2=>?_);have e12:=e1.trans e2;have ho2:=ho.ext e12;have hB2:=fK hB e12.size;have hK2:=hK.ext e12;have hrng:-256<=a/\(a<=-129\/0<=a)/\a<=1114111:=by
  simp only [sz8] at hf
  split at hf
  ·exact absurd rfl hf
  ·omega
 unfold pt8 at hK2;refine Ac (λh=>?_) (λh=>?_);{simp only [iI] at h;rw [aF h] at hK2;refine app1' ?_ ho2 (by omega) hB2 hK2;rw [wrap64 (by omega) (by omega),D5 (by omega) (by omega),Ko _ (by omega)];omega};simp only [iH] at h;rw [aJ h] at hK2;obtain ⟨n,rfl⟩:=kR (Int.not_lt.1 h);refine Ac (λh1=>?_) (λh1=>?_)
 ·simp only [jM] at h1;have h1':sz8 (n:Int)=1:=(by omega);rw [aF h1'] at hK2;refine app1' ?_ ho2 (by omega) hB2 hK2;have:(n:Int)<128:=by
   simp only [sz8] at h1'
   repeat' split at h1'
   all_goals first|omega|(cases h1')
  rw [D5 (by omega) (by omega),Ko _ (by omega)];omega
 simp only [jO] at h1;have h1':sz8 (n:Int)≠1:=(by omega);rw [aJ h1'] at hK2;(have h4:sz8 (n:Int)<=4:=by unfold sz8;(repeat' split)<;>omega);obtain ⟨x,hx,hhead⟩:=Cq8 n _ rfl (by omega);generalize hm:sz8 (n:Int)=m at *;simp only [dF] at hK2;refine (St.start w2).Fp rfl rfl rfl λb2 w3 S3 e3=>S3.drew λw4 S4 e4 _=>?_;have e24:=e3.trans e4;(have eix:((at0 b2).add (scaled (Int.toNat ((m:Nat):Int)) 1))=⟨b2,m,none⟩:=by rw [dF,addr_add];simp [Ei]);have hm24:m=2\/m=3\/m=4:=(by omega);(have hw1:W64 (((m:Nat):Int)-1)=((m-1:Nat):Int):=by rw [wrap64 (by omega) (by omega)];omega);refine Dc ⟨by omega,by omega⟩ ?_;rw [eix];refine Ce (S4.at_ 0 rfl) (x:=x) ?_ (Dc ?_ ?_);{rcases hm24 with rfl|rfl|rfl<;>(cases hx;rfl)};{rw [hw1,wrap64 (by omega) (by omega)];omega};have ho4:=ho2.ext e24;have hK4:=hK2.ext e24;have hB4:=fK hB2 e24.size;refine app1' hhead ho4 (by omega) hB4 λs5 w5 o5 hl5 u5 hb5=>?_;have hK5:=Yx.then (b1:=[_]) hK4 hl5 u5 hb5;have hB5:=fK hB4 u5.size;have hcl:=Bc0 (m-1) n;have hl5':s5.len=s.len+1:=hl5;refine Ae (λx w'=>K x.1 w') ?_ (λ_ _ h=>h);refine Ba (λx w'=>∃k,k<=m-1/\x.2.1=((m:Nat):Int)-2-(k:Int)/\x.1.len=s5.len+k/\B<=w'.heap.size/\Ar w' B x.1 5 1 (bv ((l++[UInt8.ofNat (mk8 m+n/64^(m-1))])++(cts (m-1) n).take k)) /\
  Yx w' B x.1 ((l++[UInt8.ofNat (mk8 m+n/64^(m-1))])++(cts (m-1) n).take k) ((cts (m-1) n).drop k) K) (λx _=>(x.2.1+1).toNat) ⟨0,iW _,?_,rfl,hB5,?_,?_⟩ ?_
 {show W64 (((m:Nat):Int)-2)=_;rw [wrap64 (by omega) (by omega)];omega};{simpa using o5};{simpa using hK5};rintro ⟨s6,i,⟨⟩⟩ w6 ⟨k,hk,hi,hl6,hB6,o6,hK6⟩;dsimp only at hi hl6 o6 hK6 ⊢;refine Ac (λh=>?_) (λh=>?_)
 ·simp only [iI,jT] at h;have hkm:k<m-1:=(by omega);obtain ⟨j,hj⟩:∃j:Nat,j=m-2-k:=⟨_,rfl⟩;have hij:i=(j:Int):=(by omega);rw [hij];have hj2:j<=2:=(by omega);refine Dc ?_ ?_;{rw [wrap64 (by omega) (by omega)];omega};have hg:=By0 (m-1) n k hkm;have ej:m-1-1-k=j:=(by omega);rw [ej] at hg;have hdr:(cts (m-1) n).drop k=UInt8.ofNat (128+n/64^j%64)::(cts (m-1) n).drop (k+1):=by
   have hlt:k<(cts (m-1) n).length:=by omega
   rw [iZ hlt]
   rw [jC hlt] at hg
   rw [kS hg]
  rw [hdr] at hK6;have htk:(cts (m-1) n).take (k+1)=(cts (m-1) n).take k++[UInt8.ofNat (128+n/64^j%64)]:=by
   rw [kT,hg];rfl
  refine app1' (Cs4 n j hj2) o6 (by omega) hB6 λs7 w7 o7 hl7 u7 hb7=>?_;have hK7:=Yx.then (b1:=[_]) (b2:=(cts (m-1) n).drop (k+1)) hK6 hl7 u7 hb7;rw [eG,←htk] at hK7 o7;have hl7':s7.len=s6.len+1:=hl7;have hwi:W64 ((j:Int)-1)=(j:Int)-1:=wrap64 (by omega) (by omega);rw [hwi];exact ⟨⟨k+1,by omega,by omega,by omega,fK hB6 u7.size,o7,hK7⟩,by omega⟩
 {simp only [iH,jT] at h;have hkm:k=m-1:=(by omega);have:(cts (m-1) n).drop k=[]:=iY (by omega);rw [this] at hK6;exact hK6 s6 w6 (by simpa using o6) rfl (Upd.refl _ _) λk hk=>.inl hk}
theorem Ab8 {B:Nat}{s:Sl}{l:Bs}{be:Bool}{u:Nat}{K:Sl->Wp}(hu:u<65536) (ho:Ar w B s 5 1 (bv l)) (hr:s.len<2^43) (hB:B<=w.heap.size) (hK:Yx w B s l (uni be u) K) :
  Aa Tryz.prog 250 #[.agg #[.int .i64 (lw be)],s.v,.int .i64 (u:Int)] rS K w:=by
 refine Ee6 (a0:=(lw be,())) ?_;unfold F250;refine (St.start w).Af λb1 w1 S1 e1=>S1.Af λb2 w2 S2 e2=>S2.drew λw3 S3 e3 _=>?_;refine S3.ld 1 rfl (x:=lw be) rfl (S3.ld 1 rfl (x:=lw be) rfl (Dc (by decide) ?_));have e13:=(e1.trans e2).trans e3;have hsh:IntKind.wrap .u8 (Int.fdiv (u:Int) (2^(min (Int.toNat (8:Int)) (IntKind.bits .i64))))=((UInt8.ofNat (u/256)).toNat:Int):=by
  have e:((2:Int)^(min (Int.toNat (8:Int)) (IntKind.bits .i64)))=256:=by decide
  rw [e,kP _ (by decide),Bm1,Ko _ (by omega)]
  omega
 have hlo:IntKind.wrap .u8 (u:Int)=((UInt8.ofNat u).toNat:Int):=by
  rw [Bm1,kN];omega
 rw [hsh,hlo];have fin:∀(x y:UInt8) (w5:World),Ext w w5->uni be u=[x,y]->w5.heap[b2]?=some (.cells #[.int .u8 (x.toNat:Int),.int .u8 (y.toNat:Int)] 233 (0,0)) ->
   slc (some (at0 b2)) 0 ((2:Nat):Int) ((2:Nat):Int) 2 1 (λx5=>Du Tryz.prog (.one (.one .sl)) (Builtin.append_ #[22,22] 22 #[(.slice s.a s.len s.cap),(.slice x5.a x5.len x5.cap)]) K) w5:=by
  intro x y w5 e5 hxy n5
  refine Be8 (s:=⟨some (at0 b2),2,2⟩) (Bl.Jp (n:=2) (sz:=1) n5 rfl) (by decide) (by decide) (dG _) (dG _) (dG _) λs6 h6 hl6 _ _=>?_
  have hl6':s6.len=2:=hl6
  refine Bl2 EBy uBy (ho.ext e5) h6 (λv hv=>?_) (by omega) (fK hB e5.size) λs7 w7 o7 hl7 u7 hb7=>?_
  ·have hv':=iV (iU hv)
   simp at hv'
   rcases hv' with rfl|rfl<;>rfl
  ·have hK5:=hK.ext e5
   rw [hxy] at hK5
   refine hK5 s7 w7 ?_ (by rw [hl7,hl6'];rfl) u7 hb7
   simpa [bv] using o7
 cases be with
 |false=>have e0:lw false=0:=rfl;rw [e0] at S3 ⊢;have ew:W64 ((1:Int)-0)=1:=(by decide);rw [ew];refine Dc (by decide) ?_;(have a0:((at0 b2).add (scaled (Int.toNat (0:Int)) 1))=⟨b2,0,none⟩:=by rw [addr_add];rfl);(have a1:((at0 b2).add (scaled (Int.toNat (1:Int)) 1))=⟨b2,1,none⟩:=by rw [addr_add];rfl);rw [a0,a1];refine S3.stC 0 (off:=0) rfl (by decide) λw4 S4 u4=>S4.keep 1 rfl rfl (Dc (by decide) (S4.stC 0 (off:=1) rfl (by simp) λw5 S5 u5=>?_));exact fin _ _ w5 S5.upd rfl (S5.at_ 0 rfl)
 |true=>have e0:lw true=1:=rfl;rw [e0] at S3 ⊢;have ew:W64 ((1:Int)-1)=0:=(by decide);rw [ew];refine Dc (by decide) ?_;(have a0:((at0 b2).add (scaled (Int.toNat (0:Int)) 1))=⟨b2,0,none⟩:=by rw [addr_add];rfl);(have a1:((at0 b2).add (scaled (Int.toNat (1:Int)) 1))=⟨b2,1,none⟩:=by rw [addr_add];rfl);rw [a0,a1];refine S3.stC 0 (off:=1) rfl (by decide) λw4 S4 u4=>S4.keep 1 rfl rfl (Dc (by decide) (S4.stC 0 (off:=0) rfl (by simp) λw5 S5 u5=>?_));exact fin _ _ w5 S5.upd rfl (S5.at_ 0 rfl)
theorem Cp0 {a:Int}(h:a<0) (h2:-256<=a):IntKind.wrap .u8 (W64 ((-1:Int)-a))=((UInt8.ofNat (-1-a).toNat).toNat:Int):=by rw [wrap64 (by omega) (by omega),D5 (by omega) (by omega),Ko _ (by omega)];omega
theorem Al5 {B:Nat}{s:Sl}{l:Bs}{be:Bool}{a:Int}{K:Sl->Wp}(hf:Iq a≠0) (ho:Ar w B s 5 1 (bv l)) (hr:s.len<2^42) (hB:B<=w.heap.size) (hK:Yx w B s l (Ar6 be a) K) :
  Aa Tryz.prog 245 #[.agg #[.int .i64 (lw be)],s.v,.int .i64 a] rS K w:=by
 refine Ef1 (a0:=(lw be,())) ?_;unfold F245;have hrng:-256<=a/\a<=1114111:=by
  simp only [Iq] at hf
  split at hf
  ·exact absurd rfl hf
  ·omega
 refine (St.start w).Af λb1 w1 S1 e1=>?_;unfold Ar6 at hK;refine Ac (λh=>?_) (λh=>?_);{simp only [iI] at h;rw [aF h] at hK;exact app1' (Cp0 h hrng.1) (ho.ext e1) (by omega) (fK hB e1.size) (hK.ext e1)};simp only [iH] at h;rw [aJ h] at hK;obtain ⟨n,rfl⟩:=kR (Int.not_lt.1 h);rw [dF] at hK;refine Ac (λh1=>?_) (λh1=>?_);{simp only [iI] at h1;rw [aF h1] at hK;exact S1.lds 0 (lw be,()) rfl (Ab8 (by omega) (ho.ext e1) (by omega) (fK hB e1.size) (hK.ext e1))};simp only [iH] at h1;rw [aJ h1] at hK;refine S1.drew λw2 S2 e2 _=>S2.lds 0 (lw be,()) rfl (S2.lds 0 (lw be,()) rfl (Dc (by decide) ?_));have e12:=e1.trans e2;have b1e:W64 ((BitVec.toNat (BitVec.ofInt (IntKind.bits .i64) (55296:Int) ||| BitVec.ofInt (IntKind.bits .i64) (Int.fdiv (W64 ((n:Int)-(65536:Int))) (2^(min (Int.toNat (10:Int)) (IntKind.bits .i64))))):Nat):Int)=((55296+(n-65536)/1024:Nat):Int):=by
  have e:((2:Int)^(min (Int.toNat (10:Int)) (IntKind.bits .i64)))=1024:=by decide
  rw [e,wrap64 (a:=(n:Int)-65536) (by omega) (by omega),kP _ (by decide)]
  have h2:=Vh (b:=IntKind.bits .i64) (k:=10) (a:=54) (c:=((n:Int)-65536)/1024) (by omega) (by omega) (by omega) (by show _<(2:Int)^64;omega)
  have e2:(54:Int)*2^10=55296:=by decide
  rw [e2] at h2
  rw [h2,wrap64 (by omega) (by omega)]
  omega
 have b2e:W64 ((BitVec.toNat (BitVec.ofInt (IntKind.bits .i64) (56320:Int) ||| BitVec.ofInt (IntKind.bits .i64) (W64 ((BitVec.toNat (BitVec.ofInt (IntKind.bits .i64) (n:Int) &&& BitVec.ofInt (IntKind.bits .i64) (1023:Int)):Nat):Int))):Nat):Int)=((56320+n%1024:Nat):Int):=by
  have g1:=Ac7 (b:=IntKind.bits .i64) (k:=10) (a:=(n:Int)) (m:=1023) (by omega) (by show _<(2:Int)^64;omega) rfl (by decide)
  rw [g1,wrap64 (a:=(n:Int)%2^10) (by omega) (by omega)]
  have h2:=Vh (b:=IntKind.bits .i64) (k:=10) (a:=55) (c:=(n:Int)%2^10) (by omega) (by omega) (by omega) (by show _<(2:Int)^64;omega)
  have e2:(55:Int)*2^10=56320:=by decide
  rw [e2] at h2
  rw [h2,wrap64 (by omega) (by omega)]
  omega
 rw [b1e,b2e];have n2:=S2.at_ 0 rfl;have hbo:B<=b1\/True:=.inr trivial;refine Ab8 (by omega) (ho.ext e12) (by omega) (fK hB e12.size) λs3 w3 o3 hl3 u3 hb3=>?_;have hnb:¬s.blk b1:=λhk=>by
  have:=(ho.ext e12).in.Fv hk
  obtain ⟨c,fr,hc⟩:=this
  rw [n2] at hc;cases hc
 refine Bg (Gj _ 0 λj v hj=>?_) ?_;{rw [dU];exact cell_of (u3.get n2 hnb) (by rw [dU,←dM];exact hj)};{have hl3':s3.len=s.len+2:=(by rw [hl3,Ag7]);exact Ab8 (by omega) o3 (by omega) (fK (fK hB e12.size) u3.size) (Yx.then (hK.ext e12) hl3 u3 hb3)}
theorem Cd0 {B:Nat}{s:Sl}{l:Bs}{a:Int}{K:Sl->Wp}(hf:sz1 a≠0) (ho:Ar w B s 5 1 (bv l)) (hr:s.len<2^42) (hB:B<=w.heap.size) (hK:Yx w B s l (pt1 a) K) :
  Aa Tryz.prog 254 #[.agg #[],s.v,.int .i64 a] rS K w:=by
 refine Ee4 (a0:=()) ?_;unfold F254;have hrng:0<=a/\a<=255:=by
  simp only [sz1] at hf
  split at hf
  ·exact absurd rfl hf
  ·omega
 refine Cm λb1 w1 e1 _ _ _=>app1' ?_ (ho.ext e1) (by omega) (fK hB e1.size) (hK.ext e1);rw [D5 (by omega) (by omega),Ko _ (by omega)];omega
theorem Di9 {B:Nat}{s:Sl}{l:Bs}{e:Enc}{a:Int}{K:Sl->Wp}(hf:sz e a≠0) (ho:Ar w B s 5 1 (bv l)) (hr:s.len<2^42) (hB:B<=w.heap.size) (hK:Yx w B s l (pt e a) K) :
  Cj Tryz.prog (invoke (.fn (.method "copyist/codec.put") #[]) (#[Af8 e]++#[.slice s.a s.len s.cap,.int .i64 a])) (.one (.one .sl)) K w:=by
 cases e with
 |u8=>exact Ah6 (f:=238) (v':=.agg #[]) (λw=>by kernel_rfl) (by kernel_rfl) (Cc9 hf ho (by omega) hB hK)
 |le=>exact Ah6 (f:=245) (v':=.agg #[.int .i64 (lw false)]) (λw=>by kernel_rfl) (by kernel_rfl) (Al5 hf ho hr hB hK)
 |be=>exact Ah6 (f:=245) (v':=.agg #[.int .i64 (lw true)]) (λw=>by kernel_rfl) (by kernel_rfl) (Al5 hf ho hr hB hK)
 |l1=>exact Ah6 (f:=254) (v':=.agg #[]) (λw=>by kernel_rfl) (by kernel_rfl) (Cd0 hf ho hr hB hK)
theorem Cg8 {s:Sl}{t:TypeId}{e:Enc}{a:Int}{K:Sl×Int×Int×Unit->Wp}(hf:sz e a≠0) (hs:Bl w s t 1 [.int .i64 a])
  (hK:∀s' w',Ar w' w.heap.size s' 5 1 (bv (pt e a))->Ext w w'->K (s',0,0,()) w') :
  Aa Tryz.prog 119 #[.int .i64 e.num,s.v] (.tup [(.one .sl),(.one (.int .i64)),(.one (.int .i64))]) K w:=by
 refine Eo5 ?_;unfold F119;(have hlen:s.len=1:=by have:=hs.len1;simpa using this.symm);have hs':Bl w s t 1 ([a].map (Cell.int .i64).val):=hs;refine Ba5 ?_;have put:∀{w1:World} {o:Sl} {K:Sl->Wp},Ext w w1->o=⟨none,0,0⟩->Yx w1 w.heap.size o [] (pt e a) K->Cj Tryz.prog (invoke (.fn (.method "copyist/codec.put") #[]) (#[Af8 e]++#[.slice o.a o.len o.cap,.int .i64 a])) (.one (.one .sl)) K w1:=by
  rintro w1 o K e1 rfl hK
  exact Di9 hf (Ar.nil _ _ _ _) (by show (0:Nat)<2^42;decide) e1.size hK
 have size:∀{w:World} {K:Int->Wp},(∀w',Ext w w'->K ((sz e a:Nat):Int) w')->Cj Tryz.prog (invoke (.fn (.method "copyist/codec.size") #[]) (#[Af8 e]++#[.int .i64 a])) (.one (.one (.int .i64))) K w:=λh=>Cm0 h;obtain ⟨ty,v,hc⟩:=Yu e;rw [hc] at put size ⊢;refine Az6 (Ac (λh=>by cases h) λ_=>?_) ⟨_,Tryz.underlying153⟩;refine Ae (λx w'=>Ar w' w.heap.size x.1 5 1 (bv (pt e a))/\Ext w w') ?_ λx w' h=>hK _ _ h.1 h.2;refine Ba (λx w'=>(x=(⟨none,0,0⟩,0,())/\w=w')\/(x.2.1=1/\Ar w' w.heap.size x.1 5 1 (bv (pt e a))/\Ext w w')) (λx _=>(1-x.2.1).toNat) (.inl ⟨rfl,rfl⟩) ?_;rintro x w' (⟨rfl,rfl⟩|⟨hx,ho,hE⟩);{refine Ac (λ_=>?_) (λh=>?_);{refine Ew hs' (by decide) (x:=a) rfl λp=>size λw1 e1=>Ac (λh=>?_) (λ_=>?_);{simp only [jM] at h;omega};{refine put e1 rfl λs2 w2 o2 _ u2 _=>⟨.inr ⟨by show W64 (0+1)=1;decide,by simpa using o2,e1.trans (u2.mono λk _ hk=>?_)⟩,by show (1-W64 (0+1)).toNat<((1:Int)-0).toNat;decide⟩;obtain ⟨p,hp,_⟩:=hk;cases hp}};{simp only [iH] at h;omega}};{refine Ac (λh=>?_) (λ_=>⟨ho,hE⟩);simp only [iI] at h;omega}
end
end
section
open Go Go.Vx Cdc Trx
section
variable {w w':World}{S:Nat->Prop}
theorem Ad8 {a:Int}{n:Nat}{K:Cells.T c109->Wp}(hK:∀w',Ext w w'->K (smT (one1 a n)) w') :
  Aa Tryz.prog 109 #[.int .i64 a,.int .i64 (n:Int)] (.one (.agg c109)) K w:=by
 refine Ep3 ?_;unfold F109;refine (St.start w).Af λb1 w1 S1 e1=>S1.Af λb2 w2 S2 e2=>S2.Ad 0 rfl rfl rfl rfl λw3 S3 u3=>?_;let z1:Nat×Obj:=(b1,.cells #[(.int .i64 (0:Int)),(.int .i64 (0:Int)),(.int .i64 (0:Int)),(.bool false),(.bool false)] 109 (0,0));refine Ae (λ_ w'=>St (λ_=>False) w w' [(b2,.cells (Cells.vals c109 (smT (one1 a n))).toArray 109 (0,0)),z1]) ?_ ?_
 ·refine Ae (λx w'=>x=((a==10||a==13),())/\w3=w') (S3.ld 0 rfl (x:=(a==10)) rfl (Ac (λh=>⟨by rw [h];rfl,rfl⟩) (λh=>S3.ld 0 rfl (x:=(a==13)) rfl ⟨by rw [h];rfl,rfl⟩))) ?_;rintro _ w' ⟨rfl,rfl⟩;have e0:(one1 a n).breaks=if (a==10||a==13)=true then 1 else 0:=by
   show (if a=10\/a=13 then 1 else 0)=_
   simp
  refine Ac (λh=>S3.stC 0 rfl (by show 2<5;decide) λw4 S4 u4=>?_) (λh=>?_)
  ·have:smT (one1 a n)=((1:Int),(n:Int),(1:Int),(a==10),(a==13),()):=by
    unfold smT;rw [e0,aF h];rfl
   rw [this];exact S4
  ·have:smT (one1 a n)=((1:Int),(n:Int),(0:Int),(a==10),(a==13),()):=by
    unfold smT
    have h':(a==10||a==13)=false:=h
    rw [e0,h'];rfl
   rw [this];exact S3
 {intro _ w5 S5;exact S5.lds 0 (smT (one1 a n)) rfl (S5.Ad 1 rfl rfl rfl rfl λw6 S6 u6=>S6.lds 1 (smT (one1 a n)) rfl (hK w6 S6.upd))}
def I9 (e:Enc) (s:Sl) (tag:Int) (l:Bs):Pc:=⟨s,tag,msr (ats e l)⟩
theorem Qo {e:Enc}{s:Sl}{l:Bs}{tag:Int}(hB:By w s l) (hl:l.length<2^59){K:Cells.T Aj->Wp}(hK:∀w',Ext w w'->K (pcT (I9 e s tag l)) w') :
  Aa Tryz.prog 55 #[.int .i64 e.num,s.v,.int .i64 tag] (.one (.agg Aj)) K w:=by
 refine A55 ?_;unfold F55;have hlen:=hB.len;let z1:Nat×Obj:=(0,.cells #[(.slice none 0 0),(.int .i64 (0:Int)),(.int .i64 (0:Int)),(.int .i64 (0:Int)),(.int .i64 (0:Int)),(.bool false),(.bool false)] 111 (0,0));refine (St.start w).Af λb1 w1 S1 e1=>S1.Af λb2 w2 S2 e2=>S2.Ad 0 rfl rfl rfl rfl λw3 S3 u3=>?_;refine Ae (λ_ w'=>St (λ_=>False) w w' [(b2,.cells (Cells.vals Aj (pcT (I9 e s tag l))).toArray 111 (0,0)),(b1,z1.2)]) ?_ ?_
 ·refine Ba (λx w'=>∃j,x=((szs ((ats e l).take j):Int),())/\St (λ_=>False) w w' [(b2,.cells (Cells.vals Aj (pcT ⟨s,tag,msr ((ats e l).take j)⟩)).toArray 111 (0,0)),(b1,z1.2)]) (λx _=>((l.length:Int)-x.1).toNat) ⟨0,rfl,S3⟩ ?_;rintro _ w5 ⟨j,rfl,S5⟩;have okj:=Ou ((Gp e l).take j);have byj:=Kt ((Gp e l).take j);refine Ac (λh=>?_) (λh=>?_)
  ·simp only [iI] at h;obtain ⟨a,n,ha,hn,ht,hs,h1,hle⟩:=Yb (e:=e) (l:=l) (j:=j) (by omega);refine Vj (hB.ext S5.upd) (by omega) λw6 e6=>?_;rw [hn];have S6:=S5.ext e6;refine S6.drew λw7 S7 e7 _=>?_;have h7:∀{W:World} {t:Nat},St (λ_=>False) w W [(b2,.cells (Cells.vals Aj (pcT ⟨s,tag,msr ((ats e l).take j)⟩)).toArray 111 (0,0)),(b1,z1.2)]->∀i v,(Cells.vals c109 (smT (msr ((ats e l).take j))))[i]?=some v->((Cells.vals Aj (pcT ⟨s,tag,msr ((ats e l).take j)⟩)).toArray)[2+i]?=some v:=by
    intro W t _ i v hv
    match i,hv with
    |0,hv=>exact hv
    |1,hv=>exact hv
    |2,hv=>exact hv
    |3,hv=>exact hv
    |4,hv=>exact hv
    |i+5,hv=>cases hv
   refine Qh (S7.at_ 0 rfl) (x:=smT (msr ((ats e l).take j))) (h7 (t:=0) S7) (Ad8 λw8 e8=>?_);have S8:=S7.ext e8;refine Bg ?_ (Y9 okj (Xc a h1) (by rw [byj];show szs ((ats e l).take j)+n<2^60;omega) λw9 e9=>?_);{exact Gj _ 0 λi v hv=>cell_of (S8.at_ 0 rfl) (by rw [dU];exact h7 (t:=0) S8 i v hv)};have S9:=S8.ext e9;rw [←Bg8 ((Gp e l).take j) h1,←ht];refine S9.Dd1 0 rfl rfl rfl (by show 2+5<=7;decide) λw10 S10=>?_;have ew:W64 ((szs ((ats e l).take j):Int)+(n:Int))=((szs ((ats e l).take (j+1)):Nat):Int):=by
    rw [wrap64 (by omega) (by omega)];omega
   refine ⟨⟨j+1,by dsimp only;rw [ew],S10⟩,?_⟩;dsimp only;rw [ew];omega
  {simp only [iH] at h;rw [U3 (e:=e) (l:=l) (j:=j) (by omega)] at S5;exact S5}
 {intro _ w5 S5;exact S5.lds 0 (pcT (I9 e s tag l)) rfl (S5.Ad 1 rfl rfl rfl rfl λw6 S6 u6=>S6.lds 1 (pcT (I9 e s tag l)) rfl (hK w6 S6.upd))}
end
section
variable {w w':World}{S:Nat->Prop}
def top (s:Sl):Nat:=match s.a with|some p=>p.off+s.len|none=>0
theorem Zr {s:Sl}{l h m:Int}{k:Nat}(hk:(Sl.cut s.a l h m 1).blk k):s.blk k:=by
 obtain ⟨p,hp,rfl⟩:=hk;have hp:(if m.toNat=l.toNat then s.a else s.a.map (·.add (scaled l.toNat 1)))=some p:=hp;split at hp;{exact ⟨p,hp,rfl⟩}
 ·cases ha:s.a with
  |none=>rw [ha] at hp;cases hp
  |some q=>rw [ha] at hp;cases hp;exact ⟨q,ha,by unfold Addr.add;split<;>rfl⟩
theorem By.at0 {s:Sl}{l:Bs}(h:By w s l){p:Addr}(hp:s.a=some p):p.spot=none:=by rcases h.at_ with ⟨hn,_⟩|⟨b,off,c,fr,ha,_⟩;{rw [hn] at hp;cases hp};{rw [ha] at hp;cases hp;rfl}
theorem Bb9 {s:Sl}{b:Bs}(hB:By w s b){l h m:Int}(h0:0<=l) (h1:l<=h) (h2:h<=s.len):top (Sl.cut s.a l h m 1)<=top s:=by
 unfold top;show (match (if m.toNat=l.toNat then s.a else s.a.map (·.add (scaled l.toNat 1))) with|some p=>p.off+(h.toNat-l.toNat)|none=>0)<=_;cases ha:s.a with
 |none=>split<;>simp_all
 |some q=>have hs:=hB.at0 ha;split;{rename_i p hp;split at hp;{cases hp;show q.off+(h.toNat-l.toNat)<=q.off+s.len;omega};{simp only [bI,dN] at hp;subst hp;obtain ⟨qb,qo,qs⟩:=q;simp only at hs;subst hs;rw [Ei,addr_add];show qo+l.toNat*1+(h.toNat-l.toNat)<=qo+s.len;omega}};{exact iW _}
theorem By.cut {s:Sl}{b:Bs}(hB:By w s b){l h m:Int}(h0:0<=l) (h1:l<=h) (h2:h<=s.len) (h3:h<=m) (h4:m<=s.cap):By w (Sl.cut s.a l h m 1) ((b.drop l.toNat).take (h.toNat-l.toNat)):=by have:=Ay5 (K:=λs' w'=>By w s' ((b.drop l.toNat).take (h.toNat-l.toNat))) hB h0 h1 h2 h3 h4 λs' h _ _=>h;obtain ⟨_,_,h⟩:=this;exact h
def cutAt (e:Enc) (b:Bs) (n:Nat):Nat:=szs ((ats e b).take n)
theorem Yt (e:Enc) (b:Bs) (n:Nat):cutAt e b n<=b.length:=Aa6 n
def Uu (e:Enc) (x:Pc) (b:Bs) (n:Nat):Pc:=I9 e (Sl.cut x.bytes.a 0 (cutAt e b n:Int) (cutAt e b n:Int) 1) x.tag (b.take (cutAt e b n))
def Es (t:Int) (n:Nat):Int:=if 0<=t then t+n else t
def Ri (e:Enc) (x:Pc) (b:Bs) (n:Nat):Pc:=I9 e (Sl.cut x.bytes.a (cutAt e b n:Int) (x.bytes.len:Int) (x.bytes.cap:Int) 1) (Es x.tag (cutAt e b n)) (b.drop (cutAt e b n))
theorem Fj {e:Enc}{x:Pc}{b:Bs}{n:Nat}(hB:By w x.bytes b) (hl:b.length<2^59) (ht:-1<=x.tag/\x.tag<2^59) (hn:n<2^62){K:Cells.T Aj×Cells.T Aj×Unit->Wp}
  (hK:∀w',Ext w w'->K (pcT (Uu e x b n),pcT (Ri e x b n),()) w') :
  Aa Tryz.prog 69 #[pcV x,.int .i64 e.num,.int .i64 (n:Int)] (.tup [(.agg Aj),(.agg Aj)]) K w:=by
 refine A69 (a0:=pcT x) ?_;unfold F69;have hlen:=hB.len;have hcap:=hB.le;let z:Obj:=.cells #[(.slice none 0 0),(.int .i64 (0:Int)),(.int .i64 (0:Int)),(.int .i64 (0:Int)),(.int .i64 (0:Int)),(.bool false),(.bool false)] 111 (0,0);let q:Obj:=.cells (Cells.vals Aj (pcT x)).toArray 111 (0,0);refine (St.start w).Af λb1 w1 S1 e1=>S1.Af λb2 w2 S2 e2=>S2.Af λb3 w3 S3 e3=>?_;have hcl:=Yt e b n;refine Ae (λs w'=>s=((cutAt e b n:Int),())/\St (λ_=>False) w w' [(b3,z),(b2,z),(b1,q)]) ?_ ?_
 ·refine Ba (λs w'=>∃j,j<=n/\s=(((n-j:Nat):Int),(szs ((ats e b).take j):Int),())/\St (λ_=>False) w w' [(b3,z),(b2,z),(b1,q)]) (λs _=>s.1.toNat) ⟨0,iW _,rfl,S3⟩ ?_;rintro _ w5 ⟨j,hj,rfl,S5⟩;refine Ae (λs w'=>s=(decide (j<n)&&decide (szs ((ats e b).take j)<b.length),())/\w5=w') ?_ ?_;{refine Ac (λh=>S5.ld 2 rfl (x:=x.bytes) rfl ⟨Az ?_,rfl⟩) (λh=>⟨Az ?_,rfl⟩);{simp only [iI,kG,aV] at h ⊢;omega};{simp only [iH,kG,aV,iI] at h ⊢;constructor;{intro h;cases h};{intro h;omega}}};rintro _ w6 ⟨rfl,rfl⟩;refine Ac (λh=>?_) (λh=>?_)
  ·simp only [aV,iI] at h;obtain ⟨a,m,ha,hm,htk,hs,h1,hle⟩:=Yb (e:=e) (l:=b) (j:=j) h.2;refine S5.ld 2 rfl (x:=x.bytes) rfl (Vj (hB.ext S5.upd) h.2 λw7 e7=>?_);rw [hm];have ew:W64 ((szs ((ats e b).take j):Int)+(m:Int))=((szs ((ats e b).take (j+1)):Nat):Int):=by
    rw [wrap64 (by omega) (by omega)];omega
   have ew2:W64 (((n-j:Nat):Int)-1)=((n-(j+1):Nat):Int):=by
    rw [wrap64 (by omega) (by omega)];omega
   refine ⟨⟨j+1,by omega,by dsimp only;rw [ew,ew2],S5.ext e7⟩,?_⟩;dsimp only;rw [ew2];omega
  ·refine ⟨?_,S5⟩;have:szs ((ats e b).take j)=cutAt e b n:=by
    unfold cutAt
    by_cases hjn:j<n
    ·have hnl:¬szs ((ats e b).take j)<b.length:=λhc=>by simp [hjn,hc] at h
     have h1:=U3 hnl
     have h2:(ats e b).take n=ats e b:=by
      refine jE ?_
      have:(ats e b).length<=j:=by
       have:=fC List.length h1
       rw [gI] at this;omega
      omega
     rw [h1,h2]
    ·have:j=n:=by omega
     rw [this]
   rw [this]
 ·rintro _ w5 ⟨rfl,S5⟩;refine S5.ld 2 rfl (x:=x.tag) rfl ?_;refine Ae (λs w'=>s=(Es x.tag (cutAt e b n),())/\w5=w') ?_ ?_;{unfold Es;refine Ac (λh=>⟨?_,rfl⟩) (λh=>⟨?_,rfl⟩);{simp only [iI,jT] at h;rw [aF h,wrap64 (by omega) (by omega)]};{simp only [iH,jT] at h;rw [aJ h]}};rintro _ w6 ⟨rfl,rfl⟩;refine S5.drew λw7 S7 e7 _=>S7.ld 2 rfl (x:=x.bytes) rfl ?_;have hB7:By w7 x.bytes b:=hB.ext S7.upd;have c1:=hB7.cut (l:=0) (h:=(cutAt e b n:Int)) (m:=(cutAt e b n:Int)) (by omega) (by omega) (by omega) (by omega) (by omega);have c2:=hB7.cut (l:=(cutAt e b n:Int)) (h:=(x.bytes.len:Int)) (m:=(x.bytes.cap:Int)) (by omega) (by omega) (by omega) (by omega) (by omega);have d1:(b.drop (0:Int).toNat).take ((cutAt e b n:Int).toNat-(0:Int).toNat)=b.take (cutAt e b n):=(by simp);have d2:(b.drop (cutAt e b n:Int).toNat).take ((x.bytes.len:Int).toNat-(cutAt e b n:Int).toNat)=b.drop (cutAt e b n):=by
   rw [dF,dF]
   exact jE (by rw [gJ];omega)
  rw [d1] at c1;rw [d2] at c2;refine Dc (by omega) (S7.ld 2 rfl (x:=x.tag) rfl (S7.ld 2 rfl (x:=x.bytes) rfl (Dc (by omega) ?_)));refine Qo c1 (by rw [gI];omega) λw8 e8=>?_;have S8:=S7.ext e8;refine S8.keep 2 rfl (v:=.slice x.bytes.a x.bytes.len x.bytes.cap) rfl ?_;refine Qo (c2.ext e8) (by rw [gJ];omega) λw9 e9=>?_;have S9:=S8.ext e9;exact S9.Ad 1 rfl rfl rfl rfl λw10 S10 u10=>S10.Ad 0 rfl rfl rfl rfl λw11 S11 u11=>S11.lds 1 (pcT (Uu e x b n)) rfl (S11.lds 0 (pcT (Ri e x b n)) rfl (hK w11 S11.upd))
end
section
variable {w w':World}{S:Nat->Prop}
abbrev Parts:=List (Int×Bs)
def aOf (e:Enc) (M:Parts):As:=M.flatMap λx=>ats e x.2
theorem Ii (e:Enc) (x:Int×Bs) (M:Parts):aOf e (x::M)=ats e x.2++aOf e M:=rfl
theorem He (e:Enc) (M N:Parts):aOf e (M++N)=aOf e M++aOf e N:=by simp [aOf]
theorem Hu (e:Enc) (M:Parts):Lr (aOf e M):=λx hx=>by obtain ⟨y,_,hy⟩:=kU.1 hx;exact Gp e _ x hy
structure Ag4 (w:World) (e:Enc) (x:Pc) (y:Int×Bs):Prop where
 by_:By w x.bytes y.2
 sm:x.sm=msr (ats e y.2)
 tag:x.tag=y.1
 ne:y.2≠[]
 lo:-1<=y.1
 hi:y.1+y.2.length<=2^40
def Its (w:World) (e:Enc):List Pc->Parts->Prop
 |[],[]=>True
 |x::l,y::M=>Ag4 w e x y/\Its w e l M
 |_,_=>False
theorem Ag4.upd {e:Enc}{x:Pc}{y:Int×Bs}(h:Ag4 w e x y) (u:Upd S w w') (hS:∀k,x.bytes.blk k->¬S k):Ag4 w' e x y:=⟨h.by_.upd u hS,h.sm,h.tag,h.ne,h.lo,h.hi⟩
theorem Its.upd {e:Enc}:∀{l:List Pc}{M:Parts},Its w e l M->Upd S w w'->(∀x∈l,∀k,x.bytes.blk k->¬S k)->Its w' e l M
 |[],[],_,_,_=>trivial
 |x::l,y::M,h,u,hS=>⟨h.1.upd u (hS x aH),h.2.upd u λz hz=>hS z (aI _ hz)⟩
theorem Its.ext {e:Enc}{l:List Pc}{M:Parts}(h:Its w e l M) (x:Ext w w'):Its w' e l M:=h.upd x λ_ _ _ _=>id
theorem Its.len {e:Enc}:∀{l:List Pc}{M:Parts},Its w e l M->l.length=M.length
 |[],[],_=>rfl
 |x::l,y::M,h=>by simp [h.2.len]
theorem Its.app {e:Enc}:∀{l:List Pc}{M:Parts}{l':List Pc}{M':Parts},Its w e l M->Its w e l' M'->Its w e (l++l') (M++M')
 |[],[],_,_,_,h=>h
 |x::l,y::M,_,_,h,h'=>⟨h.1,h.2.app h'⟩
theorem Its.take {e:Enc}:∀{l:List Pc}{M:Parts}(n:Nat),Its w e l M->Its w e (l.take n) (M.take n)
 |[],[],n,_=>by simp [Its]
 |x::l,y::M,0,_=>trivial
 |x::l,y::M,n+1,h=>⟨h.1,h.2.take n⟩
theorem Its.drop {e:Enc}:∀{l:List Pc}{M:Parts}(n:Nat),Its w e l M->Its w e (l.drop n) (M.drop n)
 |[],[],n,_=>by simp [Its]
 |x::l,y::M,0,h=>h
 |x::l,y::M,n+1,h=>h.2.drop n
theorem Its.get {e:Enc}:∀{l:List Pc}{M:Parts}(n:Nat){x:Pc},Its w e l M->l[n]?=some x->∃y,M[n]?=some y/\Ag4 w e x y
 |x::l,y::M,0,z,h,hz=>⟨y,rfl,by cases hz;exact h.1⟩
 |x::l,y::M,n+1,z,h,hz=>h.2.get n (by simpa using hz)
theorem Its.ok {e:Enc}:∀{l:List Pc}{M:Parts},Its w e l M->Dp l
 |[],[],_=>λ_ h=>by cases h
 |x::l,y::M,h=>Dp.cons (by rw [h.1.sm];exact Ou (Gp e _)) h.2.ok
theorem Its.tot {e:Enc}:∀{l:List Pc}{M:Parts},Its w e l M->tot l=msr (aOf e M)
 |[],[],_=>rfl
 |x::l,y::M,h=>by
  show x.sm.add (Trx.tot l)=_
  rw [h.1.sm,h.2.tot,Ii,Rl (Gp e _) (Hu e M)]
theorem Its.fine {e:Enc}{l:List Pc}{M:Parts}(h:Its w e l M) (hs:szs (aOf e M)<2^59):Fine l:=by
 refine ⟨h.ok,?_,by rw [h.tot,Kt (Hu e M)];omega⟩;have key:∀(l:List Pc) (M:Parts),Its w e l M->l.length<=szs (aOf e M):=by
  intro l
  induction l with
  |nil=>intro M _;simp
  |cons x l ih =>
   intro M h;cases M with
   |nil=>exact h.elim
   |cons y M=>have h1:=ih M h.2;have h2:=Hz e y.2;have h3:=iO.2 h.1.ne;rw [Ii,Bq,dB];omega
 have:=key l M h;omega
structure Txt (w:World) (p:Nat) (e:Enc) (lim na:Nat) (O:Nat->Prop) (M:Parts):Prop where
 ex:∃(t:Tr) (a:Sl) (ab:Bs),w.heap[p]?=some (.cells #[.int .i64 e.num,.int .i64 (lim:Int),.pointer t.ptr,.slice a.a a.len a.cap] 106 (0,0))/\t.In w/\Its w e t.items M/\Ar w 0 a 5 1 (bv ab) /\
  (∀x∈t.items,∀k,x.bytes.blk k->a.blk k->top x.bytes<=top a)/\(∀x∈t.items,∀k,x.bytes.blk k->O k)/\(∀k,a.blk k->O k)/\a.len<=na
 lims:lim<=65536
 sz:szs (aOf e M)<=1048576
 op:O p
 own:∀k,O k->k<w.heap.size
variable {p:Nat}{e:Enc}{lim na:Nat}{O:Nat->Prop}{M:Parts}
theorem Txt.upd (h:Txt w p e lim na O M) (u:Upd S w w') (hS:∀k,O k->¬S k) (hN:Gs w S 162):Txt w' p e lim na O M:=by obtain ⟨t,a,ab,h1,h2,h3,h4,h5,h6,h7,h8⟩:=h.ex;exact ⟨⟨t,a,ab,u.get h1 (hS p h.op),h2.ty u hN,h3.upd u λx hx k hk=>hS k (h6 x hx k hk),h4.upd u λk _ hk=>hS k (h7 k hk),h5,h6,h7,h8⟩,h.lims,h.sz,h.op,λk hk=>fM (h.own k hk) u.size⟩
theorem Txt.ext (h:Txt w p e lim na O M) (x:Ext w w'):Txt w' p e lim na O M:=h.upd x (λ_ _=>id) λ_ hk=>hk.elim
theorem Wn:∀{l:As},Lr l->l.length<=szs l
 |[],_=>iW _
 |x::r,h=>by rw [Jl,dB];have:=Wn h.tail;have:=h x aH;omega
theorem Txt.few (h:Txt w p e lim na O M):(aOf e M).length<=1048576:=fK (Wn (Hu e M)) h.sz
theorem Txt.Cl2 (h:Txt w p e lim na O M):∃t:Tr,t.In w/\Its w e t.items M/\Fine t.items/\(∀{w'}{K:Addr->Cells.T Dz->Wp},Ext w w'->K (at0 p) (t.ptr,()) w'->nn (some (at0 p)) (λq=>lds Dz (q.add 2) (K q)) w')/\∀x∈t.items,∀k,x.bytes.blk k->O k:=by
 obtain ⟨t,a,ab,h1,h2,h3,_,_,h6,_⟩:=h.ex
 refine ⟨t,h2,h3,h3.fine (by have:=h.sz;have:=h.lims;omega),λ{w'} {K} x hK=>Am ?_,h6⟩
 rw [addr_add]
 refine Qh (x.ext_get h1) (x:=(t.ptr,())) (λi v hv=>?_) hK
 match i,hv with
 |0,hv=>exact hv
 |i+1,hv=>cases hv
theorem Txt.tree (h:Txt w p e lim na O M):∃t:Tr,t.In w/\Its w e t.items M/\Fine t.items/\∀{w'}{K:Addr->Cells.T Dz->Wp},Ext w w'->K (at0 p) (t.ptr,()) w'->nn (some (at0 p)) (λq=>lds Dz (q.add 2) (K q)) w':=by obtain ⟨t,h1,h2,h3,h4,_⟩:=h.Cl2;exact ⟨t,h1,h2,h3,h4⟩
theorem Txt.enc (h:Txt w p e lim na O M){K:Addr->Int->Wp}(hK:K (at0 p) e.num w):nn (some (at0 p)) (λq=>ld (.int .i64) q (K q)) w:=by obtain ⟨t,a,ab,h1,_⟩:=h.ex;exact Am (Ce h1 (x:=e.num) rfl hK)
theorem Iz (h:Txt w p e lim na O M){K:Int->Wp}(hK:∀w',Ext w w'->K (((aOf e M).length:Nat):Int) w') :
  Aa Tryz.prog 23 #[.pointer (some (at0 p))] rI K w:=by refine A23 ?_;unfold F23;obtain ⟨t,ht,hi,hf,rd⟩:=h.tree;refine rd (Ext.refl w) (Zc ht λw1 e1=>?_);have:=hK w1 e1;rw [←Ov (Hu e M),←hi.tot] at this;exact this
theorem Aj4 (h:Txt w p e lim na O M){K:Int->Wp}(hK:∀w',Ext w w'->K ((szs (aOf e M):Nat):Int) w') :
  Aa Tryz.prog 62 #[.pointer (some (at0 p))] rI K w:=by refine A62 ?_;unfold F62;obtain ⟨t,ht,hi,hf,rd⟩:=h.tree;refine rd (Ext.refl w) (Zc ht λw1 e1=>?_);have:=hK w1 e1;rw [←Kt (Hu e M),←hi.tot] at this;exact this
def Bl4 (e:Enc) (M:Parts) (at_ i n:Nat):Prop:=(at_=0/\i=0/\n=0)\/∃x,M[i]?=some x/\1<=n/\n<=(ats e x.2).length/\at_=(aOf e (M.take i)).length+n
theorem Bu5 (e:Enc):∀(M:Parts) (at_:Nat),1<=at_->at_<=(aOf e M).length->∃i n,i<M.length/\Bl4 e M at_ i n/\1<=n/\at_=(aOf e (M.take i)).length+n/\at_<=(aOf e (M.take (i+1))).length/\∀j,j<=i->(aOf e (M.take j)).length<at_
 |[],at_,h1,h2=>by simp [aOf] at h2;omega
 | x::M,at_,h1,h2=>by
  by_cases hle:at_<=(ats e x.2).length
  ·exact ⟨0,at_,by simp,.inr ⟨x,rfl,h1,hle,by simp [aOf]⟩,h1,by simp [aOf],by simpa [aOf] using hle,λj hj=>by
    have:j=0:=by omega
    subst this;simp [aOf];omega⟩
  ·rw [Ii,iE] at h2
   obtain ⟨i,n,hi,hs,hn,he,hle2,hlow⟩:=Bu5 e M (at_-(ats e x.2).length) (by omega) (by omega)
   refine ⟨i+1,n,by simpa using hi,?_,hn,?_,?_,?_⟩
   ·rcases hs with ⟨h,_⟩|⟨y,hy,g1,g2,g3⟩
    ·omega
    ·exact .inr ⟨y,by simpa using hy,g1,g2,by rw [iK,Ii,iE];omega⟩
   ·rw [iK,Ii,iE];omega
   ·rw [iK,Ii,iE];omega
   ·intro j hj
    cases j with
    |zero=>simp [aOf];omega
    |succ j=>rw [iK,Ii,iE];have:=hlow j (by omega);omega
theorem Wj {at_:Int}(h:Txt w p e lim na O M) (hle:at_<=((aOf e M).length:Int)){K:Int×Int×Unit->Wp}
  (hK:∀(i n:Nat) w',Bl4 e M at_.toNat i n->i<=M.length->Ext w w'->K ((i:Int),(n:Int),()) w'):Aa Tryz.prog 67 #[.pointer (some (at0 p)),.int .i64 at_] (.tup [(.one (.int .i64)),(.one (.int .i64))]) K w:=by
 refine A67 ?_;unfold F67;have few:=h.few;have lim:=h.lims;obtain ⟨t,ht,hi,hf,rd⟩:=h.tree;refine Ac (λh=>hK 0 0 w (.inl ⟨?_,rfl,rfl⟩) (iW _) (Ext.refl w)) (λh=>?_);{simp only [iI] at h;omega};simp only [iH] at h;obtain ⟨m,rfl⟩:∃m:Nat,at_=(m:Int):=⟨at_.toNat,by omega⟩;obtain ⟨i,n,hil,hs,hn,he,hle2,hlow⟩:=Bu5 e M m (by omega) (by omega);have hlen:=hi.len;have kk:∀j,keyOf 0 (tot (t.items.take j))=(aOf e (M.take j)).length:=λj=>by
  have:=(hi.take j).tot
  show (tot (t.items.take j)).atoms=_
  rw [this,Ov (Hu e _)]
 (have hfind:X3 0 m t.items=i+1:=Ao2 (by omega) (by rw [kk];exact hle2) λj hj=>by rw [kk];exact hlow j (by omega));refine rd (Ext.refl w) (Aw1 (k:=0) (n:=m) (by decide) (by omega) ht hf λw1 e1=>?_);have few2:=hf.few;(have ew:W64 (((i+1:Nat):Int)-1)=(i:Int):=by rw [wrap64 (by omega) (by omega)];omega);rw [hfind,ew];refine rd e1 (Z5 (ht.ext e1) hf (by omega) λw2 e2=>?_);(have ea:((smT (tot (t.items.take i))).1)=(((aOf e (M.take i)).length:Nat):Int):=by rw [←kk i];rfl);rw [ea];(have ew2:W64 ((m:Int)-(((aOf e (M.take i)).length:Nat):Int))=(n:Int):=by rw [wrap64 (by omega) (by omega)];omega);rw [ew2];exact hK i n w2 (by simpa using hs) (by omega) (e1.trans e2)
theorem As5 {e:Enc}{M:Parts}{at_ i n:Nat}(h:Bl4 e M at_ i n):(aOf e M).take at_=aOf e (M.take i)++(match M[i]? with|some x=>(ats e x.2).take n|none=>[]):=by
 rcases h with ⟨rfl,rfl,rfl⟩|⟨x,hx,h1,h2,rfl⟩;{cases M[0]?<;>simp [aOf]}
 ·rw [hx];have hil:=(fG.1 hx).1;have hd:M=M.take i++x::M.drop (i+1):=by
   have:=iZ hil
   have hx':M[i]=x:=by rw [jC hil] at hx;exact kS hx
   rw [hx'] at this
   rw [←this,jD]
  have:aOf e M=aOf e (M.take i)++(ats e x.2++aOf e (M.drop (i+1))):=by
   conv=>lhs;rw [hd]
   rw [He,Ii]
  rw [this,jX,jW h2]
end
section
variable {w w':World}{S:Nat->Prop}{p:Nat}{e:Enc}{lim na:Nat}{O:Nat->Prop}{M:Parts}
theorem Txt.Pq (h:Txt w p e lim na O M):w.cell? (at0 p)=some (.int .i64 e.num):=by obtain ⟨t,a,ab,h1,_⟩:=h.ex;exact cell_of h1 rfl
theorem Cb0 {l:As}(h:Lr l) (n:Nat):szs (l.take n)<=szs l:=by have:=Bq (l.take n) (l.drop n);rw [jD] at this;omega
theorem N7 {at_:Nat}(h:Txt w p e lim na O M) (hle:at_<=(aOf e M).length){K:Cells.T c109->Wp}(hK:∀w',Ext w w'->K (smT (msr ((aOf e M).take at_))) w') :
  Aa Tryz.prog 66 #[.pointer (some (at0 p)),.int .i64 (at_:Int)] (.one (.agg c109)) K w:=by
 refine A66 ?_;unfold F66;have few:=h.few;have lims:=h.lims;have hsz:=h.sz;obtain ⟨t,ht,hi,hf,rd⟩:=h.tree;let z1:Nat->Nat×Obj:=λb=>(b,.cells #[(.int .i64 (0:Int)),(.int .i64 (0:Int)),(.int .i64 (0:Int)),(.bool false),(.bool false)] 109 (0,0));refine (St.start w).Af λb1 w1 S1 e1=>Wj (h.ext e1) (by omega) λi n w2 hs hil e2=>?_;rw [dF] at hs;have S2:=S1.ext e2;have hn:n<2^30:=by
  rcases hs with ⟨_,_,hn⟩|⟨x,hx,h1,h2,h3⟩
  ·omega
  ·omega
 have il:=hi.len;have fl:=hf.few;refine rd S2.upd (Z5 (ht.ext S2.upd) hf (by omega) λw3 e3=>?_);have etk:tot (t.items.take i)=msr (aOf e (M.take i)):=(hi.take i).tot;rw [etk];refine (S2.ext e3).Af λb6 w4 S4 e4=>S4.Ad 0 rfl rfl rfl rfl λw5 S5 u5=>?_;refine Ae (λ_ w'=>St (λ_=>False) w w' [(b6,.cells (Cells.vals c109 (smT (msr ((aOf e M).take at_)))).toArray 109 (0,0)),z1 b1]) ?_ ?_
 ·refine rd S5.upd (Ai3 (ht.ext S5.upd) hf (by omega) λw6 e6=>?_);refine (S5.ext e6).Af λb12 w7 S7 e7=>S7.Ad 0 rfl rfl rfl rfl λw8 S8 u8=>?_;have tk:=As5 hs;cases hx:t.items[i]? with
  |none=>have hM:M[i]?=none:=kL (by have:=kV.1 hx;omega);(have e0:atI t.items i=(Pc.zero,false):=by unfold atI;rw [hx]);rw [e0] at S8 ⊢;rw [hM] at tk;refine Ac (λh=>by cases h) (λ_=>?_);rw [tk,kM];exact S8.tail
  | some x =>
   have e0:atI t.items i=(x,true):=by unfold atI;rw [hx]
   rw [e0] at S8 ⊢
   obtain ⟨y,hy,hp⟩:=hi.get i hx
   rw [hy] at tk
   have hyl:y.2.length<=1048576:=by
    have h1:y∈M:=eY hy
    have h2:szs (aOf e M)=szs (aOf e (M.take i))+(y.2.length+szs (aOf e (M.drop (i+1)))):=by
     have hil:=(fG.1 hy).1
     have hd:=iZ hil
     have hx':M[i]=y:=by rw [jC hil] at hy;exact kS hy
     rw [hx'] at hd
     conv=>lhs;rw [←jD i M,hd]
     rw [He,Ii,Bq,Bq,Hz]
    omega
   have hlo:=hp.lo;have hhi:=hp.hi
   refine Ac (λ_=>?_) (λh=>by cases h)
   have hT:=h
   have S:=S8
   refine Ae (λs W=>∃b,s.1=at0 b/\W.heap[b]?=some (.cells (Cells.vals Aj (pcT (Uu e x y.2 n))).toArray 111 (0,0))/\St (λ_=>False) w W [(b12,.cells (Cells.vals Aj (pcT x)).toArray 111 (0,0)),(b6,.cells (Cells.vals c109 (smT (msr (aOf e (M.take i))))).toArray 109 (0,0)),z1 b1]) ?_ ?_
   ·refine S.drew λw9 S e9 _=>S.lds 0 (pcT x) rfl ((hT.ext S.upd).enc ?_)
    exact ⟨S.Af λb18 wx S ex=>Bg (hT.ext S.upd).Pq (S.keeps 1 rfl (⟨S.Af λb19 wx S ex=>Bg (hT.ext S.upd).Pq (S.keeps 2 rfl (Fj (hp.by_.ext S.upd) (by omega) (by rw [hp.tag];omega) (by omega) λwx ex=>(λS=>S.Ad 1 rfl rfl rfl rfl λwx S ux=>S.Ad 0 rfl rfl rfl rfl λwx S ux=>⟨b18,rfl,S.at_ 1 rfl,S.tail.tail⟩) (S.ext ex))),Fj (hp.by_.ext S.upd) (by omega) (by rw [hp.tag];omega) (by omega) λwx ex=>(λS=>⟨S.Af λb22 wx S ex=>Bg (hT.ext S.upd).Pq (S.keeps 2 rfl (S.Ad 1 rfl rfl rfl rfl λwx S ux=>S.Ad 0 rfl rfl rfl rfl λwx S ux=>⟨b18,rfl,S.at_ 1 rfl,S.tail.tail⟩)),trivial⟩) (S.ext ex)⟩)),⟨S.Af λb23 wx S ex=>Bg (hT.ext S.upd).Pq (S.keeps 1 rfl (⟨S.Af λb24 wx S ex=>Bg (hT.ext S.upd).Pq (S.keeps 2 rfl (Fj (hp.by_.ext S.upd) (by omega) (by rw [hp.tag];omega) (by omega) λwx ex=>(λS=>S.Ad 0 rfl rfl rfl rfl λwx S ux=>S.Ad 1 rfl rfl rfl rfl λwx S ux=>⟨b24,rfl,S.at_ 0 rfl,S.tail.tail⟩) (S.ext ex))),Fj (hp.by_.ext S.upd) (by omega) (by rw [hp.tag];omega) (by omega) λwx ex=>(λS=>⟨S.Af λb27 wx S ex=>Bg (hT.ext S.upd).Pq (S.keeps 2 rfl (S.Ad 0 rfl rfl rfl rfl λwx S ux=>S.Ad 1 rfl rfl rfl rfl λwx S ux=>⟨b27,rfl,S.at_ 0 rfl,S.tail.tail⟩)),trivial⟩) (S.ext ex)⟩)),Fj (hp.by_.ext S.upd) (by omega) (by rw [hp.tag];omega) (by omega) λwx ex=>(λS=>⟨S.Af λb29 wx S ex=>Bg (hT.ext S.upd).Pq (S.keeps 1 rfl (⟨S.Af λb30 wx S ex=>Bg (hT.ext S.upd).Pq (S.keeps 2 rfl (S.Ad 1 rfl rfl rfl rfl λwx S ux=>S.Ad 0 rfl rfl rfl rfl λwx S ux=>⟨b29,rfl,S.at_ 1 rfl,S.tail.tail⟩)),trivial⟩)),⟨S.Af λb31 wx S ex=>Bg (hT.ext S.upd).Pq (S.keeps 1 rfl (⟨S.Af λb32 wx S ex=>Bg (hT.ext S.upd).Pq (S.keeps 2 rfl (S.Ad 0 rfl rfl rfl rfl λwx S ux=>S.Ad 1 rfl rfl rfl rfl λwx S ux=>⟨b32,rfl,S.at_ 0 rfl,S.tail.tail⟩)),trivial⟩)),trivial⟩⟩) (S.ext ex)⟩⟩
   ·rintro ⟨_,_⟩ w9 ⟨b,rfl,hb,S9⟩
    refine S9.lds 1 (smT (msr (aOf e (M.take i)))) rfl ?_
    dsimp only
    rw [addr_add]
    refine Qh hb (x:=smT (Uu e x y.2 n).sm) (λj v hv=>?_) ?_
    ·match j,hv with
     |0,hv=>exact hv
     |1,hv=>exact hv
     |2,hv=>exact hv
     |3,hv=>exact hv
     |4,hv=>exact hv
     |j+5,hv=>cases hv
    have hsm:(Uu e x y.2 n).sm=msr ((ats e y.2).take n):=by
     show msr (ats e (y.2.take (cutAt e y.2 n)))=_
     unfold cutAt
     rw [(Xm e n y.2).1]
    rw [hsm]
    have p1:=Hu e (M.take i)
    have p2:=(Gp e y.2).take n
    refine Y9 (Ou p1) (Ou p2) ?_ λw10 e10=>?_
    ·have h3:=Cb0 (Hu e M) at_
     rw [tk,Bq] at h3
     rw [Kt p1,Kt p2]
     dsimp only at h3
     omega
    have S10:=S9.ext e10
    rw [←Rl p1 p2]
    dsimp only at tk
    rw [←tk]
    exact S10.Ad 1 rfl rfl rfl rfl λw11 S11 u11=>S11.tail
 {intro _ w6 S6;exact S6.lds 0 (smT _) rfl (S6.Ad 1 rfl rfl rfl rfl λw7 S7 u7=>S7.lds 1 (smT _) rfl (hK w7 S7.upd))}
end
section
variable {w w':World}{S:Nat->Prop}{p:Nat}{e:Enc}{lim na:Nat}{O:Nat->Prop}{M:Parts}
theorem Txt.stay (h:Txt w p e lim na O M) (u:Upd S w w') (hS:∀k,O k->¬S k) (s:Fh w w'):Txt w' p e lim na O M:=by obtain ⟨t,a,ab,h1,h2,h3,h4,h5,h6,h7,h8⟩:=h.ex;exact ⟨⟨t,a,ab,u.get h1 (hS p h.op),h2.stay s,h3.upd u λx hx k hk=>hS k (h6 x hx k hk),h4.upd u λk _ hk=>hS k (h7 k hk),h5,h6,h7,h8⟩,h.lims,h.sz,h.op,λk hk=>fM (h.own k hk) u.size⟩
def Aj0:Int->As->List Int
 |_,[]=>[]
 |t,x::r=>t::Aj0 (Es t x.2) r
def tOf (e:Enc) (M:Parts):List Int:=M.flatMap λx=>Aj0 x.1 (ats e x.2)
theorem Z7:∀(t:Int) (l:As),(Aj0 t l).length=l.length
 |_,[]=>rfl
 |t,x::r=>fC (·+1) (Z7 _ r)
theorem Bf4 (t:Int) (n m:Nat):Es (Es t n) m=Es t (n+m):=by unfold Es;by_cases h:0<=t;{simp only [aF h];rw [aF (by omega)];omega};{simp only [aJ h]}
theorem Az1 (t:Int):Es t 0=t:=by unfold Es;split<;>omega
theorem As7:∀(t:Int) (l:As) (q:Nat),q<l.length->(Aj0 t l)[q]?=some (Es t (szs (l.take q)))
 |_,[],q,h=>absurd h (by simp)
 |t,x::r,0,_=>by show some t=_;rw [iL,Ag8,Az1]
 |t,x::r,q+1,h=>by
  show (Aj0 (Es t x.2) r)[q]?=_
  rw [As7 _ r q (by simpa using h),iK,Jl,Bf4]
theorem O7 (e:Enc):∀M:Parts,(tOf e M).length=(aOf e M).length
 |[]=>rfl
 |x::M=>by
  show (Aj0 x.1 (ats e x.2)++tOf e M).length=(ats e x.2++aOf e M).length
  rw [iE,iE,Z7,O7 e M]
theorem Cw7 (e:Enc) (M N:Parts):tOf e (M++N)=tOf e M++tOf e N:=by simp [tOf]
theorem Dh5 {e:Enc}{M:Parts}{i q:Nat}{y:Int×Bs}(hy:M[i]?=some y) (hq:q<(ats e y.2).length):(aOf e M)[(aOf e (M.take i)).length+q]?=(ats e y.2)[q]?/\(tOf e M)[(aOf e (M.take i)).length+q]?=some (Es y.1 (szs ((ats e y.2).take q))):=by
 have hil:=(fG.1 hy).1;(have hx':M[i]=y:=by rw [jC hil] at hy;exact kS hy);have hd:M=M.take i++y::M.drop (i+1):=by
  have:=iZ hil
  rw [hx'] at this
  rw [←this,jD]
 have e1:aOf e M=aOf e (M.take i)++(ats e y.2++aOf e (M.drop (i+1))):=by
  conv=>lhs;rw [hd]
  rw [He,Ii]
 have e2:tOf e M=tOf e (M.take i)++(Aj0 y.1 (ats e y.2)++tOf e (M.drop (i+1))):=by
  conv=>lhs;rw [hd]
  rw [Cw7];rfl
 constructor;{rw [e1,gB (by omega),kJ,fZ hq]};{rw [e2,←O7,gB (by omega),kJ,fZ (by rw [Z7];exact hq),As7 _ _ _ hq]}
theorem _root_.Go.Vx.Upd.Pg {b k:Nat}{o:Obj}(u:Upd (λk=>k=b) w w') (h:w.heap[k]?=some o) (hn:k≠b):w'.heap[k]?=some o:=u.get h hn
theorem Zp {W:World}{b:Nat}{c:Array Value}{t:TypeId}(h:W.heap[b]?=some (.cells c t (0,0))) (hp:De9 (.cells c t (0,0))=false){W':World}(u:Upd (λk=>k=b) W W'):Fh W W' :=
 Fh.upd u λk hk o ho=>by subst hk;rw [h] at ho;cases ho;exact hp
abbrev Ea7 (w:World) (e:Enc) (M:Parts) (O U:Nat->Prop) (from_ cnt:Nat) (f:Value) (Inv:Nat->Nat->Wp):Prop :=
 ∀(N j:Nat) (a:Int) (tag:Int) (W:World) (K:Unit->Wp),w.heap.size<=N->N<=W.heap.size->j<cnt->(atoms (aOf e M))[from_+j]?=some a->(tOf e M)[from_+j]?=some tag->Inv N j W ->
  (∀W',Fh W W'->Upd (λk=>U k\/N<=k) W W'->Inv N (j+1) W'->K () W') ->
  Cj Tryz.prog (do let d ←Deferred.ofValue f #[.int .i64 a,.int .i64 tag];invoke d.target d.args:Sem Next) (.tup []) K W
structure WAt (w:World) (p:Nat) (e:Enc) (lim na:Nat) (O:Nat->Prop) (M:Parts) (its:List Pc) (b1 b2 b7 b8 N n cnt:Nat) (f:Value) (Inv:Nat->Nat->Wp) (c:Nat) (W:World):Prop where
 inv:Inv N (c-n) W
 lt:c-n<cnt
 txt:Txt W p e lim na O M
 its:Its W e its M
 size:N<=W.heap.size
 h1:W.heap[b1]?=some (.cells #[.pointer (some (at0 p))] 29 (0,0))
 h2:W.heap[b2]?=some (.cells #[f] 116 (0,0))
 h7:W.heap[b7]?=some (.cells #[.int .i64 ((n-c:Nat):Int)] 3 (0,0))
 h8:W.heap[b8]?=some (.cells #[.int .i64 ((cnt-(c-n):Nat):Int)] 3 (0,0))
set_option maxHeartbeats 1000000 in
theorem Ai7 {from_ to_:Int} {f:Value} (h:Txt w p e lim na O M) (hf1:Gn f=true) (U:Nat->Prop) (hU:∀k,U k->k<w.heap.size/\¬O k) (Inv:Nat->Nat->Wp)
  (h0:∀N W,Ext w W->w.heap.size<=N->N<=W.heap.size->Inv N 0 W)
  (hs:∀(N j:Nat) (W W':World) (S:Nat->Prop),w.heap.size<=N->N<=W.heap.size->Inv N j W->Upd S W W'->(∀k,S k->w.heap.size<=k/\k<N)->Inv N j W')
  (hsee:Ea7 w e M O U from_.toNat (min to_.toNat (aOf e M).length-from_.toNat) f Inv) {K:Unit->Wp}
  (hK:∀N W',w.heap.size<=N->N<=W'.heap.size->Inv N (min to_.toNat (aOf e M).length-from_.toNat) W'->K () W') :
  Aa Tryz.prog 59 #[.pointer (some (at0 p)),.int .i64 from_,.int .i64 to_,f] (.tup []) K w:=by
 refine A59 ?_;unfold F59;have few:=h.few;have lims:=h.lims;have hsz:=h.sz;obtain ⟨t,ht,hi,hf,rd,hOt⟩:=h.Cl2;have il:=hi.len;have fl:=hf.few;refine (St.start w).Af λb1 w1 S1 e1=>Dc (by show (Gn f&&true)=true;rw [hf1];rfl) (S1.Af λb2 w2 S2 e2=>S2.ld 1 rfl (x:=some (at0 p)) rfl (Iz (h.ext S2.upd) λw3 e3=>?_));have S3:=S2.ext e3;have ef:(if (0:Int)>from_ then 0 else from_)=((from_.toNat:Nat):Int):=(by split<;>omega);rw [ef];generalize hcnt:min to_.toNat (aOf e M).length-from_.toNat=cnt at *;generalize hfr:from_.toNat=fr at *;refine Ac (λhc=>?_) (λhc=>?_)
 ·have:cnt=0:=by
   simp only [iI,jT] at hc
   split at hc<;>omega
  subst this;exact hK _ w3 (fJ _) S3.upd.size (h0 _ w3 S3.upd (fJ _) S3.upd.size)
 have hto:(if ((aOf e M).length:Int)<to_ then ((aOf e M).length:Int) else to_)=((fr+cnt:Nat):Int):=by
  simp only [iH,jT] at hc
  split at hc
  ·rename_i hh;rw [aF hh];omega
  ·rename_i hh;rw [aJ hh];omega
 rw [hto] at hc ⊢;simp only [iH,jT] at hc;have hcl:fr+cnt<=(aOf e M).length:=(by omega);refine S3.ld 1 rfl (x:=some (at0 p)) rfl (Wj (h.ext S3.upd) (by omega) λi n w4 hsp hil e4=>?_);rw [dF] at hsp;have S4:=S3.ext e4;refine S4.Af λb7 w5 S5 e5=>S5.stC 0 rfl (by decide) λw6 S6 u6=>S6.Af λb8 w7 S7 e7=>?_;(have ew:W64 (((fr+cnt:Nat):Int)-((fr:Nat):Int))=(cnt:Int):=by rw [wrap64 (by omega) (by omega)];omega);rw [ew];refine S7.stC 0 rfl (by decide) λw8 S8 u8=>S8.ld 3 rfl (x:=some (at0 p)) rfl (rd S8.upd ?_);refine A63 (a0:=(t.ptr,())) ?_;unfold F63;refine S8.Af λc1 w9 S9 e9=>S9.Af λc2 w10 S10 e10=>?_;have hx10:=S10.upd;have hsz10:=hx10.size;have o7:=S10.ge 3 rfl;have o8:=S10.ge 2 rfl;have o7l:=lt_of_heap (S10.at_ 3 rfl);have o8l:=lt_of_heap (S10.at_ 2 rfl);have o1l:=lt_of_heap (S10.at_ 5 rfl);have o2l:=lt_of_heap (S10.at_ 4 rfl);have o1:=S10.ge 5 rfl;have o2:=S10.ge 4 rfl;have nd:[c2,c1,b8,b7,b2,b1].Nodup:=S10.nd;simp only [bU,aG,kW,kX,not_or] at nd;let cj:Nat->Nat:=λj=>(aOf e ((M.drop i).take j)).length;have hbase:fr=(aOf e (M.take i)).length+n:=by
  rcases hsp with ⟨h1,h2,h3⟩|⟨x,hx,g1,g2,g3⟩
  ·subst h2;subst h3;simpa [aOf] using h1
  ·exact g3
 have hcj:∀j,(aOf e (M.take (i+j))).length=(aOf e (M.take i)).length+cj j:=λj=>by
  show _=_+(aOf e ((M.drop i).take j)).length
  rw [←iE,←He,←kY]
 have hn:n<2^30:=(by omega);have hcnt30:cnt<2^30:=(by omega);let N:=w10.heap.size+2;let At:=WAt w p e lim na O M t.items b1 b2 b7 b8 N n cnt f Inv;have hO:∀k,O k->k<w.heap.size:=h.own;have atE:∀{c W W'},At c W->Ext W W'->At c W':=λ{c W W'} a x=>⟨hs N _ W W' _ (by omega) a.size a.inv x (λ_ h=>h.elim),a.lt,a.txt.ext x,a.its.ext x,fK a.size x.size,x.ext_get a.h1,x.ext_get a.h2,x.ext_get a.h7,x.ext_get a.h8⟩;have atU:∀{c W W'} (k0:Nat),At c W->w.heap.size<=k0->k0<N->k0≠b1->k0≠b2->k0≠b7->k0≠b8->Upd (λk=>k=k0) W W'->Fh W W'->At c W':=by
  intro c W W' k0 a g1 g2 n1 n2 n7 n8 u s
  exact ⟨hs N _ W W' _ (by omega) a.size a.inv u (λk hk=>by subst hk;exact ⟨g1,g2⟩),a.lt,a.txt.stay u (λk hk e=>by subst e;have:=hO _ hk;omega) s,a.its.upd u (λx hx k hk e=>by subst e;have:=hO _ (hOt x hx _ hk);omega),
   fK a.size u.size,u.get a.h1 (λh=>n1 h.symm),u.get a.h2 (λh=>n2 h.symm),u.get a.h7 (λh=>n7 h.symm),u.get a.h8 (λh=>n8 h.symm)⟩
 refine Af2 (n:=i) (λ_=>rfl) (S10.at_ 1 rfl) (S10.at_ 0 rfl) (ht.ext hx10) hf (by omega) (λj W=>At (cj j) W) (λec W=>ec=.ret/\Inv N cnt W/\N<=W.heap.size) ?_ (λj W W'=>atE) ?_ ?_ ?_;{intro W x hW;have e0:cj 0=0:=rfl;refine ⟨?_,by rw [e0];omega,h.ext (hx10.trans x),hi.ext (hx10.trans x),hW,x.ext_get (S10.at_ 5 rfl),x.ext_get (S10.at_ 4 rfl),?_,?_⟩;{rw [e0,Nat.zero_sub];exact h0 N W (hx10.trans x) (by omega) hW};{rw [e0];exact x.ext_get (S10.at_ 3 rfl)};{rw [e0,Nat.zero_sub];exact x.ext_get (S10.at_ 2 rfl)}}
 ·intro rc j x R W hj ha hr hRt hRf;(have hxi:t.items[i+j]?=some x:=by rw [gU] at hj;exact hj);obtain ⟨y,hy,hp⟩:=hi.get (i+j) hxi;have hcn:cj (j+1)=cj j+(ats e y.2).length:=by
   have h1:=hcj (j+1)
   rw [show i+(j+1)=(i+j)+1 by omega] at h1
   have h2:M.take (i+j+1)=M.take (i+j)++[y]:=by rw [kT,hy];rfl
   rw [h2,He,iE,hcj j] at h1
   have h3:(aOf e [y]).length=(ats e y.2).length:=by simp [aOf]
   omega
  have hyb:(aOf e (M.take (i+j))).length=(aOf e (M.take i)).length+cj j:=hcj j;have hyl:(aOf e (M.take i)).length+cj j+(ats e y.2).length<=(aOf e M).length/\y.2.length<=1048576:=by
   have h1:=hcj (j+1)
   have h2:=fC List.length (He e (M.take (i+(j+1))) (M.drop (i+(j+1))))
   rw [jD,iE] at h2
   refine ⟨by omega,?_⟩
   have h3:y∈M:=eY hy
   have h4:∀(M:Parts),y∈M->y.2.length<=szs (aOf e M):=by
    intro M
    induction M with
    |nil=>intro h;cases h
    |cons z M ih =>
     intro h
     rw [Ii,Bq,Hz]
     rcases aG.1 h with rfl|h
     ·omega
     ·have:=ih h;omega
   have:=h4 M h3
   omega
  have hlo:=hp.lo;have hhi:=hp.hi;refine (St.start W).Fp rfl rfl rfl λb18 W1 T1 x1=>⟨x1.ext_get hr,?_⟩;have o18:=T1.ge 0 rfl;have a1:=atE ha x1;have r1:=x1.ext_get hr;have NW:N<=W.heap.size:=ha.size;(have lN:w10.heap.size+1<N:=by show _<w10.heap.size+2;omega);have NN:w.heap.size<=N:=(by omega);have b7N:b7<N:=(by omega);have b8N:b8<N:=(by omega);obtain ⟨u2,r2⟩:=Ji (o':=.loop (rc .busy none)) r1;(have s2:Fh W1 (W1.putObj (w10.heap.size+1) (.loop (rc .busy none))):=Fh.upd u2 λk hk o ho=>by subst hk;rw [r1] at ho;cases ho;rfl);have a2:=atU (w10.heap.size+1) a1 (by omega) lN (by omega) (by omega) (by omega) (by omega) u2 s2;have b2':=u2.Pg (T1.at_ 0 rfl) (by omega);have s02:=(Fh.ext x1).trans s2;generalize W1.putObj (w10.heap.size+1) (.loop (rc .busy none))=W2 at *;let Bd:Nat->World->Prop:=λq W'=>At (cj j+q) W'/\Fh W W'/\W'.heap[w10.heap.size+1]?=some (.loop (rc .busy none))/\W'.heap[b18]?=some (.cells (Cells.vals Aj (pcT x)).toArray 111 (0,0));have bdE:∀{q W' W''},Bd q W'->Ext W' W''->Bd q W'':=λ{q W' W''} b x=>⟨atE b.1 x,b.2.1.trans (Fh.ext x),x.ext_get b.2.2.1,x.ext_get b.2.2.2⟩;refine Ba (λs W'=>∃q,q<=(ats e y.2).length/\s=(((szs ((ats e y.2).take q):Nat):Int),())/\Bd q W') (λs _=>((y.2.length:Int)-s.1).toNat) ⟨0,iW _,rfl,a2,s02,r2,b2'⟩ ?_;rintro _ W3 ⟨q,hq,rfl,b3⟩;have hbl:=hp.by_.len;refine Ce b3.2.2.2 (x:=x.bytes) rfl (Ac (λhlt=>?_) (λhge=>?_))
  ·simp only [iI] at hlt;obtain ⟨a,m,hqa,hnx,htk,hss,hm1,hsl⟩:=Yb (e:=e) (l:=y.2) (j:=q) (by omega);have hql:q<(ats e y.2).length:=(fG.1 hqa).1;refine Ci λW4 x4 _=>?_;have b4:=bdE b3 x4;have hsy:szs ((ats e y.2).take q)<=y.2.length:=Aa6 q;have hB4:By W4 x.bytes y.2:=by
    obtain ⟨y',hy',hp'⟩:=b4.1.its.get (i+j) hxi
    rw [hy] at hy';cases hy'
    exact hp'.by_
   refine Ce b4.1.h1 (x:=some (at0 p)) rfl (b4.1.txt.enc (Ce b4.2.2.2 (x:=x.bytes) rfl (Vj hB4 (by omega) λW5 x5=>?_)));rw [hnx];have b5:=bdE b4 x5;have ewa:W64 (((szs ((ats e y.2).take q):Nat):Int)+(m:Int))=((szs ((ats e y.2).take (q+1)):Nat):Int):=by
    rw [wrap64 (by omega) (by omega)];omega
   refine Ae (λ_ W'=>Bd (q+1) W') ?_ ?_
   ·refine Ce b5.1.h7 (x:=((n-(cj j+q):Nat):Int)) rfl (Ac (λhg=>?_) (λhg=>?_));{simp only [iI,kG] at hg;refine Ce b5.1.h7 (x:=((n-(cj j+q):Nat):Int)) rfl (Jm b5.1.h7 Nat.one_pos λW6 u6 g6 _=>?_);have s6:Fh W5 W6:=Zp b5.1.h7 rfl u6;(have e6:W64 (((n-(cj j+q):Nat):Int)-1)=((n-(cj j+(q+1)):Nat):Int):=by rw [wrap64 (by omega) (by omega)];omega);rw [e6] at g6;have a5:=b5.1;have ec:cj j+q-n=cj j+(q+1)-n:=(by omega);refine ⟨⟨?_,by have:=a5.lt;omega,a5.txt.stay u6 (λk hk e=>by subst e;have:=hO _ hk;omega) s6,a5.its.upd u6 (λx hx k hk e=>by subst e;have:=hO _ (hOt x hx _ hk);omega),fK a5.size u6.size,u6.Pg a5.h1 (by omega),u6.Pg a5.h2 (by omega),g6,?_⟩,b5.2.1.trans s6,u6.Pg b5.2.2.1 (by omega),u6.Pg b5.2.2.2 (by omega)⟩;{rw [←ec];exact hs N _ W5 W6 _ NN a5.size a5.inv u6 (λk hk=>by subst hk;exact ⟨o7,b7N⟩)};{rw [←ec];exact u6.Pg a5.h8 (by omega)}}
    ·simp only [iH,kG] at hg;have hnc:n<=cj j+q:=(by omega);have hlt5:=b5.1.lt;obtain ⟨ga,gt⟩:=Dh5 (e:=e) hy hql;have eix:(aOf e (M.take (i+j))).length+q=fr+(cj j+q-n):=(by omega);rw [eix] at ga gt;have ga':(atoms (aOf e M))[fr+(cj j+q-n)]?=some a:=by
      show ((aOf e M).map (·.1))[_]?=_
      rw [gX,ga,hqa];rfl
     let Td:World->Prop:=λW'=>Inv N (cj j+q-n+1) W'/\Txt W' p e lim na O M/\Its W' e t.items M/\N<=W'.heap.size/\W'.heap[b1]?=some (.cells #[.pointer (some (at0 p))] 29 (0,0))/\W'.heap[b2]?=some (.cells #[f] 116 (0,0)) /\
      W'.heap[b7]?=some (.cells #[.int .i64 ((n-(cj j+q):Nat):Int)] 3 (0,0))/\W'.heap[b8]?=some (.cells #[.int .i64 ((cnt-(cj j+q-n):Nat):Int)] 3 (0,0)) /\
      Fh W W'/\W'.heap[w10.heap.size+1]?=some (.loop (rc .busy none))/\W'.heap[b18]?=some (.cells (Cells.vals Aj (pcT x)).toArray 111 (0,0))
     have told:∀W',Fh W5 W'->Upd (λk=>U k\/N<=k) W5 W'->Inv N (cj j+q-n+1) W'->Td W':=by
      intro W' s u iv
      have own:∀k,O k->¬(U k\/N<=k):=λk hk hh=>hh.elim (λhu=>(hU k hu).2 hk) (λhn=>by have:=hO k hk;omega)
      have mine:∀k,w.heap.size<=k->k<N->¬(U k\/N<=k):=λk g1 g2 hh=>hh.elim (λhu=>by have:=(hU k hu).1;omega) (λhn=>by omega)
      have a5:=b5.1
      exact ⟨iv,a5.txt.stay u own s,a5.its.upd u (λx hx k hk=>own k (hOt x hx k hk)),fK a5.size u.size,u.get a5.h1 (mine _ o1 (by omega)),u.get a5.h2 (mine _ o2 (by omega)),u.get a5.h7 (mine _ o7 b7N),u.get a5.h8 (mine _ o8 b8N),b5.2.1.trans s,u.get b5.2.2.1 (mine _ (by omega) lN),s.at_ _ _ b5.2.2.2 rfl⟩
     refine Ae (λ_ W'=>Td W') ?_ ?_
     ·refine Ce b5.2.2.2 (x:=x.tag) rfl (Ac (λhneg=>?_) (λhneg=>?_))
      ·simp only [iI] at hneg;have htag:Es y.1 (szs ((ats e y.2).take q))=-1:=by
        have:=hp.tag
        unfold Es;rw [aJ (by omega)];omega
       rw [htag] at gt;exact Ce b5.1.h2 (x:=f) rfl (hsee N (cj j+q-n) a (-1) W5 _ NN b5.1.size hlt5 ga' gt b5.1.inv told)
      ·simp only [iH] at hneg;have htag:Es y.1 (szs ((ats e y.2).take q))=x.tag+((szs ((ats e y.2).take q):Nat):Int):=by
        have:=hp.tag
        unfold Es;rw [aF (by omega)];omega
       rw [htag] at gt;refine Ce b5.1.h2 (x:=f) rfl (Ce b5.2.2.2 (x:=x.tag) rfl ?_);rw [wrap64 (by omega) (by have:=hp.tag;omega)];exact hsee N (cj j+q-n) a _ W5 _ NN b5.1.size hlt5 ga' gt b5.1.inv told
     ·rintro _ W6 ⟨iv,tx,is,sz,g1,g2,g7,g8,st,gl,g18⟩;refine Ce g8 (x:=((cnt-(cj j+q-n):Nat):Int)) rfl (Jm g8 Nat.one_pos λW7 u7 k7 z7=>?_);have s7:Fh W6 W7:=Zp g8 rfl u7;(have e7:W64 (((cnt-(cj j+q-n):Nat):Int)-1)=((cnt-(cj j+(q+1)-n):Nat):Int):=by rw [wrap64 (by omega) (by omega)];omega);rw [e7] at k7;have ec:cj j+q-n+1=cj j+(q+1)-n:=(by omega);have iv7:Inv N (cj j+(q+1)-n) W7:=by
       rw [←ec];exact hs N _ W6 W7 _ NN sz iv u7 (λk hk=>by subst hk;exact ⟨o8,b8N⟩)
      have en7:n-(cj j+q)=n-(cj j+(q+1)):=(by omega);rw [en7] at g7;have st7:=st.trans s7;have gl7:=u7.Pg gl (by omega);refine Ce k7 (x:=((cnt-(cj j+(q+1)-n):Nat):Int)) rfl (Ac (λhz=>?_) (λhz=>?_));{simp only [jM] at hz;obtain ⟨u8,r8⟩:=Ji (o':=.loop (rc .done (some .ret))) gl7;refine ⟨⟨_,_,gl7⟩,hRf .ret _ (st7.trans (Fh.upd u8 λk hk o ho=>by subst hk;rw [gl7] at ho;cases ho;rfl)) r8 ⟨rfl,?_,?_⟩⟩;{have:cnt=cj j+(q+1)-n:=(by omega);(conv=>lhs;rw [this]);exact hs N _ W7 _ _ NN (fK sz u7.size) iv7 u8 (λk hk=>by subst hk;exact ⟨by omega,lN⟩)};{exact fK (fK sz u7.size) u8.size}};{simp only [jO] at hz;exact ⟨⟨iv7,by omega,tx.stay u7 (λk hk e=>by subst e;have:=hO _ hk;omega) s7,is.upd u7 (λx hx k hk e=>by subst e;have:=hO _ (hOt x hx _ hk);omega),fK sz u7.size,u7.Pg g1 (by omega),u7.Pg g2 (by omega),u7.Pg g7 (by omega),k7⟩,st7,gl7,u7.Pg g18 (by omega)⟩}
   {intro _ W6 b6;refine ⟨⟨q+1,by omega,by dsimp only;rw [ewa],b6⟩,?_⟩;dsimp only;rw [ewa];omega}
  ·simp only [iH] at hge;have hqe:=U3 (e:=e) (l:=y.2) (j:=q) (by omega);have hql:q=(ats e y.2).length:=by
    have:=fC List.length hqe
    rw [gI] at this;omega
   obtain ⟨u8,r8⟩:=Ji (o':=.loop (rc .ready none)) b3.2.2.1;(have s8:Fh W3 (W3.putObj (w10.heap.size+1) (.loop (rc .ready none))):=Fh.upd u8 λk hk o ho=>by subst hk;rw [b3.2.2.1] at ho;cases ho;rfl);refine ⟨⟨_,_,b3.2.2.1⟩,hRt _ (b3.2.1.trans s8) ?_ r8⟩;rw [hcn,←hql];exact atU (w10.heap.size+1) b3.1 (by omega) lN (by omega) (by omega) (by omega) (by omega) u8 s8
 {intro W W' ha _ _;exfalso;have h1:=hcj (t.items.length-i);have h2:M.take (i+(t.items.length-i))=M:=jE (by omega);rw [h2] at h1;have:=ha.lt;omega};{rintro ec W W' ⟨rfl,iv,sz⟩ hD u;obtain ⟨u2,_⟩:=Ji (o':=.deferred none) hD;refine ⟨hD,hK N _ (by omega) (fK (fK sz u.size) u2.size) ?_⟩;have i1:=hs N _ W W' _ (by omega) sz iv u (λk hk=>by subst hk;exact ⟨by omega,by show _<w10.heap.size+2;omega⟩);exact hs N _ W' _ _ (by omega) (fK sz u.size) i1 u2 (λk hk=>by subst hk;exact ⟨by omega,by show _<w10.heap.size+2;omega⟩)}
end
section
variable {w w':World}{S:Nat->Prop}{p:Nat}{e:Enc}{lim na:Nat}{O:Nat->Prop}{M:Parts}
abbrev iv (l:List Int):List Value:=l.map (Value.int .i64)
def sub (A:List Int) (from_ to_:Int):List Int:=(A.drop from_.toNat).take (to_.toNat-from_.toNat)
theorem Be6 (A:List Int) (from_ to_:Int):sub A from_ to_=(A.drop from_.toNat).take (min to_.toNat A.length-from_.toNat):=by unfold sub;rw [kH,gJ];omega
theorem Qi:Je Tryz.prog 43 3 1 8:=Je.of (z:=.int .i64 0) C43 C3 rfl rfl rfl (by decide)
theorem Ab6 {b:Nat}{a:Int}(h:w.heap[b]?=some (.cells #[.int .i64 a] 3 (0,0))):SlX w ⟨some (at0 b),1,1⟩ 1 [.int .i64 a]:=(Bl.Jp h (n:=1) (sz:=1) rfl).x
theorem Ry {from_ to_:Int}(h:Txt w p e lim na O M){K:Sl->Wp}(hK:∀s w',Ar w' w.heap.size s 3 1 (iv (sub (atoms (aOf e M)) from_ to_))->Ext w w'->K s w') :
  Aa Tryz.prog 25 #[.pointer (some (at0 p)),.int .i64 from_,.int .i64 to_] rS K w:=by
 refine A25 ?_;unfold F25;have few:=h.few;have lims:=h.lims;have hal:(atoms (aOf e M)).length=(aOf e M).length:=gW _;rw [Be6,hal] at hK;generalize hcnt:min to_.toNat (aOf e M).length-from_.toNat=cnt at *;have hcl:cnt<=1048576:=(by omega);refine Cm λb1 w1 e1 n1 hb1 hz1=>?_;have h1:=h.ext e1;refine Ai7 h1 rfl (λk=>k=b1) (λk hk=>⟨by omega,λho=>by have:=h.own k ho;omega⟩)
  (λN j W=>∃s,W.heap[b1]?=some (.cells #[.slice s.a s.len s.cap] 43 (0,0))/\Ar W N s 3 1 (iv (((atoms (aOf e M)).drop from_.toNat).take j))/\Upd (λk=>k=b1) w1 W) ?_ ?_ ?_ ?_
 {intro N W x hN hW;exact ⟨⟨none,0,0⟩,x.ext_get n1,by rw [iL];exact Ar.nil W N _ _,x.mono λ_ _ h=>h.elim⟩};{rintro N j W W' S hN hW ⟨s,g1,g2,g3⟩ u hS;refine ⟨s,u.get g1 (λhb=>by have:=(hS _ hb).1;omega),g2.upd u (λk hk _ hs=>by have:=(hS _ hs).2;omega),g3.new u λk hk hs=>by have:=(hS _ hs).1;omega⟩}
 ·rintro N j a tag W K' hN hW hj ha _ ⟨s,g1,g2,g3⟩ hK';have g2l:=g2.len1;rw [gW,gI,gJ] at g2l;refine func_x (caps:=#[.pointer (some (at0 b1))]) (by kernel_rfl) ?_;refine A64 ?_;unfold F64;refine Ce g1 (x:=s) rfl (Cm λb2 w2 e2 n2 hb2 hz2=>?_);refine En Qi Qi.ts_ (x:=⟨some (at0 b2),1,1⟩) (g2.ext e2) (Ab6 n2) (λv hv=>by rw [iT.1 hv];rfl) (by
   show (s.len+1+(s.len+1)/4+512)*8<=2^48
   omega) (by omega) λs' w3 o3 l3 u3 b3=>?_
  have k3:∀k,s.blk k->N<=k:=λk hk=>g2.Fq hk;have g13:w3.heap[b1]?=some (.cells #[.slice s.a s.len s.cap] 43 (0,0)):=u3.get (e2.ext_get g1) (λhb=>by have:=k3 _ hb;omega);refine Jm g13 Nat.one_pos λw4 u4 n4 _=>?_;have o4:Ar w4 N s' 3 1 _:=o3.box g13 (by decide) u4;have e4:iv (((atoms (aOf e M)).drop from_.toNat).take j)++[.int .i64 a]=iv (((atoms (aOf e M)).drop from_.toNat).take (j+1)):=by
   rw [kT,gU,ha]
   simp
  rw [e4] at o4;have s3:Fh w2 w3:=Fh.upd u3 λk hk o ho=>by
   obtain ⟨c,fr,hc⟩:=(g2.ext e2).in.Fv hk
   rw [ho] at hc;cases hc;rfl
  refine hK' w4 (((Fh.ext e2).trans s3).trans (Zp g13 rfl u4)) ?_ ⟨s',n4,o4,?_⟩;{refine ((e2.mono λ_ _ h=>h.elim).trans (u3.mono λk _ hk=>.inr (k3 k hk))).trans (u4.mono λk _ hk=>.inl hk)};{exact (g3.new (e2.mono λ_ _ h=>h.elim) (S':=λ_=>False) (λ_ _ h=>h.elim)).new (u3.mono λk _ hk=>k3 k hk) (S':=λk=>N<=k) (λk hk hn=>by omega) |>.trans u4}
 {rintro N W hN hW ⟨s,g1,g2,g3⟩;rw [hcnt] at g2;refine Ce g1 (x:=s) rfl (hK s W (g2.mono (by omega)) ?_);exact e1.step g3 λk hk=>by omega}
end
section
variable {w w':World}{S:Nat->Prop}{p:Nat}{e:Enc}{lim na:Nat}{O:Nat->Prop}{M:Parts}
theorem sub_one (A:List Int) (n:Nat):sub A (n:Int) ((n:Int)+1)=(A.drop n).take 1:=by unfold sub;have:((n:Int)+1).toNat-(n:Int).toNat=1:=(by omega);rw [this,dF]
theorem take_one {A:List Int}{n:Nat}{a:Int}(h:A[n]?=some a):(A.drop n).take 1=[a]:=by rw [List.take_one,kZ,h];rfl
theorem Ca9 {A:List Int}{n:Nat}(h:A[n]?=none):(A.drop n).take 1=[]:=by rw [List.take_one,kZ,h];rfl
theorem Cf3 {A:List Int}{n:Nat}(h0:0<n) (h:n<=A.length):(A.take n).getLast?=A[n-1]?:=by rw [List.getLast?_eq_getElem?,gI,gQ];have:min n A.length=n:=(by omega);rw [this,aF (by omega)]
theorem Xn (l:As) (n:Nat):atoms (l.take n)=(atoms l).take n:=by simp [atoms]
theorem Bj4 {L:As}(h:Lr L){n:Nat}(h0:0<n) (hn:n<=L.length):Ep (atoms L) n=((msr (L.take n)).cr&&((atoms L)[n]?==some 10)):=by have hl:(atoms L).length=L.length:=gW _;rw [Cp1 (h.take n),Xn,Cf3 h0 (by omega)];unfold Ep;rw [jP h0];rfl
theorem Uj {at_:Int}(h:Txt w p e lim na O M){K:Int->Wp}(hK:∀w',Ext w w'->K ((nb (atoms (aOf e M)) at_.toNat:Nat):Int) w') :
  Aa Tryz.prog 132 #[.pointer (some (at0 p)),.int .i64 at_] rI K w:=by refine En3 ?_;unfold F132;have few:=h.few;have lims:=h.lims;have hal:(atoms (aOf e M)).length=(aOf e M).length:=gW _;have hpos:=Hu e M;refine Ac (λhc=>?_) (λhc=>?_);{simp only [iI] at hc;have e0:at_.toNat=0:=(by omega);have:=hK w (Ext.refl w);rw [e0,Pm] at this;exact this};simp only [iH] at hc;obtain ⟨n,rfl⟩:∃n:Nat,at_=(n:Int):=⟨at_.toNat,by omega⟩;rw [dF] at hK;refine Iz h λw1 e1=>Ac (λhg=>?_) (λhg=>?_);{simp only [iI,jT] at hg;obtain ⟨t,ht,hi,hf,rd⟩:=h.tree;refine rd e1 (Zc (ht.ext e1) λw2 e2=>?_);have:=hK w2 (e1.trans e2);rw [Am4 _ _ (by omega),←Jr hpos,←hi.tot] at this;exact this};simp only [iH,jT] at hg;have hb:(msr ((aOf e M).take n)).breaks=nb (atoms (aOf e M)) n+(if Ep (atoms (aOf e M)) n then 1 else 0):=(by rw [Jr (hpos.take n),Xn,Bk0]);have hsp:=Bj4 hpos (n:=n) (by omega) (by omega);have hnl:=Bg5 (atoms (aOf e M)) n;refine N7 (h.ext e1) (by omega) λw2 e2=>(St.start w2).Af λb w3 S3 e3=>S3.Ad 0 rfl rfl rfl rfl λw4 S4 u4=>?_;have e04:=(e1.trans e2).trans S4.upd;refine Ae (λx w'=>x=(Ep (atoms (aOf e M)) n,())/\St (λ_=>False) w2 w' [(b,.cells (Cells.vals c109 (smT (msr ((aOf e M).take n)))).toArray 109 (0,0))]) ?_ ?_;{refine S4.ld 0 rfl (x:=(msr ((aOf e M).take n)).cr) rfl (Ac (λhr=>?_) (λhr=>?_));{have ew:W64 ((n:Int)+1)=(n:Int)+1:=wrap64 (by omega) (by omega);rw [ew];refine Ry (h.ext e04) λs w5 o5 e5=>?_;obtain ⟨a,ha⟩:∃a,(atoms (aOf e M))[n]?=some a:=⟨_,jC (by omega)⟩;rw [sub_one,take_one ha] at o5;refine Ew (c:=.int .i64) (xs:=[a]) o5.in (by decide) (x:=a) rfl λp=>⟨?_,S4.ext e5⟩;rw [hsp,hr,ha];rfl};{refine ⟨?_,S4⟩;rw [hsp,hr];rfl}};{rintro _ w5 ⟨rfl,S5⟩;have e05:=(e1.trans e2).trans S5.upd;refine Ac (λhr=>S5.ld 0 rfl (x:=(((msr ((aOf e M).take n)).breaks:Nat):Int)) rfl ?_) (λhr=>S5.ld 0 rfl (x:=(((msr ((aOf e M).take n)).breaks:Nat):Int)) rfl ?_);{have hr':Ep (atoms (aOf e M)) n=true:=hr;rw [hb,hr',wrap64 (by simp only [aP];omega) (by simp only [aP];omega)];have:((nb (atoms (aOf e M)) n+(if true=true then 1 else 0):Nat):Int)-1=((nb (atoms (aOf e M)) n:Nat):Int):=(by simp);rw [this];exact hK w5 e05};{have hr':Ep (atoms (aOf e M)) n=false:=hr;rw [hb,hr'];exact hK w5 e05}}
theorem least (P:Nat->Prop) [DecidablePred P]:∀n,P n->∃j,j<=n/\P j/\∀i,i<j->¬P i:=by
 intro n;induction n using Nat.strongRecOn with
 |ind n ih=>intro hn;by_cases h:∃i,i<n/\P i;{obtain ⟨i,hi,hp⟩:=h;obtain ⟨j,h1,h2,h3⟩:=ih i hi hp;exact ⟨j,by omega,h2,h3⟩};{exact ⟨n,fJ _,hn,λi hi hp=>h ⟨i,hi,hp⟩⟩}
theorem Ct9 {l m:As}(h:Lr l) (h':Lr m):(msr l).breaks<=(msr (l++m)).breaks:=by rw [Rl h h'];exact An1 (k:=1) (Ou h) (Ou h')
theorem As2 {L:As}(h:Lr L){i j:Nat}(hij:i<=j):(msr (L.take i)).breaks<=(msr (L.take j)).breaks:=by obtain ⟨d,rfl⟩:∃d,j=i+d:=⟨j-i,by omega⟩;rw [kY];exact Ct9 (h.take i) ((h.drop i).take d)
def skI (A:List Int) (k:Int):Int:=if k<0 then -1 else match sk A k.toNat with|some m=>(m:Int)|none=>-1
set_option maxHeartbeats 1000000 in
theorem Aa0 {k:Int}(h:Txt w p e lim na O M){K:Int->Wp}(hK:∀w',Ext w w'->K (skI (atoms (aOf e M)) k) w') :
  Aa Tryz.prog 165 #[.pointer (some (at0 p)),.int .i64 k] rI K w:=by
 refine Ej9 ?_;unfold F165;have few:=h.few;have lims:=h.lims;have hsz:=h.sz;have hal:(atoms (aOf e M)).length=(aOf e M).length:=gW _;have hpos:=Hu e M;obtain ⟨t,ht,hi,hf,rd⟩:=h.tree;refine Ac (λhc=>?_) (λhc=>?_);{simp only [jM] at hc;subst hc;have:=hK w (Ext.refl w);unfold skI at this;have e0:sk (atoms (aOf e M)) 0=some 0:=(by cases atoms (aOf e M)<;>rfl);rw [aJ (by decide),show (0:Int).toNat=0 by rfl,e0] at this;exact this};simp only [jO] at hc;have htb:(tot t.items).breaks=brs (atoms (aOf e M)):=(by rw [hi.tot,Jr hpos]);refine Ae (λx w'=>x=(decide (k<0)||decide (((brs (atoms (aOf e M)):Nat):Int)<k),())/\Ext w w') ?_ ?_;{refine Ac (λhn=>⟨by rw [hn];rfl,Ext.refl w⟩) (λhn=>rd (Ext.refl w) (Zc ht λw1 e1=>⟨?_,e1⟩));rw [hn,bD,←htb];rfl};rintro _ w1 ⟨rfl,e1⟩;refine Ac (λhb=>?_) (λhb=>?_);{have:=hK w1 e1;simp only [bM,iI] at hb;unfold skI at this;by_cases hn:k<0;{rw [aF hn] at this;exact this};{rw [aJ hn,Zg _ _ (by omega)] at this;exact this}};simp only [eF,iH] at hb;obtain ⟨n,rfl⟩:∃n:Nat,k=(n:Int):=⟨k.toNat,by omega⟩;have hn1:1<=n:=(by omega);have hnb:n<=brs (atoms (aOf e M)):=(by omega);have il:=hi.len;have fl:=hf.few;have kk:∀j,keyOf 1 (tot (t.items.take j))=(msr (aOf e (M.take j))).breaks:=λj=>by
  have:=(hi.take j).tot
  show (tot (t.items.take j)).breaks=_
  rw [this]
 obtain ⟨j,hjl,hj1,hj0⟩:=least (λj=>n<=keyOf 1 (tot (t.items.take j))) t.items.length (by
  show n<=keyOf 1 (tot (t.items.take t.items.length))
  rw [kk,il,jR,Jr hpos];exact hnb)
 obtain ⟨i,rfl⟩:∃i,j=i+1:=by
  cases j with
  |zero=>have hj1':n<=keyOf 1 (tot (t.items.take 0)):=hj1;rw [kk,iL,Jr (Hu e _)] at hj1';exact absurd hj1' (by simp [aOf,brs];omega)
  |succ i=>exact ⟨i,rfl⟩
 (have hfind:X3 1 n t.items=i+1:=Ao2 hjl hj1 λj hj=>by have:=hj0 j hj;omega);(have hlow:(msr (aOf e (M.take i))).breaks<n:=by have:=hj0 i (by omega);simp only [kk] at this;omega);(have hhigh:n<=(msr (aOf e (M.take (i+1)))).breaks:=by have h2:n<=keyOf 1 (tot (t.items.take (i+1))):=hj1;rw [kk] at h2;exact h2);obtain ⟨x,hx⟩:∃x,t.items[i]?=some x:=⟨_,jC (by omega)⟩;obtain ⟨y,hy,hp⟩:=hi.get i hx;have hM1:aOf e (M.take (i+1))=aOf e (M.take i)++ats e y.2:=by
  rw [kT,hy,He]
  show _++aOf e [y]=_
  simp [aOf]
 have hMA:aOf e M=aOf e (M.take (i+1))++aOf e (M.drop (i+1)):=(by rw [←He,jD]);have htkq:∀q,q<=(ats e y.2).length->(aOf e M).take ((aOf e (M.take i)).length+q)=aOf e (M.take i)++(ats e y.2).take q:=λq hq=>by
  rw [hMA,hM1,eG,jX,jW hq]
 have hpi:=Hu e (M.take i);have hpy:=Gp e y.2;have hszs:szs (aOf e (M.take i))+y.2.length<=1048576:=by
  have:=fC szs hMA
  rw [Bq,hM1,Bq,Hz] at this;omega
 refine rd e1 (Aw1 (k:=1) (n:=n) (by decide) (by omega) (ht.ext e1) hf λw2 e2=>?_);(have ew:W64 (((i+1:Nat):Int)-1)=(i:Int):=by rw [wrap64 (by omega) (by omega)];omega);rw [hfind,ew];have e12:=e1.trans e2;refine rd e12 (Z5 (ht.ext e12) hf (by omega) λw3 e3=>?_);have e13:=e12.trans e3;have etk:tot (t.items.take i)=msr (aOf e (M.take i)):=(hi.take i).tot;rw [etk];refine (St.start w3).Af λb12 w4 S4 e4=>S4.Ad 0 rfl rfl rfl rfl λw5 S5 u5=>?_;refine rd (e13.trans S5.upd) (Ai3 (ht.ext (e13.trans S5.upd)) hf (by omega) λw6 e6=>?_);(have e0:atI t.items i=(x,true):=by unfold atI;rw [hx]);rw [e0];refine (S5.ext e6).Af λb16 w7 S7 e7=>S7.Ad 0 rfl rfl rfl rfl λw8 S8 u8=>?_;let Ls:Nat->List (Nat×Obj):=λq=>[(b16,.cells (Cells.vals Aj (pcT x)).toArray 111 (0,0)),(b12,.cells (Cells.vals c109 (smT (msr (aOf e (M.take i)++(ats e y.2).take q)))).toArray 109 (0,0))];(have S8':St (λ_=>False) w3 w8 (Ls 0):=by show St _ _ _ [_,_];rw [iL,kM];exact S8);refine Ae (λ_ w'=>∃q,q<=(ats e y.2).length/\n<=(msr (aOf e (M.take i)++(ats e y.2).take q)).breaks/\(∀j,j<(aOf e (M.take i)).length+q->(msr ((aOf e M).take j)).breaks<n)/\St (λ_=>False) w3 w' (Ls q)) ?_ ?_
 ·refine Ba (λs w'=>∃q,q<=(ats e y.2).length/\s=(((szs ((ats e y.2).take q):Nat):Int),())/\(∀j,j<(aOf e (M.take i)).length+q->(msr ((aOf e M).take j)).breaks<n)/\St (λ_=>False) w3 w' (Ls q)) (λs _=>((y.2.length:Int)-s.1).toNat) ⟨0,iW _,rfl,λj hj=>?_,S8'⟩ ?_;{have h1:=As2 hpos (i:=j) (j:=(aOf e (M.take i)).length+0) (by omega);rw [htkq 0 (iW _),iL,kM] at h1;omega};rintro _ w9 ⟨q,hq,rfl,hlt,S9⟩;have hbl:=hp.by_.len;have hsy:szs ((ats e y.2).take q)<=y.2.length:=Aa6 q;refine Ae (λs w'=>s=(decide (szs ((ats e y.2).take q)<y.2.length)&&decide ((msr (aOf e (M.take i)++(ats e y.2).take q)).breaks<n),())/\w9=w') ?_ ?_;{refine S9.ld 0 rfl (x:=x.bytes) rfl (Ac (λhc=>S9.ld 1 rfl (x:=(((msr (aOf e (M.take i)++(ats e y.2).take q)).breaks:Nat):Int)) rfl ⟨Az ?_,rfl⟩) (λhc=>⟨Az ?_,rfl⟩));{simp only [iI,aV] at hc ⊢;omega};{simp only [iH,aV,iI] at hc ⊢;constructor;{intro h;cases h};{intro h;omega}}};rintro _ w10 ⟨rfl,rfl⟩;refine Ac (λhc=>?_) (λhc=>?_)
  ·simp only [aV,iI] at hc;obtain ⟨a,m,hqa,hnx,htk,hss,hm1,hsl⟩:=Yb (e:=e) (l:=y.2) (j:=q) hc.1;have hql:q<(ats e y.2).length:=(fG.1 hqa).1;refine S9.drew λw11 S11 e11 _=>((h.ext e13).ext S11.upd).enc (S11.ld 0 rfl (x:=x.bytes) rfl (Vj ((hp.by_.ext e13).ext S11.upd) hc.1 λw12 e12=>?_));rw [hnx];have S12:=S11.ext e12;have pq:=hpi.app (hpy.take q);refine S12.drew λw13 S13 e13' _=>S13.lds 1 (smT _) rfl (Ad8 λw14 e14=>?_);have S14:=S13.ext e14;refine S14.keeps 1 rfl (Y9 (Ou pq) (Xc a hm1) ?_ λw15 e15=>?_);{rw [Kt pq,Bq];show szs (aOf e (M.take i))+szs ((ats e y.2).take q)+m<2^60;omega};have S15:=S14.ext e15;rw [←Bg8 pq hm1,eG,←htk];refine S15.Ad 1 rfl rfl rfl rfl λw16 S16 u16=>?_;have ewa:W64 (((szs ((ats e y.2).take q):Nat):Int)+(m:Int))=((szs ((ats e y.2).take (q+1)):Nat):Int):=by
    rw [wrap64 (by omega) (by omega)];omega
   refine ⟨⟨q+1,by omega,by dsimp only;rw [ewa],λj hj=>?_,S16⟩,?_⟩;{by_cases hjq:j<(aOf e (M.take i)).length+q;{exact hlt j hjq};{have:j=(aOf e (M.take i)).length+q:=(by omega);subst this;rw [htkq q (by omega)];exact hc.2}};{dsimp only;rw [ewa];omega}
  {refine ⟨q,hq,?_,hlt,S9⟩;by_cases hb:(msr (aOf e (M.take i)++(ats e y.2).take q)).breaks<n;{have hnl:¬szs ((ats e y.2).take q)<y.2.length:=λh2=>(by simp [h2,hb] at hc);rw [U3 hnl,←hM1];exact hhigh};{omega}}
 ·rintro _ w9 ⟨q,hq,hge,hlt,S9⟩;have hatoms:(msr (aOf e (M.take i)++(ats e y.2).take q)).atoms=(aOf e (M.take i)).length+q:=by
   rw [Ov (hpi.app (hpy.take q)),iE,gI];omega
  have htk:=htkq q hq;have hmle:(aOf e (M.take i)).length+q<=(aOf e M).length:=by
   have:=fC List.length hMA
   rw [iE,hM1,iE] at this;omega
  rw [←htk] at hge hatoms;(have S9':St (λ_=>False) w3 w9 [(b16,.cells (Cells.vals Aj (pcT x)).toArray 111 (0,0)),(b12,.cells (Cells.vals c109 (smT (msr ((aOf e M).take ((aOf e (M.take i)).length+q))))).toArray 109 (0,0))]:=by rw [htk];exact S9);generalize hm:(aOf e (M.take i)).length+q=m at *;have hm0:0<m:=by
   rcases lC m with h0|h0
   ·subst h0;rw [iL] at hge
    have:(msr []).breaks=0:=rfl
    omega
   ·exact h0
  have hres:sk (atoms (aOf e M)) n=some (if Ep (atoms (aOf e M)) m then m+1 else m):=by
   refine Cl9 _ n m hn1 (by omega) ?_ λj hj=>?_
   ·rw [←Xn,←Jr (hpos.take m)];exact hge
   ·rw [←Xn,←Jr (hpos.take j)];exact hlt j hj
  have hsp:=Bj4 hpos (n:=m) hm0 (by omega);have hres2:skI (atoms (aOf e M)) (n:Int)=if Ep (atoms (aOf e M)) m then (m:Int)+1 else (m:Int):=by
   unfold skI
   rw [aJ (by omega),dF,hres]
   dsimp only
   split<;>omega
  rw [hres2] at hK;have ea:∀{P:Int->Wp} {W:World},P (m:Int) W->P (((msr ((aOf e M).take m)).atoms:Nat):Int) W:=by
   intro P W hP;rw [hatoms];exact hP
  refine S9'.ld 1 rfl (x:=(((msr ((aOf e M).take m)).atoms:Nat):Int)) rfl (S9'.ld 1 rfl (x:=(((msr ((aOf e M).take m)).atoms:Nat):Int)) rfl ?_);rw [hatoms];have ew1:W64 ((m:Int)+1)=(m:Int)+1:=wrap64 (by omega) (by omega);rw [ew1];refine Ry ((h.ext e13).ext S9'.upd) λs w10 o10 e10=>?_;have S10:=S9'.ext e10;rw [sub_one] at o10;refine Ae (λx w'=>x=(Ep (atoms (aOf e M)) m,())/\w10=w') ?_ ?_
  ·refine S10.ld 1 rfl (x:=(msr ((aOf e M).take m)).cr) rfl (Ac (λhr=>?_) (λhr=>?_))
   ·rw [hsp,hr,lD];cases ha:(atoms (aOf e M))[m]? with
    |none=>rw [Ca9 ha] at o10;have hl:=o10.len1;refine Ac (λhc=>?_) (λhc=>⟨rfl,rfl⟩);simp only [jM] at hc;simp at hl;omega
    |some a=>rw [take_one ha] at o10;have hl:=o10.len1;refine Ac (λhc=>Ew (c:=.int .i64) (xs:=[a]) o10.in (by decide) (x:=a) rfl λp=>⟨rfl,rfl⟩) (λhc=>?_);simp only [jO] at hc;simp at hl;omega
   {rw [hsp,hr];exact ⟨rfl,rfl⟩}
  rintro _ w11 ⟨rfl,rfl⟩;have e0:=(e13.trans S10.upd);refine Ac (λhr=>S10.ld 1 rfl (x:=(((msr ((aOf e M).take m)).atoms:Nat):Int)) rfl ?_) (λhr=>S10.ld 1 rfl (x:=(((msr ((aOf e M).take m)).atoms:Nat):Int)) rfl ?_);{rw [hatoms,ew1];have:=hK w10 e0;rw [aF hr] at this;exact this};{rw [hatoms];have:=hK w10 e0;have hr':Ep (atoms (aOf e M)) m=false:=hr;rw [aJ (by rw [hr'];decide)] at this;exact this}
end
section
variable {w w':World}{S:Nat->Prop}{p:Nat}{e:Enc}{lim na:Nat}{O:Nat->Prop}{M:Parts}
theorem Uw:Je Tryz.prog 107 111 7 64:=Je.of (z:=.agg #[.slice none 0 0,.int .i64 0,.int .i64 0,.int .i64 0,.int .i64 0,.bool false,.bool false]) Dm0 Dl9 rfl rfl rfl (by decide)
def bOf (M:Parts):Bs:=M.flatMap λx=>x.2
theorem Bd1 (M N:Parts):bOf (M++N)=bOf M++bOf N:=by simp [bOf]
theorem Aq7 (x:Pc):∀v∈flat Aj [pcT x],Gn v=true:=by intro v hv;rw [V9] at hv;have:v∈(Cells.vals Aj (pcT x)):=hv;revert this;show v∈[_,_,_,_,_,_,_]->_;intro h;simp only [aG,kW,kX] at h;rcases h with rfl|rfl|rfl|rfl|rfl|rfl|rfl<;>rfl
set_option maxHeartbeats 1000000 in
theorem Au2 {s:Sl}{l:Bs}(hB:By w s l) (hl:l.length<=lim) (hlim:lim<=65536){K:Option Addr×Int×Unit->Wp}
  (hK:∀p O M w',Txt w' p e lim 0 O M->aOf e M=ats e l->bOf M=l->Ext w w'->(∀k,O k->w.heap.size<=k)->K (some (at0 p),0,()) w') :
  Aa Tryz.prog 20 #[.int .i64 e.num,s.v,.int .i64 (lim:Int)] (.tup [(.one .ptr),(.one (.int .i64))]) K w:=by
 refine A20 ?_;unfold F20;have hlen:=hB.len;have hen:1<=e.num/\e.num<=4:=(by cases e<;>decide);refine Ae (λx w'=>x=(false,())/\w=w') (Ac (λh=>?_) (λh=>⟨by rw [jQ (by omega)],rfl⟩)) ?_;{simp only [iI] at h;omega};rintro _ _ ⟨rfl,rfl⟩;refine Ah (Ae (λx w'=>x=(false,())/\w=w') (Ac (λh=>?_) (λh=>⟨by rw [jQ (by omega)],rfl⟩)) ?_);{simp only [iI] at h;omega};rintro _ _ ⟨rfl,rfl⟩;refine Ah (Ac (λh=>?_) (λ_=>?_));{simp only [iI,kG] at h;omega};refine Af0 EBy.ts_ C5 (z:=.int .u8 0) rfl rfl (by omega) (by show ((s.len:Nat):Int)*1<=2^48;omega) (by omega) λb w1 c n1 hc1 _ e1 hb1=>?_;rw [dF] at hc1 ⊢;(have hc1':c.size=s.len:=by rw [hc1];show s.len*1=_;omega);refine Cs3 (off:=0) EBy.ts_ C5.Gv n1 (by rw [gW];omega) (hB.ext e1).x (fJ _) (Ct4 l) λw2 n2 u2 _=>?_;rw [P7 (bv l) c (by rw [gW];omega)] at n2;have e2:Ext w w2:=e1.step u2 λk hk=>(by omega);have hL:By w2 ⟨some (at0 b),s.len,s.len⟩ l:=by
  have:=Bl.Jp n2 (n:=s.len) (sz:=1) (by simp;omega)
  simpa using this
 refine (St.start w2).Af λb7 w3 S3 e3=>?_;have hb7:=S3.ge 0 rfl;let Zt:Option Addr->Obj:=λq=>.cells #[.int .i64 e.num,.int .i64 (lim:Int),.pointer q,.slice none 0 0] 106 (0,0);let Lp:Nat->Sl->World->Prop:=λj r W=>∃(its:List Pc) (M:Parts),St (λ_=>False) w2 W [(b7,Zt none)]/\Ar W w3.heap.size r 111 7 (flat Aj (its.map pcT))/\Its W e its M/\aOf e M=(ats e l).take j/\bOf M=l.take (szs ((ats e l).take j)) /\
  (∀x∈its,∀k,x.bytes.blk k->k=b)/\By W ⟨some (at0 b),s.len,s.len⟩ l/\its.length<=j/\w3.heap.size<=W.heap.size
 have hne:∀{r:Sl} {its:List Pc} {W:World},Ar W w3.heap.size r 111 7 (flat Aj (its.map pcT))->its.length=r.len:=λho=>by
  have:=Ar.Na (cs:=Aj) ho (by decide)
  rwa [gW] at this
 refine Ae (λx W=>∃j,Lp j x.1 W/\(ats e l).take j=ats e l) ?_ ?_
 ·refine Ba (λx W=>∃j,j<=(ats e l).length/\x.2=(((szs ((ats e l).take j):Nat):Int),())/\Lp j x.1 W) (λx _=>((l.length:Int)-x.2.1).toNat) ⟨0,iW _,rfl,[],[],S3,Ar.nil _ _ _ _,trivial,rfl,rfl,(λ_ h=>by cases h),hL.ext e3,fJ _,fJ _⟩ ?_;rintro ⟨r,_⟩ W4 ⟨j,hj,rfl,its,M,S4,ho,hi,ha,hb,hk,hL4,hil,hW4⟩;have hsj:szs ((ats e l).take j)<=l.length:=Aa6 j;dsimp only at ho ⊢;refine Ac (λhc=>?_) (λhc=>?_)
  ·simp only [iI] at hc;have hc':szs ((ats e l).take j)<l.length:=(by omega);refine Ae (λx W=>∃q,1<=q/\j+q<=(ats e l).length/\x=(((szs ((ats e l).take (j+q)):Nat):Int),())/\Ext W4 W) ?_ ?_;{refine Ba (λx W=>∃q,j+q<=(ats e l).length/\q<=128/\x=(((szs ((ats e l).take (j+q)):Nat):Int),(q:Int),())/\Ext W4 W) (λx _=>((l.length:Int)-x.1).toNat) ⟨0,by omega,by omega,rfl,Ext.refl W4⟩ ?_;rintro _ W5 ⟨q,hq,hq2,rfl,x5⟩;have hsq:szs ((ats e l).take (j+q))<=l.length:=Aa6 _;refine Ae (λx W=>x=(decide (szs ((ats e l).take (j+q))<l.length/\q<128),())/\W5=W) ?_ ?_;{refine Ac (λh=>⟨Az ?_,rfl⟩) (λh=>⟨Az ?_,rfl⟩);{simp only [iI] at h ⊢;omega};{simp only [iH,iI] at h ⊢;exact ⟨(λh=>by cases h),λh=>by omega⟩}};rintro _ W6 ⟨rfl,rfl⟩;refine Ac (λh=>?_) (λh=>?_);{simp only [iI] at h;obtain ⟨a,m,hqa,hnx,htk,hss,hm1,hsl⟩:=Yb (e:=e) (l:=l) (j:=j+q) h.1;have hql:j+q<(ats e l).length:=(fG.1 hqa).1;refine Vj (hL4.ext x5) h.1 λW7 x7=>?_;rw [hnx];(have ewa:W64 (((szs ((ats e l).take (j+q)):Nat):Int)+(m:Int))=((szs ((ats e l).take (j+q+1)):Nat):Int):=by rw [wrap64 (by omega) (by omega)];omega);(have ewb:W64 ((q:Int)+1)=((q+1:Nat):Int):=by rw [wrap64 (by omega) (by omega)];omega);refine ⟨⟨q+1,by omega,by omega,by dsimp only;rw [ewa,ewb];rfl,x5.trans x7⟩,?_⟩;dsimp only;rw [ewa];omega};{refine ⟨q,?_,hq,rfl,x5⟩;rcases lC q with h0|h0;{subst h0;(have h':¬(szs ((ats e l).take (j+0))<l.length/\0<128):=λhh=>by rw [jP hh] at h;cases h);exact absurd ⟨hc',by decide⟩ h'};{exact h0}}}
   ·rintro _ W5 ⟨q,hq1,hjq,rfl,x5⟩;have S5:=S4.ext x5;have hsq:szs ((ats e l).take (j+q))<=l.length:=Aa6 _;have hadd:szs ((ats e l).take (j+q))=szs ((ats e l).take j)+szs (((ats e l).drop j).take q):=(by rw [kY,Bq]);have hpq:=((Gp e l).drop j).take q;have hqpos:1<=szs (((ats e l).drop j).take q):=by
     have:=Wn hpq
     rw [gI,gJ] at this;omega
    obtain ⟨pb,hpb⟩:∃pb:Bs,pb=(l.drop (szs ((ats e l).take j))).take (szs (((ats e l).drop j).take q)):=⟨_,rfl⟩;have hpa:ats e pb=((ats e l).drop j).take q:=by
     have h1:=(Xm e j l).2
     have h2:=(Xm e q (l.drop (szs ((ats e l).take j)))).1
     rw [h1] at h2
     rw [hpb];exact h2
    have hpl:pb.length=szs (((ats e l).drop j).take q):=(by rw [←hpa,Hz]);have hL5:=hL4.ext x5;have hcut:=By.cut hL5 (l:=((szs ((ats e l).take j):Nat):Int)) (h:=((szs ((ats e l).take (j+q)):Nat):Int)) (m:=((szs ((ats e l).take (j+q)):Nat):Int)) (by omega) (by omega) (by show _<=((s.len:Nat):Int);omega) (by omega) (by show _<=((s.len:Nat):Int);omega);have hcb:(l.drop ((szs ((ats e l).take j):Nat):Int).toNat).take (((szs ((ats e l).take (j+q)):Nat):Int).toNat-((szs ((ats e l).take j):Nat):Int).toNat)=pb:=by
     rw [hpb,dF,dF,hadd,kJ]
    rw [hcb] at hcut;refine Dc (by omega) (Qo hcut (by omega) λW6 x6=>?_);have S6:=S5.ext x6;refine S6.Af λb21 W7 S7 x7=>?_;have x47:=(x5.trans x6).trans x7;have hrl:=hne ho;have hi7:Its W7 e its M:=hi.ext x47;have hx:Ag4 W7 e (I9 e (Sl.cut (some (at0 b)) ((szs ((ats e l).take j):Nat):Int) ((szs ((ats e l).take (j+q)):Nat):Int) ((szs ((ats e l).take (j+q)):Nat):Int) 1) ((szs ((ats e l).take j):Nat):Int) pb) (((szs ((ats e l).take j):Nat):Int),pb) :=
     ⟨hcut.ext (x6.trans x7),rfl,rfl,λh0=>by have h0':pb=[]:=h0;rw [h0'] at hpl;simp at hpl;omega,by show -1<=((szs ((ats e l).take j):Nat):Int);omega,by show ((szs ((ats e l).take j):Nat):Int)+(pb.length:Int)<=2^40;omega⟩
    generalize hpc:I9 e (Sl.cut (some (at0 b)) ((szs ((ats e l).take j):Nat):Int) ((szs ((ats e l).take (j+q)):Nat):Int) ((szs ((ats e l).take (j+q)):Nat):Int) 1) ((szs ((ats e l).take j):Nat):Int) pb=xp at *;have hxb:∀k,xp.bytes.blk k->k=b:=by
     rw [←hpc]
     rintro k hk
     obtain ⟨pp,hp1,hp2⟩:=Zr (s:=⟨some (at0 b),s.len,s.len⟩) hk
     cases hp1;exact hp2.symm
    have hbox:SlX W7 ⟨some (at0 b21),1,1⟩ 7 (flat Aj [pcT xp]):=by
     have:=Bl.Jp (S7.at_ 0 rfl) (n:=1) (sz:=7) rfl
     exact this.x
    refine En Uw Uw.ts_ (x:=⟨some (at0 b21),1,1⟩) (ho.ext x47) hbox (Aq7 xp) (by
     show (r.len+1+(r.len+1)/4+512)*64<=2^48
     have:=Wn (Gp e l)
     rw [Hz] at this
     omega) (by have:=x47.size;omega) λr' W8 o8 l8 u8 k8=>?_
    have hty:∀{t':TypeId},111≠t'->Gs W7 r.blk t':=λht=>Gs.blk (ho.ext x47).in ht;have st8:St (λ_=>False) w2 W8 [(b7,Zt none)]:=by
     refine S7.tail.fresh u8 (λk hk=>.inr ?_) (λx hx hk=>?_)
     ·have:=ho.Fq hk;have:=e3.size;omega
     ·rw [iT.1 hx] at hk
      exact hty (by decide) _ hk _ _ (S7.at_ 1 rfl)
    (have e8:flat Aj (its.map pcT)++flat Aj [pcT xp]=flat Aj ((its++[xp]).map pcT):=by rw [lG,Nu];rfl);rw [e8] at o8;have hi8:Its W8 e (its++[xp]) (M++[(((szs ((ats e l).take j):Nat):Int),pb)]):=by
     have h9:Its W7 e (its++[xp]) (M++[(((szs ((ats e l).take j):Nat):Int),pb)]):=hi7.app ⟨hx,trivial⟩
     refine h9.upd u8 λx hx k hk hS=>?_
     obtain ⟨y,hy⟩:∃y,Ag4 W7 e x y:=by
      obtain ⟨n,hn⟩:=gZ hx
      obtain ⟨y,_,hy⟩:=h9.get n hn
      exact ⟨y,hy⟩
     obtain ⟨c2,fr2,hc2⟩:=hy.by_.Fv hk
     exact hty (t':=5) (by decide) k hS _ _ hc2
    refine ⟨⟨j+q,hjq,rfl,its++[xp],M++[_],st8,o8,hi8,?_,?_,?_,?_,?_,?_⟩,?_⟩;{rw [He,ha,kY];show _++aOf e [_]=_;simp only [aOf,iD,lH,kM];rw [hpa]};{rw [Bd1,hb,hadd,kY];show _++bOf [_]=_;simp only [bOf,iD,lH,kM];rw [hpb]};{intro x hx k hkk;rcases bV.1 hx with hx|hx;{exact hk x hx k hkk};{rw [iT.1 hx] at hkk;exact hxb k hkk}};{exact Bl.ty (hL5.ext (x6.trans x7)) u8 (hty (by decide))};{rw [iE];simp;omega};{have:=u8.size;have:=x47.size;omega};{dsimp only;omega}
  {simp only [iH] at hc;have:=U3 (e:=e) (l:=l) (j:=j) (by omega);exact ⟨j,⟨its,M,S4,ho,hi,ha,hb,hk,hL4,hil,hW4⟩,this⟩}
 {rintro ⟨r,_⟩ W4 ⟨j,⟨its,M,S4,ho,hi,ha,hb,hk,hL4,hil,hW4⟩,hj⟩;rw [hj] at ha hb;have hM:szs (aOf e M)=l.length:=(by rw [ha,Hz]);have hfine:=hi.fine (by omega);refine Be1 (l:=its) ho.in hfine λt W5 ht hti x5=>Am ?_;have S5:=S4.ext x5;rw [addr_add];refine Zy (S5.at_ 0 rfl) rfl rfl (by show 0+2+1<=4;decide) λW6 u56 n6' z6=>?_;have n6:W6.heap[b7]?=some (Zt t.ptr):=n6';have hb0:w.heap.size<=b:=(by omega);(have hb0':w.heap.size<=b7:=by have:=e2.size;omega);have e06:Ext w W6:=(e2.trans S5.upd).step u56 λk hk=>(by omega);refine hK b7 (λk=>k=b\/k=b7) M W6 ⟨⟨t,⟨none,0,0⟩,[],n6,?_,?_,Ar.nil _ _ _ _,?_,?_,?_,fJ _⟩,hlim,by omega,.inr rfl,?_⟩ ha (by rw [hb,Hz];exact jR) e06 (by rintro k (rfl|rfl)<;>assumption);{exact ht.ty u56 (Gs.box (S5.at_ 0 rfl) (by decide))};{rw [hti];refine (hi.ext x5).upd u56 λx hx k hkk he=>?_;have:=hk x hx k hkk;have hbl:=lt_of_heap n2;omega};{rintro x hx k hkk ⟨q,hq,_⟩;cases hq};{intro x hx k hkk;rw [hti] at hx;exact .inl (hk x hx k hkk)};{rintro k ⟨q,hq,_⟩;cases hq};{have hbl:=lt_of_heap n2;have h7:=lt_of_heap n6;have:=S5.upd.size;rintro k (rfl|rfl)<;>omega}}
end
end
section
namespace Cdc
theorem Di {n:Nat}(h:n<256):(UInt8.ofNat n).toNat=n:=by rw [kN];omega
theorem Aw3 (q:Nat):cont (UInt8.ofNat (128+q%64))=true:=by unfold cont;rw [Di (by omega)];simp;omega
def Scalar (a:Int):Prop:=(0<=a/\a<55296)\/(57343<a/\a<=1114111)
theorem Co7 {a:Int}(h:Scalar a) (r:Bs):nx8 (pt8 a++r)=(a,sz8 a):=by
 obtain ⟨n,rfl⟩:∃n:Nat,a=(n:Int):=kR (by rcases h with h|h<;>omega);have hs:sz8 (n:Int)=if n<128 then 1 else if n<2048 then 2 else if n<65536 then 3 else 4:=by
  unfold sz8
  rw [aJ (by rcases h with h|h<;>omega)]
  repeat' split
  all_goals first|rfl|omega
 unfold pt8;rw [aJ (by omega),hs,dF];by_cases h1:n<128;{rw [aF h1,aF rfl];have hb:(UInt8.ofNat n).toNat=n:=Di (by omega);show nx8 (UInt8.ofNat n::r)=_;(have hbn:Fz n=(1,0,0):=by unfold Fz;rw [aF h1]);(have hr:rowOf (UInt8.ofNat n::r)=(1,1):=by simp only [rowOf,hb,hbn];rfl);simp only [nx8,hr,hb];rw [aJ (by decide)];rfl};rw [aJ h1];by_cases h2:n<2048
 ·rw [aF h2,aJ (by decide)];have hb:(UInt8.ofNat (mk8 2+n/64^(2-1))).toNat=192+n/64:=by
   show (UInt8.ofNat (192+n/64)).toNat=_
   exact Di (by omega)
  have hc:(UInt8.ofNat (128+n/64^0%64)).toNat=128+n%64:=by
   rw [Di (by omega)];simp
  have hbn:Fz (192+n/64)=(2,128,191):=by
   unfold Fz;rw [aJ (by omega),aJ (by omega),aF (by omega)]
  show nx8 (UInt8.ofNat (mk8 2+n/64^(2-1))::UInt8.ofNat (128+n/64^0%64)::r)=_;have hr:rowOf (UInt8.ofNat (mk8 2+n/64^(2-1))::UInt8.ofNat (128+n/64^0%64)::r)=(2,2):=by
   simp only [rowOf,hb,hbn,hc]
   rw [aJ (by decide),aJ (by omega)]
   cases r<;>rfl
  simp only [nx8,hr,hb];rw [aJ (by decide)];show (((rest (lead 2 (192+n/64)) [UInt8.ofNat (128+n/64^0%64)]:Nat):Int),2)=_;have:rest (lead 2 (192+n/64)) [UInt8.ofNat (128+n/64^0%64)]=n:=by
   show (192+n/64)%32*64+(UInt8.ofNat (128+n/64^0%64)).toNat%64=n
   rw [hc];omega
  rw [this]
 rw [aJ h2];by_cases h3:n<65536
 ·rw [aF h3,aJ (by decide)];have hb:(UInt8.ofNat (mk8 3+n/64^(3-1))).toNat=224+n/4096:=by
   show (UInt8.ofNat (224+n/4096)).toNat=_
   exact Di (by omega)
  have hc:(UInt8.ofNat (128+n/64^1%64)).toNat=128+n/64%64:=by
   rw [Di (by omega)]
  have hd:(UInt8.ofNat (128+n/64^0%64)).toNat=128+n%64:=by
   rw [Di (by omega)];simp
  have hbn:∃lo hi,Fz (224+n/4096)=(3,lo,hi)/\¬(128+n/64%64<lo\/hi<128+n/64%64):=by
   unfold Fz
   rw [aJ (by omega),aJ (by omega),aJ (by omega)]
   split
   ·exact ⟨_,_,rfl,by omega⟩
   ·split
    ·exact ⟨_,_,rfl,by rcases h with h|h<;>omega⟩
    ·rw [aF (by omega)]
     exact ⟨_,_,rfl,by omega⟩
  obtain ⟨lo,hi,hbn,hin⟩:=hbn;show nx8 (UInt8.ofNat (mk8 3+n/64^(3-1))::UInt8.ofNat (128+n/64^1%64)::UInt8.ofNat (128+n/64^0%64)::r)=_;have hr:rowOf (UInt8.ofNat (mk8 3+n/64^(3-1))::UInt8.ofNat (128+n/64^1%64)::UInt8.ofNat (128+n/64^0%64)::r)=(3,3):=by
   simp only [rowOf,hb,hbn,hc]
   rw [aJ (by decide),aJ hin]
   show (2+more 1 _,3)=_
   simp only [more,Aw3,aP]
  simp only [nx8,hr,hb];rw [aJ (by decide)];show (((rest (lead 3 (224+n/4096)) [UInt8.ofNat (128+n/64^1%64),UInt8.ofNat (128+n/64^0%64)]:Nat):Int),3)=_;have:rest (lead 3 (224+n/4096)) [UInt8.ofNat (128+n/64^1%64),UInt8.ofNat (128+n/64^0%64)]=n:=by
   show ((224+n/4096)%16*64+(UInt8.ofNat (128+n/64^1%64)).toNat%64)*64+(UInt8.ofNat (128+n/64^0%64)).toNat%64=n
   rw [hc,hd];omega
  rw [this]
 rw [aJ h3,aJ (by decide)];have hb:(UInt8.ofNat (mk8 4+n/64^(4-1))).toNat=240+n/262144:=by
  show (UInt8.ofNat (240+n/262144)).toNat=_
  exact Di (by rcases h with h|h<;>omega)
 have hc:(UInt8.ofNat (128+n/64^2%64)).toNat=128+n/4096%64:=by
  rw [Di (by omega)]
 have hd:(UInt8.ofNat (128+n/64^1%64)).toNat=128+n/64%64:=by
  rw [Di (by omega)]
 have he:(UInt8.ofNat (128+n/64^0%64)).toNat=128+n%64:=by
  rw [Di (by omega)];simp
 have hbn:∃lo hi,Fz (240+n/262144)=(4,lo,hi)/\¬(128+n/4096%64<lo\/hi<128+n/4096%64):=by
  unfold Fz
  rw [aJ (by omega),aJ (by omega),aJ (by omega),aJ (by omega),aJ (by omega),aJ (by omega)]
  split
  ·exact ⟨_,_,rfl,by omega⟩
  ·split
   ·exact ⟨_,_,rfl,by omega⟩
   ·rw [aF (by rcases h with h|h<;>omega)]
    exact ⟨_,_,rfl,by rcases h with h|h<;>omega⟩
 obtain ⟨lo,hi,hbn,hin⟩:=hbn;show nx8 (UInt8.ofNat (mk8 4+n/64^(4-1))::UInt8.ofNat (128+n/64^2%64)::UInt8.ofNat (128+n/64^1%64)::UInt8.ofNat (128+n/64^0%64)::r)=_;have hr:rowOf (UInt8.ofNat (mk8 4+n/64^(4-1))::UInt8.ofNat (128+n/64^2%64)::UInt8.ofNat (128+n/64^1%64)::UInt8.ofNat (128+n/64^0%64)::r)=(4,4):=by
  simp only [rowOf,hb,hbn,hc]
  rw [aJ (by decide),aJ hin]
  show (2+more 2 _,4)=_
  simp only [more,Aw3,aP]
 simp only [nx8,hr,hb];rw [aJ (by decide)];show (((rest (lead 4 (240+n/262144)) [UInt8.ofNat (128+n/64^2%64),UInt8.ofNat (128+n/64^1%64),UInt8.ofNat (128+n/64^0%64)]:Nat):Int),4)=_;have:rest (lead 4 (240+n/262144)) [UInt8.ofNat (128+n/64^2%64),UInt8.ofNat (128+n/64^1%64),UInt8.ofNat (128+n/64^0%64)]=n:=by
  show (((240+n/262144)%8*64+(UInt8.ofNat (128+n/64^2%64)).toNat%64)*64+(UInt8.ofNat (128+n/64^1%64)).toNat%64)*64+(UInt8.ofNat (128+n/64^0%64)).toNat%64=n
  rw [hc,hd,he];rcases h with h|h<;>omega
 rw [this]
theorem Ay1 (be:Bool) (u:Nat) (hu:u<65536):∃x y,uni be u=[x,y]/\un be x y=u:=by
 have h1:(UInt8.ofNat (u/256)).toNat=u/256:=Di (by omega);have h2:(UInt8.ofNat u).toNat=u%256:=(by rw [kN]);cases be with
 |false=>exact ⟨_,_,rfl,by show (UInt8.ofNat u).toNat+(UInt8.ofNat (u/256)).toNat*256=u;rw [h1,h2];omega⟩
 |true=>exact ⟨_,_,rfl,by show (UInt8.ofNat u).toNat+(UInt8.ofNat (u/256)).toNat*256=u;rw [h1,h2];omega⟩
theorem Bw4 {be:Bool}{a:Int}(h:Scalar a) (r:Bs):Jq be (Ar6 be a++r)=(a,Iq a):=by obtain ⟨n,rfl⟩:∃n:Nat,a=(n:Int):=kR (by rcases h with h|h<;>omega);unfold Ar6 Iq;have a1:¬(n:Int)<0:=(by omega);have a2:¬((n:Int) < -256\/1114111<(n:Int)):=(by rcases h with h|h<;>omega);rw [aJ a1,aJ a2,aJ a1,dF];by_cases h1:(n:Int)<65536;{rw [aF h1,aF h1];obtain ⟨x,y,e,hu⟩:=Ay1 be n (by omega);rw [e];show Jq be (x::y::r)=_;simp only [Jq,hu];rw [aJ (by rcases h with h|h<;>omega)]};{rw [aJ h1,aJ h1];obtain ⟨x,y,e,hu⟩:=Ay1 be (55296+(n-65536)/1024) (by rcases h with h|h<;>omega);obtain ⟨x',y',e',hu'⟩:=Ay1 be (56320+n%1024) (by omega);rw [e,e'];show Jq be (x::y::x'::y'::r)=_;simp only [Jq,hu,hu'];rw [aF (by rcases h with h|h<;>omega),aF (by omega)];have:(65536:Int)+(((55296+(n-65536)/1024)%1024*1024+(56320+n%1024)%1024:Nat):Int)=(n:Int):=(by rcases h with h|h<;>omega);rw [this]}
theorem Df5 {a:Int}(h0:0<=a) (h:a<=255) (r:Bs):nx1 (pt1 a++r)=(a,sz1 a):=by obtain ⟨n,rfl⟩:=kR h0;have:(UInt8.ofNat n).toNat=n:=Di (by omega);show (((UInt8.ofNat n).toNat:Int),1)=_;rw [this];unfold sz1;rw [aJ (by omega)]
theorem Dj4 {e:Enc}{a:Int}(h:Scalar a) (hf:sz e a≠0) (r:Bs):nx e (pt e a++r)=(a,sz e a):=by
 cases e with
 |u8=>exact Co7 h r
 |le=>exact Bw4 h r
 |be=>exact Bw4 h r
 |l1=>have hh:¬(a<0\/255<a):=λhc=>hf (by show sz1 a=0;unfold sz1;rw [aF hc]);exact Df5 (by omega) (by omega) r
theorem Cv2 {e:Enc}{a:Int}(h:Scalar a) (hf:sz e a≠0) (r:Bs):ats e (pt e a++r)=(a,sz e a)::ats e r:=by
 have hl:=Aa4 e a hf;have hne:pt e a++r≠[]:=λhc=>by
  have:=fC List.length hc
  rw [iE,dR] at this
  omega
 rw [Og e hne,Dj4 h hf];have:(pt e a++r).drop (sz e a)=r:=(by rw [←hl,kC]);rw [this]
end Cdc
end
section
open Go Go.Vx Cdc Trx
section
variable {w w':World}{S:Nat->Prop}{p:Nat}{e:Enc}{lim na:Nat}{O:Nat->Prop}{M:Parts}
def bts (e:Enc) (l:List Int):Bs:=l.flatMap (pt e)
def prs (e:Enc) (l:List Int):As:=l.map λa=>(a,sz e a)
def Fit (e:Enc) (l:List Int):Prop:=∀a∈l,Scalar a/\sz e a≠0
theorem Bz4 {e:Enc}:∀{l:List Int},Fit e l->ats e (bts e l)=prs e l
 |[],_=>Kv e
 |a::l,h=>by
  have h1:=h a aH
  show ats e (pt e a++bts e l)=_
  rw [Cv2 h1.1 h1.2,Bz4 λx hx=>h x (aI _ hx)]
  rfl
def Fits (e:Enc) (l:List Int):Prop:=∀a∈l,sz e a≠0
theorem By8 {e:Enc}:∀{l:List Int},Fits e l->(bts e l).length=szs (prs e l)
 |[],_=>rfl
 |a::l,h=>by
  have ih:=By8 λx hx=>h x (aI _ hx)
  show (pt e a++bts e l).length=Cdc.szs ((a,sz e a)::prs e l)
  rw [Jl,iE,Aa4 e a (h a aH),ih]
theorem Df2 {e:Enc}{a:Int}(h:sz e a≠0) (hs:¬Scalar a):nx e (pt e a)=(a,sz e a):=by
 have h16:∀be,Iq a≠0->Jq be (Ar6 be a)=(a,Iq a):=by
  intro be h
  unfold Iq at h ⊢
  have hr:¬(a < -256\/1114111<a):=λhc=>h (aF hc)
  rw [aJ hr]
  unfold Ar6
  by_cases h0:a<0
  ·rw [aF h0,aF h0]
   show ((-1-((UInt8.ofNat (-1-a).toNat).toNat:Int),1):Int×Nat)=_
   rw [Di (by omega)]
   congr 1;omega
  ·have hlt:a<65536:=lJ λhc=>hs (.inr ⟨by omega,by omega⟩)
   rw [aJ h0,aJ h0,aF hlt,aF hlt]
   have hu:∀x y:UInt8,Jq be [x,y]=(((un be x y:Nat):Int),2):=λx y=>by simp only [Jq];split<;>rfl
   unfold uni
   cases be with
   |true =>
    rw [aF rfl,hu]
    show ((((UInt8.ofNat a.toNat).toNat+(UInt8.ofNat (a.toNat/256)).toNat*256:Nat):Int),2)=_
    rw [Di (n:=a.toNat/256) (by omega),kN]
    congr 1;omega
   |false =>
    rw [aJ (by decide),hu]
    show ((((UInt8.ofNat a.toNat).toNat+(UInt8.ofNat (a.toNat/256)).toNat*256:Nat):Int),2)=_
    rw [Di (n:=a.toNat/256) (by omega),kN]
    congr 1;omega
 cases e with
 | u8 =>
  show nx8 (pt8 a)=(a,sz8 a);have h:sz8 a≠0:=h;unfold sz8 at h ⊢;have hr:¬(a < -256\/(-129<a/\a<0)\/1114111<a\/(55296<=a/\a<=57343)):=λhc=>h (aF hc);have h0:a<0:=lJ λhc=>hs (by unfold Scalar;omega);rw [aJ hr,aF (by omega)];unfold pt8;rw [aF h0];obtain ⟨n,hn⟩:∃n,n=(-1-a).toNat:=⟨_,rfl⟩;rw [←hn];have hb:(UInt8.ofNat n).toNat=n:=Di (by omega);have hraw:(rowOf [UInt8.ofNat n]).2=0\/(rowOf [UInt8.ofNat n]).1<(rowOf [UInt8.ofNat n]).2:=by
   simp only [rowOf,hb]
   by_cases h2:(Fz n).1<2
   ·rw [aF h2]
    left
    have h3:(Fz n).1≠1:=by
     unfold Fz
     rw [aJ (by omega)]
     repeat' split
     all_goals decide
    omega
   ·rw [aJ h2]
    right;omega
  simp only [nx8];rw [aF hraw,hb];congr 1;omega
 |le=>exact h16 false h
 |be=>exact h16 true h
 |l1=>exfalso;have h:sz1 a≠0:=h;unfold sz1 at h;have hr:¬(a<0\/255<a):=λhc=>h (aF hc);exact hs (.inl ⟨by omega,by omega⟩)
theorem Db7 {e:Enc}{a:Int}(h:sz e a≠0):ats e (pt e a)=[(a,sz e a)]:=by by_cases hs:Scalar a;{have:=Cv2 hs h [];rw [kM,Kv] at this;exact this};{have hl:=Aa4 e a h;(have hne:pt e a≠[]:=λhc=>by rw [hc] at hl;exact h hl.symm);rw [Og e hne,Df2 h hs,iY (lK hl),Kv]}
def Run (l:List Int):Prop:=(∀x∈l,Scalar x)\/∃v,l=[v]
theorem Db6 {e:Enc}{l:List Int}(h:Fits e l) (hr:Run l):ats e (bts e l)=prs e l:=by rcases hr with hr|⟨v,rfl⟩;{exact Bz4 λa ha=>⟨hr a ha,h a ha⟩};{show ats e (pt e v++[])=_;rw [kM,Db7 (h v aH)];rfl}
theorem Bn5 {e:Enc}{v:Int}(h:sz e v≠0):Scalar v↔0<=v/\(v<55296\/57343<v):=by
 have hm:v<=1114111:=by
  apply lJ
  intro hc
  apply h
  cases e with
  |u8=>exact aF (by omega)
  |le=>exact aF (by omega)
  |be=>exact aF (by omega)
  |l1=>exact aF (by omega)
 unfold Scalar;omega
theorem Y2 (e:Enc) (l m:List Int):bts e (l++m)=bts e l++bts e m:=by simp [bts]
theorem Bl0 (P:Program){ts xt rt:TypeId}{e xe:TypeId}{i:TypeInfo}{z:Value}(hts:P.underlying ts=some (.slice e)) (hxt:P.underlying xt=some (.slice xe)) (hi:P.info? e=some i) (hz:i.zero=some z)
  {B:Nat} {s x:Sl} {vs us:List Value} (hs:Ar w B s e i.size vs) (hx:SlX w x i.size us) (h1:∀v∈us,Gn v=true) (hzl:z.cells.size=i.size)
  (hroom:(s.len+x.len+(s.len+x.len)/4+512)*i.bytes<=2^48) (hb0:0<i.bytes) (hB:B<=w.heap.size) :
  ∃s' w',(Builtin.append_ #[ts,xt] rt #[.slice s.a s.len s.cap,.slice x.a x.len x.cap]).run P w=.ok (.slice s'.a s'.len s'.cap) w'/\Ar w' B s' e i.size (vs++us)/\s'.len=s.len+x.len /\
   Upd (λk=>s.blk k) w w'/\((Ext w w'/\∀k,s'.blk k->w.heap.size<=k)\/(s'.a=s.a/\∃b off c,s.a=some ⟨b,off,none⟩/\w.heap[b]?=some (.cells c e (0,0))/\w'.heap[b]?=some (.cells (setRow c (off+s.len*i.size) us) e (0,0)))):=by
 obtain ⟨s',w',hr,ho,hl,hu,hk,hex⟩:=Bl1 (rt:=rt) P hts hxt hi hz hs hx h1 hzl hroom hb0 hB;refine ⟨s',w',hr,ho,hl,hu,?_⟩;have hfx:=Gh P hx;have hfs:=Gw P hs.in;have hu1:=λW=>cZ hts W;have hu2:=λW=>cZ hxt W;have hsz:∀W,(sizeOf e).run P W=.ok i.size W:=λW=>(by simp [sizeOf,dA W hi]);have hlen:=hs.len;have hxlen:=hx.len;by_cases hneed:s.len+x.len<=s.cap
 ·rcases hs.at_ with ⟨ha,hc⟩|⟨b,off,c,ha,hB',hb,hcap,hv⟩;{have hl0:x.len=0:=(by omega);have hsl:s.len=0:=(by omega);(have hus:us=[]:=by rw [hl0,fQ] at hxlen;exact bF.1 hxlen);(have hfx':(Builtin.firstCells i.size 0 (.slice x.a 0 x.cap)).run P w=.ok #[] w:=by rw [hl0,hus] at hfx;exact hfx);simp [Builtin.append_,hu1,hu2,hsz,Builtin.lenOf,hl0,hsl,ha,hfx',hc] at hr;obtain ⟨⟨h1,_⟩,rfl⟩:=hr;refine .inl ⟨Ext.refl w,λk hk=>?_⟩;obtain ⟨q,hq,_⟩:=hk;rw [←h1] at hq;cases hq}
  ·have hfit:s.len*i.size+us.length<=s.cap*i.size:=by
    rw [hxlen,←fU];exact fV _ hneed
   obtain ⟨w1,hr1,hu1',hb1,_⟩:=Nv P us b (off+s.len*i.size) 0 c e w h1 hb (by omega);simp [Builtin.append_,hu1,hu2,hsz,Builtin.lenOf,hneed,hfx,ha,addr_add,hr1] at hr;obtain ⟨⟨h1,_⟩,rfl⟩:=hr;exact .inr ⟨h1.symm.trans ha.symm,b,off,c,ha,hb,hb1⟩
 ·have hti:∀W,(typeInfo e).run P W=.ok i W:=λW=>dA W hi;have hzv:∀W,(zeroValue e).run P W=.ok z W:=λW=>(by simp [zeroValue,dA W hi,hz]);have hle:=Go.Vx.nextslicecap_le (need:=s.len+x.len) (old:=s.cap) (by omega);have hroom':¬(Builtin.nextslicecap (s.len+x.len) s.cap*i.bytes>2^48):=by
   have:=fV i.bytes hle
   omega
  have hfx':(Builtin.firstCells i.size x.len (.slice x.a x.len x.cap)).run P w.drew=.ok us.toArray w.drew:=Gh P (hx.ext (Ext.drew w));have hfs':(Builtin.firstCells i.size s.len (.slice s.a s.len s.cap)).run P w.drew=.ok vs.toArray w.drew:=Gw P (hs.in.ext (Ext.drew w));have hb0':¬i.bytes=0:=(by omega);simp [Builtin.append_,hu1,hu2,hsz,Builtin.lenOf,hneed,hti,hb0',hroom',gG,hfs',hfx',hzv,newRow,newObj,Sem.run,Question.forced] at hr;obtain ⟨⟨h1,_⟩,rfl⟩:=hr;refine .inl ⟨(Ext.drew w).trans (Ext.alloc w.drew _),λk hk=>?_⟩;obtain ⟨q,hq,rfl⟩:=hk;rw [←h1] at hq;cases hq;exact fJ _
theorem Cv5 {B:Nat}{s x:Sl}{l m:Bs}{K:Sl->Wp}(hs:Ar w B s 5 1 (bv l)) (hx:SlX w x 1 (bv m)) (hroom:s.len+x.len+(s.len+x.len)/4+512<=2^48) (hB:B<=w.heap.size)
  (h:∀s' w',Ar w' B s' 5 1 (bv (l++m))->s'.len=s.len+x.len->Upd s.blk w w'->(∀k,s'.blk k->s.blk k\/w.heap.size<=k) ->
   (∀y b,By w y b->(∀k,y.blk k->s.blk k->top y<=top s)->By w' y b/\∀k,y.blk k->s'.blk k->top y<=top s')->K s' w') :
  Du Tryz.prog (.one (.one .sl)) (Builtin.append_ #[22,22] 22 #[.slice s.a s.len s.cap,.slice x.a x.len x.cap]) K w:=by
 obtain ⟨i,z,hi,hsz,hby,hz,hzs⟩:=EBy.e_;have hs':=hs;rw [←hsz] at hs hx;obtain ⟨s',w',hr,ho,hl,hu,hex⟩:=Bl0 (rt:=22) Tryz.prog EBy.ts_ EBy.ts_ hi hz hs hx (λv hv=>by
  obtain ⟨b,_,rfl⟩:=gY.1 hv;rfl) (by rw [hsz];exact hzs) (by rw [hby];omega) (by rw [hby];decide) hB
 rw [hsz] at ho hex;have eb:bv l++bv m=bv (l++m):=(by simp [bv]);rw [eb] at ho;refine ⟨s',w',hr,h s' w' ho hl hu (λk hk=>?_) λy b hy hyt=>?_⟩;{rcases hex with ⟨_,h2⟩|⟨h1,_⟩;{exact .inr (h2 k hk)};{left;obtain ⟨q,hq,rfl⟩:=hk;exact ⟨q,h1▸hq,rfl⟩}};{rcases hex with ⟨h1,h2⟩|⟨h1,b0,off,c,ha,hb0,hb1⟩;{exact ⟨hy.ext h1,λk hk hk'=>by have:=hy.Ph hk;have:=h2 k hk';omega⟩};{(have hts:top s<=top s':=by unfold top;rw [h1,ha];show off+s.len<=off+s'.len;omega);(have hsk:∀k,s'.blk k->s.blk k:=λk hk=>by obtain ⟨q,hq,rfl⟩:=hk;exact ⟨q,h1▸hq,rfl⟩);refine ⟨⟨Bl.len hy,hy.le,hy.at_.imp id λ⟨b',off',c',fr',ha',hb',hcap,hv⟩=>?_⟩,λk hk hk'=>fK (hyt k hk (hsk k hk')) hts⟩;by_cases hbb:b'=b0;{subst hbb;rw [hb0] at hb';cases hb';have ht:=hyt b' ⟨_,ha',rfl⟩ ⟨_,ha,rfl⟩;unfold top at ht;rw [ha',ha] at ht;dsimp only at ht;have hyl:=hy.len;refine ⟨b',off',_,_,ha',hb1,by rw [Go.Vx.size_setRow];exact hcap,λi u hu=>?_⟩;have hil:=(fG.1 hu).1;rw [gW] at hil;rw [Go.Vx.Jc _ _ _ _ (by omega)];exact hv i u hu};{exact ⟨b',off',c',fr',ha',hu.get hb' (λ⟨q,hq,hqb⟩=>by rw [ha] at hq;cases hq;exact hbb hqb.symm),hcap,hv⟩}}}
theorem Its.by_ {e:Enc}:∀{l:List Pc}{M:Parts},Its w e l M->∀x∈l,∃b,By w x.bytes b
 |[],_,_,x,hx=>by cases hx
 |y::l,z::M,h,x,hx=>by
  rcases aG.1 hx with rfl|hx
  ·exact ⟨_,h.1.by_⟩
  ·exact Its.by_ h.2 x hx
theorem Its.ty {e:Enc}{l:List Pc}{M:Parts}(h:Its w e l M) (u:Upd S w w') (hS:Gs w S 5):Its w' e l M :=
 h.upd u λx hx k hk hSk=>by obtain ⟨b,hb⟩:=h.by_ x hx;obtain ⟨c,fr,hc⟩:=hb.Fv hk;exact hS k hSk c fr hc
theorem Its.to {e:Enc}:∀{l:List Pc}{M:Parts},Its w e l M->(∀x∈l,∀b,By w x.bytes b->By w' x.bytes b)->Its w' e l M
 |[],[],_,_=>trivial
 |x::l,y::M,h,hb=>⟨⟨hb x aH _ h.1.by_,h.1.sm,h.1.tag,h.1.ne,h.1.lo,h.1.hi⟩,Its.to h.2 λz hz=>hb z (aI _ hz)⟩
def Old (w W:World) (a0 a:Sl):Prop:=∀y b,By w y b->(∀k,y.blk k->a0.blk k->top y<=top a0)->By W y b/\∀k,y.blk k->a.blk k->top y<=top a
theorem Old.ty {W W':World}{a0 a:Sl}(h:Old w W a0 a) (u:Upd S W W') (hS:Gs W S 5):Old w W' a0 a:=λy b hy ht=>⟨(h y b hy ht).1.ty u hS,(h y b hy ht).2⟩
theorem Old.refl (w:World) (a:Sl):Old w w a a:=λy b hy ht=>⟨hy,ht⟩
theorem Ba6 (W:World) (t:TypeId):Gs W (λ_=>False) t:=λ_ h=>h.elim
end
end
end Go.Proofs.YtolhlldgnfbemaaGreatDoor
