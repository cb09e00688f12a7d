/- YtmooldhpiopcgaaGreatDoorSAg3: parts of the proof, put together by program. -/
import Derived.Test.YtmooldhpiopcgaaGreatDoorSAg2
set_option linter.unusedVariables false
set_option linter.unusedSimpArgs false
set_option linter.unusedSectionVars false
noncomputable section
namespace Go.Proofs
open Go.Shelf
def Tryz.Aq9:Go.Shelf.Ren:=⟨λ|119=>160|n=>n,λ|21=>21|4=>4|n=>n,λ|n=>n⟩
theorem Tryz.lays119:Go.Proofs.Lays.n119 Tryz.prog Tryz.Aq9:={
 mixed:=by kernel_rfl
 f119:=Tryz.func160.trans (congrArg some (by kernel_rfl))
 t4:=Tryz.underlying4
 a4:=Tryz.isAgg4
 z4:=Tryz.sizeOf4
 v4:=Tryz.zeroValue4
 t21:=Tryz.underlying21
 a21:=Tryz.isAgg21
 z21:=Tryz.sizeOf21
 v21:=Tryz.zeroValue21 }
theorem Tryz.utf8_ValidRune (r:Int) (w:World) :
  Calls Tryz.prog 160 #[.int .i32 r] w λe w'=>e=.returned (.bool (Lib.validRune r))/\w'=w:=Any.utf8_ValidRune Tryz.lays119 r w
def Tryz.Aq8:Go.Shelf.Ren:=⟨λ|137=>159|217=>199|266=>221|n=>n,λ|9=>9|5=>5|3=>3|n=>n,λ|n=>n⟩
theorem Tryz.lays137:Go.Proofs.Lays.n137 Tryz.prog Tryz.Aq8:={
 mixed:=by kernel_rfl
 f137:=Tryz.func159.trans (congrArg some (by kernel_rfl))
 f217:=Tryz.func199.trans (congrArg some (by kernel_rfl))
 f266:=Tryz.func221.trans (congrArg some (by kernel_rfl))
 t3:=Tryz.underlying3
 a3:=Tryz.isAgg3
 z3:=Tryz.sizeOf3
 v3:=Tryz.zeroValue3
 t5:=Tryz.underlying5
 a5:=Tryz.isAgg5
 z5:=Tryz.sizeOf5
 v5:=Tryz.zeroValue5
 t9:=Tryz.underlying9
 a9:=Tryz.isAgg9
 z9:=Tryz.sizeOf9
 v9:=Tryz.zeroValue9 }
open Go.RowKit in
theorem Tryz.strings_IndexByte (s:ByteArray) (c:Int) (w:World) :
  Calls Tryz.prog 159 #[.string s,.int .u8 c] w λe w'=>e=.returned (.int .i64 (Lib.indexByte s.data.toList c.toNat.toUInt8))/\w'=w:=Any.strings_IndexByte Tryz.lays137 s c w
def Tryz.Aq7:Go.Shelf.Ren:=⟨λ|190=>101|125=>142|258=>141|128=>182|129=>183|302=>173|303=>174|304=>175|305=>176|306=>177|307=>178|308=>179|309=>180|310=>181|333=>205|329=>206|330=>207|334=>208|335=>209|336=>210|344=>222|n=>n,λ|31=>117|9=>9|3=>3|46=>230|0=>0|51=>289|53=>291|4=>4|183=>282|182=>281|131=>286|5=>5|218=>306|222=>310|228=>320|229=>48|n=>n,λ|n=>n⟩
theorem Tryz.lays190:Go.Proofs.Lays.n190 Tryz.prog Tryz.Aq7:={
 mixed:=by kernel_rfl
 f125:=Tryz.func142.trans (congrArg some (by kernel_rfl))
 f128:=Tryz.func182.trans (congrArg some (by kernel_rfl))
 f129:=Tryz.func183.trans (congrArg some (by kernel_rfl))
 f190:=Tryz.func101.trans (congrArg some (by kernel_rfl))
 f258:=Tryz.func141.trans (congrArg some (by kernel_rfl))
 f302:=Tryz.func173.trans (congrArg some (by kernel_rfl))
 f303:=Tryz.func174.trans (congrArg some (by kernel_rfl))
 f304:=Tryz.func175.trans (congrArg some (by kernel_rfl))
 f305:=Tryz.func176.trans (congrArg some (by kernel_rfl))
 f306:=Tryz.func177.trans (congrArg some (by kernel_rfl))
 f307:=Tryz.func178.trans (congrArg some (by kernel_rfl))
 f308:=Tryz.func179.trans (congrArg some (by kernel_rfl))
 f309:=Tryz.func180.trans (congrArg some (by kernel_rfl))
 f310:=Tryz.func181.trans (congrArg some (by kernel_rfl))
 f329:=Tryz.func206.trans (congrArg some (by kernel_rfl))
 f330:=Tryz.func207.trans (congrArg some (by kernel_rfl))
 f333:=Tryz.func205.trans (congrArg some (by kernel_rfl))
 f334:=Tryz.func208.trans (congrArg some (by kernel_rfl))
 f335:=Tryz.func209.trans (congrArg some (by kernel_rfl))
 f336:=Tryz.func210.trans (congrArg some (by kernel_rfl))
 f344:=Tryz.func222.trans (congrArg some (by kernel_rfl))
 t0:=Tryz.underlying0
 a0:=Tryz.isAgg0
 z0:=Tryz.sizeOf0
 v0:=Tryz.zeroValue0
 t3:=Tryz.underlying3
 a3:=Tryz.isAgg3
 z3:=Tryz.sizeOf3
 v3:=Tryz.zeroValue3
 t4:=Tryz.underlying4
 a4:=Tryz.isAgg4
 z4:=Tryz.sizeOf4
 v4:=Tryz.zeroValue4
 t5:=Tryz.underlying5
 a5:=Tryz.isAgg5
 z5:=Tryz.sizeOf5
 v5:=Tryz.zeroValue5
 t9:=Tryz.underlying9
 a9:=Tryz.isAgg9
 z9:=Tryz.sizeOf9
 v9:=Tryz.zeroValue9
 t31:=Tryz.underlying117
 a31:=Tryz.isAgg117
 z31:=Tryz.sizeOf117
 v31:=Tryz.zeroValue117
 t46:=Tryz.underlying230
 a46:=Tryz.isAgg230
 z46:=Tryz.sizeOf230
 v46:=Tryz.zeroValue230
 t51:=Tryz.underlying289
 a51:=Tryz.isAgg289
 z51:=Tryz.sizeOf289
 v51:=Tryz.zeroValue289
 t53:=Tryz.underlying291
 a53:=Tryz.isAgg291
 z53:=Tryz.sizeOf291
 v53:=Tryz.zeroValue291
 t131:=Tryz.underlying286
 a131:=Tryz.isAgg286
 z131:=Tryz.sizeOf286
 v131:=Tryz.zeroValue286
 t182:=Tryz.underlying281
 a182:=Tryz.isAgg281
 z182:=Tryz.sizeOf281
 v182:=Tryz.zeroValue281
 t183:=Tryz.underlying282
 a183:=Tryz.isAgg282
 z183:=Tryz.sizeOf282
 v183:=Tryz.zeroValue282
 t218:=Tryz.underlying306
 a218:=Tryz.isAgg306
 z218:=Tryz.sizeOf306
 v218:=Tryz.zeroValue306
 t222:=Tryz.underlying310
 a222:=Tryz.isAgg310
 z222:=Tryz.sizeOf310
 v222:=Tryz.zeroValue310
 t228:=Tryz.underlying320
 a228:=Tryz.isAgg320
 z228:=Tryz.sizeOf320
 v228:=Tryz.zeroValue320
 t229:=Tryz.underlying48
 a229:=Tryz.isAgg48
 z229:=Tryz.sizeOf48
 v229:=Tryz.zeroValue48 }
open Go.Sort Go.RowKit in
theorem Tryz.slices_Sort_string (blk off cap:Nat) (ss:List (List UInt8)) (w:World) (hH:Holds encStr w blk off ss.toArray) (hblk:blk<w.heap.size) (hsz:ss.length<4611686018427387904) :
  Calls Tryz.prog 101 #[.slice (some ⟨blk,off,none⟩) ss.length cap] w λe w' =>
   e=.returned (.tuple #[])/\∃n os,w'=grow (putRow encStr (Sort.ahead w n) blk off (ss.mergeSort λx y=>decide (x<=y)).toArray) os:=Any.slices_Sort_string Tryz.lays190 blk off cap ss w hH hblk hsz
def Tryz.lays151_ren:Go.Shelf.Ren:=⟨λ|151=>90|152=>130|137=>159|119=>160|224=>161|225=>162|217=>199|266=>221|n=>n,λ|9=>9|21=>21|4=>4|3=>3|5=>5|0=>0|46=>230|n=>n,λ|n=>n⟩
theorem Tryz.lays151:Go.Proofs.Lays.n151 Tryz.prog Tryz.lays151_ren:={
 mixed:=by kernel_rfl
 f119:=Tryz.func160.trans (congrArg some (by kernel_rfl))
 f137:=Tryz.func159.trans (congrArg some (by kernel_rfl))
 f151:=Tryz.func90.trans (congrArg some (by kernel_rfl))
 f152:=Tryz.func130.trans (congrArg some (by kernel_rfl))
 f217:=Tryz.func199.trans (congrArg some (by kernel_rfl))
 f224:=Tryz.func161.trans (congrArg some (by kernel_rfl))
 f225:=Tryz.func162.trans (congrArg some (by kernel_rfl))
 f266:=Tryz.func221.trans (congrArg some (by kernel_rfl))
 t0:=Tryz.underlying0
 a0:=Tryz.isAgg0
 z0:=Tryz.sizeOf0
 v0:=Tryz.zeroValue0
 t3:=Tryz.underlying3
 a3:=Tryz.isAgg3
 z3:=Tryz.sizeOf3
 v3:=Tryz.zeroValue3
 t4:=Tryz.underlying4
 a4:=Tryz.isAgg4
 z4:=Tryz.sizeOf4
 v4:=Tryz.zeroValue4
 t5:=Tryz.underlying5
 a5:=Tryz.isAgg5
 z5:=Tryz.sizeOf5
 v5:=Tryz.zeroValue5
 t9:=Tryz.underlying9
 a9:=Tryz.isAgg9
 z9:=Tryz.sizeOf9
 v9:=Tryz.zeroValue9
 t21:=Tryz.underlying21
 a21:=Tryz.isAgg21
 z21:=Tryz.sizeOf21
 v21:=Tryz.zeroValue21
 t46:=Tryz.underlying230
 a46:=Tryz.isAgg230
 z46:=Tryz.sizeOf230
 v46:=Tryz.zeroValue230 }
open Go.RowKit Go.Lib in
theorem Tryz.strings_ContainsRune_ascii (s:ByteArray) (r:Int) (w:World) (h0:0<=r) (h1:r<128) :
  Calls Tryz.prog 90 #[.string s,.int .i32 r] w λe w'=>e=.returned (.bool (decide (0<=Lib.indexByte s.data.toList r.toNat.toUInt8)))/\w'=w:=Any.strings_ContainsRune_ascii Tryz.lays151 s r w h0 h1
open Go.RowKit Go.Sort in
theorem Tryz.slices_Sort_string_none (p:Option Addr) (cap:Nat) (w:World) :
  Calls Tryz.prog 101 #[.slice p 0 cap] w λe w'=>e=.returned (.tuple #[])/\w'=w:=Any.slices_Sort_string_none Tryz.lays190 p cap w
end Go.Proofs
namespace Go.Proofs.YtmooldhpiopcgaaGreatDoor
namespace Dq
open Go Go.Vx Dsk
section
variable {w w':World}{S F F':Nat->Prop}{d m ms ml:Nat}{f:Dir}{fb:List Nat}{ds:List Sl}{fs:List Fl}{sa:Sl}{vs:List Value}{D:Dk}{pl:Option Nat}{p:Int->Option Bq}{N:Nat}
abbrev nv (l:List Nm):List Value:=l.map Value.string
abbrev Ag7 (w:World) (B:Nat) (s:Sl) (l:List Nm):Prop:=Au w B s 9 1 (nv l)
theorem Au7 {B:Nat}{s:Sl}{l:List Nm}{K:Unit->Wp}(o:Ag7 w B s l) (hl:l.length<=2^60) (hK:∀w',Ag7 w' B s (Rt l)->Upd s.blk w w'->K () w') :
  Aa Tryz.prog 101 #[s.v] (.tup []) K w:=by
 have hn:=o.len1
 rw [List.length_map] at hn
 have hls:(Rt l).length=l.length:=(Qq l).length_eq
 rcases o.at_ with ⟨ha,hc⟩|⟨blk,off,c,ha,hB,hb,hcap,hv⟩
 ·have h0:s.len=0:=by have:=o.le;omega
  have hl0:l=[]:=List.length_eq_zero_iff.1 (by omega)
  subst hl0
  have e:Rt []=[]:=by simp [Rt]
  rw [e] at hK
  have ev:s=⟨none,0,s.cap⟩:=by rw [←ha,←h0]
  rw [ev]
  exact (Tryz.slices_Sort_string_none none s.cap w).mono λe w' ⟨he,hw⟩=>⟨(),he,by subst hw;exact hK w' o (Upd.refl _ _)⟩
 ·have hH:Go.Sort.Holds encStr w blk off (l.map λn=>n.data.toList).toArray:=by
   intro j hj
   have hj':j<l.length:=by simpa using hj
   refine ⟨cell_of hb ?_,by simp [World.frozen?,hb]⟩
   have:=hv j (.string l[j]) (by simp [hj'])
   rw [this,getElem!_pos _ j hj]
   simp [Cc3]
  have hrun:=Tryz.slices_Sort_string blk off s.cap (l.map λn=>n.data.toList) w hH (lt_of_heap hb) (by rw [List.length_map];omega)
  rw [List.length_map] at hrun
  have ev:s=⟨some ⟨blk,off,none⟩,l.length,s.cap⟩:=by rw [←ha,hn]
  rw [ev]
  refine hrun.mono λe w' ⟨he,n,os,hw⟩=>⟨(),he,?_⟩
  obtain ⟨srt,hsrt⟩:∃srt,srt=(l.map λn=>n.data.toList).mergeSort λx y=>decide (x<=y):=⟨_,rfl⟩
  have hsl:srt.length=l.length:=by rw [hsrt,List.length_mergeSort,List.length_map]
  have hso:Rt l=srt.map λl=>(⟨l.toArray⟩:ByteArray):=by rw [hsrt];rfl
  rw [←hsrt] at hw
  obtain ⟨c',hc'⟩:∃c',c'=Go.Sort.putCells encStr off srt.toArray c:=⟨_,rfl⟩
  have hsz:c'.size=c.size:=by rw [hc'];simp [Go.Sort.putCells]
  have hheap:w'.heap=w.heap.modify blk (Go.Sort.onCells (Go.Sort.putCells encStr off srt.toArray))++os:=by rw [hw];rfl
  have hlt:=lt_of_heap hb
  have hblk:w'.heap[blk]?=some (.cells c' 9 (0,0)):=by
   rw [hheap,Array.getElem?_append_left (by simpa using hlt),Array.getElem?_modify,if_pos rfl,hb,hc']
   rfl
  have hupd:Upd s.blk w w':=by
   refine ⟨by rw [hw];rfl,by rw [hw];rfl,by rw [hw];rfl,by rw [hheap];simp,λk hk hs=>?_⟩
   have hne:¬blk=k:=λh=>hs ⟨_,ha,h⟩
   rw [hheap,Array.getElem?_append_left (by simpa using hk),Array.getElem?_modify,if_neg hne]
  refine hK w' ⟨by rw [List.length_map,hls,hn];simp,o.le,.inr ⟨blk,off,c',ha,hB,hblk,by rw [hsz];exact hcap,λi v hi=>?_⟩⟩ hupd
  have ee:nv (Rt l)=srt.map encStr:=by rw [hso];simp [nv]
  rw [ee] at hi
  have hil:i<srt.length:=by have:=(List.getElem?_eq_some_iff.1 hi).1;simpa using this
  have hle:=o.le
  have hiv:v=encStr srt[i]:=by
   rw [List.getElem?_map,List.getElem?_eq_getElem hil] at hi
   exact (Option.some.inj hi).symm
  have hcs:off+i<c.size:=by omega
  rw [hc',hiv]
  unfold Go.Sort.putCells
  rw [Array.getElem?_mapIdx,Array.getElem?_eq_getElem hcs]
  have hcond:off<=off+i/\off+i<off+srt.toArray.size:=⟨by omega,by simp;omega⟩
  simp only [Option.map_some,if_pos hcond]
  rw [show off+i-off=i by omega,getElem!_pos _ i (by simpa using hil)]
  rfl
theorem Qv (l:List Nh) (a:Nh) (f:Dir):Ez (l++[a]) f=a.on (Ez l f):=by
 induction l generalizing f with
 |nil=>rfl
 |cons x r ih=>simp only [List.cons_append,Ez];exact ih _
theorem Fh.range (h:Fh w m fb f){K:Option Addr->Wp}(hK:∀r w' es,Iter w' r m (es.map (Dv.ent Key.str)) []->Ext w w'->w.heap.size<=r->Nc Key.str w m es->(∀k,Je es k=(f k).map λi=>Value.pointer (some (at0 (fb.getD i 0))))->Lists f (es.map (·.1))->K (some (at0 r)) w') :
  Dp Tryz.prog (.one (.one .ptr)) (Instr.range 103 (.map (some m))) K w:=by
 obtain ⟨es,h1,h2,h3⟩:=h.lists
 have h1':=h1
 obtain ⟨⟨c,g1,g2⟩,g3,g4⟩:=h1
 refine Bx0 uD g1 (λx hx=>?_) ?_ λr w' hi e hr=>hK r w' es hi e (Nat.le_of_eq hr.symm) h1' h2 h3
 ·obtain ⟨y,hy,rfl⟩:=List.mem_map.1 hx
  exact g2 y hy
 ·rw [List.map_map];exact g4
theorem Yi {es:List (Dv ByteArray)}(h1:Nc Key.str w m es) (h2:∀k,Je es k=(f k).map λi=>Value.pointer (some (at0 (fb.getD i 0)))){x:MapEntry}(hx:x∈es.map (Dv.ent Key.str)) :
  ∃(y:Dv ByteArray) (i:Nat),y∈es/\x=Dv.ent Key.str y/\f y.1=some i/\y.2.1=.pointer (some (at0 (fb.getD i 0))):=by
 obtain ⟨y,hy,rfl⟩:=List.mem_map.1 hx
 have:=Ar0 h1.keys y hy
 rw [h2] at this
 obtain ⟨i,hi,he⟩:=Option.map_eq_some_iff.1 this
 exact ⟨y,i,hy,rfl,hi,he.symm⟩
theorem V9 (h:Fh w m fb f) (hf:∀l,Lists f l->l.length<=2^20){K:Sl->Wp}(hK:∀s w',Ag7 w' w.heap.size s (names f)->Ext w w'->K s w'):Aa Tryz.prog 71 #[.map (some m)] rS K w:=by
 refine j71 ?_
 unfold F71
 refine Ag (λx w'=>∃l,Ag7 w' w.heap.size x.1 l/\Ext w w'/\Lists f l) ?_ ?_
 ·refine h.range λr w1 es hi e1 hr hm hg hl=>?_
  have hcap:=hf _ hl
  rw [List.length_map] at hcap
  refine Bz (λs' w'=>∃(done:List (Dv ByteArray)),Iter w' r m (es.map (Dv.ent Key.str)) (done.map (Dv.ent Key.str))/\Ag7 w' w.heap.size s'.1 (done.map (·.1))/\Ext w w'/\done.length<=es.length) (λs' w'=>es.length-s'.1.len) ⟨[],hi,Au.nil w1 _ _ 1,e1,Nat.zero_le _⟩ ?_
  rintro ⟨s1,⟨⟩⟩ w2 ⟨done,hi2,o2,e2,hdl⟩
  dsimp only at o2 ⊢
  have hol:=o2.len1
  rw [List.length_map,List.length_map] at hol
  refine Ax5 hi2 (λw3 e3 _ hp=>Ap ⟨done.map (·.1),o2.ext e3,e2.trans e3,?_⟩) λx w3 hx hxd hi3 u3 hz3=>Di ?_
  ·have hpk:(done.map (·.1)).Perm (es.map (·.1)):=by
    have h5:=hp.map λe:MapEntry=>match e.key with | .string k=>k|_=>⟨#[]⟩
    rw [List.map_map,List.map_map] at h5
    exact h5
   exact ⟨hpk.nodup_iff.2 hl.1,λn=>(hpk.mem_iff).trans (hl.2 n)⟩
  ·obtain ⟨y,i,hy,rfl,hfy,hv⟩:=Yi hm hg hx
   have e3:Ext w w3:=e2.step u3 (by rintro k rfl;exact hr)
   have o3:=o2.upd u3 λk _ hk he=>by
    obtain ⟨c,fr,hc⟩:=o2.in.Bc hk
    obtain ⟨cl,_,_,g3⟩:=hi2.at_
    subst he
    rw [g3] at hc;cases hc
   refine Ak5 hi3 (y.1,some (at0 (fb.getD i 0)),()) (by simp only [Dv.ent,hv];rfl) ?_
   refine Aq λb11 w4 e4 n4 _ _=>?_
   have h1:Cj w4 ⟨some (at0 b11),1,1⟩ 9 1 [.string y.1]:=Cj.Jq (n:=1) (sz:=1) n4 rfl
   refine Ua (x:=⟨some (at0 b11),1,1⟩) ES uS (o3.ext e4) h1 (λv hv=>by simp at hv;subst hv;rfl) (by dsimp only;omega) (e3.trans e4).size λs5 w5 o5 hl5 u5 _=>?_
   have hnew:∀k,s1.blk k->∃c t fr,w4.heap[k]?=some (.cells c t fr):=λk hk=>by
    obtain ⟨c,fr,hc⟩:=(o3.ext e4).in.Bc hk
    exact ⟨c,_,fr,hc⟩
   have hi5:=(hi3.ext e4).cells u5 hnew
   have hi5':Iter w5 r m (es.map (Dv.ent Key.str)) ((done++[y]).map (Dv.ent Key.str)):=by simpa using hi5
   have hdn:(done++[y]).length<=es.length:=by
    have h6:=List.Nodup.length_le_of_subset (Jg hi5'.dnd) hi5'.sub
    simpa using h6
   simp only [List.length_append,List.length_cons,List.length_nil] at hdn
   have hl5':s5.len=s1.len+1:=hl5
   have ee:nv ((done++[y]).map (·.1))=nv (done.map (·.1))++[.string y.1]:=by simp [nv]
   exact ⟨⟨done++[y],hi5',by show Au _ _ _ _ _ (nv _);rw [ee];exact o5,(e3.trans e4).step u5 λk hk=>(o3.ext e4).Ew hk,by simpa using hdn⟩,by omega⟩
 ·rintro ⟨s1,⟨⟩⟩ w1 ⟨l,o1,e1,hl⟩
  dsimp only at o1 ⊢
  refine Au7 o1 (by have:=hf l hl;omega) λw2 o2 u2=>?_
  rw [Wy hl] at hK
  exact hK s1 w2 o2 (e1.step u2 λk hk=>o1.Ew hk)
theorem Fh.set (h:Fh w m fb f){n:Nm}{i b:Nat}(hi:i<fb.length) (hb:fb.getD i 0=b){K:World->Prop}(hK:∀w',Fh w' m fb (Dn f n (some i))->Upd (λk=>k=m) w w'->K w') :
  Ap0 Tryz.prog (Instr.mapUpdate 103 (.map (some m)) (.string n) (.pointer (some (at0 b)))) K w:=by
 subst hb
 obtain ⟨⟨es,h1,h2⟩,h3⟩:=h
 obtain ⟨es',w',hr,hm',hg,u,_,_⟩:=Ym MD h1 n (.pointer (some (at0 (fb.getD i 0))))
 refine ⟨w',hr,hK w' ⟨⟨es',hm',λk=>?_⟩,λk j hj=>?_⟩ u⟩
 ·rw [hg k,h2 k]
  unfold Dn
  by_cases e:k=n
  ·rw [if_pos e,if_pos e];rfl
  ·rw [if_neg e,if_neg e]
 ·unfold Dn at hj
  split at hj
  ·cases hj;exact hi
  ·exact h3 k j hj
theorem Fh.del (h:Fh w m fb f){n:Nm}{K:Unit->Wp}(hK:∀w',Fh w' m fb (Dn f n none)->Upd (λk=>k=m) w w'->K () w') :
  Dp Tryz.prog (.tup []) (Builtin.delete_ #[103,9] 0 #[.map (some m),.string n]) K w:=by
 obtain ⟨⟨es,h1,h2⟩,h3⟩:=h
 obtain ⟨es',w',hr,hm',hg,u,_,_⟩:=As4 (kt':=9) (rt:=0) MD h1 n
 refine ⟨(),w',hr,hK w' ⟨⟨es',hm',λk=>?_⟩,λk j hj=>?_⟩ u⟩
 ·rw [hg k,h2 k]
  unfold Dn
  by_cases e:k=n
  ·rw [if_pos e,if_pos e];rfl
  ·rw [if_neg e,if_neg e]
 ·unfold Dn at hj
  split at hj
  ·cases hj
  ·exact h3 k j hj
theorem func_x {g:FuncId}{caps args:Array Value}{t:RTy}{K:t.T->Wp}(hf:((Tryz.prog.funcs[g]?).map λfn=>(fn.body.isNone,fn.name == "runtime.NumGoroutine"))=some (false,false)) (h:Aa Tryz.prog g (args++caps) t K w) :
  Bg Tryz.prog (do let d ←Deferred.ofValue (.func (.func g) #[] caps) args;invoke d.target d.args:Sem Next) t K w:=by
 refine .inl ⟨g,args++caps,?_,h⟩
 have:=Gg (P:=Tryz.prog) (f:=g) (args:=args++caps) hf w
 simp only [Deferred.ofValue,pure_bind,invoke]
 have e:(#[]++args++caps:Array Value)=args++caps:=by simp
 first
  |(rw [e];exact this)
  |(simp only [Array.empty_append];exact this)
theorem As5 {v:Value}{a:Nh}(ha:Np w F fb v a) (h:Fh w m fb f){K:Unit->Wp}(hK:∀w',Fh w' m fb (a.on f)->Upd (λk=>k=m) w w'->K () w') :
  Bg Tryz.prog (do let d ←Deferred.ofValue v #[.map (some m)];invoke d.target d.args:Sem Next) (.tup []) K w:=by
 have nc:∀{b c t fr},w.heap[b]?=some (.cells c t fr)->¬(λk=>k=m) b:=by
  rintro b c t fr hb rfl
  obtain ⟨o,c',hm⟩:=h.Ed
  rw [hm] at hb;cases hb
 cases a with
 |rm n =>
  obtain ⟨b,rfl,h2,h3⟩:=ha
  refine func_x (by kernel_rfl) ?_
  refine j105 (a0:=some m) (v0:=at0 b) ?_
  unfold F105
  exact Ah h2 (x:=n) rfl (h.del λw' h' u=>hK w' h' u)
 |mk n i =>
  obtain ⟨b1,b2,rfl,h2,h3,_,_,hi⟩:=ha
  refine func_x (by kernel_rfl) ?_
  refine Cs0 (a0:=some m) (v0:=at0 b1) (v1:=at0 b2) ?_
  unfold F167
  exact Ah h3 (x:=n) rfl (Ah h2 (x:=some (at0 (fb.getD i 0))) rfl (h.set hi rfl λw' h' u=>hK w' h' u))
 |mv x y i =>
  obtain ⟨b1,b2,rfl,h2,h3,_,_,hi⟩:=ha
  refine func_x (by kernel_rfl) ?_
  refine Cr5 (a0:=some m) (v0:=at0 b1) (v1:=at0 b2) ?_
  unfold F172
  rw [addr_add]
  refine Ah h2 (x:=x) rfl (h.del λw1 h1 u1=>?_)
  have g2:=u1.get h2 (nc h2)
  have g3:=u1.get h3 (nc h3)
  exact Ah g3 (x:=y) rfl (Ah g2 (x:=some (at0 (fb.getD i 0))) rfl (h1.set hi rfl λw' h' u=>hK w' h' (u1.trans u)))
end
end Dq
end Go.Proofs.YtmooldhpiopcgaaGreatDoor
namespace Go.Proofs.YtmooldhpiopcgaaGreatDoor
namespace Dq
open Go Go.Vx Dsk
section
variable {w w':World}{S F F':Nat->Prop}{d m ms ml:Nat}{f:Dir}{fb:List Nat}{ds:List Sl}{fs:List Fl}{sa:Sl}{vs:List Value}{D:Dk}{pl:Option Nat}{p:Int->Option Bq}{N:Nat}
theorem Dw.more (A:Dw w d F D ms ml sa pl vs fb ds) (hF:∀k,F k->F' k) (hl:∀k,F' k->k<w.heap.size):Dw w d F' D ms ml sa pl vs fb ds :=
 ⟨A.box,A.seen,A.lasts,A.files,A.acts.ty (Ext.refl w) (λ_ h=>h.elim) (λ_ h=>h.elim) (λ_ h=>h.elim) (λ_ h=>h.elim) hF,A.plan.upd (Ext.refl w) (λ_ _=>id) (λ_ h=>h.elim) hF,
  A.ne,A.nes,A.nel,hF _ A.fd,hF _ A.fms,hF _ A.fml,λb hb=>hF _ (A.ffb b hb),λs hs k hk=>hF _ (A.fds s hs k hk),λk hk=>hF _ (A.fsa k hk),hl⟩
theorem Jm {l:List Fl}{i:Nat}{g:Fl}(h:l[i]?=some g) (f:Fl->Fl):Ku l i f=l.set i (f g):=by
 obtain ⟨hi,hg⟩:=List.getElem?_eq_some_iff.1 h
 unfold Ku
 apply List.ext_getElem?
 intro j
 rw [List.getElem?_modify,List.getElem?_set]
 by_cases hij:i=j
 ·subst hij;simp [hi,hg]
 ·simp [hij]
theorem Dw.Y8 (A:Dw w d F D ms ml sa pl vs fb ds){i b:Nat}{s s':Sl}{g g':Fl}(hb:fb[i]?=some b) (hs:ds[i]?=some s) (hg:D.files[i]?=some g) (u:Upd S w w') (hS:∀k,S k->k<w.heap.size->k=b\/s.blk k)
  (hb':w'.heap[b]?=some (Rk i s' g')) (ho:En w' 0 s' g'.data) (hn:∀k,s'.blk k->s.blk k\/w.heap.size<=k) :
  Dw w' d (λk=>F k\/s'.blk k) { D with files:=D.files.set i g' } ms ml sa pl vs fb (ds.set i s'):=by
 obtain ⟨hbox,hown⟩:=A.files.at_ i b s g hb hs hg
 have cel:∀k,S k->k<w.heap.size->∃c t fr,w.heap[k]?=some (.cells c t fr)/\(t=123\/t=5):=λk hk hl=>by
  rcases hS k hk hl with rfl|h
  ·exact ⟨_,_,_,hbox,.inl rfl⟩
  ·obtain ⟨c,fr,hc⟩:=hown.in.Bc h
   exact ⟨c,_,fr,hc,.inr rfl⟩
 have no:∀t:TypeId,t≠123->t≠5->Cc w S t:=λt h1 h2 k hk c fr hc=>by
  obtain ⟨c',t',fr',hc',h⟩:=cel k hk (lt_of_heap hc)
  rw [hc] at hc';cases hc'
  exact h.elim h1 h2
 have nm:∀m,(∃o c,w.heap[m]?=some (.map o c))->¬S m:=λm ⟨o,c,hm⟩ hk=>by
  obtain ⟨c',t',fr',hc',h⟩:=cel m hk (lt_of_heap hm)
  rw [hm] at hc';cases hc'
 have hil:=(List.getElem?_eq_some_iff.1 hs).1
 have hgl:=(List.getElem?_eq_some_iff.1 hg).1
 have nbyte:∀{j:Nat} {t:Sl} {k:Nat},ds[j]?=some t->t.blk k->k≠b:=λ{j t k} ht hk e=>by
  obtain ⟨_,_,_,_,_,hw⟩:=A.files.Ak0 ht
  obtain ⟨c,fr,hc⟩:=hw.in.Bc hk
  rw [e,hbox] at hc;cases hc
 refine ⟨?_,A.seen.upd u (nm _ A.seen.Ed),A.lasts.upd u (nm _ A.lasts.Ed),⟨by simp [A.files.lf],by simp [A.files.ld],A.files.nd,λj k t t' hjk ht ht' x hx hx'=>?_,λj b' t g2 hb2 ht hg2=>?_⟩,A.acts.ty u (no _ (by decide) (by decide)) (no _ (by decide) (by decide)) (no _ (by decide) (by decide)) (no _ (by decide) (by decide)) λ_ h=>.inl h,
  A.plan.upd u (λm hm=>nm m (by subst hm;exact A.plan.Ed)) (no _ (by decide) (by decide)) λ_ h=>.inl h,A.ne,A.nes,A.nel,.inl A.fd,.inl A.fms,.inl A.fml,λb hb=>.inl (A.ffb b hb),λt ht k hk=>?_,λk hk=>.inl (A.fsa k hk),λk hk=>?_⟩
 ·have h1:=u.get A.box λhk=>no 107 (by decide) (by decide) d hk _ _ A.box
  rw [h1]
  simp only [Zv,List.length_set]
 ·
  have old:∀{j:Nat} {t:Sl},ds[j]?=some t->t.blk x->x<w.heap.size:=λht hk=>by
   obtain ⟨_,_,_,_,_,hw⟩:=A.files.Ak0 ht
   exact hw.in.Em hk
  rw [List.getElem?_set] at ht ht'
  by_cases hij:i=j
  ·subst hij
   rw [if_pos rfl,if_pos hil] at ht
   cases ht
   rw [if_neg (by omega)] at ht'
   rcases hn x hx with h|h
   ·exact A.files.dd i k s t' hjk hs ht' x h hx'
   ·have:=old ht' hx';omega
  ·rw [if_neg hij] at ht
   by_cases hik:i=k
   ·subst hik
    rw [if_pos rfl,if_pos hil] at ht'
    cases ht'
    rcases hn x hx' with h|h
    ·exact A.files.dd j i t s hjk ht hs x hx h
    ·have:=old ht hx;omega
   ·rw [if_neg hik] at ht'
    exact A.files.dd j k t t' hjk ht ht' x hx hx'
 ·rw [List.getElem?_set] at ht hg2
  by_cases hij:i=j
  ·subst hij
   rw [if_pos rfl,if_pos hil] at ht
   rw [if_pos rfl,if_pos hgl] at hg2
   cases ht;cases hg2
   rw [hb] at hb2;cases hb2
   exact ⟨hb',ho⟩
  ·rw [if_neg hij] at ht hg2
   obtain ⟨h1,h2⟩:=A.files.at_ j b' t g2 hb2 ht hg2
   have hne:b'≠b:=λe=>by
    subst e
    obtain ⟨x1,x2⟩:=List.getElem?_eq_some_iff.1 hb
    obtain ⟨y1,y2⟩:=List.getElem?_eq_some_iff.1 hb2
    exact hij ((List.getElem_inj A.files.nd).1 (x2.trans y2.symm))
   refine ⟨u.get h1 λhk=>?_,h2.upd u λk _ hk hSk=>?_⟩
   ·rcases hS _ hk (lt_of_heap h1) with h|h
    ·exact hne h
    ·obtain ⟨c,fr,hc⟩:=hown.in.Bc h
     rw [h1] at hc;cases hc
   ·rcases hS _ hSk (h2.in.Em hk) with h|h
    ·exact nbyte ht hk h
    ·rcases Nat.lt_or_gt_of_ne hij with hlt|hlt
     ·exact A.files.dd i j s t hlt hs ht k h hk
     ·exact A.files.dd j i t s hlt ht hs k hk h
 ·rcases List.mem_or_eq_of_mem_set ht with h|h
  ·exact .inl (A.fds t h k hk)
  ·subst h;exact .inr hk
 ·rcases hk with hk|hk
  ·exact Nat.lt_of_lt_of_le (A.lt k hk) u.size
  ·exact ho.in.Em hk
theorem Yd {l:List Nat}{i b:Nat}(h:i<l.length):(l++[b]).getD i 0=l.getD i 0:=by
 rw [List.getD_eq_getElem?_getD,List.getD_eq_getElem?_getD,List.getElem?_append_left h]
theorem Fh.grow (h:Fh w m fb f) (b:Nat):Fh w m (fb++[b]) f:=by
 obtain ⟨⟨es,h1,h2⟩,h3⟩:=h
 refine ⟨⟨es,h1,λk=>?_⟩,λk i hi=>by have:=h3 k i hi;simp;omega⟩
 rw [h2]
 cases hk:f k with
 |none=>rfl
 |some i=>simp only [Option.map_some,Yd (h3 k i hk)]
theorem Np.grow {v:Value}{a:Nh}(h:Np w F fb v a) (b:Nat):Np w F (fb++[b]) v a:=by
 cases a with
 |rm n=>exact h
 |mk n i=>obtain ⟨b1,b2,h1,h2,h3,h4,h5,h6⟩:=h;exact ⟨b1,b2,h1,by rw [Yd h6];exact h2,h3,h4,h5,by simp;omega⟩
 |mv x y i=>obtain ⟨b1,b2,h1,h2,h3,h4,h5,h6⟩:=h;exact ⟨b1,b2,h1,by rw [Yd h6];exact h2,h3,h4,h5,by simp;omega⟩
theorem Rh (A:Dw w d F D ms ml sa pl vs fb ds) (hN:D.files.length<=2^60){K:Option Addr->Wp}
  (hK:∀b w',Dw w' d (λk=>F k\/k=b) { D with files:=D.files++[⟨[],0,0⟩] } ms ml sa pl vs (fb++[b]) (ds++[⟨none,0,0⟩])->Upd (λk=>k=d) w w'->w.heap.size<=b->K (some (at0 b)) w') :
  Aa Tryz.prog 61 #[.pointer (some (at0 d))] rP K w:=by
 refine j61 ?_
 unfold F61
 have el:IntKind.wrap .i64 ((D.files.length:Int)+1)=((D.files.length+1:Nat):Int):=by rw [IntWalk.i64_in _ ⟨by omega,by omega⟩];omega
 refine Af ?_
 rw [addr_add,Nat.zero_add]
 refine Ah A.box (x:=(D.files.length:Int)) rfl (Af ?_)
 rw [addr_add,el,Nat.zero_add]
 refine Ei A.box (by simp) λw1 u1 n1 _=>Af ?_
 rw [addr_add,Nat.zero_add]
 refine Ah n1 (x:=((D.files.length+1:Nat):Int)) rfl ?_
 refine Aq λb w2 e2 n2 hb _=>?_
 have hlf:=A.files.lf
 have hld:=A.files.ld
 have no:∀t:TypeId,107≠t->Cc w (λk=>k=d) t:=λt ht=>Cc.box A.box ht
 have nm:∀m,(∃o c,w.heap[m]?=some (.map o c))->¬(λk=>k=d) m:=by
  rintro m ⟨o,c,hm⟩ rfl
  rw [A.box] at hm;cases hm
 have u2:Upd (λk=>k=d) w w2:=u1.trans (Upd.Aj e2)
 have hfo:=A.files.ty u2 (no _ (by decide)) (no _ (by decide))
 have hs1:=u1.size
 have n1':w1.heap[d]?=some (Zv { D with files:=D.files++[⟨[],0,0⟩] } ms ml sa pl):=by rw [n1];simp [Zv]
 refine hK b w2 ⟨e2.ext_get n1',(A.seen.grow b).upd u2 (nm _ A.seen.Ed),(A.lasts.grow b).upd u2 (nm _ A.lasts.Ed),⟨by simp [hlf],by simp [hld],?_,λj k t t' hjk ht ht' x hx hx'=>?_,λj b' t g hb' ht hg=>?_⟩,
  ⟨(A.acts.row.ty u2 (no _ (by decide))),A.acts.len,λi v a hv ha=>((A.acts.at_ i v a hv ha).grow b).ty u2 (no _ (by decide)) (no _ (by decide)) (no _ (by decide)) λ_ h=>.inl h⟩,
  A.plan.upd u2 (λm hm=>nm m (by subst hm;exact A.plan.Ed)) (no _ (by decide)) λ_ h=>.inl h,A.ne,A.nes,A.nel,.inl A.fd,.inl A.fms,.inl A.fml,λx hx=>?_,λt ht k hk=>?_,λk hk=>.inl (A.fsa k hk),λk hk=>?_⟩ u2 (by omega)
 ·rw [List.nodup_append]
  refine ⟨A.files.nd,by simp,λx hx y hy e=>?_⟩
  simp at hy
  have:=A.lt x (A.ffb x hx)
  omega
 ·have hne:∀{j:Nat} {t:Sl},(ds++[⟨none,0,0⟩])[j]?=some t->t.blk x->ds[j]?=some t:=λ{j t} ht hk=>by
   by_cases hj:j<ds.length
   ·rwa [List.getElem?_append_left hj] at ht
   ·rw [List.getElem?_append_right (by omega)] at ht
    have:=List.mem_of_getElem? ht
    simp at this
    subst this
    obtain ⟨q,hq,_⟩:=hk
    cases hq
  exact A.files.dd j k t t' hjk (hne ht hx) (hne ht' hx') x hx hx'
 ·by_cases hj:j<D.files.length
  ·rw [List.getElem?_append_left (by omega)] at hb' ht hg
   exact hfo.at_ j b' t g hb' ht hg
  ·have hj':j=D.files.length:=by
    have:=(List.getElem?_eq_some_iff.1 hg).1
    simp at this;omega
   subst hj'
   have h1:(fb++[b])[D.files.length]?=some b:=by rw [←hlf];simp
   have h2:(ds++[(⟨none,0,0⟩:Sl)])[D.files.length]?=some ⟨none,0,0⟩:=by rw [←hld];simp
   have h3:(D.files++[(⟨[],0,0⟩:Fl)])[D.files.length]?=some ⟨[],0,0⟩:=by simp
   rw [h1] at hb';rw [h2] at ht;rw [h3] at hg
   cases hb';cases ht;cases hg
   refine ⟨?_,Au.nil _ _ _ _⟩
   rw [n2];simp [Rk]
 ·rcases List.mem_append.1 hx with h|h
  ·exact .inl (A.ffb x h)
  ·simp at h;exact .inr h
 ·rcases List.mem_append.1 ht with h|h
  ·exact .inl (A.fds t h k hk)
  ·simp at h
   subst h
   obtain ⟨q,hq,_⟩:=hk
   cases hq
 ·rcases hk with hk|rfl
  ·exact Nat.lt_of_lt_of_le (A.lt k hk) u2.size
  ·exact lt_of_heap n2
structure Half (w:World) (d:Nat) (F:Nat->Prop) (D:Dk) (g:Dir) (ms ml:Nat) (sa:Sl) (pl:Option Nat) (fb:List Nat) (ds:List Sl):Prop where
 box:w.heap[d]?=some (Zv D ms ml sa pl)
 seen:Fh w ms fb g
 files:Hq w fb ds D.files
 plan:Ou w F pl D.plan
 nes:pl≠some ms
 fd:F d
 fms:F ms
 ffb:∀b∈fb,F b
 fds:∀s∈ds,∀k,s.blk k->F k
 lt:∀k,F k->k<w.heap.size
theorem Dw.half (A:Dw w d F D ms ml sa pl vs fb ds):Half w d F D D.seen ms ml sa pl fb ds:=⟨A.box,A.seen,A.files,A.plan,A.nes,A.fd,A.fms,A.ffb,A.fds,A.lt⟩
theorem O4 {g:Dir}(A:Half w d F D g ms ml sa pl fb ds){K:Unit->Wp}(hK:∀m' w',Dw w' d (λk=>F k\/k=m') { D with lasts:=g,acts:=[] } ms m' ⟨none,0,0⟩ pl [] fb ds->Upd (λk=>k=d) w w'->w.heap.size<=m'->K () w') :
  Aa Tryz.prog 62 #[.pointer (some (at0 d))] (.tup []) K w:=by
 refine j62 ?_
 unfold F62
 refine Af ?_
 rw [addr_add]
 refine Ah A.box (x:=some ms) rfl (Zb A.seen λm' w1 h1 e1 hm'=>Af ?_)
 rw [addr_add]
 refine Ei (e1.ext_get A.box) (by simp) λw2 u2 n2 _=>Af ?_
 rw [addr_add]
 refine Ei n2 (by simp) λw3 u3 n3 _=>?_
 have u:Upd (λk=>k=d) w w3:=((Upd.Aj e1).trans u2).trans u3
 have no:∀t:TypeId,107≠t->Cc w (λk=>k=d) t:=λt ht=>Cc.box A.box ht
 have nm:∀m,(∃o c,w.heap[m]?=some (.map o c))->¬(λk=>k=d) m:=by
  rintro m ⟨o,c,hm⟩ rfl
  rw [A.box] at hm;cases hm
 have hd:=lt_of_heap A.box
 have hml:∀k,F k->k≠m':=λk hk e=>by have:=A.lt k hk;omega
 refine hK m' w3 ⟨?_,?_,?_,A.files.ty u (no _ (by decide)) (no _ (by decide)),⟨Au.nil _ _ _ _,rfl,λi v a hv ha=>by simp at hv⟩,A.plan.upd u (λm hm=>nm m (by subst hm;exact A.plan.Ed)) (no _ (by decide)) λ_ h=>.inl h,hml _ A.fms,A.nes,λe=>?_,.inl A.fd,.inl A.fms,.inr rfl,λb hb=>.inl (A.ffb b hb),λt ht k hk=>.inl (A.fds t ht k hk),λk hk=>(by obtain ⟨q,hq,_⟩:=hk;cases hq),λk hk=>?_⟩ u (by omega)
 ·rw [n3];simp [Zv]
 ·exact A.seen.upd u (nm _ A.seen.Ed)
 ·show Fh w3 m' fb g
  have hne:¬(λk=>k=d) m':=λe=>hml _ A.fd e.symm
  exact (h1.upd u2 hne).upd u3 hne
 ·rcases A.plan with ⟨h,_⟩|⟨m,es,g1,g2,_⟩
  ·rw [h] at e;cases e
  ·rw [g1] at e;cases e;exact hml _ g2 rfl
 ·rcases hk with hk|rfl
  ·exact Nat.lt_of_lt_of_le (A.lt k hk) u.size
  ·obtain ⟨o,c,hm⟩:=h1.Ed
   exact Nat.lt_of_lt_of_le (lt_of_heap hm) (u2.trans u3).size
theorem Ao0 (A:Dw w d F D ms ml sa pl vs fb ds){K:Unit->Wp}(hK:∀m' w',Dw w' d (λk=>F k\/k=m') (Dsk.settle D) ms m' ⟨none,0,0⟩ pl [] fb ds->Upd (λk=>k=d) w w'->w.heap.size<=m'->K () w') :
  Aa Tryz.prog 62 #[.pointer (some (at0 d))] (.tup []) K w:=O4 A.half hK
theorem Vq {b i:Nat}{s:Sl}{g:Fl}(hb:w.heap[b]?=some (Rk i s g)){K:Unit->Wp}(hK:∀w',w'.heap[b]?=some (Rk i s ⟨g.data,s.len,g.count⟩)->Upd (λk=>k=b) w w'->w'.heap.size=w.heap.size->K () w') :
  Aa Tryz.prog 64 #[.pointer (some (at0 b))] (.tup []) K w:=by
 refine j64 ?_
 unfold F64
 refine Af ?_
 rw [addr_add]
 refine Ah hb (x:=s) rfl (Af ?_)
 rw [addr_add]
 refine Ei hb (by simp) λw1 u1 n1 hz=>hK w1 ?_ u1 hz
 rw [n1];simp [Rk]
theorem Xg {b i:Nat}{s:Sl}{g:Fl}{more:Int}(hb:w.heap[b]?=some (Rk i s g)) (o:En w 0 s g.data) (h1:g.synced<=g.data.length) (h2:g.data.length<=2^40){K:Unit->Wp}
  (hK:∀s' w',w'.heap[b]?=some (Rk i s' (g.cut more))->En w' 0 s' (g.cut more).data->(∀k,s'.blk k->s.blk k)->Upd (λk=>k=b) w w'->K () w') :
  Aa Tryz.prog 72 #[.pointer (some (at0 b)),.int .i64 more] (.tup []) K w:=by
 refine j72 ?_
 unfold F72
 have hl:=o.len1
 rw [List.length_map] at hl
 have hle:=o.le
 refine Dh λw0 e0 _=>?_
 have hb:=e0.ext_get hb
 have o:=o.ext e0
 simp only [Tj,addr_add,Nat.zero_add]
 refine Ah hb (x:=(g.synced:Int)) rfl (Af (Ah hb (x:=s) rfl (Af (Ah hb (x:=(g.synced:Int)) rfl (Af (Ah hb (x:=s) rfl ?_))))))
 obtain ⟨n,hn⟩:∃n:Nat,n=g.synced+(min (max more 0).toNat (g.data.length-g.synced)):=⟨_,rfl⟩
 have hnl:n<=g.data.length:=by omega
 have e1:IntKind.wrap .i64 ((s.len:Int)-(g.synced:Int))=((s.len-g.synced:Nat):Int):=by rw [IntWalk.i64_in _ ⟨by omega,by omega⟩];omega
 rw [e1]
 have e2:(if ((s.len-g.synced:Nat):Int)<(if (0:Int)>more then (0:Int) else more) then ((s.len-g.synced:Nat):Int) else (if (0:Int)>more then (0:Int) else more))=((n-g.synced:Nat):Int):=by
  split<;>split at * <;> omega
 rw [e2]
 have e3:IntKind.wrap .i64 ((g.synced:Int)+((n-g.synced:Nat):Int))=(n:Int):=by rw [IntWalk.i64_in _ ⟨by omega,by omega⟩];omega
 rw [e3]
 refine Ce1 o (by omega) (by omega) (by omega) (by omega) (by omega) λs' o' hs' _ hbk=>?_
 have hcut:g.cut more=⟨g.data.take n,n,g.count⟩:=by simp only [Fl.cut,hn]
 have ee:((bv g.data).drop ((0:Int).toNat*1)).take (((n:Int).toNat-(0:Int).toNat)*1)=bv (g.data.take n):=by simp [bv,List.map_take]
 rw [ee] at o'
 refine Af (Ei hb (by simp) λw1 u1 n1 _=>?_)
 have n1':w1.heap[b]?=some (Rk i s' ⟨g.data.take n,g.synced,g.count⟩):=by rw [n1];simp [Rk]
 refine Vq n1' λw2 n2 u2 _=>?_
 have hs'':s'.len=n:=by rw [hs'];omega
 have u12:Upd (λk=>k=b) w0 w2:=u1.trans u2
 refine hK s' w2 ?_ ?_ hbk ((Upd.Aj e0).trans u12)
 ·rw [n2,hcut,hs'']
 ·rw [hcut]
  refine o'.upd u12 λk _ hk e=>?_
  obtain ⟨c,fr,hc⟩:=o'.in.Bc hk
  rw [e,hb] at hc;cases hc
end
end Dq
end Go.Proofs.YtmooldhpiopcgaaGreatDoor
namespace Go.Proofs.YtmooldhpiopcgaaGreatDoor
namespace Dq
open Go Go.Vx Dsk
section
variable {w w':World}{S F F':Nat->Prop}{d m ms ml:Nat}{f:Dir}{fb:List Nat}{ds:List Sl}{fs:List Fl}{sa:Sl}{vs:List Value}{D:Dk}{pl:Option Nat}{p:Int->Option Bq}{N:Nat}
theorem Dw.Nu (A:Dw w d F D ms ml sa pl vs fb ds){i:Nat}(hi:i<D.files.length):∃b s g,fb[i]?=some b/\ds[i]?=some s/\D.files[i]?=some g/\fb.getD i 0=b/\fl D i=g/\w.heap[b]?=some (Rk i s g)/\En w 0 s g.data:=by
 have h1:=A.files.lf
 have h2:=A.files.ld
 obtain ⟨b,hb⟩:∃b,fb[i]?=some b:=⟨_,List.getElem?_eq_getElem (by omega)⟩
 obtain ⟨s,hs⟩:∃s,ds[i]?=some s:=⟨_,List.getElem?_eq_getElem (by omega)⟩
 obtain ⟨g,hg⟩:∃g,D.files[i]?=some g:=⟨_,List.getElem?_eq_getElem hi⟩
 obtain ⟨x1,x2⟩:=A.files.at_ i b s g hb hs hg
 exact ⟨b,s,g,hb,hs,hg,by rw [List.getD_eq_getElem?_getD,hb];rfl,by unfold Dsk.fl;rw [List.getD_eq_getElem?_getD,hg];rfl,x1,x2⟩
theorem Ab9 {es done:List (Dv ByteArray)}{o:Option Nat}(hp:(done.map (Dv.ent Key.str)).Perm (es.map (Dv.ent Key.str))) (hl:Lists D.seen (es.map (·.1))):Gz (done.map λy=>weigh D o y.1)=Bv D o:=by
 rw [Bb3 hl,List.map_map]
 have h5:=hp.map λe:MapEntry=>match e.key with | .string k=>weigh D o k|_=>0
 rw [List.map_map,List.map_map] at h5
 exact Ac9 h5
theorem Bg1 (A:Dw w d F D ms ml sa pl vs fb ds) (ok:Bl D N){K:Int->Wp}(hK:∀w',Ext w w'->K (room D) w'):Aa Tryz.prog 202 #[.pointer (some (at0 d))] rI K w:=by
 refine Cr1 ?_
 unfold F202
 have hsp:=ok.space
 have hu:=ok.used none
 refine Af (Ah A.box (x:=D.space) rfl ?_)
 refine Ag (λx w'=>x=(D.space-Bv D none,())/\Ext w w') ?_ ?_
 ·refine Af ?_
  rw [addr_add]
  refine Ah A.box (x:=some ms) rfl (A.seen.range λr w1 es hi e1 hr hm hg hl=>?_)
  have hcap:es.length<=16:=by
   obtain ⟨l,h1,h2⟩:=ok.seen.few
   have:=(Oh hl h1).length_eq
   rw [List.length_map] at this;omega
  refine Bz (λs' w'=>∃(done:List (Dv ByteArray)),Iter w' r ms (es.map (Dv.ent Key.str)) (done.map (Dv.ent Key.str))/\s'=(D.space-Gz (done.map λy=>weigh D none y.1),())/\Ext w w'/\done.length<=es.length) (λs' w'=>es.length-(match w'.heap[r]? with|some (.mapIter _ _ seen _)=>seen.size|_=>0)) ⟨[],hi,by simp [Gz],e1,Nat.zero_le _⟩ ?_
  rintro _ w2 ⟨done,hi2,rfl,e2,hdl⟩
  dsimp only
  have size_of:∀{W:World} {done:List (Dv ByteArray)},Iter W r ms (es.map (Dv.ent Key.str)) (done.map (Dv.ent Key.str))->(match W.heap[r]? with|some (.mapIter _ _ seen _)=>seen.size|_=>0)=done.length:=λh=>by
   obtain ⟨c,_,_,g3⟩:=h.at_
   rw [g3];simp
  have bound:∀dn:List (Dv ByteArray),dn.length<=16->0<=Gz (dn.map λy=>weigh D none y.1)/\Gz (dn.map λy=>weigh D none y.1)<=16777216:=λdn hdn=>by
   refine ⟨Ox λx hx=>?_,?_⟩
   ·obtain ⟨n,_,rfl⟩:=List.mem_map.1 hx;exact Nq D none _
   ·have:=Vz (l:=dn.map λy=>weigh D none y.1) (B:=1048576) λx hx=>by
     obtain ⟨n,_,rfl⟩:=List.mem_map.1 hx;exact ok.weigh none _
    rw [List.length_map] at this
    have h4:(dn.length:Int)*1048576<=16*1048576:=Int.mul_le_mul_of_nonneg_right (by omega) (by decide)
    omega
  refine Ax5 hi2 (λw3 e3 _ hp=>Ap ⟨?_,e2.trans e3⟩) λx w3 hx hxd hi3 u3 hz3=>Di ?_
  ·rw [Ab9 hp hl]
  ·obtain ⟨y,i,hy,rfl,hfy,hv⟩:=Yi hm hg hx
   have e3:Ext w w3:=e2.step u3 (by rintro k rfl;exact hr)
   refine Ak5 hi3 (y.1,some (at0 (fb.getD i 0)),()) (by simp only [Dv.ent,hv];rfl) (Af ?_)
   have A3:=A.ext e3
   have hil:i<D.files.length:=by have:=A.seen.ids y.1 i hfy;have:=A.files.lf;omega
   obtain ⟨b,s,g,_,_,_,hgb,hfl,hbx,hby⟩:=A3.Nu hil
   rw [hgb,addr_add]
   refine Ah hbx (x:=s) rfl ?_
   have hsl:=hby.len1
   rw [List.length_map] at hsl
   have hw:weigh D none y.1=(s.len:Int):=by
    unfold weigh;rw [hfy];dsimp only;rw [if_neg (by simp),hfl];omega
   have hi3':Iter w3 r ms (es.map (Dv.ent Key.str)) ((done++[y]).map (Dv.ent Key.str)):=by simpa using hi3
   have hdn:(done++[y]).length<=es.length:=by
    have h6:=List.Nodup.length_le_of_subset (Jg hi3'.dnd) hi3'.sub
    simpa using h6
   have hb1:=bound done (by omega)
   have hb2:=bound (done++[y]) (by omega)
   have hsum:Gz ((done++[y]).map λy=>weigh D none y.1)=Gz (done.map λy=>weigh D none y.1)+(s.len:Int):=by
    rw [List.map_append,Yp];simp [Gz,hw]
   have ew:IntKind.wrap .i64 (D.space-Gz (done.map λy=>weigh D none y.1)-(s.len:Int))=D.space-Gz ((done++[y]).map λy=>weigh D none y.1):=by
    rw [hsum,IntWalk.i64_in _ ⟨by omega,by omega⟩];omega
   rw [ew]
   refine ⟨⟨done++[y],hi3',rfl,e3,hdn⟩,?_⟩
   rw [size_of hi3',size_of hi2]
   simp at hdn ⊢;omega
 ·rintro _ w1 ⟨rfl,e1⟩
  dsimp only
  have e:(if (0:Int)>D.space-Bv D none then (0:Int) else D.space-Bv D none)=room D:=by
   unfold room;split<;>omega
  rw [e]
  exact hK w1 e1
def FN (w:World) (F:Nat->Prop) (k:Nat):Prop:=F k/\∀c fr,w.heap[k]?≠some (.cells c 3 fr)
theorem FN.of (h:F m){o:Obj}(hm:w.heap[m]?=some o) (ho:∀c fr,o≠.cells c 3 fr):FN w F m:=⟨h,λc fr hc=>ho c fr (by rw [hm] at hc;cases hc;rfl)⟩
theorem Aa5 (A:Dw w d F D ms ml sa pl vs fb ds){v:Value}{a:Nh}(ha:Np w F fb v a) (ho:Du v=true) (hn:D.acts.length<=2^30){K:Unit->Wp}
  (hK:∀sa' w',Dw w' d (λk=>F k\/sa'.blk k) { D with acts:=D.acts++[a] } ms ml sa' pl (vs++[v]) fb ds->Upd (FN w F) w w'->(∀k,sa'.blk k->F k\/w.heap.size<=k)->K () w') :
  Aa Tryz.prog 104 #[.pointer (some (at0 d)),v] (.tup []) K w:=by
 refine j104 ?_
 unfold F104
 have hseen:(({ D with acts:=D.acts++[a] }:Dk)).seen=a.on D.seen:=by simp only [Dk.seen,Qv]
 refine Af ?_
 rw [addr_add]
 refine Ah A.box (x:=some ms) rfl (As5 ha A.seen λw1 h1 u1=>Af ?_)
 obtain ⟨o,c,hmap⟩:=A.seen.Ed
 have no:∀t:TypeId,Cc w (λk=>k=ms) t:=λt=>Cc.map hmap
 have b1:=u1.get A.box λe=>by
  have hb:=A.box
  rw [show d=ms from e,hmap] at hb;cases hb
 have l1:=A.lasts.upd u1 λe=>A.ne e.symm
 have f1:=A.files.ty u1 (no _) (no _)
 have a1:=A.acts.ty u1 (no _) (no _) (no _) (no _) λ_ h=>h
 have p1:=A.plan.upd u1 (λm hm e=>A.nes (by rw [hm];exact congrArg some e)) (no _) λ_ h=>h
 have hal:=a1.row.len1
 have hlen:=a1.len
 rw [addr_add]
 refine Ah b1 (x:=sa) rfl (Gf (by simp [Ph,ho]) (Aq λb6 w2 e2 n2 _ _=>?_))
 have one:Cj w2 ⟨some (at0 b6),1,1⟩ 147 1 [v]:=Cj.Jq (n:=1) (sz:=1) n2 rfl
 have hs1:=u1.size
 have hs2:=e2.size
 refine Ua (x:=⟨some (at0 b6),1,1⟩) EA uA (a1.row.ext e2) one (λu hu=>by simp at hu;subst hu;exact ho) (by dsimp only;omega) (Nat.zero_le _) λsa' w3 o3 _ u3 hb3=>Af ?_
 have nb:∀t:TypeId,t≠147->Cc w2 sa.blk t:=λt ht=>Cc.blk (a1.row.ext e2).in ht.symm
 have nm:∀m,(∃o c,w2.heap[m]?=some (.map o c))->¬sa.blk m:=λm ⟨o,c,hm⟩ hk=>by
  obtain ⟨c',fr,hc⟩:=(a1.row.ext e2).in.Bc hk
  rw [hm] at hc;cases hc
 have b3:=u3.get (e2.ext_get b1) λhk=>nb 107 (by decide) d hk _ _ (e2.ext_get b1)
 rw [addr_add]
 refine Ei b3 (by simp) λw4 u4 n4 _=>?_
 have h2:=h1.upd e2 id
 have l2:=l1.upd e2 id
 have h3:=h2.upd u3 (nm _ h2.Ed)
 have l3:=l2.upd u3 (nm _ l2.Ed)
 have f3:=(f1.ty e2 (λ_ h=>h.elim) (λ_ h=>h.elim)).ty u3 (nb _ (by decide)) (nb _ (by decide))
 have p2:=p1.upd e2 (λ_ _=>id) (λ_ h=>h.elim) λ_ h=>h
 have p3:=p2.upd u3 (λm hm=>nm m (by subst hm;exact p2.Ed)) (nb _ (by decide)) λ_ h=>h
 have a3:∀(i:Nat) (u:Value) (x:Nh),vs[i]?=some u->D.acts[i]?=some x->Np w3 F fb u x:=λi u x hu hx=>((a1.at_ i u x hu hx).ty e2 (λ_ h=>h.elim) (λ_ h=>h.elim) (λ_ h=>h.elim) λ_ h=>h).ty u3 (nb _ (by decide)) (nb _ (by decide)) (nb _ (by decide)) λ_ h=>h
 have ha3:Np w3 F fb v a:=((ha.ty u1 (no _) (no _) (no _) λ_ h=>h).ty e2 (λ_ h=>h.elim) (λ_ h=>h.elim) (λ_ h=>h.elim) λ_ h=>h).ty u3 (nb _ (by decide)) (nb _ (by decide)) (nb _ (by decide)) λ_ h=>h
 have nd:∀t:TypeId,107≠t->Cc w3 (λk=>k=d) t:=λt ht=>Cc.box b3 ht
 have nmd:∀m,(∃o c,w3.heap[m]?=some (.map o c))->¬(λk=>k=d) m:=by
  rintro m ⟨o,c,hm⟩ rfl
  rw [b3] at hm;cases hm
 have u14:Upd (FN w F) w w4:=by
  refine ((u1.mono λk _ e=>by rw [e];exact FN.of A.fms hmap λc fr h=>by cases h).trans (Upd.Aj e2)).trans ((u3.mono λk _ hk=>?_).trans (u4.mono λk _ e=>by rw [e];exact FN.of A.fd A.box λc fr h=>by cases h))
  obtain ⟨c,fr,hc⟩:=A.acts.row.in.Bc hk
  exact FN.of (A.fsa k hk) hc λc fr h=>by cases h
 have o4:=o3.ty u4 (nd _ (by decide))
 refine hK sa' w4 ⟨?_,?_,l3.upd u4 (nmd _ l3.Ed),f3.ty u4 (nd _ (by decide)) (nd _ (by decide)),⟨o4,by simp [hlen],λi u x hu hx=>?_⟩,p3.upd u4 (λm hm=>nmd m (by subst hm;exact p3.Ed)) (nd _ (by decide)) λ_ h=>.inl h,A.ne,A.nes,A.nel,.inl A.fd,.inl A.fms,.inl A.fml,λb hb=>.inl (A.ffb b hb),λt ht k hk=>.inl (A.fds t ht k hk),λk hk=>.inr hk,λk hk=>?_⟩ u14 (λk hk=>(hb3 k hk).imp (A.fsa k) λh=>by omega)
 ·rw [n4];simp [Zv]
 ·rw [hseen];exact h3.upd u4 (nmd _ h3.Ed)
 ·have go:∀{u:Value} {x:Nh},Np w3 F fb u x->Np w4 (λk=>F k\/sa'.blk k) fb u x:=λh=>h.ty u4 (nd _ (by decide)) (nd _ (by decide)) (nd _ (by decide)) λ_ h=>.inl h
  by_cases hi:i<vs.length
  ·rw [List.getElem?_append_left hi] at hu
   rw [List.getElem?_append_left (by omega)] at hx
   exact go (a3 i u x hu hx)
  ·rw [List.getElem?_append_right (by omega)] at hu
   rw [List.getElem?_append_right (by omega)] at hx
   have h1:=List.mem_of_getElem? hu
   have h2:=List.mem_of_getElem? hx
   simp at h1 h2
   subst h1 h2
   exact go ha3
 ·rcases hk with hk|hk
  ·exact Nat.lt_of_lt_of_le (A.lt k hk) u14.size
  ·exact o4.in.Em hk
end
end Dq
end Go.Proofs.YtmooldhpiopcgaaGreatDoor
namespace Go.Proofs.YtmooldhpiopcgaaGreatDoor
namespace Dq
open Go Go.Vx Dsk
section
variable {w w':World}{S F F':Nat->Prop}{d m ms ml:Nat}{f:Dir}{fb:List Nat}{ds:List Sl}{fs:List Fl}{sa:Sl}{vs:List Value}{D:Dk}{pl:Option Nat}{p:Int->Option Bq}{N:Nat}
theorem Hq.set (A:Hq w fb ds fs){i b:Nat}{s s':Sl}{g g':Fl}(hb:fb[i]?=some b) (hs:ds[i]?=some s) (hg:fs[i]?=some g) (u:Upd (λk=>k=b) w w')
  (hb':w'.heap[b]?=some (Rk i s' g')) (ho:En w' 0 s' g'.data) (hn:∀k,s'.blk k->s.blk k):Hq w' fb (ds.set i s') (fs.set i g'):=by
 obtain ⟨hbox,hown⟩:=A.at_ i b s g hb hs hg
 have hil:=(List.getElem?_eq_some_iff.1 hs).1
 have hgl:=(List.getElem?_eq_some_iff.1 hg).1
 refine ⟨by simp [A.lf],by simp [A.ld],A.nd,λj k t t' hjk ht ht' x hx hx'=>?_,λj b' t g2 hb2 ht hg2=>?_⟩
 ·rw [List.getElem?_set] at ht ht'
  by_cases hij:i=j
  ·subst hij
   rw [if_pos rfl,if_pos hil] at ht
   cases ht
   rw [if_neg (by omega)] at ht'
   exact A.dd i k s t' hjk hs ht' x (hn x hx) hx'
  ·rw [if_neg hij] at ht
   by_cases hik:i=k
   ·subst hik
    rw [if_pos rfl,if_pos hil] at ht'
    cases ht'
    exact A.dd j i t s hjk ht hs x hx (hn x hx')
   ·rw [if_neg hik] at ht'
    exact A.dd j k t t' hjk ht ht' x hx hx'
 ·rw [List.getElem?_set] at ht hg2
  by_cases hij:i=j
  ·subst hij
   rw [if_pos rfl,if_pos hil] at ht
   rw [if_pos rfl,if_pos hgl] at hg2
   cases ht;cases hg2
   rw [hb] at hb2;cases hb2
   exact ⟨hb',ho⟩
  ·rw [if_neg hij] at ht hg2
   obtain ⟨h1,h2⟩:=A.at_ j b' t g2 hb2 ht hg2
   have hne:b'≠b:=λe=>by
    subst e
    obtain ⟨x1,x2⟩:=List.getElem?_eq_some_iff.1 hb
    obtain ⟨y1,y2⟩:=List.getElem?_eq_some_iff.1 hb2
    exact hij ((List.getElem_inj A.nd).1 (x2.trans y2.symm))
   refine ⟨u.get h1 hne,h2.upd u λk _ hk e=>?_⟩
   obtain ⟨c,fr,hc⟩:=h2.in.Bc hk
   rw [e,hbox] at hc;cases hc
theorem Bz0 (l:List Value):l.map (Cell.any).val=l:=by
 have:(Cell.any).val=(id:Value->Value):=rfl
 rw [this,List.map_id]
def Lie (P:Nat->Prop) (s:Sl):Prop:=s.len=0\/∀k,s.blk k->P k
def CutIn (w:World) (F:Nat->Prop) (s:Sl) (bytes:List Int):Prop:=SlX w s 1 (iv bytes)/\(Lie (λk=>¬F k) s\/Ints w s bytes)
theorem SlX.zero {s:Sl}{sz:Nat}{us:List Value}(h:SlX w s sz us) (h0:s.len=0):SlX w' s sz us:=⟨.inl ⟨h0,by have:=h.len;rw [h0,Nat.zero_mul] at this;exact List.length_eq_zero_iff.1 this⟩⟩
theorem SlX.Cd4 {s:Sl}{sz:Nat}{us:List Value}(h:SlX w s sz us) (u:Upd S w w') (hS:∀k,s.blk k->¬S k):SlX w' s sz us:=⟨h.at_.imp id λ⟨t,h⟩=>⟨t,h.upd u hS⟩⟩
theorem SlX.Bm0 {P:Nat->Prop}{s:Sl}{sz:Nat}{us:List Value}(h:SlX w s sz us) (hl:Lie P s) (u:Upd S w w') (hS:∀k,P k->¬S k):SlX w' s sz us :=
 hl.elim (λh0=>SlX.zero h h0) λhl=>SlX.Cd4 h u λk hk=>hS k (hl k hk)
theorem CutIn.upd {s:Sl}{bytes:List Int}(h:CutIn w F s bytes) (u:Upd S w w') (h1:∀k,S k->k<w.heap.size->F k) (h2:Cc w S 3) (hl:∀k,F k->k<w.heap.size):CutIn w' F s bytes:=by
 obtain ⟨hx,(h|h)|h⟩:=h
 ·exact ⟨SlX.zero hx h,.inl (.inl h)⟩
 ·refine ⟨⟨hx.at_.imp id λ⟨t,g⟩=>⟨t,g.upd u λk hk hS=>h k hk (h1 k hS (g.Em hk))⟩⟩,.inl (.inr h)⟩
 ·have:=h.ty u h2
  exact ⟨this.x,.inr this⟩
theorem Z7 (A:Dw w d F D ms ml sa pl vs fb ds) (ok:Bl D N) (hN:N<=2^60){c:Int×Sl×Unit}{bytes:List Int}(hc:CutIn w F c.2.1 bytes){K:Unit->Wp}
  (hK:∀F' w',Ce w' d F' (crash D c.1 bytes)->Upd F w w'->(∀k,F' k->F k\/w.heap.size<=k)->K () w') :
  Aa Tryz.prog 40 #[.pointer (some (at0 d)),.agg (Cells.vals c72 c).toArray] (.tup []) K w:=by
 obtain ⟨nm,sc,⟨⟩⟩:=c
 refine j40 (a1:=(nm,sc,())) ?_
 unfold F40
 dsimp only at hc hK ⊢
 refine Aq λb1 w1 e1 n1 hb1 _=>Af ?_
 have A1:=A.ext e1
 have hc1:CutIn w1 F sc bytes:=hc.upd e1 (λ_ h=>h.elim) (λ_ h=>h.elim) A.lt
 rw [addr_add]
 refine Ah A1.box (x:=D.down) rfl (Ac (λhd=>?_) (λhd=>?_))
 ·have e:crash D nm bytes=D:=by unfold crash;rw [if_pos hd]
  rw [e] at hK
  exact hK F w1 A1.in (Upd.Aj e1) λk hk=>.inl hk
 obtain ⟨k0,hk0⟩:∃k0,k0=min (max nm 0).toNat D.acts.length:=⟨_,rfl⟩
 have hgood:=ok.good k0
 have hcr:crash D nm bytes={ D with lasts:=Ez (D.acts.take k0) D.lasts,acts:=[],files:=Ij (Ez (D.acts.take k0) D.lasts) bytes (names (Ez (D.acts.take k0) D.lasts)) 0 D.files,down:=true }:=by
  unfold crash;rw [if_neg (by rw [hd];simp),hk0]
 rw [hcr] at hK
 have hal:=A1.acts.row.len1
 have hlen:=A1.acts.len
 have hacts:=ok.acts
 have hml:=A1.lasts.Ed
 obtain ⟨lo,lc,hmlo⟩:=hml
 refine Ag (λ_ w'=>Fh w' ml fb (Ez (D.acts.take k0) D.lasts)/\Upd (λk=>k=ml) w1 w') ?_ ?_
 ·refine Dh λw2 e2 _=>Af ?_
  have A2:=A1.ext e2
  rw [addr_add]
  refine Ah A2.box (x:=sa) rfl (Ah (e2.ext_get n1) (x:=nm) rfl (Af ?_))
  rw [addr_add]
  refine Ah A2.box (x:=sa) rfl ?_
  have ei:(if (sa.len:Int)<(if (0:Int)>nm then (0:Int) else nm) then (sa.len:Int) else (if (0:Int)>nm then (0:Int) else nm))=(k0:Int):=by
   have:sa.len=D.acts.length:=by omega
   split<;>split at * <;> omega
  rw [ei]
  have hle:=A2.acts.row.le
  have hk:k0<=sa.len:=by omega
  refine Qa A2.acts.row.in (by omega) (by omega) (by omega) (by omega) (by omega) λs3 i3 hs3 _ hb3=>?_
  have e3:(vs.drop ((0:Int).toNat*1)).take (((k0:Int).toNat-(0:Int).toNat)*1)=vs.take k0:=by simp
  rw [e3] at i3
  have hs3':s3.len=k0:=by rw [hs3];omega
  refine Bz (λs' w'=>∃j:Nat,j<=k0/\s'=((j:Int),())/\Fh w' ml fb (Ez (D.acts.take j) D.lasts)/\Upd (λk=>k=ml) w2 w') (λs' _=>(k0-s'.1).toNat) ⟨0,by omega,rfl,A2.lasts,Upd.refl _ _⟩ ?_
  rintro _ w4 ⟨j,hj,rfl,h4,u4⟩
  dsimp only
  have ej:IntKind.wrap .i64 ((j:Int)+1)=((j+1:Nat):Int):=by rw [IntWalk.i64_in _ ⟨by omega,by omega⟩];omega
  simp only [ej]
  have hmap2:=e2.ext_get hmlo
  have no:∀t:TypeId,Cc w2 (λk=>k=ml) t:=λt=>Cc.map hmap2
  refine Ac (λhd=>?_) (λhd=>?_)
  ·have hd:j<k0:=by have:=of_decide_eq_true hd;omega
   obtain ⟨v,hv⟩:∃v,vs[j]?=some v:=⟨_,List.getElem?_eq_getElem (by omega)⟩
   obtain ⟨a,ha⟩:∃a,D.acts[j]?=some a:=⟨_,List.getElem?_eq_getElem (by omega)⟩
   have i4:Cj w4 s3 147 1 ((vs.take k0).map (Cell.any).val):=by rw [Bz0];exact i3.ty u4 (no _)
   refine Zg (c:=.any) (xs:=vs.take k0) (x:=v) i4 (by omega) (by rw [Int.toNat_natCast,List.getElem?_take,if_pos hd];exact hv) λ_=>Af ?_
   rw [addr_add]
   have b4:=u4.get A2.box λe=>by
    have hb:=A2.box
    rw [show d=ml from e,hmap2] at hb;cases hb
   have ha4:=(A2.acts.at_ j v a hv ha).ty u4 (no _) (no _) (no _) λ_ h=>h
   refine Ah b4 (x:=some ml) rfl (As5 ha4 h4 λw5 h5 u5=>⟨⟨j+1,hd,rfl,?_,u4.trans u5⟩,by omega⟩)
   have et:D.acts.take (j+1)=D.acts.take j++[a]:=by rw [List.take_add_one,ha];rfl
   rw [et,Qv]
   exact h5
  ·have hd:j=k0:=by have:=of_decide_eq_false hd;omega
   subst hd
   exact ⟨h4,(Upd.Aj e2).trans u4⟩
 rintro _ w2 ⟨hl2,u2⟩
 generalize Ez (D.acts.take k0) D.lasts=l at hl2 hgood hK
 have no2:∀t:TypeId,Cc w1 (λk=>k=ml) t:=λt=>Cc.map hmlo
 have hs1:=e1.size
 have b2:=u2.get A1.box λe=>by
  have hb:=A1.box
  rw [show d=ml from e,hmlo] at hb;cases hb
 have n2:w2.heap[b1]?=some (.cells #[.int .i64 nm,sv sc] 72 (0,0)):=u2.get n1 λe=>by
  rw [show b1=ml from e,hmlo] at n1;cases n1
 have f2:=A1.files.ty u2 (no2 _) (no2 _)
 have p2:=A1.plan.upd u2 (λm hm e=>A.nel (by rw [hm];exact congrArg some e)) (no2 _) λ_ h=>h
 have c2:CutIn w2 F sc bytes:=hc1.upd u2 (λk hk _=>by rw [hk];exact A.fml) (no2 _) A1.lt
 have u02:Upd F w w2:=(Upd.Aj e1).trans (u2.mono λk _ e=>by rw [e];exact A.fml)
 refine Ag (λ_ w'=>∃ds',Hq w' fb ds' (Ij l bytes (names l) 0 D.files)/\(∀s∈ds',∀k,s.blk k->F k)/\Upd (λk=>k∈fb) w2 w') ?_ ?_
 ·refine Af ?_
  rw [addr_add]
  refine Ah b2 (x:=some ml) rfl (V9 hl2 (λq hq=>by
   obtain ⟨q',h1,h2⟩:=hgood.few
   have:=(Oh hq h1).length_eq
   omega) λs3 w3 o3 e3=>?_)
  obtain ⟨hnl,hnf⟩:=hgood.names
  have hs3:=o3.len1
  rw [List.length_map] at hs3
  have bnd:∀(i:Nat) (g:Fl),D.files[i]?=some g->g.synced<=g.data.length/\g.data.length<=2^40:=λi g hg=>by
   obtain ⟨h1,h2,_⟩:=ok.fil i g hg
   exact ⟨h2,by omega⟩
  refine Bz (λs' w'=>∃(j:Nat) (ds':List Sl) (fs':List Fl),j<=(names l).length/\s'=((j:Int),())/\Hq w' fb ds' fs'/\(∀s∈ds',∀k,s.blk k->F k)/\Upd (λk=>k∈fb) w3 w'/\Ij l bytes ((names l).drop j) j fs'=Ij l bytes (names l) 0 D.files/\fs'.length=D.files.length/\∀(i:Nat) (g:Fl),fs'[i]?=some g->g.synced<=g.data.length/\g.data.length<=2^40) (λs' _=>((names l).length-s'.1).toNat)
   ⟨0,ds,D.files,by omega,rfl,f2.upd e3 (λ_ _=>id) (λ_ _ _ _=>id),A.fds,Upd.refl _ _,rfl,rfl,bnd⟩ ?_
  rintro _ w4 ⟨j,ds4,fs4,hj,rfl,f4,hds4,u4,hcut,hfl,bnd4⟩
  dsimp only
  have ej:IntKind.wrap .i64 ((j:Int)+1)=((j+1:Nat):Int):=by rw [IntWalk.i64_in _ ⟨by omega,by omega⟩];omega
  simp only [ej]
  have f3:=f2.upd e3 (λ_ _=>id) (λ_ _ _ _=>id)
  have no4:∀t:TypeId,t≠123->Cc w3 (λk=>k∈fb) t:=λt ht k hk c fr hc=>by
   obtain ⟨i,s,g,_,_,_,hb,_⟩:=f3.Yc hk
   rw [hb] at hc;cases hc;exact ht rfl
  have nm4:∀m,(∃o c,w3.heap[m]?=some (.map o c))->¬(λk=>k∈fb) m:=λm ⟨o,c,hm⟩ hk=>by
   obtain ⟨i,s,g,_,_,_,hb,_⟩:=f3.Yc hk
   rw [hm] at hb;cases hb
  refine Ac (λhd=>?_) (λhd=>?_)
  ·have hd:j<(names l).length:=by have:=of_decide_eq_true hd;omega
   obtain ⟨n,hn⟩:∃n,(names l)[j]?=some n:=⟨_,List.getElem?_eq_getElem hd⟩
   refine Zg (c:=.str) (xs:=names l) (x:=n) (o3.in.ty u4 (no4 _ (by decide))) (by omega) (by simpa using hn) λ_=>?_
   have n4:=u4.get (e3.ext_get n2) λhk=>no4 72 (by decide) _ hk _ _ (e3.ext_get n2)
   have c4:=(c2.upd e3 (λ_ h=>h.elim) (λ_ h=>h.elim) (λk hk=>Nat.lt_of_lt_of_le (A.lt k hk) u02.size)).upd u4 (λk hk _=>A.ffb k hk) (no4 _ (by decide)) (λk hk=>Nat.lt_of_lt_of_le (A.lt k hk) (u02.trans (Upd.Aj e3)).size)
   have hcl:=c4.1.len1
   rw [List.length_map] at hcl
   refine Bj (bytes.getD j 0,()) ?_ ?_
   ·refine Ah n4 (x:=sc) rfl (Ac (λhi=>?_) (λhi=>⟨?_,rfl⟩))
    ·have hi:j<bytes.length:=by have:=of_decide_eq_true hi;omega
     refine Ah n4 (x:=sc) rfl ?_
     refine Ay2 (c:=.int .i64) (xs:=bytes) (x:=bytes.getD j 0) c4.1 (by omega) (by rw [Int.toNat_natCast];simp [hi]) λ_=>⟨rfl,rfl⟩
    ·have hi:¬j<bytes.length:=by have:=of_decide_eq_false hi;omega
     rw [List.getD_eq_getElem?_getD,List.getElem?_eq_none (by omega)];rfl
   dsimp only
   have b4:=u4.get (e3.ext_get b2) λhk=>no4 107 (by decide) _ hk _ _ (e3.ext_get b2)
   have l4:=(hl2.upd e3 id).upd u4 (nm4 _ (hl2.upd e3 id).Ed)
   refine Af ?_
   rw [addr_add]
   refine Ah b4 (x:=some ml) rfl (l4.look n ?_)
   obtain ⟨i,hi⟩:∃i,l n=some i:=Option.isSome_iff_exists.1 ((hnl.2 n).1 (List.mem_of_getElem? hn))
   have hil:i<fs4.length:=by rw [hfl];exact hgood.ids n i hi
   rw [hi]
   obtain ⟨b,hb⟩:∃b,fb[i]?=some b:=⟨_,List.getElem?_eq_getElem (by have:=f4.lf;omega)⟩
   obtain ⟨s,hs⟩:∃s,ds4[i]?=some s:=⟨_,List.getElem?_eq_getElem (by have:=f4.ld;omega)⟩
   obtain ⟨g,hg⟩:∃g,fs4[i]?=some g:=⟨_,List.getElem?_eq_getElem hil⟩
   obtain ⟨hbx,hby⟩:=f4.at_ i b s g hb hs hg
   have hgd:fb.getD i 0=b:=by rw [List.getD_eq_getElem?_getD,hb];rfl
   simp only [Option.map_some,hgd]
   obtain ⟨g1,g2⟩:=bnd4 i g hg
   refine Xg hbx hby g1 g2 λs' w5 hb5 ho5 hbk u5=>⟨⟨j+1,ds4.set i s',fs4.set i (g.cut (bytes.getD j 0)),hd,rfl,f4.set hb hs hg u5 hb5 ho5 hbk,λt ht k hk=>?_,u4.trans (u5.mono λk _ e=>by rw [e];exact List.mem_of_getElem? hb),?_,by rw [List.length_set];exact hfl,λi' g' hg'=>?_⟩,by omega⟩
   ·rcases List.mem_or_eq_of_mem_set ht with h|h
    ·exact hds4 t h k hk
    ·subst h;exact hds4 s (List.mem_of_getElem? hs) k (hbk k hk)
   ·rw [←hcut]
    have ed:(names l).drop j=n::(names l).drop (j+1):=by
     obtain ⟨hj',hn'⟩:=List.getElem?_eq_some_iff.1 hn
     rw [List.drop_eq_getElem_cons hj',hn']
    rw [ed]
    simp only [Ij,hi,Option.getD_some]
    rw [Jm hg]
   ·rw [List.getElem?_set] at hg'
    by_cases hii:i=i'
    ·subst hii
     rw [if_pos rfl,if_pos hil] at hg'
     cases hg'
     simp only [Fl.cut,List.length_take]
     omega
    ·rw [if_neg hii] at hg'
     exact bnd4 i' g' hg'
  ·have hd:j=(names l).length:=by have:=of_decide_eq_false hd;omega
   subst hd
   rw [List.drop_length] at hcut
   have hcut:fs4=Ij l bytes (names l) 0 D.files:=hcut
   rw [←hcut]
   exact ⟨ds4,f4,hds4,(Upd.Aj e3).trans u4⟩
 rintro _ w3 ⟨ds3,f3,hds3,u3⟩
 have no3:∀t:TypeId,t≠123->Cc w2 (λk=>k∈fb) t:=λt ht k hk c fr hc=>by
  obtain ⟨i,s,g,_,_,_,hb,_⟩:=f2.Yc hk
  rw [hb] at hc;cases hc;exact ht rfl
 have nm3:∀m,(∃o c,w2.heap[m]?=some (.map o c))->¬(λk=>k∈fb) m:=λm ⟨o,c,hm⟩ hk=>by
  obtain ⟨i,s,g,_,_,_,hb,_⟩:=f2.Yc hk
  rw [hm] at hb;cases hb
 have b3:=u3.get b2 λhk=>no3 107 (by decide) _ hk _ _ b2
 have l3:=hl2.upd u3 (nm3 _ hl2.Ed)
 have p3:=p2.upd u3 (λm hm=>nm3 m (by subst hm;exact p2.Ed)) (no3 _ (by decide)) λ_ h=>h
 have u03:Upd F w w3:=u02.trans (u3.mono λk _ hk=>A.ffb k hk)
 refine Af ?_
 rw [addr_add]
 refine Ah b3 (x:=some ml) rfl (Zb l3 λm' w4 h4 e4 hm'=>Af ?_)
 rw [addr_add]
 refine Ei (e4.ext_get b3) (by simp) λw5 u5 n5 _=>Af ?_
 rw [addr_add]
 refine Ei n5 (by simp) λw6 u6 n6 _=>Af ?_
 rw [addr_add]
 refine Ei n6 (by simp) λw7 u7 n7 _=>?_
 have u47:Upd (λk=>k=d) w3 w7:=(((Upd.Aj e4).trans u5).trans u6).trans u7
 have no:∀t:TypeId,107≠t->Cc w3 (λk=>k=d) t:=λt ht=>Cc.box b3 ht
 have nm:∀m,(∃o c,w3.heap[m]?=some (.map o c))->¬(λk=>k=d) m:=by
  rintro m ⟨o,c,hm⟩ rfl
  rw [b3] at hm;cases hm
 have hs3:=u03.size
 have hml:∀k,F k->k≠m':=λk hk e=>by have:=A.lt k hk;omega
 have hne:¬(λk=>k=d) m':=λe=>hml _ A.fd e.symm
 have u07:Upd F w w7:=u03.trans (u47.mono λk _ e=>by rw [e];exact A.fd)
 refine hK (λk=>F k\/k=m') w7 ⟨m',ml,⟨none,0,0⟩,pl,[],fb,ds3,?_,?_,?_,f3.ty u47 (no _ (by decide)) (no _ (by decide)),⟨Au.nil _ _ _ _,rfl,λi v a hv ha=>by simp at hv⟩,p3.upd u47 (λm hm=>nm m (by subst hm;exact p3.Ed)) (no _ (by decide)) λ_ h=>.inl h,λe=>hml _ A.fml e.symm,λe=>?_,A.nel,.inl A.fd,.inr rfl,.inl A.fml,λb hb=>.inl (A.ffb b hb),λt ht k hk=>.inl (hds3 t ht k hk),λk hk=>(by obtain ⟨q,hq,_⟩:=hk;cases hq),λk hk=>?_⟩ u07 (λk hk=>hk.imp id λe=>by omega)
 ·rw [n7]
  have:(Ij l bytes (names l) 0 D.files).length=D.files.length:=by rw [←f3.lf,A.files.lf]
  simp [Zv,this]
 ·show Fh w7 m' fb l
  exact ((h4.upd u5 hne).upd u6 hne).upd u7 hne
 ·exact l3.upd u47 (nm _ l3.Ed)
 ·rcases A.plan with ⟨h,_⟩|⟨m,es,g1,g2,_⟩
  ·rw [h] at e;cases e
  ·rw [g1] at e;cases e;exact hml _ g2 rfl
 ·rcases hk with hk|rfl
  ·exact Nat.lt_of_lt_of_le (A.lt k hk) u07.size
  ·obtain ⟨o,c,hm⟩:=h4.Ed
   exact Nat.lt_of_lt_of_le (lt_of_heap hm) ((u5.trans u6).trans u7).size
end
end Dq
end Go.Proofs.YtmooldhpiopcgaaGreatDoor
namespace Go.Proofs.YtmooldhpiopcgaaGreatDoor
namespace Dq
open Go Go.Vx Dsk
section
variable {w w':World}{S F F':Nat->Prop}{d m ms ml:Nat}{f:Dir}{fb:List Nat}{ds:List Sl}{fs:List Fl}{sa:Sl}{vs:List Value}{D:Dk}{pl:Option Nat}{p:Int->Option Bq}{N:Nat}
theorem Ou.look (h:Ou w F pl p) (k:Int){K:(Int×Int×Int×Int×Sl×Unit)->Wp}(h0:p k=none->K (0,0,0,0,⟨none,0,0⟩,()) w)
  (h1:∀g s,p k=some g->Ints w s g.bytes->(∀k,s.blk k->F k)->K (k,g.kind,g.part,g.names,s,()) w) :
  rdT Tryz.prog (.one (.agg Gj)) (Instr.lookup 105 (.map pl) (.int .i64 k) false) K w:=by
 rcases h with ⟨rfl,h⟩|⟨m,es,rfl,_,g3,g4⟩
 ·refine ⟨_,?_,h0 (h k)⟩
  obtain ⟨kt,et,u1,u2,u3⟩:=MP.ok
  have hc:(Instr.checkKey true 10000 kt (.int .i64 k)).run Tryz.prog w=.ok () w:=Key.int.check Tryz.prog kt true 9999 k w u2
  simp [Instr.lookup,run_underlying u1,u3,hc,Instr.findKey,Instr.findNow,run_underlying u2,RTy.val,Ty.val,Cells.vals,Cell.val]
 ·have hr:=Xa (w:=w) MP g3 k
  have h4:=g4 k
  generalize hv:Je es k=v at hr h4
  generalize hp:p k=q at h4
  match v,q,h4 with
  |none,none,_=>exact ⟨(0,0,0,0,⟨none,0,0⟩,()),hr,h0 hp⟩
  |some _,some g,⟨s,rfl,hs,hb,_⟩=>exact ⟨(k,g.kind,g.part,g.names,s,()),hr,h1 g s hp hs hb⟩
structure Ql (w0 w:World) (F:Nat->Prop) (v:Value) (op nm:ByteArray) (e:Int):Prop where
 ok:e=0->v=.nilIface
 bad:e≠0->∃b k,v=.iface 99 (.pointer (some (at0 b)))/\w.heap[b]?=some (.cells #[.string op,.string nm,.int .i64 k,.iface 33 (.int .i64 e)] 101 (0,0))/\w0.heap.size<=b/\¬F b
def Does {α:Type}(w0:World) (d:Nat) (F0 M E:Nat->Prop) (Q0:World->Prop) (Q1:α->World->(Nat->Prop)->Prop) (D:Dk) (N:Nat) (r:Dk×Int×α) (v:Value) (args:Array Value):Prop :=
 ∀(w1:World) (F1:Nat->Prop) (K:Int->Wp),Ce w1 d F1 D->Bl D N->Q0 w1->(∀k,F1 k->F0 k\/w0.heap.size<=k)->w0.heap.size<=w1.heap.size ->
  (∀w2 F2,Ce w2 d F2 r.1->Q1 r.2.2 w2 F2->Upd (λk=>FN w1 F1 k\/M k) w1 w2->(∀k,F2 k->F1 k\/E k\/w1.heap.size<=k)->K r.2.1 w2) ->
  Bg Tryz.prog (do let d ←Deferred.ofValue v args;invoke d.target d.args:Sem Next) (.one (.one (.int .i64))) K w1
theorem Jt {α:Type}{M E:Nat->Prop}{Q0:World->Prop}{Q1:α->World->(Nat->Prop)->Prop}{a0:α}{act:Dk->Dk×Int×α}{part:Option (Int->Dk->Dk×Int×α)}{op nm:ByteArray}{va vp:Value}
  (A:Ce w d F D) (ok:Bl D N) (hN:N+2<=2^60) (hq0:Q0 w) (hq1:Q1 a0 w F) (hM:∀k,M k->k<w.heap.size/\¬F k) (hE:∀k,E k->M k)
  (hst0:∀w1 w2 S,Q0 w1->Upd S w1 w2->(∀k,S k->k=d)->Q0 w2)
  (hst1:∀a w1 F1 w2 F2,Q1 a w1 F1->Upd F1 w1 w2->(∀k,F2 k->F1 k\/w1.heap.size<=k)->Q1 a w2 F2)
  (hact:∀D1,D1={ D with steps:=D.steps+1 }->Bl D1 (N+1)->Bl (act D1).1 (N+2)/\Does w d F M E Q0 Q1 D1 (N+1) (act D1) va #[])
  (hpart:(part=none/\vp=.nilFunc)\/∃pt g cs,part=some pt/\vp=.func g #[] cs/\∀D1 k,D1={ D with steps:=D.steps+1 }->Does w d F M E Q0 Q1 D1 (N+1) (pt k D1) vp #[.int .i64 k])
  {K:Value->Wp}
  (hK:∀F' w' v,Ql w w' F' v op nm (Dsk.step D a0 act part).2.1->Ce w' d F' (Dsk.step D a0 act part).1->Q1 (Dsk.step D a0 act part).2.2 w' F'->Upd (λk=>F k\/M k) w w'->(∀k,F' k->F k\/E k\/w.heap.size<=k)->K v w') :
  Aa Tryz.prog 65 #[.pointer (some (at0 d)),.string op,.string nm,va,vp] (.one (.one .any)) K w:=by
 refine j65 ?_
 unfold F65
 obtain ⟨ms,ml,sa,pl,vs,fb,ds,A⟩:=A
 have hsteps:=ok.steps
 simp only [Tj,addr_add,Nat.zero_add]
 refine Ah A.box (x:=D.down) rfl (Ac (λhd=>?_) (λhd=>?_))
 ·have e:Dsk.step D a0 act part=(D,165,a0):=by unfold Dsk.step;rw [if_pos hd]
  rw [e] at hK
  refine Aq λb3 w1 e1 n1 hb3 _=>hK F w1 _ ⟨(λh=>by cases h),λ_=>⟨b3,0,rfl,n1,by omega,λh=>by have:=A.lt _ h;omega⟩⟩ (A.ext e1).in (hst1 a0 w F w1 F hq1 (Upd.Aj e1) λ_ h=>.inl h) (Upd.Aj e1) λk hk=>.inl hk
 have ew:IntKind.wrap .i64 (D.steps+1)=D.steps+1:=IntWalk.i64_in _ ⟨by omega,by omega⟩
 refine Af (Ah A.box (x:=D.steps) rfl (Af ?_))
 rw [addr_add,ew,Nat.zero_add]
 refine Ei A.box (by simp) λw1 u1 n1 _=>Af ?_
 obtain ⟨D1,hD1⟩:∃D1,D1={ D with steps:=D.steps+1 }:=⟨_,rfl⟩
 have A1:Dw w1 d F D1 ms ml sa pl vs fb ds:=A.Ca9 u1 (by rw [n1,hD1];simp [Zv]) (by rw [hD1]) (by rw [hD1]) (by rw [hD1]) (by rw [hD1])
 have ok1:Bl D1 (N+1):=by
  rw [hD1]
  exact ⟨ok.space,λi f hf=>let ⟨a,b,c,e⟩:=ok.fil i f hf;⟨a,b,c,by omega⟩,Nat.le_trans ok.num (Nat.le_succ _),ok.good,⟨by dsimp only;omega,by dsimp only;omega⟩,Nat.le_trans ok.acts (Nat.le_succ _)⟩
 have hs1:D1.steps=D.steps+1:=by rw [hD1]
 have es0:D1.plan D1.steps=none->Dsk.step D a0 act part=act D1:=λh=>by
  rw [hD1] at h
  have h:D.plan (D.steps+1)=none:=h
  unfold Dsk.step;rw [if_neg (by rw [hd];simp),h,hD1]
 have es1:∀g,D1.plan D1.steps=some g->Dsk.step D a0 act part=Tq D1 a0 act part g:=λg h=>by
  rw [hD1] at h
  have h:D.plan (D.steps+1)=some g:=h
  unfold Dsk.step;rw [if_neg (by rw [hd];simp),h,hD1]
 obtain ⟨okA,does⟩:=hact D1 hD1 ok1
 have ud:Upd F w w1:=u1.mono λk _ e=>by rw [e];exact A.fd
 have u1F:Upd (λk=>F k\/M k) w w1:=ud.mono λk _ h=>.inl h
 have hq01:Q0 w1:=hst0 w w1 _ hq0 u1 λk e=>e
 have hq11:Q1 a0 w1 F:=hst1 a0 w F w1 F hq1 ud λ_ h=>.inl h
 have hz1:=u1.size
 clear u1 n1
 rw [addr_add,Nat.zero_add]
 refine Ah A1.box (x:=D1.steps) rfl (Af ?_)
 rw [addr_add,Nat.zero_add]
 refine Ah A1.box (x:=pl) rfl ?_
 have fin:∀{W:World} {F2:Nat->Prop} {e:Int} {D2:Dk} {a:α},Dsk.step D a0 act part=(D2,e,a)->Ce W d F2 D2->Q1 a W F2->Upd (λk=>F k\/M k) w W->(∀k,F2 k->F k\/E k\/w.heap.size<=k) ->
   (sif (e==0) (K .nilIface) (Ad (.cells #[.string op,.string nm,.int .i64 D1.steps,.iface 33 (.int .i64 e)] 101) λb26=>K (.iface 99 (.pointer (some (at0 b26)))))) W:=by
  intro W F2 e D2 a he hD hq hu hF
  rw [he] at hK
  refine Ac (λh=>?_) (λh=>?_)
  ·have h:e=0:=by simpa using h
   exact hK F2 W _ ⟨λ_=>rfl,λhh=>absurd h hh⟩ hD hq hu hF
  ·have h:e≠0:=by simpa using h
   refine Aq λb w3 e3 n3 hb _=>hK F2 w3 _ ⟨λhh=>absurd hh h,λ_=>⟨b,D1.steps,rfl,n3,?_,λhh=>?_⟩⟩ (hD.ext e3) (hst1 a W F2 w3 F2 hq (Upd.Aj e3) λ_ h=>.inl h) (hu.trans (Upd.Aj e3)) hF
   ·have:=hu.size;omega
   ·have:=hD.lt _ hh;omega
 have call:∀{W:World} {K':Int->Wp},Ce W d F D1->Q0 W->Upd (λk=>F k\/M k) w W ->
   (∀W' F3,Ce W' d F3 (act D1).1->Q1 (act D1).2.2 W' F3->Upd (λk=>F k\/M k) w W'->(∀k,F3 k->F k\/E k\/w.heap.size<=k)->Upd (λk=>FN W F k\/M k) W W'->K' (act D1).2.1 W') ->
   Bg Tryz.prog (do let d ←Deferred.ofValue va #[];invoke d.target d.args:Sem Next) (.one (.one (.int .i64))) K' W:=by
  intro W K' hD hq hu hK'
  refine does W F K' hD ok1 hq (λk h=>.inl h) hu.size λw2 F3 hD3 hq3 hu3 hF3=>hK' w2 F3 hD3 hq3 (hu.trans (hu3.mono λk _ h=>h.imp (λh=>h.1) id)) (λk hk=>?_) hu3
  rcases hF3 k hk with h|h|h
  ·exact .inl h
  ·exact .inr (.inl h)
  ·have:=hu.size;exact .inr (.inr (by omega))
 have loss:∀{W:World} {F2:Nat->Prop} {D2:Dk} {a:α} {M2:Nat} {g:Bq} {s:Sl} {K':Unit->Wp},Ce W d F2 D2->Bl D2 M2->M2<=2^60->Q1 a W F2->Upd (λk=>F k\/M k) w W->(∀k,F2 k->F k\/E k\/w.heap.size<=k)->Ints W s g.bytes ->
   (∀W' F3,Ce W' d F3 (crash D2 g.names g.bytes)->Q1 a W' F3->Upd (λk=>F k\/M k) w W'->(∀k,F3 k->F k\/E k\/w.heap.size<=k)->K' () W') ->
   Aa Tryz.prog 40 #[.pointer (some (at0 d)),.agg (Cells.vals c72 (g.names,s,())).toArray] (.tup []) K' W:=by
  intro W F2 D2 a M2 g s K' hD hok hM2 hq hu hF hi hK'
  obtain ⟨ms2,ml2,sa2,pl2,vs2,fb2,ds2,A2⟩:=hD
  refine Z7 A2 hok hM2 (c:=(g.names,s,())) ⟨hi.x,.inr hi⟩ λF3 W' hD3 hu3 hF3=>hK' W' F3 hD3 (hst1 a W F2 W' F3 hq hu3 hF3) (hu.new hu3 λk hk h=>?_) λk hk=>?_
  ·rcases hF k h with h|h|h
   ·exact .inl h
   ·exact .inr (hE k h)
   ·omega
  ·rcases hF3 k hk with h|h
   ·exact hF k h
   ·have:=hu.size;exact .inr (.inr (by omega))
 refine A1.plan.look D1.steps (λh0=>?_) (λg s hp hi hsF=>?_)
 ·
  have es:=es0 h0
  refine (St.start w1).Ia rfl rfl rfl λb12 w2 S2 e2=>?_
  refine Ag (λx W=>∃F2 D2 a,Dsk.step D a0 act part=(D2,x.1,a)/\Ce W d F2 D2/\Q1 a W F2/\Upd (λk=>F k\/M k) w W/\∀k,F2 k->F k\/E k\/w.heap.size<=k) ?_ ?_
  ·refine S2.ld 0 (x:=(0:Int)) rfl rfl (Ap (Ap (Ap (Ap (Ap ?_)))))
   refine call (A1.ext e2).in (hst0 w1 w2 _ hq01 e2 λ_ h=>h.elim) (u1F.trans (Upd.Aj e2)) λW' F3 hD3 hq3 hu3 hF3 _=>⟨F3,_,_,?_,hD3,hq3,hu3,hF3⟩
   rw [es]
  ·rintro ⟨x,⟨⟩⟩ W ⟨F2,D2,a,h1,h2,h3,h4,h5⟩
   exact fin h1 h2 h3 h4 h5
 ·have es:=es1 g hp
  unfold Tq at es
  refine (St.start w1).Ia rfl rfl rfl λb12 w2 S2 e2=>?_
  have hq02:=hst0 w1 w2 _ hq01 e2 λ_ h=>h.elim
  have hq12:=hst1 a0 w1 F w2 F hq11 (Upd.Aj e2) λ_ h=>.inl h
  have u2F:=u1F.trans (Upd.Aj e2)
  have hb12:∀{W:World},Upd (λk=>FN w2 F k\/M k) w2 W->W.heap[b12]?=some (.cells (Cells.vals Gj (D1.steps,g.kind,g.part,g.names,s,())).toArray 132 (0,0)):=λu=>u.get (S2.at_ 0 rfl) λh=>by
   have hg:=S2.ge 0 rfl
   rcases h with h|h
   ·have:=A1.lt _ h.1;omega
   ·have:=(hM _ h).1;omega
  refine Ag (λx W=>∃F2 D2 a,Dsk.step D a0 act part=(D2,x.1,a)/\Ce W d F2 D2/\Q1 a W F2/\Upd (λk=>F k\/M k) w W/\∀k,F2 k->F k\/E k\/w.heap.size<=k) ?_ ?_
  ·refine S2.ld 0 (x:=g.kind) rfl rfl (Ac (λh1=>?_) (λh1=>?_))
   ·have h1:g.kind=1:=by simpa using h1
    rw [if_pos h1] at es
    exact ⟨F,D1,a0,es,(A1.ext e2).in,hq12,u2F,λk hk=>.inl hk⟩
   have h1:¬g.kind=1:=by simpa using h1
   rw [if_neg h1] at es
   refine Ac (λh2=>?_) (λh2=>?_)
   ·have h2:g.kind=2:=by simpa using h2
    rw [if_pos h2] at es
    rcases hpart with ⟨rfl,rfl⟩|⟨pt,gf,cs,rfl,rfl,hp⟩
    ·exact Aw0 Ci6.und (Ap ⟨F,D1,a0,es,(A1.ext e2).in,hq12,u2F,λk hk=>.inl hk⟩)
    ·refine Bg5 Ci6.und (Di (S2.ld 0 (x:=g.part) rfl rfl ?_))
     refine hp D1 g.part hD1 w2 F _ (A1.ext e2).in ok1 hq02 (λk hk=>.inl hk) u2F.size λw3 F3 hD3 hq3 hu3 hF3=>⟨F3,_,_,es,hD3,hq3,u2F.trans (hu3.mono λk _ h=>h.imp (λh=>h.1) id),λk hk=>(hF3 k hk).imp id λh=>h.imp id λh=>?_⟩
     have:=u2F.size;omega
   have h2:¬g.kind=2:=by simpa using h2
   rw [if_neg h2] at es
   refine Ac (λh4=>?_) (λh4=>?_)
   ·have h4:g.kind=4:=by simpa using h4
    rw [if_pos h4] at es
    refine Gi (x:=(g.names,s,())) (S2.at_ 0 rfl) (λi v hv=>?_) ?_
    ·match i with
     |0=>simpa [Cells.vals,Cell.val] using hv
     |1=>simpa [Cells.vals,Cell.val] using hv
     |i+2=>simp [Cells.vals] at hv
    ·exact loss (A1.ext e2).in ok1 (by omega) hq12 u2F (λk hk=>.inl hk) (hi.ext e2) λW' F3 hD3 hq3 hu3 hF3=>⟨F3,_,_,es,hD3,hq3,hu3,hF3⟩
   have h4:¬g.kind=4:=by simpa using h4
   rw [if_neg h4] at es
   refine Ac (λh5=>?_) (λh5=>?_)
   ·have h5:g.kind=5:=by simpa using h5
    rw [if_pos h5] at es
    refine call (A1.ext e2).in hq02 u2F λW' F3 hD3 hq3 hu3 hF3 hu2'=>?_
    have hb:=hb12 hu2'
    refine Gi (x:=(g.names,s,())) hb (λi v hv=>?_) ?_
    ·match i with
     |0=>simpa [Cells.vals,Cell.val] using hv
     |1=>simpa [Cells.vals,Cell.val] using hv
     |i+2=>simp [Cells.vals] at hv
    ·refine loss hD3 okA hN hq3 hu3 hF3 ?_ λW2 F4 hD4 hq4 hu4 hF4=>⟨F4,_,_,es,hD4,hq4,hu4,hF4⟩
     refine (hi.ext e2).upd hu2' λk hk h=>?_
     rcases h with h|h
     ·obtain ⟨c,fr,hc⟩:=(hi.ext e2).Bc hk
      exact h.2 c fr hc
     ·exact (hM k h).2 (hsF k hk)
   have h5:¬g.kind=5:=by simpa using h5
   rw [if_neg h5] at es
   refine Ac (λh3=>?_) (λh3=>?_)
   ·have h3:g.kind=3:=by simpa using h3
    rw [if_pos h3] at es
    refine call (A1.ext e2).in hq02 u2F λW' F3 hD3 hq3 hu3 hF3 _=>Ac (λh=>?_) (λh=>?_)
    ·have h:(act D1).2.1≠0:=by simpa using h
     exact ⟨F3,_,_,by rw [es];simp only [if_pos h],hD3,hq3,hu3,hF3⟩
    ·have h:¬(act D1).2.1≠0:=by simpa using h
     exact ⟨F3,_,_,by rw [es];simp only [if_neg h],hD3,hq3,hu3,hF3⟩
   have h3:¬g.kind=3:=by simpa using h3
   rw [if_neg h3] at es
   exact call (A1.ext e2).in hq02 u2F λW' F3 hD3 hq3 hu3 hF3 _=>⟨F3,_,_,by rw [es],hD3,hq3,hu3,hF3⟩
  ·rintro ⟨x,⟨⟩⟩ W ⟨F2,D2,a,h1,h2,h3,h4,h5⟩
   exact fin h1 h2 h3 h4 h5
end
end Dq
end Go.Proofs.YtmooldhpiopcgaaGreatDoor
namespace Go.Proofs.YtmooldhpiopcgaaGreatDoor
namespace Dq
open Go Go.Vx Dsk
section
variable {D:Dk}{N n:Nat}{f:Dir}
theorem Ul {l:List Nm}(h:Lists f l) (a:Nm):Lists (Dn f a none) (l.filter λx=>decide (x≠a)):=by
 refine ⟨h.1.sublist List.filter_sublist,λx=>?_⟩
 rw [List.mem_filter,h.2 x]
 unfold Dn
 by_cases e:x=a
 ·simp [e]
 ·simp [e]
theorem Qi {l:List Nm}(h:Lists f l){a:Nm}{i:Nat}(ha:f a=none):Lists (Dn f a (some i)) (a::l):=by
 refine ⟨List.nodup_cons.2 ⟨λhm=>?_,h.1⟩,λx=>?_⟩
 ·have:=(h.2 a).1 hm;rw [ha] at this;cases this
 ·unfold Dn
  by_cases e:x=a
  ·simp [e]
  ·rw [List.mem_cons,if_neg e];simp [e,h.2 x]
theorem Bi0 {l:List Nm}(h:Lists f l){a:Nm}{i:Nat}(ha:(f a).isSome=true):Lists (Dn f a (some i)) l:=by
 refine ⟨h.1,λx=>?_⟩
 unfold Dn
 by_cases e:x=a
 ·subst e;simp [h.2,ha]
 ·rw [if_neg e];exact h.2 x
theorem filter_lt {l:List Nm}{a:Nm}(ha:a∈l):(l.filter λx=>decide (x≠a)).length+1<=l.length:=by
 have h1:=List.length_filter_lt_length_iff_exists (l:=l) (p:=λx=>decide (x≠a))
 have:=h1.2 ⟨a,ha,by simp⟩
 omega
theorem Good.del (h:Good n f) (a:Nm):Good n (Dn f a none):=by
 refine ⟨λk i hi=>?_,?_,λx y i hx hy=>?_,λk i hi=>?_⟩
 ·unfold Dn at hi;split at hi
  ·cases hi
  ·exact h.ids k i hi
 ·obtain ⟨l,h1,h2⟩:=h.few
  exact ⟨_,Ul h1 a,Nat.le_trans (List.length_filter_le _ _) h2⟩
 ·unfold Dn at hx hy;split at hx
  ·cases hx
  ·split at hy
   ·cases hy
   ·exact h.inj x y i hx hy
 ·unfold Dn at hi;split at hi
  ·cases hi
  ·exact h.okn k i hi
theorem Good.new (h:Good n f){a:Nm}(ha:f a=none) (hn:Ba a=true) (hf:(Dsk.names f).length<16):Good (n+1) (Dn f a (some n)):=by
 refine ⟨λk i hi=>?_,?_,λx y i hx hy=>?_,λk i hi=>?_⟩
 ·unfold Dn at hi;split at hi
  ·cases hi;omega
  ·have:=h.ids k i hi;omega
 ·obtain ⟨l,h1,h2⟩:=h.few
  rw [Jc h1] at hf
  exact ⟨_,Qi h1 ha,by simp;omega⟩
 ·unfold Dn at hx hy
  by_cases e1:x=a<;>by_cases e2:y=a
  ·rw [e1,e2]
  ·rw [if_pos e1] at hx;rw [if_neg e2] at hy;cases hx;have:=h.ids y n hy;omega
  ·rw [if_neg e1] at hx;rw [if_pos e2] at hy;cases hy;have:=h.ids x n hx;omega
  ·rw [if_neg e1] at hx;rw [if_neg e2] at hy;exact h.inj x y i hx hy
 ·unfold Dn at hi;split at hi
  ·rename_i e;rw [e];exact hn
  ·exact h.okn k i hi
theorem Good.mv (h:Good n f){a b:Nm}{i:Nat}(ha:f a=some i) (hn:Ba b=true):Good n (Dn (Dn f a none) b (some i)):=by
 have hd:=h.del a
 refine ⟨λk j hj=>?_,?_,λx y j hx hy=>?_,λk j hj=>?_⟩
 ·unfold Dn at hj;split at hj
  ·cases hj;exact h.ids a i ha
  ·exact hd.ids k j hj
 ·obtain ⟨l,h1,h2⟩:=h.few
  have hl:=Ul h1 a
  have hm:a∈l:=(h1.2 a).2 (by rw [ha];rfl)
  have hlt:=filter_lt hm
  cases hb:Dn f a none b with
  |none=>exact ⟨_,Qi hl hb,by simp only [List.length_cons];omega⟩
  |some j=>exact ⟨_,Bi0 hl (by rw [hb];rfl),by omega⟩
 ·have other:∀z,Dn f a none z≠some i:=λz hz=>by
   unfold Dn at hz;split at hz
   ·cases hz
   ·rename_i hza;exact hza (h.inj z a i hz ha)
  unfold Dn at hx hy
  by_cases e1:x=b<;>by_cases e2:y=b
  ·rw [e1,e2]
  ·rw [if_pos e1] at hx;rw [if_neg e2] at hy;cases hx;exact absurd hy (other y)
  ·rw [if_neg e1] at hx;rw [if_pos e2] at hy;cases hy;exact absurd hx (other x)
  ·rw [if_neg e1] at hx;rw [if_neg e2] at hy;exact hd.inj x y j hx hy
 ·unfold Dn at hj;split at hj
  ·rename_i e;rw [e];exact hn
  ·exact hd.okn k j hj
theorem Af4 {as_:List Nh}{a:Nh}{m:Nat}(hm:n<=m) (h:∀k,Good n (Ez (as_.take k) f)) (ha:Good m (a.on (Ez as_ f))):∀k,Good m (Ez ((as_++[a]).take k) f):=by
 intro k
 by_cases hk:k<=as_.length
 ·rw [List.take_append_of_le_length hk];exact (h k).mono hm
 ·rw [List.take_of_length_le (by simp;omega),Qv];exact ha
theorem Ih {nm:Nm}{i:Nat}{e:Int}(h:Dsk.find D nm=(some i,e)):D.seen nm=some i/\e=0/\Ba nm=true:=by
 unfold Dsk.find at h
 split at h
 ·cases h
 ·rename_i hn
  cases hs:D.seen nm with
  |none=>rw [hs] at h;cases h
  |some j=>rw [hs] at h;cases h;exact ⟨rfl,rfl,by simpa using hn⟩
theorem Lh {nm:Nm}{e:Int}(h:Dsk.find D nm=(none,e)):(Ba nm=false/\e=164)\/(D.seen nm=none/\e=162):=by
 unfold Dsk.find at h
 split at h
 ·rename_i hn;cases h;exact .inl ⟨hn,rfl⟩
 ·cases hs:D.seen nm with
  |none=>rw [hs] at h;cases h;exact .inr ⟨rfl,rfl⟩
  |some j=>rw [hs] at h;cases h
theorem Bl.push (ok:Bl D N){a:Nh}(ha:Good D.files.length (a.on D.seen)):Bl { D with acts:=D.acts++[a] } (N+1) :=
 ⟨ok.space,λi f hf=>let ⟨a,b,c,d⟩:=ok.fil i f hf;⟨a,b,c,by omega⟩,Nat.le_trans ok.num (Nat.le_succ _),Af4 (Nat.le_refl _) ok.good ha,⟨ok.steps.1,by have:=ok.steps.2;dsimp only;omega⟩,by have:=ok.acts;simp;omega⟩
theorem Bp9 (ok:Bl D N) (nm:Nm):Bl (rmR nm D).1 (N+1):=by
 unfold rmR
 cases h:Dsk.find D nm with
 |mk o e =>
  cases o with
  |none=>exact ok.mono (Nat.le_succ _)
  |some i=>exact ok.push (ok.seen.del nm)
theorem Bq1 (ok:Bl D N) (a b:Nm):Bl (mvR a b D).1 (N+1):=by
 unfold mvR
 split
 ·exact ok.mono (Nat.le_succ _)
 ·rename_i hbn
  cases h:Dsk.find D a with
  | mk o e =>
   cases o with
   |none=>exact ok.mono (Nat.le_succ _)
   |some i =>
    dsimp only
    split
    ·exact ok.mono (Nat.le_succ _)
    ·exact ok.push (ok.seen.mv (Ih h).1 (by simpa using hbn))
theorem Bq2 (ok:Bl D N) (nm:Nm):Bl (mkR nm D).1 (N+1):=by
 unfold mkR
 dsimp only
 split
 ·exact ok.mono (Nat.le_succ _)
 split
 ·exact ok.mono (Nat.le_succ _)
 split
 ·exact ok.mono (Nat.le_succ _)
 ·rename_i h1 h2 h3
  have hs:D.seen nm=none:=by
   cases h:Dsk.find D nm with
   | mk o e =>
    cases o with
    |none =>
     rcases Lh h with ⟨_,he⟩|⟨hs,_⟩
     ·rw [h] at h1;exact absurd he h1
     ·exact hs
    |some i=>rw [h] at h2;exact absurd (Ih h).2.1 h2
  have hn:Ba nm=true:=by
   cases hn:Ba nm with
   |true=>rfl
   |false =>
    exfalso;apply h1
    unfold Dsk.find
    rw [if_pos hn]
  have hg:=ok.seen.new hs hn (by omega)
  refine ⟨ok.space,λi f hf=>?_,by have:=ok.num;simp;omega,?_,⟨ok.steps.1,by have:=ok.steps.2;dsimp only;omega⟩,by have:=ok.acts;simp;omega⟩
  ·have hf:(D.files++[⟨[],0,0⟩])[i]?=some f:=hf
   by_cases hi:i<D.files.length
   ·rw [List.getElem?_append_left hi] at hf
    obtain ⟨a,b,c,d⟩:=ok.fil i f hf
    exact ⟨a,b,c,by omega⟩
   ·rw [List.getElem?_append_right (by omega)] at hf
    have:=List.mem_of_getElem? hf
    simp at this;subst this
    simp;omega
  ·have e:(D.files++[(⟨[],0,0⟩:Fl)]).length=D.files.length+1:=by simp
   show ∀k,Good (D.files++[(⟨[],0,0⟩:Fl)]).length _
   rw [e]
   exact Af4 (Nat.le_succ _) ok.good hg
theorem Bl.file (ok:Bl D N){i:Nat}{g:Fl}(hg:g.data.length<=1048576/\g.synced<=g.data.length/\0<=g.count/\g.count<=N+1):Bl { D with files:=D.files.set i g } (N+1):=by
 refine ⟨ok.space,λj f hf=>?_,by have:=ok.num;simp;omega,by show ∀k,Good (D.files.set i g).length _;rw [List.length_set];exact ok.good,⟨ok.steps.1,by have:=ok.steps.2;dsimp only;omega⟩,Nat.le_trans ok.acts (Nat.le_succ _)⟩
 have hf:(D.files.set i g)[j]?=some f:=hf
 rw [List.getElem?_set] at hf
 split at hf
 ·split at hf
  ·cases hf
   exact ⟨hg.1,hg.2.1,hg.2.2.1,by omega⟩
  ·cases hf
 ·obtain ⟨a,b,c,d⟩:=ok.fil j f hf
  exact ⟨a,b,c,by omega⟩
theorem Qb (ok:Bl D N){nm:Nm}{i:Nat}(h:D.seen nm=some i):∃g,D.files[i]?=some g/\fl D i=g:=by
 have hi:=ok.seen.ids nm i h
 exact ⟨_,List.getElem?_eq_getElem hi,by unfold Dsk.fl;rw [List.getD_eq_getElem?_getD,List.getElem?_eq_getElem hi];rfl⟩
theorem Bp8 (ok:Bl D N) (nm:Nm):Bl (syR nm D).1 (N+1):=by
 unfold syR
 cases h:Dsk.find D nm with
 | mk o e =>
  cases o with
  |none=>exact ok.mono (Nat.le_succ _)
  |some i =>
   obtain ⟨g,hg,_⟩:=Qb ok (Ih h).1
   dsimp only
   rw [Jm hg]
   obtain ⟨a,b,c,d⟩:=ok.fil i g hg
   exact ok.file ⟨a,Nat.le_refl _,c,by dsimp only;omega⟩
theorem Cd6 {l:List Int}(h:∀x∈l,0<=x){x:Int}(hx:x∈l):x<=Gz l:=by
 induction l with
 |nil=>cases hx
 | cons y r ih =>
  have h1:=h y List.mem_cons_self
  have h2:=Ox λz hz=>h z (List.mem_cons_of_mem _ hz)
  rcases List.mem_cons.1 hx with e|hx
  ·subst e;simp only [Gz];omega
  ·have:=ih (λz hz=>h z (List.mem_cons_of_mem _ hz)) hx
   simp only [Gz];omega
theorem Bv3 (ok:Bl D N){nm:Nm}{i:Nat}(h:D.seen nm=some i):((fl D i).data.length:Int)<=Bv D none:=by
 obtain ⟨h1,_⟩:=ok.seen.names
 unfold Bv
 refine Cd6 (λx hx=>?_) ?_
 ·obtain ⟨n,_,rfl⟩:=List.mem_map.1 hx;exact Nq D none n
 ·refine List.mem_map.2 ⟨nm,(h1.2 nm).2 (by rw [h];rfl),?_⟩
  unfold weigh;rw [h];simp
theorem Bc8 (ok:Bl D N) (nm:Nm) (b:List UInt8):Bl (apR nm b D).1 (N+1):=by
 unfold apR
 cases h:Dsk.find D nm with
 | mk o e =>
  cases o with
  |none=>exact ok.mono (Nat.le_succ _)
  | some i =>
   have hs:=(Ih h).1
   obtain ⟨g,hg,hfl⟩:=Qb ok hs
   have hu:=Bv3 ok hs
   rw [hfl] at hu
   have hsp:=ok.space
   have hun:=ok.used none
   dsimp only
   rw [Jm hg]
   obtain ⟨a,b',c,d⟩:=ok.fil i g hg
   have hr:room D=max (D.space-Bv D none) 0:=rfl
   refine ok.file ⟨?_,?_,?_,?_⟩
   ·simp only [List.length_append,List.length_take]
    split<;>omega
   ·simp only [List.length_append];omega
   ·dsimp only;split<;>omega
   ·dsimp only;split<;>omega
theorem Uj (ok:Bl D N):Bl (Dsk.settle D) N :=
 ⟨ok.space,ok.fil,ok.num,λk=>by rw [show (Dsk.settle D).acts=[] from rfl,List.take_nil];exact ok.seen,ok.steps,Nat.zero_le _⟩
theorem Ag1 {P:Fl->Prop}(hP:∀g more,P g->P (g.cut more)) (f:Dir) (bytes:List Int):∀(l:List Nm) (i:Nat) (fs:List Fl),(∀(j:Nat) (g:Fl),fs[j]?=some g->P g)->(Ij f bytes l i fs).length=fs.length/\∀(j:Nat) (g:Fl),(Ij f bytes l i fs)[j]?=some g->P g
 |[],_,fs,h=>⟨rfl,h⟩
 | n::r,i,fs,h=>by
  have h2:∀(j:Nat) (g:Fl),(Ku fs ((f n).getD 0) λx=>x.cut (bytes.getD i 0))[j]?=some g->P g:=by
   intro j g hg
   unfold Ku at hg
   rw [List.getElem?_modify] at hg
   obtain ⟨x,hx,hxg⟩:=Option.map_eq_some_iff.1 hg
   split at hxg
   ·subst hxg;exact hP x _ (h j x hx)
   ·subst hxg;exact h j x hx
  obtain ⟨g1,g2⟩:=Ag1 hP f bytes r (i+1) _ h2
  simp only [Ij]
  exact ⟨by rw [g1];unfold Ku;simp,g2⟩
theorem Wq (ok:Bl D N) (nm:Int) (bytes:List Int):Bl (crash D nm bytes) N:=by
 unfold crash
 split
 ·exact ok
 ·dsimp only
  generalize hl:Ez (D.acts.take (min (max nm 0).toNat D.acts.length)) D.lasts=l
  have hg:=ok.good (min (max nm 0).toNat D.acts.length)
  rw [hl] at hg
  obtain ⟨h1,h2⟩:=Ag1 (P:=λf=>f.data.length<=1048576/\f.synced<=f.data.length/\0<=f.count/\f.count<=N) (λg more ⟨a,b,c,d⟩=>by
   simp only [Fl.cut,List.length_take];omega) l bytes (names l) 0 D.files ok.fil
  refine ⟨ok.space,h2,by dsimp only;rw [h1];exact ok.num,λk=>?_,ok.steps,Nat.zero_le _⟩
  rw [List.take_nil]
  show Good (Ij l bytes (names l) 0 D.files).length l
  rw [h1];exact hg
theorem Ax1 (ok:Bl D N):Bl (restart D) N:=by
 unfold restart
 split
 ·exact ⟨ok.space,ok.fil,ok.num,ok.good,⟨Int.le_refl 0,by dsimp only;omega⟩,ok.acts⟩
 ·exact ok
theorem Aj3 (ok:Bl D N) (l:List (Int×Bq)):Bl (plan D l) N:=⟨ok.space,ok.fil,ok.num,ok.good,⟨Int.le_refl 0,by show (0:Int)<=_;omega⟩,ok.acts⟩
theorem Bq0 (ok:Bl D N) (nm:Nm) (b:List UInt8):Bl (Nk D nm b).1 (N+1):=by
 unfold Nk
 split
 ·exact ok.mono (Nat.le_succ _)
 split
 ·exact ok.mono (Nat.le_succ _)
 split
 ·exact ok.mono (Nat.le_succ _)
 ·rename_i h1 h2 h3
  have hsp:=ok.space
  have hun:=ok.used (D.seen nm)
  have hb:b.length<=1048576:=by
   have:¬(b.length:Int)>D.space-Bv D (D.seen nm):=λh=>h3 (.inr h)
   omega
  cases hs:D.seen nm with
  |some i =>
   obtain ⟨g,hg,_⟩:=Qb ok hs
   obtain ⟨a,b',c,d⟩:=ok.fil i g hg
   dsimp only
   rw [Jm hg]
   exact (Uj ok).file (i:=i) (g:=⟨b,b.length,g.count+1⟩) ⟨hb,Nat.le_refl _,by dsimp only;omega,by dsimp only;omega⟩
  | none =>
   have hg:=ok.seen.new hs (by simpa using h2) (by
    have:¬(16<=(names D.seen).length):=λh=>h3 (.inl ⟨hs,h⟩)
    omega)
   dsimp only
   refine ⟨ok.space,λi f hf=>?_,by have:=ok.num;simp;omega,λk=>?_,⟨ok.steps.1,by have:=ok.steps.2;dsimp only;omega⟩,Nat.zero_le _⟩
   ·have hf:(D.files++[⟨b,b.length,1⟩])[i]?=some f:=hf
    by_cases hi:i<D.files.length
    ·rw [List.getElem?_append_left hi] at hf
     obtain ⟨a,b,c,d⟩:=ok.fil i f hf
     exact ⟨a,b,c,by omega⟩
    ·rw [List.getElem?_append_right (by omega)] at hf
     have:=List.mem_of_getElem? hf
     simp at this;subst this
     refine ⟨hb,Nat.le_refl _,(show (0:Int)<=1 by decide),?_⟩
     show (1:Int)<=_
     omega
   ·have e:(D.files++[(⟨b,b.length,1⟩:Fl)]).length=D.files.length+1:=by simp
    rw [List.take_nil]
    show Good (D.files++[(⟨b,b.length,1⟩:Fl)]).length (Dn D.seen nm (some D.files.length))
    rw [e];exact hg
end
end Dq
end Go.Proofs.YtmooldhpiopcgaaGreatDoor
namespace Go.Proofs.YtmooldhpiopcgaaGreatDoor
namespace Dq
open Go Go.Vx Dsk
section
variable {w w':World}{S F F':Nat->Prop}{d m ms ml:Nat}{f:Dir}{fb:List Nat}{ds:List Sl}{fs:List Fl}{sa:Sl}{vs:List Value}{D:Dk}{pl:Option Nat}{p:Int->Option Bq}{N:Nat}
abbrev Zu (d:Nat):Obj:=.cells #[.pointer (some (at0 d))] 24 (0,0)
abbrev O5 (n:Nm):Obj:=.cells #[.string n] 9 (0,0)
abbrev Ends (w:World) (d:Nat) (F:Nat->Prop) (op nm:ByteArray) (r:Dk×Int×Unit) (K:Value->Wp):Prop :=
 ∀F' w' v,Ql w w' F' v op nm r.2.1->Ce w' d F' r.1->Upd F w w'->(∀k,F' k->F k\/w.heap.size<=k)->K v w'
theorem Bf1 {E M:Nat->Prop}{b1 b2:Nat}{n:Nm}{Q1:Unit->World->(Nat->Prop)->Prop}(hQ1:∀w F,Q1 () w F){F0:Nat->Prop}{w0:World} :
  Does w0 d F0 M E (λw=>w.heap[b1]?=some (Zu d)/\w.heap[b2]?=some (O5 n)) Q1 D N (u (syR n) D) (.func (.func 170) #[] #[.pointer (some (at0 b1)),.pointer (some (at0 b2))]) #[]:=by
 rintro w1 F1 K ⟨ms,ml,sa,pl,vs,fb,ds,A⟩ ok ⟨n1,n2⟩ hF hz hK
 refine func_x (by kernel_rfl) ?_
 refine Cr7 (v0:=at0 b1) (v1:=at0 b2) ?_
 unfold F170
 refine Ah n1 (x:=some (at0 d)) rfl (Ah n2 (x:=n) rfl (Jf A λnm w2 e2 hnm=>?_))
 unfold u syR at hK
 obtain ⟨o,e,hfo⟩:∃o e,Dsk.find D n=(o,e):=⟨_,_,rfl⟩
 rw [hfo] at hK hnm ⊢
 refine ((St.start w1).ext e2).Ia rfl rfl rfl λb4 w3 S3 e3=>?_
 have e13:=e2.trans e3
 cases o with
 |none =>
  have he:e≠0:=by rcases Lh hfo with ⟨_,h⟩|⟨_,h⟩<;>rw [h]<;>decide
  refine Ag (λ_ w'=>w3=w') (Ac (λh=>absurd (by simpa using h) he) (λ_=>rfl)) λ_ w' h=>?_
  subst h
  exact hK w3 F1 (A.ext e13).in (hQ1 _ _) (Upd.Aj e13) λk hk=>.inl hk
 | some i =>
  obtain ⟨hs,rfl,_⟩:=Ih hfo
  have A3:=A.ext e13
  obtain ⟨b,s,g,hb,hss,hg,hgb,hfl,hbx,hby⟩:=A3.Nu (ok.seen.ids n i hs)
  simp only [Jm hg,Option.map_some,hgb] at hK S3 ⊢
  have hsl:=hby.len1
  rw [List.length_map] at hsl
  refine Ag (λ_ w'=>w'.heap[b]?=some (Rk i s ⟨g.data,s.len,g.count⟩)/\Upd (λk=>k=b) w3 w') (Di (S3.ld 0 (x:=some (at0 b)) rfl rfl (Vq hbx λw4 n4 u4 _=>⟨n4,u4⟩))) ?_
  rintro _ w4 ⟨n4,u4⟩
  have ho:En w4 0 s g.data:=hby.upd u4 λk _ hk e=>by
   obtain ⟨c,fr,hc⟩:=hby.in.Bc hk
   rw [e,hbx] at hc;cases hc
  have A4:=A3.Y8 (g':=⟨g.data,g.data.length,g.count⟩) hb hss hg u4 (λk hk _=>.inl hk) (by rw [hsl];exact n4) ho (λk hk=>.inl hk)
  have hfb:F1 b:=A.ffb b (List.mem_of_getElem? hb)
  refine hK w4 _ A4.in (hQ1 _ _) ((Upd.Aj e13).new u4 λk hk e=>.inl ⟨by rw [e];exact hfb,λc fr hc=>?_⟩) λk hk=>?_
  ·rw [e] at hc hk
   have:=e13.ext_get hc
   rw [hbx] at this;cases this
  ·rcases hk with hk|hk
   ·exact .inl hk
   ·exact .inl (A.fds s (List.mem_of_getElem? hss) k hk)
theorem Bf2 (A:Ce w d F D) (ok:Bl D N) (hN:N+2<=2^60){n:Nm}{K:Value->Wp}(hK:Ends w d F ⟨#[115,121,110,99]⟩ n (Dc D n) K):Aa Tryz.prog 139 #[.pointer (some (at0 d)),.string n] (.one (.one .any)) K w:=by
 refine Ct0 ?_
 unfold F139
 refine Aq λb1 w1 e1 n1 hb1 _=>Aq λb2 w2 e2 n2 hb2 _=>?_
 have e12:=e1.trans e2
 refine Ah (e2.ext_get n1) (x:=some (at0 d)) rfl (Ah n2 (x:=n) rfl ?_)
 have hs1:=e1.size
 have hlt:=A.lt
 have hd:=A.fd
 refine Jt (M:=λ_=>False) (E:=λ_=>False) (Q0:=λw=>w.heap[b1]?=some (Zu d)/\w.heap[b2]?=some (O5 n)) (Q1:=λ_ _ _=>True) (a0:=()) (act:=u (syR n)) (part:=none) (A.ext e12) ok hN ⟨e2.ext_get n1,n2⟩ trivial (λ_ h=>h.elim) (λ_ h=>h.elim)
  (λw1 w2 S ⟨h1,h2⟩ u hS=>⟨u.get h1 λh=>?_,u.get h2 λh=>?_⟩) (λ_ _ _ _ _ _ _ _=>trivial) (λD1 _ ok1=>⟨Bp8 ok1 n,Bf1 λ_ _=>trivial⟩) (.inl ⟨rfl,rfl⟩) ?_
 ·have:=hS _ h;have:=hlt d hd;omega
 ·have:=hS _ h;have:=hlt d hd;omega
 ·intro F' w' v hv hD _ hu hF
  have hs:=e12.size
  exact hK F' w' v ⟨hv.ok,λh=>let ⟨b,k,h1,h2,h3,h4⟩:=hv.bad h;⟨b,k,h1,h2,by omega,h4⟩⟩ hD ((Upd.Aj e12).trans (hu.mono λk _ h=>h.resolve_right id)) λk hk=>(hF k hk).imp id λh=>by rcases h with h|h;exact h.elim;omega
theorem Ah8 (A:Ce w d F D) (ok:Bl D N) (hN:N+2<=2^60){K:Value->Wp}(hK:Ends w d F ⟨#[115,121,110,99,100,105,114]⟩ ⟨#[]⟩ (Cm D) K):Aa Tryz.prog 76 #[.pointer (some (at0 d))] (.one (.one .any)) K w:=by
 refine j76 ?_
 unfold F76
 refine Aq λb1 w1 e1 n1 hb1 _=>?_
 refine Ah n1 (x:=some (at0 d)) rfl ?_
 have hs1:=e1.size
 have hlt:=A.lt
 have hd:=A.fd
 refine Jt (M:=λ_=>False) (E:=λ_=>False) (Q0:=λw=>w.heap[b1]?=some (Zu d)) (Q1:=λ_ _ _=>True) (a0:=()) (act:=u λD=>(Dsk.settle D,0)) (part:=none) (A.ext e1) ok hN n1 trivial (λ_ h=>h.elim) (λ_ h=>h.elim)
  (λw1 w2 S h1 u hS=>u.get h1 λh=>?_) (λ_ _ _ _ _ _ _ _=>trivial) (λD1 _ ok1=>⟨(Uj ok1).mono (Nat.le_succ _),?_⟩) (.inl ⟨rfl,rfl⟩) ?_
 ·have:=hS _ h;have:=hlt d hd;omega
 ·rintro w1 F1 K ⟨ms,ml,sa,pl,vs,fb,ds,A⟩ ok n1 hF hz hK
  refine func_x (by kernel_rfl) ?_
  refine j106 (v0:=at0 b1) ?_
  unfold F106
  refine Ah n1 (x:=some (at0 d)) rfl (Ao0 A λm' w2 A2 u2 hm'=>?_)
  exact hK w2 _ A2.in trivial (u2.mono λk _ e=>.inl (by rw [e];exact FN.of A.fd A.box λc fr h=>by cases h)) λk hk=>hk.imp id λh=>.inr (by omega)
 ·intro F' w' v hv hD _ hu hF
  exact hK F' w' v ⟨hv.ok,λh=>let ⟨b,k,h1,h2,h3,h4⟩:=hv.bad h;⟨b,k,h1,h2,by omega,h4⟩⟩ hD ((Upd.Aj e1).trans (hu.mono λk _ h=>h.resolve_right id)) λk hk=>(hF k hk).imp id λh=>by rcases h with h|h;exact h.elim;omega
theorem Ao6 (A:Ce w d F D) (ok:Bl D N) (hN:N+2<=2^30){n:Nm}{K:Value->Wp}(hK:Ends w d F ⟨#[114,101,109,111,118,101]⟩ n (Ea D n) K):Aa Tryz.prog 75 #[.pointer (some (at0 d)),.string n] (.one (.one .any)) K w:=by
 refine j75 ?_
 unfold F75
 refine Aq λb1 w1 e1 n1 hb1 _=>Aq λb2 w2 e2 n2 hb2 _=>?_
 have e12:=e1.trans e2
 refine Ah (e2.ext_get n1) (x:=some (at0 d)) rfl (Ah n2 (x:=n) rfl ?_)
 have hs1:=e1.size
 have hs2:=e2.size
 have hlt:=A.lt
 have hd:=A.fd
 refine Jt (M:=λk=>k=b2) (E:=λk=>k=b2) (Q0:=λw=>w.heap[b1]?=some (Zu d)/\w.heap[b2]?=some (O5 n)) (Q1:=λ_ _ _=>True) (a0:=()) (act:=u (rmR n)) (part:=none) (A.ext e12) ok (by omega) ⟨e2.ext_get n1,n2⟩ trivial (λk hk=>⟨by rw [hk];exact lt_of_heap n2,λh=>?_⟩) (λ_ h=>h)
  (λw1 w2 S ⟨h1,h2⟩ u hS=>⟨u.get h1 λh=>?_,u.get h2 λh=>?_⟩) (λ_ _ _ _ _ _ _ _=>trivial) (λD1 _ ok1=>⟨Bp9 ok1 n,?_⟩) (.inl ⟨rfl,rfl⟩) ?_
 ·have:=hlt k h;omega
 ·have:=hS _ h;have:=hlt d hd;omega
 ·have:=hS _ h;have:=hlt d hd;omega
 ·rintro w1 F1 K ⟨ms,ml,sa,pl,vs,fb,ds,A⟩ ok ⟨n1,n2⟩ hF hz hK
  refine func_x (by kernel_rfl) ?_
  refine j103 (v0:=at0 b1) (v1:=at0 b2) ?_
  unfold F103
  refine Ah n1 (x:=some (at0 d)) rfl (Ah n2 (x:=n) rfl (Jf A λnm w2 e2 hnm=>?_))
  unfold u rmR at hK
  obtain ⟨o,e,hfo⟩:∃o e,Dsk.find D1 n=(o,e):=⟨_,_,rfl⟩
  rw [hfo] at hK hnm ⊢
  refine ((St.start w1).ext e2).Ia rfl rfl rfl λb4 w3 S3 e3=>?_
  have e13:=e2.trans e3
  cases o with
  |none =>
   have he:e≠0:=by rcases Lh hfo with ⟨_,h⟩|⟨_,h⟩<;>rw [h]<;>decide
   refine Ag (λ_ w'=>w3=w') (Ac (λh=>absurd (by simpa using h) he) (λ_=>rfl)) λ_ w' h=>?_
   subst h
   exact hK w3 F1 (A.ext e13).in trivial (Upd.Aj e13) λk hk=>.inl hk
  | some i =>
   obtain ⟨hs,rfl,_⟩:=Ih hfo
   have A3:=(A.ext e13).more (F':=λk=>F1 k\/k=b2) (λk hk=>.inl hk) (λk hk=>hk.elim ((A.ext e13).lt k) λh=>by rw [h];exact lt_of_heap (e13.ext_get n2))
   have hal:=ok.acts
   refine Ag (λ_ w'=>∃F2,Ce w' d F2 { D1 with acts:=D1.acts++[.rm n] }/\Upd (λk=>FN w1 F1 k\/k=b2) w1 w'/\∀k,F2 k->F1 k\/k=b2\/w1.heap.size<=k) (Di (Ah (e13.ext_get n1) (x:=some (at0 d)) rfl (Aa5 A3 (a:=.rm n) ⟨b2,rfl,e13.ext_get n2,.inr rfl⟩ rfl (by omega) λsa' w4 A4 u4 hb4=>⟨_,A4.in,(Upd.Aj e13).new u4 λk hk h=>?_,λk hk=>?_⟩))) ?_
   ·rcases h.1 with hk'|hk'
    ·exact .inl ⟨hk',λc fr hc=>h.2 c fr (e13.ext_get hc)⟩
    ·exact .inr hk'
   ·have hz:=e13.size
    rcases hk with (hk|hk)|hk
    ·exact .inl hk
    ·exact .inr (.inl hk)
    ·rcases hb4 k hk with (h|h)|h
     ·exact .inl h
     ·exact .inr (.inl h)
     ·exact .inr (.inr (by omega))
   ·rintro _ w4 ⟨F2,A4,u4,hF4⟩
    exact hK w4 F2 A4 trivial u4 hF4
 ·intro F' w' v hv hD _ hu hF
  exact hK F' w' v ⟨hv.ok,λh=>let ⟨b,k,h1,h2,h3,h4⟩:=hv.bad h;⟨b,k,h1,h2,by omega,h4⟩⟩ hD ((Upd.Aj e12).new hu λk hk h=>h.resolve_right (by omega)) λk hk=>(hF k hk).imp id λh=>by omega
end
end Dq
end Go.Proofs.YtmooldhpiopcgaaGreatDoor
namespace Go.Proofs.YtmooldhpiopcgaaGreatDoor
namespace Dq
open Go Go.Vx Dsk
section
variable {w w':World}{S F F':Nat->Prop}{d m ms ml:Nat}{f:Dir}{fb:List Nat}{ds:List Sl}{fs:List Fl}{sa:Sl}{vs:List Value}{D:Dk}{pl:Option Nat}{p:Int->Option Bq}{N:Nat}
theorem Ao5 (A:Ce w d F D) (ok:Bl D N) (hN:N+2<=2^30){n t:Nm}{K:Value->Wp}(hK:Ends w d F ⟨#[114,101,110,97,109,101]⟩ n (Eu D n t) K):Aa Tryz.prog 140 #[.pointer (some (at0 d)),.string n,.string t] (.one (.one .any)) K w:=by
 refine Cs9 ?_
 unfold F140
 refine Aq λb1 w1 e1 n1 hb1 _=>Aq λb2 w2 e2 n2 hb2 _=>Aq λb3 w3 e3 n3 hb3 _=>?_
 have e23:=e2.trans e3
 have e13:=e1.trans e23
 refine Ah (e23.ext_get n1) (x:=some (at0 d)) rfl (Ah (e3.ext_get n2) (x:=n) rfl ?_)
 have hs1:=e1.size
 have hs2:=e2.size
 have hs3:=e3.size
 have hlt:=A.lt
 have hd:=A.fd
 refine Jt (M:=λk=>k=b3) (E:=λk=>k=b3) (Q0:=λw=>w.heap[b1]?=some (Zu d)/\w.heap[b2]?=some (O5 n)/\w.heap[b3]?=some (O5 t)) (Q1:=λ_ _ _=>True) (a0:=()) (act:=u (mvR n t)) (part:=none) (A.ext e13) ok (by omega) ⟨e23.ext_get n1,e3.ext_get n2,n3⟩ trivial (λk hk=>⟨by rw [hk];exact lt_of_heap n3,λh=>?_⟩) (λ_ h=>h)
  (λw1 w2 S ⟨h1,h2,h3⟩ u hS=>⟨u.get h1 λh=>?_,u.get h2 λh=>?_,u.get h3 λh=>?_⟩) (λ_ _ _ _ _ _ _ _=>trivial) (λD1 _ ok1=>⟨Bq1 ok1 n t,?_⟩) (.inl ⟨rfl,rfl⟩) ?_
 ·have:=hlt k h;omega
 ·have:=hS _ h;have:=hlt d hd;omega
 ·have:=hS _ h;have:=hlt d hd;omega
 ·have:=hS _ h;have:=hlt d hd;omega
 ·rintro w1 F1 K ⟨ms,ml,sa,pl,vs,fb,ds,A⟩ ok ⟨n1,n2,n3⟩ hF hz hK
  refine func_x (by kernel_rfl) ?_
  refine Cr6 (v0:=at0 b3) (v1:=at0 b1) (v2:=at0 b2) ?_
  unfold F171
  unfold u mvR at hK
  refine Ah n3 (x:=t) rfl (Tn λw2 e2=>Ac (λh=>?_) (λh=>?_))
  ·have h:Ba t=false:=by simpa using h
   rw [if_pos h] at hK
   exact hK w2 F1 (A.ext e2).in trivial (Upd.Aj e2) λk hk=>.inl hk
  have h:¬Ba t=false:=by simpa using h
  rw [if_neg h] at hK
  refine Ah (e2.ext_get n1) (x:=some (at0 d)) rfl (Ah (e2.ext_get n2) (x:=n) rfl (Jf (A.ext e2) λnm w3 e3 hnm=>?_))
  obtain ⟨o,e,hfo⟩:∃o e,Dsk.find D1 n=(o,e):=⟨_,_,rfl⟩
  rw [hfo] at hK hnm ⊢
  have e13:=e2.trans e3
  refine ((St.start w1).ext e13).Ia rfl rfl rfl λb4 w4 S4 e4=>?_
  have e14:=e13.trans e4
  cases o with
  |none =>
   have he:e≠0:=by rcases Lh hfo with ⟨_,h⟩|⟨_,h⟩<;>rw [h]<;>decide
   refine Ag (λ_ w'=>w4=w') (Bj (false,()) (Ac (λh=>absurd (by simpa using h) he) (λ_=>⟨rfl,rfl⟩)) (Ap rfl)) λ_ w' h=>?_
   subst h
   exact hK w4 F1 (A.ext e14).in trivial (Upd.Aj e14) λk hk=>.inl hk
  | some i =>
   obtain ⟨hs,rfl,_⟩:=Ih hfo
   have hnm:=hnm rfl
   subst hnm
   dsimp only at hK
   refine Ag (λ_ w'=>∃F2 D2,(if nm=t then (D1,0) else ({ D1 with acts:=D1.acts++[.mv nm t i] },0))=(D2,(0:Int))/\Ce w' d F2 D2/\Upd (λk=>FN w1 F1 k\/k=b3) w1 w'/\∀k,F2 k->F1 k\/k=b3\/w1.heap.size<=k) ?_ ?_
   ·refine Bj (decide (¬nm=t),()) (Di (Ah (e14.ext_get n2) (x:=nm) rfl (Ah (e14.ext_get n3) (x:=t) rfl ⟨by rw [bytes_eq];simp,rfl⟩))) (Ac (λh=>?_) (λh=>?_))
    ·have h:¬nm=t:=by simpa using h
     have hb4:=S4.ge 0 rfl
     have n4:=S4.at_ 0 rfl
     have hb4l:=lt_of_heap n4
     have A4:=(A.ext e14).more (F':=λk=>(F1 k\/k=b3)\/k=b4) (λk hk=>.inl (.inl hk)) (λk hk=>hk.elim (λhk=>hk.elim ((A.ext e14).lt k) λh=>by rw [h];exact lt_of_heap (e14.ext_get n3)) λh=>by rw [h];exact hb4l)
     have hal:=ok.acts
     refine Ah (e14.ext_get n1) (x:=some (at0 d)) rfl (Aa5 A4 (a:=.mv nm t i) ⟨b4,b3,rfl,n4,e14.ext_get n3,.inr rfl,.inl (.inr rfl),A.seen.ids nm i hs⟩ rfl (by omega) λsa' w5 A5 u5 hb5=>⟨_,_,by rw [if_neg h],A5.in,(Upd.Aj e14).new u5 λk hk h=>?_,λk hk=>?_⟩)
     ·rcases h.1 with (hk'|hk')|hk'
      ·exact .inl ⟨hk',λc fr hc=>h.2 c fr (e14.ext_get hc)⟩
      ·exact .inr hk'
      ·omega
     ·have hz:=e14.size
      rcases hk with ((hk|hk)|hk)|hk
      ·exact .inl hk
      ·exact .inr (.inl hk)
      ·exact .inr (.inr (by omega))
      ·rcases hb5 k hk with ((h|h)|h)|h
       ·exact .inl h
       ·exact .inr (.inl h)
       ·exact .inr (.inr (by omega))
       ·exact .inr (.inr (by omega))
    ·have h:nm=t:=by simpa using h
     exact ⟨F1,D1,by rw [if_pos h],(A.ext e14).in,Upd.Aj e14,λk hk=>.inl hk⟩
   ·rintro _ w5 ⟨F2,D2,hD2,A5,u5,hF5⟩
    rw [hD2] at hK
    exact hK w5 F2 A5 trivial u5 hF5
 ·intro F' w' v hv hD _ hu hF
  exact hK F' w' v ⟨hv.ok,λh=>let ⟨b,k,h1,h2,h3,h4⟩:=hv.bad h;⟨b,k,h1,h2,by omega,h4⟩⟩ hD ((Upd.Aj e13).new hu λk hk h=>h.resolve_right (by omega)) λk hk=>(hF k hk).imp id λh=>by omega
theorem Bh9 (A:Ce w d F D) (ok:Bl D N) (hN:N+2<=2^30){n:Nm}{K:Value->Wp}(hK:Ends w d F ⟨#[109,97,107,101]⟩ n (Dj D n) K):Aa Tryz.prog 137 #[.pointer (some (at0 d)),.string n] (.one (.one .any)) K w:=by
 refine j137 ?_
 unfold F137
 refine Aq λb1 w1 e1 n1 hb1 _=>Aq λb2 w2 e2 n2 hb2 _=>?_
 have e12:=e1.trans e2
 refine Ah (e2.ext_get n1) (x:=some (at0 d)) rfl (Ah n2 (x:=n) rfl ?_)
 have hs1:=e1.size
 have hs2:=e2.size
 have hlt:=A.lt
 have hd:=A.fd
 refine Jt (M:=λk=>k=b2) (E:=λk=>k=b2) (Q0:=λw=>w.heap[b1]?=some (Zu d)/\w.heap[b2]?=some (O5 n)) (Q1:=λ_ _ _=>True) (a0:=()) (act:=u (mkR n)) (part:=none) (A.ext e12) ok (by omega) ⟨e2.ext_get n1,n2⟩ trivial (λk hk=>⟨by rw [hk];exact lt_of_heap n2,λh=>?_⟩) (λ_ h=>h)
  (λw1 w2 S ⟨h1,h2⟩ u hS=>⟨u.get h1 λh=>?_,u.get h2 λh=>?_⟩) (λ_ _ _ _ _ _ _ _=>trivial) (λD1 _ ok1=>⟨Bq2 ok1 n,?_⟩) (.inl ⟨rfl,rfl⟩) ?_
 ·have:=hlt k h;omega
 ·have:=hS _ h;have:=hlt d hd;omega
 ·have:=hS _ h;have:=hlt d hd;omega
 ·rintro w1 F1 K ⟨ms,ml,sa,pl,vs,fb,ds,A⟩ ok ⟨n1,n2⟩ hF hz hK
  refine func_x (by kernel_rfl) ?_
  refine Cs1 (v0:=at0 b1) (v1:=at0 b2) ?_
  unfold F166
  refine Ah n1 (x:=some (at0 d)) rfl (Ah n2 (x:=n) rfl (Jf A λnm w2 e2 hnm=>?_))
  unfold u mkR at hK
  dsimp only at hK
  obtain ⟨o,e,hfo⟩:∃o e,Dsk.find D1 n=(o,e):=⟨_,_,rfl⟩
  rw [hfo] at hK hnm ⊢
  dsimp only at hK
  refine ((St.start w1).ext e2).Ia rfl rfl rfl λb4 w3 S3 e3=>?_
  have e13:=e2.trans e3
  have A3:=A.ext e13
  refine Ac (λh=>?_) (λh=>?_)
  ·have h:e=164:=by simpa using h
   rw [if_pos h] at hK
   subst h
   exact hK w3 F1 A3.in trivial (Upd.Aj e13) λk hk=>.inl hk
  have h:¬e=164:=by simpa using h
  rw [if_neg h] at hK
  refine Ac (λh0=>?_) (λh0=>?_)
  ·have h0:e=0:=by simpa using h0
   rw [if_pos h0] at hK
   exact hK w3 F1 A3.in trivial (Upd.Aj e13) λk hk=>.inl hk
  have h0:¬e=0:=by simpa using h0
  rw [if_neg h0] at hK
  refine Ah (e13.ext_get n1) (x:=some (at0 d)) rfl (Af ?_)
  rw [addr_add]
  refine Ah A3.box (x:=some ms) rfl (A3.seen.len (Ac (λhc=>?_) (λhc=>?_)))
  ·have hc:16<=(names D1.seen).length:=by have:=of_decide_eq_true hc;omega
   rw [if_pos hc] at hK
   exact hK w3 F1 A3.in trivial (Upd.Aj e13) λk hk=>.inl hk
  have hc:¬16<=(names D1.seen).length:=by have:=of_decide_eq_false hc;omega
  rw [if_neg hc] at hK
  have hnum:=ok.num
  refine Ah (e13.ext_get n1) (x:=some (at0 d)) rfl (Rh A3 (by omega) λb w4 A4 u4 hb4=>Aq λb11 w5 e5 n5 hb5 _=>?_)
  have hdb:∀k,k≠d->∀{o},w3.heap[k]?=some o->w4.heap[k]?=some o:=λk hk o ho=>u4.get ho hk
  have hd1:=hF d A.fd
  have hblt:=lt_of_heap n1
  have hb2lt:=lt_of_heap n2
  have hbd1:b1≠d:=λe=>by rw [e,A.box] at n1;cases n1
  have hbd2:b2≠d:=λe=>by rw [e,A.box] at n2;cases n2
  refine Ei n5 (by simp) λw6 u6 n6 hz6=>?_
  have e46:Ext w4 w6:=e5.new u6 λk hk h=>by omega
  have hz4:=u4.size
  have hz13:=e13.size
  have g1:w6.heap[b1]?=some (Zu d):=e46.ext_get (hdb _ hbd1 (e13.ext_get n1))
  have g2:w6.heap[b2]?=some (O5 n):=e46.ext_get (hdb _ hbd2 (e13.ext_get n2))
  have A6:=(A4.ext e46).more (F':=λk=>((F1 k\/k=b)\/k=b2)\/k=b11) (λk hk=>.inl (.inl hk)) (λk hk=>hk.elim (λhk=>hk.elim ((A4.ext e46).lt k) λh=>by rw [h];exact lt_of_heap g2) λh=>by rw [h];exact lt_of_heap n6)
  have hlf:=A.files.lf
  have hal:=ok.acts
  have g3:w6.heap[b11]?=some (.cells #[.pointer (some (at0 ((fb++[b]).getD D1.files.length 0)))] 121 (0,0)):=by
   rw [n6,←hlf,List.getD_eq_getElem?_getD,List.getElem?_append_right (Nat.le_refl _),Nat.sub_self];rfl
  refine Ah g1 (x:=some (at0 d)) rfl (Aa5 A6 (a:=.mk n D1.files.length) ⟨b11,b2,rfl,g3,g2,.inr rfl,.inl (.inr rfl),by simp [hlf]⟩ rfl (by dsimp only;omega) λsa' w7 A7 u7 hb7=>hK w7 _ A7.in trivial ((((Upd.Aj e13).new u4 λk hk e=>.inl (by rw [e];exact FN.of A.fd A.box λc fr h=>by cases h)).trans (Upd.Aj e46)).new u7 λk hk h=>?_) λk hk=>?_)
  ·rcases h.1 with ((hk'|hk')|hk')|hk'
   ·refine .inl ⟨hk',λc fr hc=>?_⟩
    by_cases hkd:k=d
    ·rw [hkd,A.box] at hc;cases hc
    ·exact h.2 c fr (e46.ext_get (hdb _ hkd (e13.ext_get hc)))
   ·omega
   ·exact .inr hk'
   ·omega
  ·rcases hk with (((hk|hk)|hk)|hk)|hk
   ·exact .inl hk
   ·exact .inr (.inr (by omega))
   ·exact .inr (.inl hk)
   ·exact .inr (.inr (by omega))
   ·have h46:=e46.size
    rcases hb7 k hk with (((h|h)|h)|h)|h
    ·exact .inl h
    ·exact .inr (.inr (by omega))
    ·exact .inr (.inl h)
    ·exact .inr (.inr (by omega))
    ·exact .inr (.inr (by omega))
 ·intro F' w' v hv hD _ hu hF
  exact hK F' w' v ⟨hv.ok,λh=>let ⟨b,k,h1,h2,h3,h4⟩:=hv.bad h;⟨b,k,h1,h2,by omega,h4⟩⟩ hD ((Upd.Aj e12).new hu λk hk h=>h.resolve_right (by omega)) λk hk=>(hF k hk).imp id λh=>by omega
end
end Dq
end Go.Proofs.YtmooldhpiopcgaaGreatDoor
namespace Go.Proofs.YtmooldhpiopcgaaGreatDoor
namespace Dq
open Go Go.Vx Dsk
section
variable {w w':World}{S F F':Nat->Prop}{d m ms ml:Nat}{f:Dir}{fb:List Nat}{ds:List Sl}{fs:List Fl}{sa:Sl}{vs:List Value}{D:Dk}{pl:Option Nat}{p:Int->Option Bq}{N:Nat}
theorem Ql.back {w0 w1:World}{v:Value}{op nm:ByteArray}{e:Int}(h:Ql w1 w F v op nm e) (hz:w0.heap.size<=w1.heap.size):Ql w0 w F v op nm e :=
 ⟨h.ok,λhh=>let ⟨b,k,h1,h2,h3,h4⟩:=h.bad hh;⟨b,k,h1,h2,Nat.le_trans hz h3,h4⟩⟩
def Bu7 (b3 B:Nat) (a:List UInt8) (w:World) (F:Nat->Prop):Prop :=
 ∃s,w.heap[b3]?=some (.cells #[sv s] 30 (0,0))/\¬F b3/\En w B s a/\∀k,s.blk k->¬F k
theorem Bu7.keep {b3 B:Nat}{a:List UInt8}{w1 w2:World}{F1 F2:Nat->Prop}(h:Bu7 b3 B a w1 F1) (u:Upd F1 w1 w2) (hF:∀k,F2 k->F1 k\/w1.heap.size<=k):Bu7 b3 B a w2 F2:=by
 obtain ⟨s,h1,h2,h3,h4⟩:=h
 refine ⟨s,u.get h1 h2,λhk=>(hF _ hk).elim h2 λh=>?_,h3.upd u λk _ hk=>h4 k hk,λk hk hF2=>(hF _ hF2).elim (h4 k hk) λh=>?_⟩
 ·have:=lt_of_heap h1;omega
 ·have:=h3.in.Em hk;omega
theorem Bg4 (A:Ce w d F D) (ok:Bl D N) (hN:N+2<=2^30){n:Nm}{K:(Sl×Value×Unit)->Wp}
  (hK:∀F' w' s v,Ql w w' F' v ⟨#[114,101,97,100]⟩ n (Bh D n).2.1->Ce w' d F' (Bh D n).1->Upd F w w'->(∀k,F' k->F k\/w.heap.size<=k)->En w' w.heap.size s (Bh D n).2.2->(∀k,s.blk k->¬F' k)->K (s,v,()) w') :
  Aa Tryz.prog 49 #[.pointer (some (at0 d)),.string n] (.tup [(.one .sl),(.one .any)]) K w:=by
 refine j49 ?_
 unfold F49
 refine Aq λb1 w1 e1 n1 hb1 _=>Aq λb2 w2 e2 n2 hb2 _=>Aq λb3 w3 e3 n3 hb3 _=>?_
 have e23:=e2.trans e3
 have e13:=e1.trans e23
 refine Ah (e23.ext_get n1) (x:=some (at0 d)) rfl (Ah (e3.ext_get n2) (x:=n) rfl ?_)
 have hs1:=e1.size
 have hs2:=e2.size
 have hs3:=e3.size
 have hlt:=A.lt
 have hd:=A.fd
 refine Jt (M:=λk=>k=b3) (E:=λ_=>False) (Q0:=λw=>w.heap[b1]?=some (Zu d)/\w.heap[b2]?=some (O5 n)/\w.heap[b3]?=some (.cells #[.slice none 0 0] 30 (0,0))) (Q1:=Bu7 b3 w.heap.size) (a0:=[]) (act:=rdR n) (part:=none) (A.ext e13) ok (by omega) ⟨e23.ext_get n1,e3.ext_get n2,n3⟩ ⟨⟨none,0,0⟩,n3,λh=>?_,Au.nil _ _ _ _,λk ⟨q,hq,_⟩=>by cases hq⟩ (λk hk=>⟨by rw [hk];exact lt_of_heap n3,λh=>?_⟩) (λ_ h=>h.elim)
  (λw1 w2 S ⟨h1,h2,h3⟩ u hS=>⟨u.get h1 λh=>?_,u.get h2 λh=>?_,u.get h3 λh=>?_⟩) (λa w1 F1 w2 F2 h u hF=>h.keep u hF) (λD1 _ ok1=>⟨?_,?_⟩) (.inl ⟨rfl,rfl⟩) ?_
 ·have:=hlt _ h;omega
 ·have:=hlt k h;omega
 ·have:=hS _ h;have:=hlt d hd;omega
 ·have:=hS _ h;have:=hlt d hd;omega
 ·have:=hS _ h;have:=hlt d hd;omega
 ·have h1:(rdR n D1).1=D1:=by unfold rdR;split<;>rfl
  rw [h1];exact ok1.mono (Nat.le_succ _)
 ·rintro w1 F1 K ⟨ms,ml,sa,pl,vs,fb,ds,A⟩ ok ⟨n1,n2,n3⟩ hF hz hK
  refine func_x (by kernel_rfl) ?_
  refine j87 (v0:=at0 b1) (v1:=at0 b2) (v2:=at0 b3) ?_
  unfold F87
  refine Ah n1 (x:=some (at0 d)) rfl (Ah n2 (x:=n) rfl (Jf A λnm w2 e2 hnm=>?_))
  unfold rdR at hK
  obtain ⟨o,e,hfo⟩:∃o e,Dsk.find D1 n=(o,e):=⟨_,_,rfl⟩
  rw [hfo] at hK hnm ⊢
  refine ((St.start w1).ext e2).Ia rfl rfl rfl λb4 w3 S3 e3=>?_
  have e13:=e2.trans e3
  have hb3F:¬F1 b3:=λh=>by rcases hF _ h with h|h;have:=hlt _ h;omega;omega
  cases o with
  |none =>
   have he:e≠0:=by rcases Lh hfo with ⟨_,h⟩|⟨_,h⟩<;>rw [h]<;>decide
   refine Ag (λ_ w'=>w3=w') (Ac (λh=>absurd (by simpa using h) he) (λ_=>rfl)) λ_ w' h=>?_
   subst h
   exact hK w3 F1 (A.ext e13).in ⟨⟨none,0,0⟩,e13.ext_get n3,hb3F,Au.nil _ _ _ _,λk ⟨q,hq,_⟩=>by cases hq⟩ (Upd.Aj e13) λk hk=>.inl hk
  | some i =>
   obtain ⟨hs,rfl,_⟩:=Ih hfo
   have A3:=A.ext e13
   obtain ⟨b,s,g,hb,hss,hg,hgb,hfl,hbx,hby⟩:=A3.Nu (ok.seen.ids n i hs)
   have hgl:=(ok.fil i g hg).1
   dsimp only at hK
   rw [hfl] at hK
   have hz13:=e13.size
   refine Ag (λ_ w'=>Bu7 b3 w.heap.size g.data w' F1/\Upd (λk=>k=b3) w3 w') (Di (S3.ld 0 (x:=some (at0 b)) rfl (by simp only [Option.map_some,hgb];rfl) (Af ?_))) ?_
   ·rw [addr_add]
    refine Ah hbx (x:=s) rfl (Zq hby.in.x (by omega) λs' w4 hs' e4=>Ei (e4.ext_get (e13.ext_get n3)) (by simp) λw5 u5 n5 hz5=>⟨⟨s',by rw [n5];rfl,hb3F,(hs'.box (e4.ext_get (e13.ext_get n3)) (by decide) u5).mono (by omega),λk hk hF1=>?_⟩,(Upd.Aj e4).new u5 λk _ h=>h⟩)
    have:=hs'.Ew hk
    have:=A.lt k hF1
    omega
   ·rintro _ w5 ⟨q5,u5⟩
    exact hK w5 F1 (A3.in.frame u5 λk hk e=>hb3F (e▸hk)) q5 ((Upd.Aj e13).new u5 λk hk e=>.inr e) λk hk=>.inl hk
 ·intro F' w' v hv hD hq hu hF
  obtain ⟨s,q1,q2,q3,q4⟩:=hq
  have hu':Upd F w w':=(Upd.Aj e13).new hu λk hk h=>h.resolve_right (by omega)
  have hF':∀k,F' k->F k\/w.heap.size<=k:=λk hk=>(hF k hk).imp id λh=>by rcases h with h|h;exact h.elim;omega
  have hv:=hv.back (w0:=w) e13.size
  by_cases he:(Bh D n).2.1=0
  ·have h0:v=.nilIface:=hv.ok he
   subst h0
   refine Kz (Ap (Ah q1 (x:=s) rfl (hK F' w' s _ hv hD hu' hF' ?_ q4))) uE
   unfold Bh at he ⊢
   simp only [if_pos he]
   exact q3
  ·obtain ⟨b,k,rfl,h2,h3,h4⟩:=hv.bad he
   refine O8 (Di (hK F' w' _ _ hv hD hu' hF' ?_ λk ⟨q,hq,_⟩=>by cases hq)) uE
   unfold Bh at he ⊢
   simp only [if_neg he]
   exact Au.nil _ _ _ _
abbrev stb (a:Int×Int×Int):Obj:=.cells #[.int .i64 a.1,.int .i64 a.2.1,.int .i64 a.2.2] 57 (0,0)
def StQ (b:Nat) (a:Int×Int×Int) (w:World) (F:Nat->Prop):Prop:=w.heap[b]?=some (stb a)/\¬F b
theorem Au6 (A:Ce w d F D) (ok:Bl D N) (hN:N+2<=2^30){n:Nm}{K:((Int×Int×Int×Unit)×Value×Unit)->Wp}
  (hK:∀F' w' v,Ql w w' F' v ⟨#[115,116,97,109,112]⟩ n (Ai D n).2.1->Ce w' d F' (Ai D n).1->Upd F w w'->(∀k,F' k->F k\/w.heap.size<=k)->K (((Ai D n).2.2.1,(Ai D n).2.2.2.1,(Ai D n).2.2.2.2,()),v,()) w') :
  Aa Tryz.prog 34 #[.pointer (some (at0 d)),.string n] (.tup [(.agg c57),(.one .any)]) K w:=by
 refine j34 ?_
 unfold F34
 refine Aq λb1 w1 e1 n1 hb1 _=>Aq λb2 w2 e2 n2 hb2 _=>Aq λb3 w3 e3 n3 hb3 _=>Aq λb4 w4 e4 n4 hb4 _=>?_
 have e34:=e3.trans e4
 have e24:=e2.trans e34
 have e14:=e1.trans e24
 refine Ah (e24.ext_get n1) (x:=some (at0 d)) rfl (Ah (e34.ext_get n2) (x:=n) rfl ?_)
 have hs1:=e1.size
 have hs2:=e2.size
 have hs3:=e3.size
 have hs4:=e4.size
 have hlt:=A.lt
 have hd:=A.fd
 refine Jt (M:=λk=>k=b4) (E:=λ_=>False) (Q0:=λw=>w.heap[b1]?=some (Zu d)/\w.heap[b2]?=some (O5 n)/\w.heap[b4]?=some (stb (0,0,0))) (Q1:=StQ b4) (a0:=(0,0,0)) (act:=stR n) (part:=none) (A.ext e14) ok (by omega) ⟨e24.ext_get n1,e34.ext_get n2,n4⟩ ⟨n4,λh=>?_⟩ (λk hk=>⟨by rw [hk];exact lt_of_heap n4,λh=>?_⟩) (λ_ h=>h.elim)
  (λw1 w2 S ⟨h1,h2,h3⟩ u hS=>⟨u.get h1 λh=>?_,u.get h2 λh=>?_,u.get h3 λh=>?_⟩) (λa w1 F1 w2 F2 ⟨h1,h2⟩ u hF=>⟨u.get h1 h2,λh=>(hF _ h).elim h2 λh=>?_⟩) (λD1 _ ok1=>⟨?_,?_⟩) (.inl ⟨rfl,rfl⟩) ?_
 ·have:=hlt _ h;omega
 ·have:=hlt k h;omega
 ·have:=hS _ h;have:=hlt d hd;omega
 ·have:=hS _ h;have:=hlt d hd;omega
 ·have:=hS _ h;have:=hlt d hd;omega
 ·have:=lt_of_heap h1;omega
 ·have h1:(stR n D1).1=D1:=by unfold stR;split<;>rfl
  rw [h1];exact ok1.mono (Nat.le_succ _)
 ·rintro w1 F1 K ⟨ms,ml,sa,pl,vs,fb,ds,A⟩ ok ⟨n1,n2,n4⟩ hF hz hK
  refine func_x (by kernel_rfl) ?_
  refine j66 (v0:=at0 b1) (v1:=at0 b2) (v2:=at0 b4) ?_
  unfold F66
  refine Ah n1 (x:=some (at0 d)) rfl (Ah n2 (x:=n) rfl (Jf A λnm w2 e2 hnm=>?_))
  unfold stR at hK
  obtain ⟨o,e,hfo⟩:∃o e,Dsk.find D1 n=(o,e):=⟨_,_,rfl⟩
  rw [hfo] at hK hnm ⊢
  refine (((St.Au3 (λk=>k=b4) w1 λk hk=>by rw [hk];exact lt_of_heap n4)).ext e2).Ia rfl rfl rfl λbh w3 S3 e3=>?_
  have e13:=e2.trans e3
  have hb4F:¬F1 b4:=λh=>by rcases hF _ h with h|h;have:=hlt _ h;omega;omega
  cases o with
  |none =>
   have he:e≠0:=by rcases Lh hfo with ⟨_,h⟩|⟨_,h⟩<;>rw [h]<;>decide
   refine Ag (λ_ w'=>w3=w') (Ac (λh=>absurd (by simpa using h) he) (λ_=>rfl)) λ_ w' h=>?_
   subst h
   exact hK w3 F1 (A.ext e13).in ⟨e13.ext_get n4,hb4F⟩ (Upd.Aj e13) λk hk=>.inl hk
  | some i =>
   obtain ⟨hs,rfl,_⟩:=Ih hfo
   have A3:=A.ext e13
   obtain ⟨b,s,g,hb,hss,hg,hgb,hfl,hbx,hby⟩:=A3.Nu (ok.seen.ids n i hs)
   dsimp only at hK
   rw [hfl] at hK
   have hlen:=hby.len1
   rw [List.length_map] at hlen
   have hbb:b≠b4:=λh=>by rw [h,e13.ext_get n4] at hbx;cases hbx
   refine Ag (λ_ w'=>w'.heap[b4]?=some (stb ((i:Int)+1,g.data.length,g.count))/\Upd (λk=>k=b4) w3 w') (Di (S3.drew λw4 S4 e4 _=>?_)) ?_
   ·have hbx:=e4.ext_get hbx
    have n4:=e4.ext_get (e13.ext_get n4)
    refine S4.ld 0 (x:=some (at0 b)) rfl (by simp only [Option.map_some,hgb];rfl) (Af (Ah hbx (x:=(i:Int)+1) rfl (S4.ld 0 (x:=some (at0 b)) rfl (by simp only [Option.map_some,hgb];rfl) (Af ?_))))
    rw [addr_add]
    refine Ah hbx (x:=s) rfl (S4.ld 0 (x:=some (at0 b)) rfl (by simp only [Option.map_some,hgb];rfl) (Af ?_))
    rw [addr_add]
    refine Ah hbx (x:=g.count) rfl (Fb n4 rfl rfl (by simp) λw5 u5 n5 hz5=>?_)
    have n5:w5.heap[b4]?=some (stb (0,0,0)):=n5
    have S5:=S4.step u5 λ_ h=>h
    have hbx5:=u5.get hbx hbb
    refine Ar (cell_of hbx5 (off:=3) rfl) (S5.keep 0 rfl (by simp only [Option.map_some,hgb];rfl) (Ar (cell_of hbx5 (off:=1) rfl) (S5.keep 0 rfl (by simp only [Option.map_some,hgb];rfl) (Ar (cell_of hbx5 (off:=0) rfl) (S5.keep 0 rfl (by simp only [Option.map_some,hgb];rfl) (Gf (by decide) ?_))))))
    refine Ei (off:=0) n5 (by simp) λw6 u6 n6 hz6=>?_
    have S6:=S5.step u6 λ_ h=>h
    have hbx6:=u6.get hbx5 hbb
    refine Ar (cell_of hbx6 (off:=3) rfl) (S6.keep 0 rfl (by simp only [Option.map_some,hgb];rfl) (Ar (cell_of hbx6 (off:=1) rfl) (S6.keep 0 rfl (by simp only [Option.map_some,hgb];rfl) (Gf (by decide) ?_))))
    refine Ei (off:=1) n6 (by simp) λw7 u7 n7 hz7=>?_
    have S7:=S6.step u7 λ_ h=>h
    have hbx7:=u7.get hbx6 hbb
    refine Ar (cell_of hbx7 (off:=3) rfl) (S7.keep 0 rfl (by simp only [Option.map_some,hgb];rfl) (Gf (by decide) ?_))
    refine Ei (off:=2) n7 (by simp) λw8 u8 n8 hz8=>⟨?_,(((Upd.Aj e4).trans u5).trans u6).trans (u7.trans u8)⟩
    rw [n8,hlen];rfl
   ·rintro _ w5 ⟨q5,u5⟩
    exact hK w5 F1 (A3.in.frame u5 λk hk e=>hb4F (e▸hk)) ⟨q5,hb4F⟩ ((Upd.Aj e13).new u5 λk hk e=>.inr e) λk hk=>.inl hk
 ·intro F' w' v hv hD hq hu hF
  obtain ⟨q1,q2⟩:=hq
  have hu':Upd F w w':=(Upd.Aj e14).new hu λk hk h=>h.resolve_right (by omega)
  have hF':∀k,F' k->F k\/w.heap.size<=k:=λk hk=>(hF k hk).imp id λh=>by rcases h with h|h;exact h.elim;omega
  have hv:=hv.back (w0:=w) e14.size
  have hb3F:¬F' b3:=λh=>by rcases hF _ h with h|h|h;have:=hlt _ h;omega;exact h;omega
  have n3':w'.heap[b3]?=some (stb (0,0,0)):=hu.get (e4.ext_get n3) λh=>by rcases h with h|h;have:=hlt _ h;omega;omega
  have low:∀{W:World} {a:Int×Int×Int},Upd (λk=>k=b3) w' W->(Ai D n).2.2=a->K ((a.1,a.2.1,a.2.2,()),v,()) W:=λ{W a} u h=>by
   have:=hK F' W v ⟨hv.ok,λhh=>let ⟨b,k,h1,h2,h3,h4⟩:=hv.bad hh;⟨b,k,h1,u.get h2 (λe=>by rw [e,n3'] at h2;cases h2),h3,h4⟩⟩ (hD.frame u λk hk e=>hb3F (e▸hk)) (hu'.new u λk hk e=>by omega) hF'
   rw [h] at this
   exact this
  by_cases he:(Ai D n).2.1=0
  ·have h0:v=.nilIface:=hv.ok he
   have ha:(Ai D n).2.2=(Dsk.step D (0,0,0) (stR n) none).2.2:=by
    unfold Ai at he ⊢
    simp only [if_pos he]
   obtain ⟨a,haa⟩:∃a,(Dsk.step D (0,0,0) (stR n) none).2.2=a:=⟨_,rfl⟩
   rw [haa] at ha q1
   subst h0
   refine Kz (Ap (Gi (x:=(a.1,a.2.1,a.2.2,())) (c:=(Cells.vals c57 (a.1,a.2.1,a.2.2,())).toArray) q1 (λi v hv=>?_) ?_)) uE
   ·rw [Nat.zero_add,List.getElem?_toArray];exact hv
   refine Fb n3' rfl rfl (by simp) λw6 u6 n6 hz6=>Gi (x:=(a.1,a.2.1,a.2.2,())) (c:=(Cells.vals c57 (a.1,a.2.1,a.2.2,())).toArray) n6 (λi v hv=>?_) (low u6 ha)
   rw [Nat.zero_add,List.getElem?_toArray];exact hv
  ·obtain ⟨b,k,rfl,h2,h3,h4⟩:=hv.bad he
   have ha:(Ai D n).2.2=(0,0,0):=by
    unfold Ai at he ⊢
    simp only [if_neg he]
   refine O8 (Di (Fb n3' rfl rfl (by simp) λw6 u6 n6 hz6=>Gi (x:=(0,0,0,())) (c:=(Cells.vals c57 (0,0,0,())).toArray) n6 (λi v hv=>?_) (low u6 ha))) uE
   rw [Nat.zero_add,List.getElem?_toArray];exact hv
end
end Dq
end Go.Proofs.YtmooldhpiopcgaaGreatDoor
namespace Go.Proofs.YtmooldhpiopcgaaGreatDoor
namespace Dq
open Go Go.Vx Dsk
section
variable {w w':World}{S F F':Nat->Prop}{d m ms ml:Nat}{f:Dir}{fb:List Nat}{ds:List Sl}{fs:List Fl}{sa:Sl}{vs:List Value}{D:Dk}{pl:Option Nat}{p:Int->Option Bq}{N:Nat}
theorem Dw.frame (A:Dw w d F D ms ml sa pl vs fb ds) (u:Upd S w w') (hS:∀k,F k->¬S k):Dw w' d F D ms ml sa pl vs fb ds:=by
 refine ⟨u.get A.box (hS _ A.fd),A.seen.upd u (hS _ A.fms),A.lasts.upd u (hS _ A.fml),A.files.upd u (λb hb=>hS _ (A.ffb b hb)) (λs hs k hk=>hS _ (A.fds s hs k hk)),
  ⟨A.acts.row.upd u λk _ hk=>hS _ (A.fsa k hk),A.acts.len,λi v a hv ha=>(A.acts.at_ i v a hv ha).upd u hS λ_ h=>h⟩,?_,A.ne,A.nes,A.nel,A.fd,A.fms,A.fml,A.ffb,A.fds,A.fsa,λk hk=>Nat.lt_of_lt_of_le (A.lt k hk) u.size⟩
 rcases A.plan with h|⟨m,es,g1,g2,g3,g4⟩
 ·exact .inl h
 ·exact .inr ⟨m,es,g1,g2,g3.upd u (hS m g2),λk=>(g4 k).old u hS⟩
theorem Cj5 {x:Sl}{l:List UInt8}(hx:Bytes w x l){h:Int}(h0:0<=h) (hh:h<=x.len){K:Sl->Wp}(hK:∀s',Bytes w s' (l.take h.toNat)->s'.len=h.toNat->(∀k,s'.blk k->x.blk k)->K s' w) :
  slc x.a 0 h ((x.cap:Nat):Int) x.cap 1 K w:=by
 rcases hx.at_ with ⟨h1,h2⟩|⟨t,hi⟩
 ·have hz:h=0:=by omega
  subst hz
  have hl:l=[]:=by simpa using h2
  refine ⟨(),⟨Int.le_refl 0,Int.le_refl 0,by omega,Int.le_refl _⟩,hK _ ⟨.inl ⟨rfl,by rw [hl];rfl⟩⟩ rfl λk hk=>?_⟩
  obtain ⟨p,hp,rfl⟩:=hk
  have hp':(if ((x.cap:Nat):Int).toNat=(0:Int).toNat then x.a else x.a.map λp=>p.add (scaled (0:Int).toNat 1))=some p:=hp
  split at hp'
  ·exact ⟨p,hp',rfl⟩
  ·obtain ⟨q,hq,rfl⟩:=Option.map_eq_some_iff.1 hp'
   exact ⟨q,hq,rfl⟩
 ·have hle:=hi.le
  refine Qa hi (Int.le_refl 0) h0 hh (by omega) (Int.le_refl _) λs' hi' hl _ hb=>hK s' ⟨.inr ⟨t,?_⟩⟩ (by omega) hb
  simpa [List.map_take] using hi'
abbrev Ay7 (k:Int):Obj:=.cells #[.int .i64 k] 3 (0,0)
theorem room_le (ok:Bl D N):0<=room D/\room D<=1048576:=by
 have:=ok.space
 have:=ok.used none
 unfold room
 omega
theorem H8 {b1 b2 b4:Nat}{n:Nm}{x:Sl}{l:List UInt8}(A:Dw w d F D ms ml sa pl vs fb ds) (ok:Bl D N) (hN:N<=2^30) (n1:w.heap[b1]?=some (Zu d)) (n2:w.heap[b2]?=some (O5 n)) (n4:w.heap[b4]?=some (Ay7 0)) (h4:¬F b4)
  (hx:Bytes w x l) (hxb:Lie (λk=>k≠b4) x) {K:Int->Wp}
  (hK:∀w' F2,Ce w' d F2 (apR n l D).1->w'.heap[b4]?=some (Ay7 (apR n l D).2.2)->Upd (λk=>FN w F k\/k=b4) w w'->(∀k,F2 k->F k\/w.heap.size<=k)->K (apR n l D).2.1 w') :
  Aa Tryz.prog 201 #[x.v,.pointer (some (at0 b1)),.pointer (some (at0 b2)),.pointer (some (at0 b4))] rI K w:=by
 refine Cr2 ?_
 unfold F201
 refine Ah n1 (x:=some (at0 d)) rfl (Ah n2 (x:=n) rfl (Jf A λnm w2 e2 hnm=>?_))
 unfold apR at hK
 obtain ⟨o,e,hfo⟩:∃o e,Dsk.find D n=(o,e):=⟨_,_,rfl⟩
 rw [hfo] at hK hnm ⊢
 refine (((St.Au3 (λk=>k=b4\/F k) w λk hk=>hk.elim (λhk=>by rw [hk];exact lt_of_heap n4) (A.lt k))).ext e2).Ia rfl rfl rfl λbh w3 S3 e3=>?_
 have e13:=e2.trans e3
 cases o with
 |none =>
  have he:e≠0:=by rcases Lh hfo with ⟨_,h⟩|⟨_,h⟩<;>rw [h]<;>decide
  exact Ac (λ_=>hK w3 F (A.ext e13).in (e13.ext_get n4) (Upd.Aj e13) λk hk=>.inl hk) λh=>absurd (by simpa using h) he
 | some i =>
  obtain ⟨hs,rfl,_⟩:=Ih hfo
  have hxl:=hx.len1
  rw [List.length_map] at hxl
  obtain ⟨kk,hkk⟩:∃kk:Int,kk=if room D<(l.length:Int) then room D else l.length:=⟨_,rfl⟩
  have hrl:=room_le ok
  have hk0:0<=kk/\kk<=l.length/\kk<=1048576:=by rw [hkk];split<;>omega
  dsimp only at hK
  rw [←hkk] at hK
  refine Ac (λh=>by simp at h) λ_=>(Ah (e13.ext_get n1) (x:=some (at0 d)) rfl (Bg1 (A.ext e13) ok λw4 e4=>?_))
  have e14:=e13.trans e4
  have S4:=S3.ext e4
  rw [show (if room D<((x.len:Nat):Int) then room D else ((x.len:Nat):Int))=kk by rw [hkk,←hxl]]
  refine Ei (e14.ext_get n4) (by simp) λw5 u5 n5 hz5=>?_
  have n5:w5.heap[b4]?=some (Ay7 kk):=n5
  have S5:=S4.step u5 λ_ h=>.inl h
  refine S5.drew λw6 S6 e6 _=>?_
  have A6:=((A.ext e14).frame u5 λk hk e=>h4 (e▸hk)).ext e6
  have n6:=e6.ext_get n5
  obtain ⟨b,s,g,hb,hss,hg,hgb,hfl,hbx,hby⟩:=A6.Nu (ok.seen.ids n i hs)
  have hgl:=ok.fil i g hg
  have hlen:=hby.len1
  rw [List.length_map] at hlen
  have hfb:=A.ffb b (List.mem_of_getElem? hb)
  have hfs:=A.fds s (List.mem_of_getElem? hss)
  have x6:Bytes w6 x l:=(SlX.Bm0 (hx.ext e14) hxb u5 λk hk e=>hk e).ext e6
  refine S6.ld 0 (x:=some (at0 b)) rfl (by simp only [Option.map_some,hgb];rfl) (S6.ld 0 (x:=some (at0 b)) rfl (by simp only [Option.map_some,hgb];rfl) (Af ?_))
  rw [addr_add]
  refine Ah hbx (x:=s) rfl (Ah n6 (x:=kk) rfl (Cj5 x6 hk0.1 (by omega) λx' hx' hxl' _=>?_))
  have hb4b:b≠b4:=λe=>h4 (e▸hfb)
  have nb:∀{k:Nat} {c:Array Value} {t:TypeId} {fr:Nat×Nat},t≠5->w6.heap[k]?=some (.cells c t fr)->¬s.blk k:=λht hk h=>by
   obtain ⟨c',fr',hc'⟩:=hby.in.Bc h
   rw [hk] at hc';cases hc';exact ht rfl
  refine Fg EB uB (B:=0) hby hx' (Rn _) (by omega) (Nat.zero_le _) λs' w7 hs' hsl u7 hsb=>?_
  have hsl':s'.len=(g.data++l.take kk.toNat).length:=by
   have:=hs'.len1
   rw [←this,←List.map_append,List.length_map]
  have S7:=S6.step u7 λk hk=>.inr (hfs k hk)
  have bx7:=u7.get hbx (nb (by decide) hbx)
  have n7:=u7.get n6 (nb (by decide) n6)
  refine S7.keep 0 (off:=0) rfl (by simp only [Option.map_some,hgb];rfl) (Af ?_)
  rw [addr_add]
  refine Ei bx7 (by simp) λw8 u8 n8 hz8=>?_
  obtain ⟨g',hg'⟩:∃g':Fl,g'=⟨g.data++l.take kk.toNat,g.synced,if kk>0 then g.count+1 else g.count⟩:=⟨_,rfl⟩
  have n8:w8.heap[b]?=some (Rk i s' ⟨g.data++l.take kk.toNat,g.synced,g.count⟩):=n8
  have S8:=S7.step u8 λk hk=>.inr (by rw [hk];exact hfb)
  have q8:=u8.get n7 (Ne.symm hb4b)
  have hc:IntKind.wrap .i64 (g.count+1)=g.count+1:=IntWalk.i64_in _ ⟨by omega,by omega⟩
  refine Ag (λ_ w'=>w'.heap[b]?=some (Rk i s' g')/\Upd (λk=>k=b) w8 w') (Ah q8 (x:=kk) rfl (Ac (λh=>?_) λh=>?_)) ?_
  ·have h:kk>0:=of_decide_eq_true h
   refine S8.ld 0 (x:=some (at0 b)) rfl (by simp only [Option.map_some,hgb];rfl) (Af ?_)
   rw [addr_add]
   refine Ah n8 (x:=g.count) rfl (Af ?_)
   rw [addr_add,hc]
   refine Ei n8 (by simp) λw9 u9 n9 _=>⟨?_,u9⟩
   rw [n9,hg',if_pos h];rfl
  ·have h:¬kk>0:=of_decide_eq_false h
   exact ⟨by rw [n8,hg',if_neg h],Upd.refl _ _⟩
  ·rintro _ w9 ⟨n9,u9⟩
   have u69:Upd (λk=>k=b\/s.blk k) w6 w9:=((u7.mono λk _ h=>.inr h).trans (u8.mono λk _ h=>.inl h)).trans (u9.mono λk _ h=>.inl h)
   have hd9:g'.data=g.data++l.take kk.toNat:=by rw [hg']
   have ho:En w9 0 s' g'.data:=by
    rw [hd9]
    have:=(hs'.box bx7 (by decide) u8).box n8 (by decide) u9
    rwa [←List.map_append] at this
   have A9:=A6.Y8 hb hss hg u69 (λk hk _=>hk) n9 ho (λk hk=>(hsb k hk))
   have q9:=u9.get q8 (Ne.symm hb4b)
   have hz16:w.heap.size<=w6.heap.size:=Nat.le_trans e14.size (Nat.le_trans u5.size e6.size)
   have e56:Upd (λk=>FN w F k\/k=b4) w w6:=((Upd.Aj e14).trans (u5.mono λk _ h=>.inr h)).trans (Upd.Aj e6)
   have uall:Upd (λk=>FN w F k\/k=b4) w w9:=e56.new u69 λk hk h=>.inl ⟨?_,λc fr hc=>?_⟩
   ·have fin:∀e,e=(if kk<(l.length:Int) then (161:Int) else 0)->K e w9:=λe he=>by
     rw [he]
     refine hK w9 _ (by rw [Jm hg,←hg'];exact A9.in) q9 uall λk (hk:F k\/s'.blk k)=>hk.elim .inl λh=>(hsb k h).imp (hfs k) λh=>by omega
    refine Ah q9 (x:=kk) rfl (Ac (λh=>fin _ ?_) λh=>fin _ ?_)
    ·have h:=of_decide_eq_true h;rw [if_pos (by omega)]
    ·have h:=of_decide_eq_false h;rw [if_neg (by omega)]
   ·rcases h with h|h
    ·rw [h];exact hfb
    ·exact hfs k h
   ·have hk4:k≠b4:=λe=>by
     rcases h with h|h
     ·exact hb4b (h▸e)
     ·exact h4 (e▸hfs k h)
    have:=e56.get hc λhh=>hh.elim (λhh=>hh.2 c fr hc) hk4
    rcases h with h|h
    ·rw [h,hbx] at this;cases this
    ·exact nb (by decide) this h
theorem At6 (A:Ce w d F D) (ok:Bl D N) (hN:N+2<=2^30){n:Nm}{x:Sl}{l:List UInt8}(hx:Bytes w x l) (hxb:Lie (λk=>k<w.heap.size/\¬F k) x){K:(Int×Value×Unit)->Wp}
  (hK:∀F' w' v,Ql w w' F' v ⟨#[97,112,112,101,110,100]⟩ n (Bo D n l).2.1->Ce w' d F' (Bo D n l).1->Upd F w w'->(∀k,F' k->F k\/w.heap.size<=k)->K ((Bo D n l).2.2,v,()) w') :
  Aa Tryz.prog 169 #[.pointer (some (at0 d)),.string n,x.v] (.tup [(.one (.int .i64)),(.one .any)]) K w:=by
 refine Cr8 ?_
 unfold F169
 refine Aq λb1 w1 e1 n1 hb1 _=>Aq λb2 w2 e2 n2 hb2 _=>Aq λb3 w3 e3 n3 hb3 _=>Aq λb4 w4 e4 n4 hb4 hz4=>Ei n4 (by simp) λw5 u5 n5 hz5=>?_
 have e45:Ext w3 w5:=e4.new u5 λk hk h=>by omega
 have n5:w5.heap[b4]?=some (Ay7 0):=n5
 refine Aq λb5 w6 e6 n6 hb6 hz6=>Gf rfl (Ei n6 (by simp) λw7 u7 n7 hz7=>?_)
 have e57:Ext w5 w7:=e6.new u7 λk hk h=>by omega
 have n7:w7.heap[b5]?=some (.cells #[.func (.func 201) #[] #[.pointer (some (at0 b1)),.pointer (some (at0 b2)),.pointer (some (at0 b4))]] 305 (0,0)):=n7
 have e37:=e45.trans e57
 have e27:=e3.trans e37
 have e17:=e2.trans e27
 have e07:=e1.trans e17
 refine Ah (e17.ext_get n1) (x:=some (at0 d)) rfl (Ah (e27.ext_get n2) (x:=n) rfl ?_)
 have hs1:=e1.size
 have hs2:=e2.size
 have hs3:=e3.size
 have hs4:=e4.size
 have hs57:=e57.size
 have hlt:=A.lt
 have hd:=A.fd
 refine Jt (M:=λk=>k=b4) (E:=λ_=>False) (Q0:=λw=>w.heap[b1]?=some (Zu d)/\w.heap[b2]?=some (O5 n)/\w.heap[b3]?=some (.cells #[sv x] 30 (0,0))/\w.heap[b4]?=some (Ay7 0)/\w.heap[b5]?=some (.cells #[.func (.func 201) #[] #[.pointer (some (at0 b1)),.pointer (some (at0 b2)),.pointer (some (at0 b4))]] 305 (0,0))/\Bytes w x l) (Q1:=λa w F=>w.heap[b4]?=some (Ay7 a)/\¬F b4) (a0:=0) (act:=apR n l) (part:=some (Vr n l)) (A.ext e07) ok (by omega) ⟨e17.ext_get n1,e27.ext_get n2,e37.ext_get n3,e57.ext_get n5,n7,hx.ext e07⟩ ⟨e57.ext_get n5,λh=>?_⟩ (λk hk=>⟨by rw [hk];exact lt_of_heap (e57.ext_get n5),λh=>?_⟩) (λ_ h=>h.elim)
  (λw1 w2 S ⟨h1,h2,h3,h4,h5,h6⟩ u hS=>⟨u.get h1 λh=>?_,u.get h2 λh=>?_,u.get h3 λh=>?_,u.get h4 λh=>?_,u.get h5 λh=>?_,SlX.Bm0 h6 hxb u λk hk h=>?_⟩) (λa w1 F1 w2 F2 ⟨h1,h2⟩ u hF=>⟨u.get h1 h2,λh=>(hF _ h).elim h2 λh=>?_⟩) (λD1 _ ok1=>⟨Bc8 ok1 n l,?_⟩) (.inr ⟨Vr n l,_,_,rfl,rfl,λD1 k _=>?_⟩) ?_
 ·have:=hlt _ h;omega
 ·have:=hlt k h;omega
 ·have:=hS _ h;have:=hlt d hd;omega
 ·have:=hS _ h;have:=hlt d hd;omega
 ·have:=hS _ h;have:=hlt d hd;omega
 ·have:=hS _ h;have:=hlt d hd;omega
 ·have:=hS _ h;have:=hlt d hd;omega
 ·have h0:=hS _ h;exact hk.2 (h0▸hd)
 ·have:=lt_of_heap h1;omega
 ·rintro w1 F1 K ⟨ms,ml,sa,pl,vs,fb,ds,A⟩ ok ⟨n1,n2,n3,n4,n5,hx⟩ hF hz hK
  have hb4F:¬F1 b4:=λh=>by rcases hF _ h with h|h;have:=hlt _ h;omega;omega
  refine func_x (by kernel_rfl) ?_
  refine Cr0 (v0:=at0 b5) (v1:=at0 b3) ?_
  unfold F203
  refine Ah n5 (x:=.func (.func 201) #[] #[.pointer (some (at0 b1)),.pointer (some (at0 b2)),.pointer (some (at0 b4))]) rfl (Ah n3 (x:=x) rfl (func_x (by kernel_rfl) (H8 A ok (by omega) n1 n2 n4 hb4F hx (hxb.imp id λh k hk e=>?_) λw' F2 h1 h2 h3 h4=>hK w' F2 h1 ⟨h2,λh=>?_⟩ h3 λk hk=>(h4 k hk).imp id .inr)))
  ·have:=(h k hk).1;omega
  ·have:=lt_of_heap n4
   exact (h4 _ h).elim hb4F λh=>by omega
 ·rintro w1 F1 K ⟨ms,ml,sa,pl,vs,fb,ds,A⟩ ok ⟨n1,n2,n3,n4,n5,hx⟩ hF hz hK
  have hb4F:¬F1 b4:=λh=>by rcases hF _ h with h|h;have:=hlt _ h;omega;omega
  refine func_x (by kernel_rfl) ?_
  refine Cq9 (a0:=k) (v0:=at0 b5) (v1:=at0 b3) ?_
  unfold F204
  refine Dh λw2 e2 _=>?_
  have hxl:=hx.len1
  rw [List.length_map] at hxl
  refine Ah (e2.ext_get n5) (x:=.func (.func 201) #[] #[.pointer (some (at0 b1)),.pointer (some (at0 b2)),.pointer (some (at0 b4))]) rfl (Ah (e2.ext_get n3) (x:=x) rfl (Ah (e2.ext_get n3) (x:=x) rfl ?_))
  obtain ⟨kk,hkk⟩:∃kk:Int,kk=min (max k 0) l.length:=⟨_,rfl⟩
  rw [show (if ((x.len:Nat):Int)<(if (0:Int)>k then (0:Int) else k) then ((x.len:Nat):Int) else (if (0:Int)>k then (0:Int) else k))=kk by rw [hkk,←hxl];split<;>split<;>omega]
  refine Cj5 (hx.ext e2) (by omega) (by omega) λx' hx' hxl' hxb'=>?_
  refine func_x (by kernel_rfl) (H8 (A.ext e2) ok (by omega) (e2.ext_get n1) (e2.ext_get n2) (e2.ext_get n4) hb4F hx' (hxb.imp (λh=>by omega) λh k hk e=>?_) λw' F2 h1 h2 h3 h4=>?_)
  ·have:=(h k (hxb' k hk)).1;omega
  have hK:=hK w' F2
  unfold Vr at hK
  dsimp only at hK
  rw [←hkk] at hK
  have hz2:=e2.size
  have hK:=hK h1 ⟨h2,λh=>by have:=lt_of_heap n4;exact (h4 _ h).elim hb4F λh=>by omega⟩ (((Upd.Aj e2).trans (h3.mono λk hk h=>h.imp (λh=>⟨h.1,λc fr hc=>h.2 c fr (e2.ext_get hc)⟩) id))) λk hk=>(h4 k hk).imp id λh=>.inr (by omega)
  obtain ⟨e,he⟩:∃e,(apR n (List.take kk.toNat l) D1).2.1=e:=⟨_,rfl⟩
  rw [he] at hK ⊢
  refine Bj (decide (e≠0/\e≠161),()) (Ac (λh=>⟨Dx ?_,rfl⟩) λh=>⟨Dx ?_,rfl⟩) (Ac (λh=>?_) λh=>?_)
  ·have h:e≠0:=by simpa using h
   simp [h]
  ·have h:e=0:=by simpa using h
   simp [h]
  ·have h:e≠0/\e≠161:=of_decide_eq_true h
   rw [if_pos h] at hK;exact hK
  ·have h:¬(e≠0/\e≠161):=of_decide_eq_false h
   rw [if_neg h] at hK;exact hK
 ·intro F' w' v hv hD hq hu hF
  obtain ⟨q1,q2⟩:=hq
  have hu':Upd F w w':=(Upd.Aj e07).new hu λk hk h=>h.resolve_right (by omega)
  have hF':∀k,F' k->F k\/w.heap.size<=k:=λk hk=>(hF k hk).imp id λh=>by rcases h with h|h;exact h.elim;omega
  have hv:=hv.back (w0:=w) e07.size
  have g1:w'.heap[b1]?=some (Zu d):=hu.get (e17.ext_get n1) λh=>by rcases h with h|h;have:=hlt _ h;omega;omega
  unfold Bo at hK
  dsimp only at hK
  generalize Dsk.step D 0 (apR n l) (some (Vr n l))=r at hK hv hD q1
  obtain ⟨D2,e,a⟩:=r
  dsimp only at hK hv hD q1
  obtain ⟨ms,ml,sa,pl,vs,fb,ds,A2⟩:=hD
  refine Ag (λ_ W=>W.heap[b4]?=some (Ay7 (if D2.down=true then 0 else a))/\Upd (λk=>k=b4) w' W) (Ah g1 (x:=some (at0 d)) rfl (Af ?_)) ?_
  ·rw [addr_add]
   refine Ah A2.box (x:=D2.down) rfl (Ac (λh=>Ei q1 (by simp) λw8 u8 n8 _=>⟨?_,u8⟩) λh=>⟨?_,Upd.refl _ _⟩)
   ·rw [n8,if_pos h];rfl
   ·rw [q1,if_neg (by rw [h];simp)]
  ·rintro _ w8 ⟨n8,u8⟩
   refine Ah n8 (x:=if D2.down=true then 0 else a) rfl (hK F' w8 v ⟨hv.ok,λhh=>let ⟨b,k,h1,h2,h3,h4⟩:=hv.bad hh;⟨b,k,h1,u8.get h2 (λe=>by rw [e,q1] at h2;cases h2),h3,h4⟩⟩ (A2.in.frame u8 λk hk e=>q2 (e▸hk)) (hu'.new u8 λk hk e=>by omega) hF')
end
end Dq
end Go.Proofs.YtmooldhpiopcgaaGreatDoor
namespace Go.Proofs.YtmooldhpiopcgaaGreatDoor
namespace Dq
open Go Go.Vx Dsk
section
variable {w w':World}{S F F':Nat->Prop}{d m ms ml:Nat}{f:Dir}{fb:List Nat}{ds:List Sl}{fs:List Fl}{sa:Sl}{vs:List Value}{D:Dk}{pl:Option Nat}{p:Int->Option Bq}{N:Nat}
theorem Ab5 (A:Ce w d F D) (ok:Bl D N){K:Sl->Wp}(hK:∀s w',Ag7 w' w.heap.size s (if D.down=true then [] else names D.seen)->Ext w w'->K s w') :
  Aa Tryz.prog 59 #[.pointer (some (at0 d))] rS K w:=by
 obtain ⟨ms,ml,sa,pl,vs,fb,ds,A⟩:=A
 refine j59 ?_
 unfold F59
 refine Af ?_
 rw [addr_add]
 refine Ah A.box (x:=D.down) rfl (Ac (λh=>?_) λh=>Af ?_)
 ·exact hK _ w (by rw [if_pos h];exact Au.nil _ _ _ _) (Ext.refl w)
 ·rw [addr_add]
  refine Ah A.box (x:=some ms) rfl (V9 A.seen (λl hl=>?_) λs w' hs e=>hK s w' (by rw [if_neg (by rw [h];simp)];exact hs) e)
  obtain ⟨l',h1,h2⟩:=ok.seen.few
  have:=(Oh hl h1).length_eq
  omega
theorem Ai2 (A:Ce w d F D){K:Unit->Wp}(hK:∀w',Ce w' d F (restart D)->Upd F w w'->K () w'):Aa Tryz.prog 42 #[.pointer (some (at0 d))] (.tup []) K w:=by
 obtain ⟨ms,ml,sa,pl,vs,fb,ds,A⟩:=A
 refine j42 ?_
 unfold F42
 unfold restart at hK
 refine Af ?_
 rw [addr_add]
 refine Ah A.box (x:=D.down) rfl (Ac (λh=>Af ?_) λh=>?_)
 ·rw [if_pos h] at hK
  rw [addr_add]
  refine Ei A.box (by simp) λw1 u1 n1 _=>Af ?_
  rw [addr_add]
  refine Ei n1 (by simp) λw2 u2 n2 _=>Af ?_
  rw [addr_add]
  refine Ei n2 (by simp) λw3 u3 n3 _=>?_
  have u:Upd (λk=>k=d) w w3:=(u1.trans u2).trans u3
  have no:∀t:TypeId,107≠t->Cc w (λk=>k=d) t:=λt ht=>Cc.box A.box ht
  have nm:∀m,(∃o c,w.heap[m]?=some (.map o c))->¬(λk=>k=d) m:=by
   rintro m ⟨o,c,hm⟩ rfl
   rw [A.box] at hm;cases hm
  refine hK w3 ⟨ms,ml,sa,none,vs,fb,ds,?_,A.seen.upd u (nm _ A.seen.Ed),A.lasts.upd u (nm _ A.lasts.Ed),A.files.ty u (no _ (by decide)) (no _ (by decide)),A.acts.ty u (no _ (by decide)) (no _ (by decide)) (no _ (by decide)) (no _ (by decide)) λ_ h=>h,.inl ⟨rfl,λ_=>rfl⟩,A.ne,(by simp),(by simp),A.fd,A.fms,A.fml,A.ffb,A.fds,A.fsa,λk hk=>Nat.lt_of_lt_of_le (A.lt k hk) u.size⟩ (u.mono λk _ h=>by rw [h];exact A.fd)
  rw [n3];simp [Zv]
 ·rw [if_neg (by rw [h];simp)] at hK
  exact hK w A.in (Upd.refl _ _)
theorem Bp2 (A:Ce w d F D) (ok:Bl D N) (hN:N+2<=2^30){n:Nm}{x:Sl}{l:List UInt8}(hx:Bytes w x l) (hxb:∀k,x.blk k->k<w.heap.size/\¬F k){K:Value->Wp}
  (hK:∀F' w' v,Ql w w' F' v ⟨#[112,117,116]⟩ n (Nk D n l).2->Ce w' d F' (Nk D n l).1->Upd F w w'->(∀k,F' k->F k\/w.heap.size<=k)->K v w') :
  Aa Tryz.prog 32 #[.pointer (some (at0 d)),.string n,x.v] (.one (.one .any)) K w:=by
 obtain ⟨ms,ml,sa,pl,vs,fb,ds,A⟩:=A
 refine j32 ?_
 unfold F32
 have hsp:=ok.space
 have hu:=ok.used (D.seen n)
 have hxl:=hx.len1
 rw [List.length_map] at hxl
 refine Af ?_
 rw [addr_add]
 refine Ah A.box (x:=some ms) rfl (A.seen.look n (Af (Ah A.box (x:=D.space) rfl ?_)))
 refine Ag (λx w'=>x=(D.space-Bv D (D.seen n),())/\Ext w w') ?_ ?_
 ·refine Af ?_
  rw [addr_add]
  refine Ah A.box (x:=some ms) rfl (A.seen.range λr w1 es hi e1 hr hm hg hl=>?_)
  have hcap:es.length<=16:=by
   obtain ⟨l,h1,h2⟩:=ok.seen.few
   have:=(Oh hl h1).length_eq
   rw [List.length_map] at this;omega
  refine Bz (λs' w'=>∃(done:List (Dv ByteArray)),Iter w' r ms (es.map (Dv.ent Key.str)) (done.map (Dv.ent Key.str))/\s'=(D.space-Gz (done.map λy=>weigh D (D.seen n) y.1),())/\Ext w w'/\done.length<=es.length) (λs' w'=>es.length-(match w'.heap[r]? with|some (.mapIter _ _ seen _)=>seen.size|_=>0)) ⟨[],hi,by simp [Gz],e1,Nat.zero_le _⟩ ?_
  rintro _ w2 ⟨done,hi2,rfl,e2,hdl⟩
  dsimp only
  have size_of:∀{W:World} {done:List (Dv ByteArray)},Iter W r ms (es.map (Dv.ent Key.str)) (done.map (Dv.ent Key.str))->(match W.heap[r]? with|some (.mapIter _ _ seen _)=>seen.size|_=>0)=done.length:=λh=>by
   obtain ⟨c,_,_,g3⟩:=h.at_
   rw [g3];simp
  have bound:∀dn:List (Dv ByteArray),dn.length<=16->0<=Gz (dn.map λy=>weigh D (D.seen n) y.1)/\Gz (dn.map λy=>weigh D (D.seen n) y.1)<=16777216:=λdn hdn=>by
   refine ⟨Ox λx hx=>?_,?_⟩
   ·obtain ⟨n,_,rfl⟩:=List.mem_map.1 hx;exact Nq D _ _
   ·have:=Vz (l:=dn.map λy=>weigh D (D.seen n) y.1) (B:=1048576) λx hx=>by
     obtain ⟨n,_,rfl⟩:=List.mem_map.1 hx;exact ok.weigh _ _
    rw [List.length_map] at this
    have h4:(dn.length:Int)*1048576<=16*1048576:=Int.mul_le_mul_of_nonneg_right (by omega) (by decide)
    omega
  refine Ax5 hi2 (λw3 e3 _ hp=>Ap ⟨?_,e2.trans e3⟩) λx w3 hx hxd hi3 u3 hz3=>Di ?_
  ·rw [Ab9 hp hl]
  ·obtain ⟨y,i,hy,rfl,hfy,hv⟩:=Yi hm hg hx
   have e3:Ext w w3:=e2.step u3 (by rintro k rfl;exact hr)
   refine Ak5 hi3 (y.1,some (at0 (fb.getD i 0)),()) (by simp only [Dv.ent,hv];rfl) ?_
   have A3:=A.ext e3
   have hil:i<D.files.length:=by have:=A.seen.ids y.1 i hfy;have:=A.files.lf;omega
   obtain ⟨b,s,g,hbi,_,_,hgb,hfl,hbx,hby⟩:=A3.Nu hil
   have hsl:=hby.len1
   rw [List.length_map] at hsl
   have hi3':Iter w3 r ms (es.map (Dv.ent Key.str)) ((done++[y]).map (Dv.ent Key.str)):=by simpa using hi3
   have hdn:(done++[y]).length<=es.length:=by
    have h6:=List.Nodup.length_le_of_subset (Jg hi3'.dnd) hi3'.sub
    simpa using h6
   have hb1:=bound done (by omega)
   have hb2:=bound (done++[y]) (by omega)
   have hsum:Gz ((done++[y]).map λy=>weigh D (D.seen n) y.1)=Gz (done.map λy=>weigh D (D.seen n) y.1)+weigh D (D.seen n) y.1:=by
    rw [List.map_append,Yp];simp [Gz]
   rw [hgb]
   have same:decide (some (at0 b)≠(D.seen n).map λi=>at0 (fb.getD i 0))=decide (some i≠D.seen n):=by
    cases hsn:D.seen n with
    |none=>simp
    | some j =>
     have hjl:j<fb.length:=A.seen.ids n j hsn
     have hil':i<fb.length:=A.seen.ids y.1 i hfy
     have e:(at0 b=at0 (fb.getD j 0))↔i=j:=by
      constructor
      ·intro h
       have h:b=fb.getD j 0:=by injection h
       rw [←hgb,List.getD_eq_getElem?_getD,List.getD_eq_getElem?_getD,List.getElem?_eq_getElem hjl,List.getElem?_eq_getElem hil'] at h
       exact (List.getElem_inj A.files.nd).1 h
      ·rintro rfl;rw [hgb]
     rw [decide_eq_decide]
     simp only [Option.map_some,ne_eq,Option.some.injEq,e]
   refine Bo7 (e:=123) (n:=i123.size) Ci9.und (Ak.Gh Co5) (by rw [show i123.size=4 by kernel_rfl];decide) (λa ha=>?_) (λa ha=>?_) ?_
   ·cases ha;exact ⟨_,_,hbx⟩
   ·obtain ⟨j,hj,rfl⟩:=Option.map_eq_some_iff.1 ha
    obtain ⟨b',s',g',_,_,_,hgb',_,hbx',_⟩:=A3.Nu (ok.seen.ids n j hj)
    rw [hgb'];exact ⟨_,_,hbx'⟩
   rw [same]
   have again:∀{z:Int},z=D.space-Gz ((done++[y]).map λy=>weigh D (D.seen n) y.1)->(∃done_1:List (Dv ByteArray),Iter w3 r ms (es.map (Dv.ent Key.str)) (done_1.map (Dv.ent Key.str))/\(z,())=(D.space-Gz (done_1.map λy=>weigh D (D.seen n) y.1),())/\Ext w w3/\done_1.length<=es.length):=λ{z} hz=>⟨done++[y],hi3',by rw [hz],e3,hdn⟩
   have less:(es.length-(match w3.heap[r]? with|some (.mapIter _ _ seen _)=>seen.size|_=>0))<(es.length-(match w2.heap[r]? with|some (.mapIter _ _ seen _)=>seen.size|_=>0)):=by
    rw [size_of hi3',size_of hi2]
    simp at hdn ⊢;omega
   refine Ac (λh=>Af ?_) λh=>⟨again ?_,less⟩
   ·have h:some i≠D.seen n:=of_decide_eq_true h
    have hw:weigh D (D.seen n) y.1=(s.len:Int):=by
     unfold weigh;rw [hfy];dsimp only;rw [if_neg h,hfl];omega
    rw [addr_add]
    refine Ah hbx (x:=s) rfl ⟨again ?_,less⟩
    rw [hsum,IntWalk.i64_in _ ⟨by omega,by omega⟩];omega
   ·have h:¬(some i≠D.seen n):=of_decide_eq_false h
    have h:some i=D.seen n:=by simpa using h
    have hw:weigh D (D.seen n) y.1=0:=by
     unfold weigh;rw [hfy];dsimp only;rw [if_pos h]
    rw [hsum];omega
 ·rintro _ w1 ⟨rfl,e1⟩
  dsimp only
  have A1:=A.ext e1
  have err:∀{W:World} (c:Int),Ext w1 W->c≠0->Nk D n l=(D,c)->Ad (.cells #[.string ⟨#[112,117,116]⟩,.string n,.int .i64 0,.iface 33 (.int .i64 c)] 101) (λb=>K (.iface 99 (.pointer (some (at0 b))))) W:=λ{W} c e2 hc hp=>by
   rw [hp] at hK
   have e12:=e1.trans e2
   have hs:=e12.size
   exact Aq λb3 w2 e3 n3 hb3 _=>hK F w2 _ ⟨λh=>absurd h hc,λ_=>⟨b3,0,rfl,n3,by omega,λh=>by have:=A.lt _ h;omega⟩⟩ (A.ext (e12.trans e3)).in (Upd.Aj (e12.trans e3)) λk hk=>.inl hk
  refine Af ?_
  rw [addr_add]
  unfold Nk at err
  refine Ah A1.box (x:=D.down) rfl (Ac (λhd=>err 165 (Ext.refl _) (by decide) (by rw [if_pos hd])) λhd=>?_)
  have hd:¬D.down=true:=by rw [hd];simp
  rw [if_neg hd] at err
  refine Tn λw2 e2=>Ac (λh=>err 164 e2 (by decide) (by rw [if_pos (by simpa using h)])) λh=>?_
  have hok:¬Ba n=false:=by simpa using h
  rw [if_neg hok] at err
  have A2:=A1.ext e2
  have e02:=e1.trans e2
  refine Bj (decide ((D.seen n=none/\16<=(names D.seen).length)\/(l.length:Int)>D.space-Bv D (D.seen n)),()) ?_ (Ac (λh=>err 161 e2 (by decide) (by rw [if_pos (of_decide_eq_true h)])) λh=>?_)
  ·refine Bj (decide (D.seen n=none/\16<=(names D.seen).length),()) (Ac (λh=>Af ?_) λh=>⟨Dx ?_,rfl⟩) (Ac (λh=>⟨Dx ?_,rfl⟩) λh=>⟨Dx ?_,rfl⟩)
   ·rw [addr_add]
    refine Ah A2.box (x:=some ms) rfl (A2.seen.len ⟨Dx ?_,rfl⟩)
    have h:D.seen n=none:=by simpa using h
    simp [h];omega
   ·have h:¬D.seen n=none:=λhh=>by rw [hh] at h;simp at h
    simp [h]
   ·have h:=of_decide_eq_true h
    simp [h]
   ·have h:=of_decide_eq_false h
    simp [h,←hxl]
  have hfit:=of_decide_eq_false h
  clear err
  have hp:Nk D n l=(match D.seen n with
   |some i=>({ Dsk.settle D with files:=Ku D.files i λf=>⟨l,l.length,f.count+1⟩ },0)
   |none=>({ D with lasts:=Dn D.seen n (some D.files.length),acts:=[],files:=D.files++[⟨l,l.length,1⟩] },0)):=by
   unfold Nk;rw [if_neg hd,if_neg hok,if_neg hfit];cases D.seen n<;>rfl
  have hll:l.length<=1048576:=by
   have:¬(l.length:Int)>D.space-Bv D (D.seen n):=λh=>hfit (.inr h)
   omega
  have hnum:=ok.num
  refine Ag (λx W=>∃F1 D1 g1 i b fb1 ds1,x=(some (at0 b),())/\Half W d F1 D1 g1 ms ml sa pl fb1 ds1/\fb1[i]?=some b/\i<D1.files.length/\Nk D n l=({ D1 with lasts:=g1,acts:=[],files:=Ku D1.files i λf=>⟨l,l.length,f.count+1⟩ },0)/\Upd F w W/\(∀k,F1 k->F k\/w.heap.size<=k)/\(∀f,D1.files[i]?=some f->0<=f.count/\f.count<=N)) (Ac (λh=>?_) λh=>?_) ?_
  ·have hsn:D.seen n=none:=by simpa using h
   rw [hsn] at hp
   refine Rh A2 (by omega) λb w3 A3 u3 hb3=>Af ?_
   rw [addr_add]
   have hlf:=A.files.lf
   refine Ah A3.box (x:=some ms) rfl (A3.seen.set (n:=n) (i:=D.files.length) (b:=b) (by simp [hlf]) ?_ λw4 h4 u4=>?_)
   ·rw [←hlf,List.getD_eq_getElem?_getD,List.getElem?_append_right (Nat.le_refl _),Nat.sub_self];rfl
   obtain ⟨o,c,hmap⟩:=A3.seen.Ed
   have no:∀t:TypeId,Cc w3 (λk=>k=ms) t:=λt=>Cc.map hmap
   have hz2:=e02.size
   refine ⟨_,{ D with files:=D.files++[⟨[],0,0⟩] },Dn D.seen n (some D.files.length),D.files.length,b,fb++[b],ds++[⟨none,0,0⟩],rfl,⟨u4.get A3.box ?_,h4,A3.files.ty u4 (no _) (no _),A3.plan.upd u4 (λm hm e=>A3.nes (by rw [hm,e])) (no _) λ_ h=>h,A3.nes,A3.fd,A3.fms,A3.ffb,A3.fds,λk hk=>Nat.lt_of_lt_of_le (A3.lt k hk) u4.size⟩,?_,by simp,?_,((Upd.Aj e02).trans (u3.mono λk _ e=>by rw [e];exact A.fd)).trans (u4.mono λk _ e=>by rw [e];exact A.fms),λk hk=>hk.imp id λh=>by omega,λf hf=>?_⟩
   ·intro e
    have hbx:=A3.box
    rw [e,hmap] at hbx;cases hbx
   ·rw [←hlf,List.getElem?_append_right (Nat.le_refl _),Nat.sub_self];rfl
   ·rw [hp,Jm (g:=⟨[],0,0⟩) (by simp)]
    simp
   ·simp at hf
    subst hf
    exact ⟨Int.le_refl _,Int.natCast_nonneg N⟩
  ·obtain ⟨i,hsn⟩:∃i,D.seen n=some i:=by
    cases hsn:D.seen n with
    |none=>rw [hsn] at h;cases h
    |some i=>exact ⟨i,rfl⟩
   rw [hsn] at hp
   obtain ⟨b,s,g,hb,hss,hg,hgb,hfl,hbx,hby⟩:=A2.Nu (ok.seen.ids n i hsn)
   refine ⟨F,D,D.seen,i,b,fb,ds,?_,A2.half,hb,ok.seen.ids n i hsn,hp,Upd.Aj e02,λk hk=>.inl hk,λf hf=>(ok.fil i f hf).2.2⟩
   rw [hsn,Option.map_some,hgb]
  ·rintro ⟨_,⟨⟩⟩ W ⟨F1,D1,g1,i,b,fb1,ds1,hx1,H,hb,hi,hput,hu1,hF1,hcnt⟩
   cases hx1
   dsimp only
   refine O4 H λm' w5 A5 u5 hm'=>?_
   have hsz:=hu1.size
   have hsz5:=u5.size
   have hd5:F d:=A.fd
   have x5:Bytes w5 x l:=SlX.Cd4 (SlX.Cd4 hx hu1 λk hk=>(hxb k hk).2) u5 λk hk e=>(hxb k hk).2 (e▸hd5)
   refine Zq x5 (by omega) λs' w6 hs' e6=>Af ?_
   rw [addr_add]
   obtain ⟨b',s,g,hb',hss,hg,hgb,hfl,hbx5,hby⟩:=A5.Nu (i:=i) hi
   have hbx:=e6.ext_get hbx5
   rw [hb] at hb';cases hb'
   have hc:=hcnt g hg
   have ho:=hs'.len1
   rw [List.length_map] at ho
   refine Ei hbx (by simp) λw7 u7 n7 hz7=>?_
   have n7:w7.heap[b]?=some (Rk i s' ⟨l,g.synced,g.count⟩):=n7
   refine Vq n7 λw8 n8 u8 _=>Af ?_
   rw [addr_add]
   refine Ah n8 (x:=g.count) rfl (Af ?_)
   rw [addr_add,IntWalk.i64_in _ ⟨by omega,by omega⟩]
   refine Ei n8 (by simp) λw9 u9 n9 _=>?_
   have n9:w9.heap[b]?=some (Rk i s' ⟨l,l.length,g.count+1⟩):=by rw [n9,ho];rfl
   have u69:Upd (λk=>k=b) w6 w9:=(u7.trans u8).trans u9
   have A9:=A5.Y8 (s':=s') (g':=⟨l,l.length,g.count+1⟩) hb hss hg ((Upd.Aj e6).trans u69) (λk hk _=>.inl hk) n9 ((hs'.box hbx (by decide) u69).mono (Nat.zero_le _)) λk hk=>.inr (hs'.Ew hk)
   have hz6:=e6.size
   refine hK _ w9 _ ⟨λ_=>rfl,λh=>absurd (by rw [hput]) h⟩ (by rw [hput,Jm hg];exact A9.in) (((hu1.trans (u5.mono λk _ e=>by rw [e];exact hd5)).trans (Upd.Aj e6)).new u69 λk hk e=>?_) λk hk=>?_
   ·subst e
    exact (hF1 k (H.ffb k (List.mem_of_getElem? hb))).resolve_right (by omega)
   ·rcases hk with (hk|hk)|hk
    ·exact hF1 k hk
    ·exact .inr (by omega)
    ·have:=hs'.Ew hk
     exact .inr (by omega)
end
end Dq
end Go.Proofs.YtmooldhpiopcgaaGreatDoor
namespace Go.Proofs.YtmooldhpiopcgaaGreatDoor
namespace Dq
open Go Go.Vx Dsk
section
variable {w w':World}{S F F':Nat->Prop}{d m ms ml:Nat}{f:Dir}{fb:List Nat}{ds:List Sl}{fs:List Fl}{sa:Sl}{vs:List Value}{D:Dk}{pl:Option Nat}{p:Int->Option Bq}{N:Nat}
def Tm (space:Int):Dk:=⟨space,[],λ_=>none,[],false,λ_=>none,0⟩
theorem Fh.made (h:w.heap[m]?=some (.map #[] 0)):Fh w m [] λ_=>none:=⟨⟨[],Nc.made m h,λ_=>rfl⟩,λ_ _ h=>by cases h⟩
theorem Bq4 {space:Int}(h0:0<=space) (h1:space<=1048576){K:(Option Addr×Value×Unit)->Wp}
  (hK:∀d F w',Ce w' d F (Tm space)->Ext w w'->(∀k,F k->w.heap.size<=k)->K (some (at0 d),.nilIface,()) w'):Aa Tryz.prog 17 #[.int .i64 space] (.tup [(.one .ptr),(.one .any)]) K w:=by
 refine j17 ?_
 unfold F17
 refine Bj (false,()) (Ac (λh=>absurd (of_decide_eq_true h) (by omega)) λ_=>⟨Dx ?_,rfl⟩) (Ap ?_)
 ·simp;omega
 ·refine Aq λb4 w1 e1 n1 hb4 hz1=>Aq λb5 w2 e2 n2 hb5 hz2=>Aq λb6 w3 e3 n3 hb6 hz3=>?_
  have g4:w3.heap[b4]?=some (.map #[] 0):=(e2.trans e3).ext_get n1
  have g5:w3.heap[b5]?=some (.map #[] 0):=e3.ext_get n2
  refine hK b6 (λk=>k=b4\/k=b5\/k=b6) w3 ⟨b4,b5,⟨none,0,0⟩,none,[],[],[],n3,Fh.made g4,Fh.made g5,⟨rfl,rfl,List.nodup_nil,λi j s t _ hs=>by simp at hs,λi b s f hb=>by simp at hb⟩,⟨Au.nil _ _ _ _,rfl,λi v a hv=>by simp at hv⟩,.inl ⟨rfl,λ_=>rfl⟩,by omega,by simp,by simp,.inr (.inr rfl),.inl rfl,.inr (.inl rfl),λb hb=>by simp at hb,λs hs=>by simp at hs,(λk ⟨q,hq,_⟩=>by cases hq),λk hk=>?_⟩ ((e1.trans e2).trans e3) λk hk=>by omega
  have l4:=lt_of_heap g4
  have l5:=lt_of_heap g5
  have l6:=lt_of_heap n3
  rcases hk with rfl|rfl|rfl<;>assumption
theorem Dw.Bp3 {p':Int->Option Bq}(A:Dw w d F D ms ml sa (some m) vs fb ds) (u:Upd (λk=>k=m) w w') (hp:Ou w' F' (some m) p') (hF:∀k,F k->F' k) (hl:∀k,F' k->k<w'.heap.size) :
  Dw w' d F' { D with plan:=p' } ms ml sa (some m) vs fb ds:=by
 obtain ⟨o,c,hm⟩:=A.plan.Ed
 have no:∀t:TypeId,Cc w (λk=>k=m) t:=λt=>Cc.map hm
 refine ⟨u.get A.box λe=>?_,A.seen.upd u λe=>A.nes (by rw [e]),A.lasts.upd u λe=>A.nel (by rw [e]),A.files.ty u (no _) (no _),A.acts.ty u (no _) (no _) (no _) (no _) hF,hp,A.ne,A.nes,A.nel,hF _ A.fd,hF _ A.fms,hF _ A.fml,λb hb=>hF _ (A.ffb b hb),λs hs k hk=>hF _ (A.fds s hs k hk),λk hk=>hF _ (A.fsa k hk),hl⟩
 have hb:=A.box
 rw [e,hm] at hb;cases hb
structure Fe (w:World) (P:Nat->Prop) (x:Sl) (rows:List (Cells.T Gj)) (fl:List (Int×Bq)):Prop where
 row:SlX w x 5 (flat Gj rows)
 blk:Lie P x
 len:rows.length=fl.length
 at_:∀(i:Nat) (r:Cells.T Gj) (f:Int×Bq),rows[i]?=some r->fl[i]?=some f->r.1=f.1/\r.2.1=f.2.kind/\r.2.2.1=f.2.part/\r.2.2.2.1=f.2.names/\SlX w r.2.2.2.2.1 1 (iv f.2.bytes)/\f.2.bytes.length<=2^44/\Lie P r.2.2.2.2.1
theorem Fe.upd {P:Nat->Prop}{x:Sl}{rows:List (Cells.T Gj)}{fl:List (Int×Bq)}(h:Fe w P x rows fl) (u:Upd S w w') (hS:∀k,P k->¬S k):Fe w' P x rows fl :=
 ⟨SlX.Bm0 h.row h.blk u hS,h.blk,h.len,λi r f hr hf=>let ⟨a,b,c,e,g,g',g''⟩:=h.at_ i r f hr hf;⟨a,b,c,e,SlX.Bm0 g g'' u hS,g',g''⟩⟩
theorem Ap1 (l:List (Int×Bq)) (x:Int×Bq) (f:Int->Option Bq):La (l++[x]) f=(if ((La l f) x.1).isSome=true\/x.2.kind<1\/x.2.kind>5 then La l f else λk=>if k=x.1 then some x.2 else La l f k):=by
 induction l generalizing f with
 |nil=>rfl
 |cons y r ih=>simp only [List.cons_append,La];exact ih _
theorem Ad8 (A:Ce w d F D){x:Sl}{rows:List (Cells.T Gj)}{fl:List (Int×Bq)}(hx:Fe w (λk=>k<w.heap.size/\¬F k) x rows fl) (hl:fl.length<=2^60){K:Unit->Wp}
  (hK:∀F' w',Ce w' d F' (plan D fl)->Upd F w w'->(∀k,F' k->F k\/w.heap.size<=k)->K () w') :
  Aa Tryz.prog 35 #[.pointer (some (at0 d)),x.v] (.tup []) K w:=by
 obtain ⟨ms,ml,sa,pl,vs,fb,ds,A⟩:=A
 refine j35 ?_
 unfold F35
 refine Aq λb1 w1 e1 n1 hb1 hz1=>Af ?_
 rw [addr_add]
 refine Ei (e1.ext_get A.box) (by simp) λw2 u2 n2 hz2=>Af ?_
 rw [addr_add]
 refine Ei n2 (by simp) λw3 u3 n3 hz3=>?_
 have u:Upd (λk=>k=d) w w3:=((Upd.Aj e1).trans u2).trans u3
 have hdl:=lt_of_heap A.box
 have hxl:rows.length=x.len:=hx.row.Oi (by decide)
 have A3:Dw w3 d (λk=>F k\/k=b1) { D with plan:=λ_=>none,steps:=0 } ms ml sa (some b1) vs fb ds:=by
  have no:∀t:TypeId,107≠t->Cc w (λk=>k=d) t:=λt ht=>Cc.box A.box ht
  have nm:∀m,(∃o c,w.heap[m]?=some (.map o c))->¬(λk=>k=d) m:=by
   rintro m ⟨o,c,hm⟩ rfl
   rw [A.box] at hm;cases hm
  have nb:∀k,F k->k≠b1:=λk hk e=>by have:=A.lt k hk;omega
  have n1':w3.heap[b1]?=some (.map #[] 0):=(u2.trans u3).get n1 (by omega)
  refine ⟨by rw [n3];simp [Zv],A.seen.upd u (nm _ A.seen.Ed),A.lasts.upd u (nm _ A.lasts.Ed),A.files.ty u (no _ (by decide)) (no _ (by decide)),A.acts.ty u (no _ (by decide)) (no _ (by decide)) (no _ (by decide)) (no _ (by decide)) λ_ h=>.inl h,.inr ⟨b1,[],rfl,.inr rfl,Nc.made b1 n1',λk=>trivial⟩,A.ne,(λe=>nb ms A.fms (by cases e;rfl)),(λe=>nb ml A.fml (by cases e;rfl)),.inl A.fd,.inl A.fms,.inl A.fml,λb hb=>.inl (A.ffb b hb),λs hs k hk=>.inl (A.fds s hs k hk),λk hk=>.inl (A.fsa k hk),λk hk=>?_⟩
  rcases hk with hk|hk
  ·exact Nat.lt_of_lt_of_le (A.lt k hk) u.size
  ·rw [hk];exact lt_of_heap n1'
 have hF3:Upd F w w3:=u.mono λk _ e=>by rw [e];exact A.fd
 refine Bz (λs W=>∃(j:Nat) (F1:Nat->Prop),s=((j:Int),())/\j<=rows.length/\Dw W d F1 { D with plan:=La (fl.take j) λ_=>none,steps:=0 } ms ml sa (some b1) vs fb ds/\Upd F w W/\∀k,F1 k->F k\/w.heap.size<=k) (λs _=>rows.length-s.1.toNat) ⟨0,_,rfl,Nat.zero_le _,A3,hF3,λk hk=>hk.imp id λh=>by omega⟩ ?_
 rintro _ W ⟨j,F1,rfl,hj,AW,uW,hFW⟩
 dsimp only
 have hlen:=hx.len
 refine Ac (λh=>?_) (λh=>?_)
 ·have h:j<rows.length:=by have:=of_decide_eq_true h;omega
  obtain ⟨r,hr⟩:∃r,rows[j]?=some r:=⟨_,List.getElem?_eq_getElem h⟩
  obtain ⟨g,hg⟩:∃g,fl[j]?=some g:=⟨_,List.getElem?_eq_getElem (by omega)⟩
  have xW:=hx.upd uW λk hk=>hk.2
  obtain ⟨q1,q2,q3,q4,q5,q6,q7⟩:=xW.at_ j r g hr hg
  have ew:IntKind.wrap .i64 ((j:Int)+1)=((j+1:Nat):Int):=by rw [IntWalk.i64_in _ ⟨by omega,by omega⟩];omega
  have htk:fl.take (j+1)=fl.take j++[g]:=by rw [List.take_add_one,hg];rfl
  have hpl:=Ap1 (fl.take j) g λ_=>none
  rw [←htk] at hpl
  generalize hp0:La (fl.take j) (λ_=>none)=p0 at hpl AW
  refine Ag (λ_ W'=>∃F2,Dw W' d F2 { D with plan:=La (fl.take (j+1)) λ_=>none,steps:=0 } ms ml sa (some b1) vs fb ds/\Upd F w W'/\∀k,F2 k->F k\/w.heap.size<=k) (Bz3 (cs:=Gj) xW.row (by decide) (by omega) (by simpa using hr) λ_=>?_) ?_
  ·refine (St.start W).Ia rfl rfl rfl λb10 w4 S4 e4=>S4.drew λw5 S5 e5 _=>Af ?_
   rw [addr_add]
   have A5:=(AW.ext e4).ext e5
   refine Ah A5.box (x:=some b1) rfl (S5.ld 0 (x:=r.1) rfl rfl ?_)
   obtain ⟨m,es,hm1,hm2,hm3,hm4⟩:∃m es,some b1=some m/\F1 m/\Nc Key.int w5 m es/\∀k,Mc w5 F1 k (Je es k) (p0 k):=by
    rcases A5.plan with ⟨h,_⟩|h
    ·cases h
    ·exact h
   cases hm1
   obtain ⟨y,hy,hy1⟩:∃y:(Int×Int×Int×Int×Sl×Unit)×Bool×Unit,(∀W2,Ext w5 W2->(Instr.lookup 105 (.map (some b1)) (.int .i64 r.1) true).run Tryz.prog W2=.ok (RTy.val (.tup [(.agg Gj),(.one .bool)]) y) W2)/\y.2.1=(p0 g.1).isSome:=by
    have h4:=hm4 r.1
    have hr2:∀W2,Ext w5 W2->_:=λW2 e=>Aq2 MP (hm3.upd e id) r.1
    rw [←q1]
    generalize hv:Je es r.1=v at hr2 h4
    generalize hp:p0 r.1=q at h4 ⊢
    match v,q,h4 with
    |none,none,_=>exact ⟨((0,0,0,0,⟨none,0,0⟩,()),false,()),hr2,rfl⟩
    |some _,some f,⟨s,rfl,hs,hb,_⟩=>exact ⟨((r.1,f.kind,f.part,f.names,s,()),true,()),hr2,rfl⟩
   refine ⟨y,hy _ (Ext.refl _),?_⟩
   refine S5.Bq5 λb15 w6 S6 e6 hb15=>Ar (hy _ e6) (S6.keep 1 rfl rfl (Ar (cell_of (A5.ext e6).box rfl) (S6.Ae 0 rfl rfl rfl rfl λw7 S7 u7=>?_)))
   have e57:Ext w5 w7:=e6.new u7 λk hk e=>by omega
   have A7:=A5.ext e57
   have e47:Ext W w7:=(e4.trans e5).trans e57
   refine Bj (decide ((p0 g.1).isSome=true\/g.2.kind<1\/g.2.kind>5),()) (Ac (λh=>⟨Dx ?_,rfl⟩) λh=>S7.ld 1 (off:=1) (x:=r.2.1) rfl rfl (Ac (λh2=>⟨Dx ?_,rfl⟩) λh2=>S7.ld 1 (off:=1) (x:=r.2.1) rfl rfl ⟨Dx ?_,rfl⟩)) (Ac (λh=>?_) λh=>?_)
   ·rw [hy1] at h;simp [h]
   ·have h2:=of_decide_eq_true h2
    rw [q2] at h2;simp [h2]
   ·have h2:=of_decide_eq_false h2
    rw [hy1] at h;rw [q2] at h2 ⊢;simp [h,h2]
   ·have h:=of_decide_eq_true h
    rw [if_pos h] at hpl
    exact ⟨F1,by rw [hpl];exact AW.ext e47,uW.trans (Upd.Aj e47),hFW⟩
   ·have h:=of_decide_eq_false h
    rw [if_neg h] at hpl
    refine S7.ld 1 (off:=4) (x:=r.2.2.2.2.1) rfl rfl (As6 (SlX.ext q5 e47) q6 λs' w8 hs' e8=>?_)
    refine (S7.ext e8).stC 1 (off:=4) rfl (by simp [Cells.vals]) λw9 S9 u9=>S9.drew λw10 S10 e10 _=>Af ?_
    have g10:=S7.ge 1 rfl
    have eAll:Ext W w10:=((e47.trans e8).new u9 λk hk e=>by have e:k=b10:=e;omega).trans e10
    have A10:=AW.ext eAll
    have hs10:Ints w10 s' g.2.bytes:=((hs'.box ((S7.ext e8).at_ 1 rfl) (by decide) u9).ext e10).in
    rw [addr_add]
    refine Ah A10.box (x:=some b1) rfl (S10.ld 1 (off:=0) (x:=r.1) rfl rfl (S10.lds 1 (cs:=Gj) (r.1,r.2.1,r.2.2.1,r.2.2.2.1,s',()) rfl ?_))
    obtain ⟨m,es,hm1,hm2,hm3,hm4⟩:∃m es,some b1=some m/\F1 m/\Nc Key.int w10 m es/\∀k,Mc w10 F1 k (Je es k) (p0 k):=by
     rcases A10.plan with ⟨h,_⟩|h
     ·cases h
     ·exact h
    cases hm1
    obtain ⟨es',w11,hrun,hm',hget,u11,hz11,_⟩:=Ym MP hm3 r.1 (.agg (Cells.vals Gj (r.1,r.2.1,r.2.2.1,r.2.2.2.1,s',())).toArray)
    obtain ⟨o,c,hmap⟩:=Nc.D9 hm3
    have no:∀t:TypeId,Cc w10 (λk=>k=b1) t:=λt=>Cc.map hmap
    have hp':Ou w11 (λk=>F1 k\/s'.blk k) (some b1) (La (fl.take (j+1)) λ_=>none):=by
     rw [hpl]
     refine .inr ⟨b1,es',rfl,.inl hm2,hm',λk=>?_⟩
     rw [hget]
     show Mc _ _ k _ (if k=g.1 then some g.2 else p0 k)
     by_cases hk:k=r.1
     ·rw [if_pos hk,if_pos (by rw [hk,q1]),hk]
      refine ⟨s',?_,hs10.ty u11 (no _),λk hk=>.inr hk,by omega⟩
      show Value.agg #[.int .i64 r.1,.int .i64 r.2.1,.int .i64 r.2.2.1,.int .i64 r.2.2.2.1,sv s']=_
      rw [q2,q3,q4]
     ·rw [if_neg hk,if_neg (by rw [←q1];exact hk)]
      exact (hm4 k).upd u11 (no _) λ_ h=>.inl h
    have hz:=eAll.size
    have hz7:=e47.size
    refine ⟨w11,hrun,λk=>F1 k\/s'.blk k,A10.Bp3 u11 hp' (λ_ h=>.inl h) λk hk=>?_,(uW.trans (Upd.Aj eAll)).new u11 λk hk e=>?_,λk hk=>hk.elim (hFW k) λh=>.inr ?_⟩
    ·rcases hk with hk|hk
     ·rw [hz11];exact A10.lt k hk
     ·rw [hz11];exact hs10.Em hk
    ·subst e;exact (hFW k hm2).resolve_right (by omega)
    ·have:=hs'.Ew h
     have:=uW.size
     omega
  ·rintro _ W' ⟨F2,h1,h2,h3⟩
   rw [ew]
   exact ⟨⟨j+1,F2,rfl,h,h1,h2,h3⟩,by simp only [Int.toNat_natCast];omega⟩
 ·have h:¬j<rows.length:=by have:=of_decide_eq_false h;omega
  have hj:fl.take j=fl:=List.take_of_length_le (by omega)
  rw [hj] at AW
  exact hK F1 W AW.in uW hFW
end
end Dq
end Go.Proofs.YtmooldhpiopcgaaGreatDoor
namespace Go.Proofs.YtmooldhpiopcgaaGreatDoor
namespace Dq
open Go Go.Vx Dsk
section
variable {w w':World}{F:Nat->Prop}
theorem Bi4 (v:Value) (w:World):(Extern.ReflectliteType.typeOf #[.iface 33 v]).run Tryz.prog w=.ok (.iface 211 (.agg #[.pointer (some ⟨2,33,none⟩)])) w:=by kernel_rfl
def Cc7:Array Value->Sem Value:=(Extern.find Tryz.f262).getD λ_=>pure undef
theorem Ab6 (w:World):(Cc7 #[.agg #[.pointer (some ⟨2,33,none⟩)]]).run Tryz.prog w=.ok (.bool true) w:=by kernel_rfl
theorem Br8 (v:Value) (w:World):(Go.method (Tryz.prog.types.size+Made.depth) 211 v "Comparable").run Tryz.prog w=.ok (262,v) w:=by kernel_rfl
theorem Ay5 (v:Value) (w:World):(Go.method (Tryz.prog.types.size+Made.depth) 99 v "Unwrap").run Tryz.prog w=.ok (254,v) w:=by kernel_rfl
theorem Ck6 (v:Value) (xT:TypeId) (w:World):(Instr.typeAssert (.iface 99 v) xT 213 true).run Tryz.prog w=.ok (.tuple #[.nilIface,.bool false]) w:=run_typeAssert_lacksB Tryz.underlying213 (by kernel_rfl) (by kernel_rfl) v xT w
theorem Ay9 (v:Value) (xT:TypeId) (w:World):(Instr.typeAssert (.iface 99 v) xT 216 true).run Tryz.prog w=.ok (.tuple #[.iface 99 v,.bool true]) w:=run_typeAssert_hasB Tryz.underlying216 (by kernel_rfl) v xT w
theorem noIsE (v:Value) (xT:TypeId) (w:World):(Instr.typeAssert (.iface 33 v) xT 213 true).run Tryz.prog w=.ok (.tuple #[.nilIface,.bool false]) w:=run_typeAssert_lacksB Tryz.underlying213 (by kernel_rfl) (by kernel_rfl) v xT w
theorem noUnwrapE (v:Value) (xT:TypeId) (w:World):(Instr.typeAssert (.iface 33 v) xT 216 true).run Tryz.prog w=.ok (.tuple #[.nilIface,.bool false]) w:=run_typeAssert_lacksB Tryz.underlying216 (by kernel_rfl) (by kernel_rfl) v xT w
theorem noUnwrapsE (v:Value) (xT:TypeId) (w:World):(Instr.typeAssert (.iface 33 v) xT 217 true).run Tryz.prog w=.ok (.tuple #[.nilIface,.bool false]) w:=run_typeAssert_lacksB Tryz.underlying217 (by kernel_rfl) (by kernel_rfl) v xT w
theorem Bm4 (v:Value){K:Value->Wp}(hK:K (.iface 211 (.agg #[.pointer (some ⟨2,33,none⟩)])) w):Bg Tryz.prog (callFunc 91 #[.iface 33 v]) (.one (.one .any)) K w:=by
 refine .inr (.inl ⟨_,w,?_,hK⟩)
 have h8:=@run_callFunc_extern Tryz.prog 91 _ Extern.ReflectliteType.typeOf Tryz.func91 (by kernel_rfl) (by kernel_rfl) (by kernel_rfl) (by kernel_rfl) #[.iface 33 v] w
 rw [h8,Bi4];rfl
theorem Al1 {K:Bool->Wp}(hK:K true w):Bg Tryz.prog (invoke (.fn (.method "Comparable") #[]) (#[.iface 211 (.agg #[.pointer (some ⟨2,33,none⟩)])]++#[])) (.one (.one .bool)) K w:=by
 refine .inr (.inl ⟨true,w,?_,hK⟩)
 have h32:=@run_callFunc_extern Tryz.prog 262 _ Cc7 Tryz.func262 (by kernel_rfl) (by kernel_rfl) (by kernel_rfl) (by kernel_rfl) #[.agg #[.pointer (some ⟨2,33,none⟩)]] w
 have e:invoke (.fn (.method "Comparable") #[]) (#[.iface 211 (.agg #[.pointer (some ⟨2,33,none⟩)])]++#[])=callMethod (.iface 211 (.agg #[.pointer (some ⟨2,33,none⟩)])) "Comparable" #[]:=rfl
 rw [e]
 simp only [callMethod,Sem.run_bind,program,Sem.run,Result.andThen_ok,Br8]
 have e2:(#[.agg #[.pointer (some ⟨2,33,none⟩)]]++#[]:Array Value)=#[.agg #[.pointer (some ⟨2,33,none⟩)]]:=rfl
 rw [e2,h32,Ab6]
 rfl
theorem Bm1 {p:Option Addr}{K:Value->Wp}(h:Aa Tryz.prog 254 #[.pointer p] (.one (.one .any)) K w):Bg Tryz.prog (invoke (.fn (.method "Unwrap") #[]) (#[.iface 99 (.pointer p)]++#[])) (.one (.one .any)) K w:=by
 refine .inl ⟨254,#[.pointer p],?_,h⟩
 have h:=Gg (P:=Tryz.prog) (f:=254) (args:=#[.pointer p]) (by kernel_rfl) w
 have e:invoke (.fn (.method "Unwrap") #[]) (#[.iface 99 (.pointer p)]++#[])=callMethod (.iface 99 (.pointer p)) "Unwrap" #[]:=rfl
 rw [e]
 simp only [callMethod,Sem.run_bind,program,Sem.run,Result.andThen_ok,Ay5]
 exact h
theorem Bs9 {o1 o2:Operand}{a k:Value}{K:Bool->Wp}(hK:K false w):rdB Tryz.prog (do eqGuard .eql 26 o1 o2 (.iface 99 a) (.iface 33 k);binOp .eql 26 (.iface 99 a) (.iface 33 k):Sem Value) K w:=by
 obtain ⟨ms,hi⟩:=uE
 refine ⟨false,?_,hK⟩
 have:=run_eql_iface_types (P:=Tryz.prog) 99 33 a k hi (by decide) w
 simp [eqGuard,this]
theorem As2 {P:Program}{ti t:TypeId}{ms:Array (String×TypeId)}{i:TypeInfo}{n:Nat}{a b:Value}{r:Bool}(hi:P.underlying ti=some (.interface ms)) (ht:P.info? t=some i) (hc:i.comparable=true) (h:(Op.equalIn n t a b).run P w=.ok r w):(Op.equalIn (n+1) ti (.iface t a) (.iface t b)).run P w=.ok r w:=by
 simp [Op.equalIn,run_underlying hi,typeInfo,ht,hc,h]
theorem Ca1 {o1 o2:Operand}{e k:Int}{K:Bool->Wp}(hK:K (decide (e=k)) w):rdB Tryz.prog (do eqGuard .eql 26 o1 o2 (.iface 33 (.int .i64 e)) (.iface 33 (.int .i64 k));binOp .eql 26 (.iface 33 (.int .i64 e)) (.iface 33 (.int .i64 k)):Sem Value) K w:=by
 obtain ⟨ms,hi⟩:=uE
 refine ⟨decide (e=k),?_,hK⟩
 have hu:Tryz.prog.underlying 33=some (.int .i64):=C33.und
 have hc:(Tryz.prog.info? 33).map (·.comparable)=some true:=by kernel_rfl
 obtain ⟨i,hi2,hcmp⟩:=Option.map_eq_some_iff.1 hc
 have h:(Op.equalIn 10000 26 (.iface 33 (.int .i64 e)) (.iface 33 (.int .i64 k))).run Tryz.prog w=.ok (decide (e=k)) w:=by
  exact As2 hi hi2 hcmp (run_equalIn_int w _ _ _ _ _ _ hu)
 simp [eqGuard,binOp,Op.equal,Op.maxDepth,h]
theorem Bz5 {b:Nat}{e k st:Int}{op nm:ByteArray}(h:w.heap[b]?=some (.cells #[.string op,.string nm,.int .i64 st,.iface 33 (.int .i64 e)] 101 (0,0))){K:Bool->Wp}(hK:K (decide (e=k)) w) :
  Aa Tryz.prog 53 #[.iface 99 (.pointer (some (at0 b))),.iface 33 (.int .i64 k)] rB K w:=by
 refine j53 ?_
 unfold F53
 refine Bj (false,()) (Kr (Ap (Kr ⟨rfl,rfl⟩ uE)) uE) (Ap (Bm4 _ (Al1 ?_)))
 refine j92 ?_
 unfold F92
 refine Bz (λs W=>W=w/\(s=(.iface 99 (.pointer (some (at0 b))),())\/s=(.iface 33 (.int .i64 e),()))) (λs _=>match s.1 with | .iface t _=>t-33|_=>0) ⟨rfl,.inl rfl⟩ ?_
 rintro _ _ ⟨rfl,rfl|rfl⟩
 ·refine Bj (false,()) (Di (Bs9 ⟨rfl,rfl⟩)) (Ap ⟨(.nilIface,false,()),_,Ck6 _ _ _,?_⟩)
  refine Bj (false,()) (Ap ⟨rfl,rfl⟩) (Ap ⟨(.iface 99 (.pointer (some (at0 b))),true,()),_,Ay9 _ _ _,Di (Bm1 ?_)⟩)
  refine Cq7 ?_
  unfold F254
  refine Af ?_
  rw [addr_add]
  refine Ah h (off:=3) (x:=.iface 33 (.int .i64 e)) rfl (Kr (Ap ⟨⟨rfl,.inr rfl⟩,?_⟩) uE)
  show 33-33<99-33
  decide
 ·refine Bj (decide (e=k),()) (Di (Ca1 ⟨rfl,rfl⟩)) (Ac (λhh=>?_) λhh=>⟨(.nilIface,false,()),_,noIsE _ _ _,?_⟩)
  ·have hh:decide (e=k)=true:=hh
   rw [hh] at hK;exact hK
  have hh:decide (e=k)=false:=hh
  rw [hh] at hK
  exact Bj (false,()) (Ap ⟨rfl,rfl⟩) (Ap ⟨(.nilIface,false,()),_,noUnwrapE _ _ _,Ap ⟨(.nilIface,false,()),_,noUnwrapsE _ _ _,Ap hK⟩⟩)
end
end Dq
end Go.Proofs.YtmooldhpiopcgaaGreatDoor
namespace Go.Proofs.YtmooldhpiopcgaaGreatDoor.Dsk
def side (n:Nm):Nm:=⟨n.data.push 126⟩
def userName (n:Nm):Bool:=Ba n&&decide (n.size<32)&&decide (n.data.back?≠some 126)
abbrev Stm:=Int×Int×Int
structure Fil where
 name:Nm
 mark:List UInt8
 known:Stm
 tried:Stm
def Ab7:Nat->List UInt8->List (List UInt8)
 |0,_=>[]
 |n+1,l=>if l=[] then [] else l.take 1024::Ab7 n (l.drop 1024)
def Bd2 (n:Nm):List (List UInt8)->Dk->Dk×Int
 |[],D=>(D,0)
 |c::r,D=>if (Bo D n c).2.1=0 then Bd2 n r (Bo D n c).1 else ((Bo D n c).1,(Bo D n c).2.1)
def clean (D:Dk) (n:Nm) (e:Int) (t:Stm):Dk×Int×Stm:=if e=0 then (D,e,t) else ((Ea D n).1,e,t)
def Cb (D:Dk) (n:Nm):Dk×Int :=
 let m:=Dj D n
 if m.2.1=163 then (let r:=Ea m.1 n;if r.2.1=0 then ((Dj r.1 n).1,(Dj r.1 n).2.1) else (r.1,r.2.1)) else (m.1,m.2.1)
def Gs (D:Dk) (n:Nm) (b:List UInt8) (t:Stm):Dk×Int×Stm :=
 let m:=Cb D (side n)
 if m.2≠0 then clean m.1 (side n) m.2 t else
 let f:=Bd2 (side n) (Ab7 b.length b) m.1
 if f.2≠0 then clean f.1 (side n) f.2 t else
 let s:=Dc f.1 (side n)
 if s.2.1≠0 then clean s.1 (side n) s.2.1 t else
 let p:=Ai s.1 (side n)
 if p.2.1≠0 then clean p.1 (side n) p.2.1 t else
 let r:=Eu p.1 (side n) n
 clean r.1 (side n) r.2.1 p.2.2
def Ey (D:Dk) (n:Nm) (b:List UInt8) (t k:Stm):Dk×Int×Stm×Stm :=
 let r:=Gs D n b t
 if r.2.1≠0 then (r.1,r.2.1,r.2.2,k) else
 let y:=Cm r.1
 (y.1,y.2.1,r.2.2,r.2.2)
def Eo (D:Dk) (F:Fil) (b:List UInt8) (force:Bool):Dk×Int×Fil :=
 let s:=Ai D F.name
 if s.2.1≠0/\s.2.1≠162 then (s.1,s.2.1,F) else
 let k:=if s.2.1=0/\s.2.2=F.tried then s.2.2 else F.known
 if force=false/\s.2.2≠k then (s.1,170,{ F with known:=k }) else
 let w:=Ey s.1 F.name (F.mark++b) F.tried k
 (w.1,w.2.1,{ F with tried:=w.2.2.1,known:=w.2.2.2 })
end Go.Proofs.YtmooldhpiopcgaaGreatDoor.Dsk
namespace Go.Proofs.YtmooldhpiopcgaaGreatDoor
open Go Go.Vx
theorem Qg {b:Nat}{a:Int}(h0:0<=a) (h:a<2^b):(BitVec.ofInt b a).toNat=a.toNat:=by
 rw [BitVec.toNat_ofInt]
 have e:((2^b:Nat):Int)=(2:Int)^b:=by simp
 rw [e,Int.emod_eq_of_lt h0 h]
theorem Yj {b k:Nat}{a m:Int}(h0:0<=a) (h:a<2^b) (hm:m=2^k-1) (hk:k<=b):((BitVec.toNat (BitVec.ofInt b a &&& BitVec.ofInt b m):Nat):Int)=a%2^k:=by
 have h1:(1:Int)<=2^k:=by have:(0:Int)<2^k:=Int.pow_pos (by decide);omega
 have h2:(2:Int)^k<=2^b:=by
  have:(2:Nat)^k<=2^b:=Nat.pow_le_pow_right (by decide) hk
  exact_mod_cast this
 rw [BitVec.toNat_and,Qg h0 h,Qg (by omega) (by omega)]
 have:m.toNat=2^k-1:=by
  have e:((2^k:Nat):Int)=(2:Int)^k:=by simp
  omega
 rw [this,Nat.and_two_pow_sub_one_eq_mod]
 have e:((2^k:Nat):Int)=(2:Int)^k:=by simp
 rw [Int.natCast_emod,e,Int.toNat_of_nonneg h0]
theorem Qc {b k:Nat}{a c:Int}(h0:0<=a) (hc0:0<=c) (hc:c<2^k) (h:a*2^k+c<2^b):((BitVec.toNat (BitVec.ofInt b (a*2^k) ||| BitVec.ofInt b c):Nat):Int)=a*2^k+c:=by
 have hp:(0:Int)<2^k:=Int.pow_pos (by decide)
 have hak:0<=a*2^k:=Int.mul_nonneg h0 (by omega)
 rw [BitVec.toNat_or,Qg hak (by omega),Qg hc0 (by omega)]
 have e:((2^k:Nat):Int)=(2:Int)^k:=by simp
 have e1:(a*2^k).toNat=a.toNat <<< k:=by
  rw [Nat.shiftLeft_eq]
  have:((a*2^k).toNat:Int)=((a.toNat*2^k:Nat):Int):=by
   rw [Int.toNat_of_nonneg hak,Int.natCast_mul,e,Int.toNat_of_nonneg h0]
  exact_mod_cast this
 rw [e1,←Nat.shiftLeft_add_eq_or_of_lt (by omega),←e1,Int.natCast_add,Int.toNat_of_nonneg hak,Int.toNat_of_nonneg hc0]
theorem Bh3 {b k:Nat}{a c:Int}(h0:0<=a) (hc0:0<=c) (hc:c<2^k) (h:a*2^k+c<2^b):((BitVec.toNat (BitVec.ofInt b c ||| BitVec.ofInt b (a*2^k)):Nat):Int)=a*2^k+c:=by
 rw [BitVec.or_comm];exact Qc h0 hc0 hc h
theorem Bu5 {a m:Int}(h0:0<=a) (h:a<2^63) (hm:m=1023):((BitVec.toNat (BitVec.ofInt 64 a &&& ~~~(BitVec.ofInt 64 m)):Nat):Int)=a/1024*1024:=by
 subst hm
 have e0:(~~~(BitVec.ofInt 64 1023):BitVec 64).toNat=(2^54-1) <<< 10:=by decide
 rw [BitVec.toNat_and,Qg h0 (by omega),e0]
 have:a.toNat &&& (2^54-1) <<< 10=(a.toNat >>> 10) <<< 10:=by
  apply Nat.eq_of_testBit_eq
  intro i
  rw [Nat.testBit_and,Nat.testBit_shiftLeft,Nat.testBit_shiftLeft,Nat.testBit_two_pow_sub_one,Nat.testBit_shiftRight]
  by_cases hi:10<=i
  ·have e:10+(i-10)=i:=by omega
   rw [e]
   by_cases h64:i<64
   ·have:i-10<54:=by omega
    simp [hi,this]
   ·have hb:a.toNat.testBit i=false:=Nat.testBit_lt_two_pow (Nat.lt_of_lt_of_le (by omega:a.toNat<2^63) (Nat.pow_le_pow_right (by decide) (by omega)))
    simp [hb]
  ·simp [hi]
 rw [this,Nat.shiftLeft_eq,Nat.shiftRight_eq_div_pow]
 omega
theorem wrap64 {a:Int}(h0:-(2^63)<=a) (h:a<2^63):IntKind.wrap .i64 a=a:=by
 simp only [IntKind.wrap,IntKind.signed,IntKind.bits]
 simp [Int.bmod_def];omega
theorem Vs {a:Int}(h0:0<=a) (h:a<256):IntKind.wrap .u8 a=a:=by
 simp only [IntKind.wrap,IntKind.signed,IntKind.bits]
 simp;omega
theorem Au0 {a:Int}:IntKind.wrap .u8 a=a%256:=by
 simp only [IntKind.wrap,IntKind.signed,IntKind.bits]
 simp
end Go.Proofs.YtmooldhpiopcgaaGreatDoor
namespace Go.Proofs.YtmooldhpiopcgaaGreatDoor
namespace Dq
open Go Go.Vx Dsk
section
variable {w w':World}
theorem Al3 {f:FuncId}{args:Array Value}{t:RTy}{K:t.T->Wp}{v:t.T}(h:Calls Tryz.prog f args w λe w'=>e=.returned (t.val v)/\w'=w) (hK:K v w):Aa Tryz.prog f args t K w :=
 h.mono λe w' ⟨h1,h2⟩=>⟨v,h1,by rw [h2];exact hK⟩
theorem Bj9 {a b:TypeId}{n:Int}{K:ByteArray->Wp}(ha:Tryz.prog.underlying a=some (.int .i32)) (hb:Tryz.prog.underlying b=some .string) (hK:K (Utf8.encode n) w):Dp Tryz.prog (.one (.one .str)) (convert a b (.int .i32 n)) K w:=by
 refine ⟨Utf8.encode n,w,?_,hK⟩
 simp [convert,run_underlying ha,run_underlying hb,Conv.intToString,RTy.val,Ty.val,Cell.val]
theorem An8 {s:ByteArray}{t:TypeId}{K:Option Addr->Wp}(ht:Tryz.prog.underlying t=some .string)
  (hK:∀r w',w'.heap[r]?=some (.stringIter s 0)->Ext w w'->r=w.heap.size->K (some (at0 r)) w'):Dp Tryz.prog (.one (.one .ptr)) (Instr.range t (.string s)) K w:=by
 refine ⟨some (at0 w.heap.size),w.alloc (.stringIter s 0),?_,hK _ _ (heap_alloc w _) (Ext.alloc w _) rfl⟩
 simp [Instr.range,run_underlying ht,newObj,Sem.run,World.alloc_eq,RTy.val,Ty.val,Cell.val]
theorem Bb8 {s:ByteArray}{r pos:Nat}{t:TypeId}{K:Int->Int->Wp}{K0:World->Prop}(hr:w.heap[r]?=some (.stringIter s pos))
  (h0:s.size<=pos->K0 w) (h1:pos<s.size->∀w',w'.heap[r]?=some (.stringIter s (pos+(Utf8.decode s pos).2))->Upd (λk=>k=r) w w'->K (pos:Int) ((Utf8.decode s pos).1:Int) w') :
  Bd0 Tryz.prog (Instr.next (.pointer (some (at0 r))) true t) K K0 w:=by
 have hg:(getObj r).run Tryz.prog w=.ok (.stringIter s pos) w:=by simp [getObj,Sem.run,hr]
 by_cases h:pos<s.size
 ·obtain ⟨u1,u2⟩:=Jp (o':=.stringIter s (pos+(Utf8.decode s pos).2)) hr
  refine .inl ⟨(pos:Int),((Utf8.decode s pos).1:Int),_,?_,h1 h _ u2 u1⟩
  simp [Instr.next,hg,h,setObj,Sem.run,hr,goInt]
 ·refine .inr ⟨w,?_,h0 (by omega)⟩
  simp [Instr.next,hg,h]
theorem Bj6 {s:ByteArray}{i:Nat}(h:(s.get! i).toNat<128):Utf8.decode s i=((s.get! i).toNat,1):=by
 unfold Utf8.decode
 simp only [Nat.add_zero]
 rw [if_pos h]
theorem Bj7 {s:ByteArray}{i:Nat}(h:128<=(s.get! i).toNat):128<=(Utf8.decode s i).1/\(Utf8.decode s i).1<2^31:=by
  unfold Utf8.decode
  simp only [Nat.add_zero]
  rw [if_neg (by omega)]
  have h63:∀x:Nat,x%64<64:=λx=>Nat.mod_lt _ (by decide)
  simp only [Utf8.runeError]
  repeat' split
  all_goals
    first
      |(exact ⟨by decide,by decide⟩)
      | (rename_i hh
         simp only [Bool.and_eq_true,decide_eq_true_eq,ge_iff_le] at hh
         refine ⟨?_,?_⟩
         · dsimp only;omega
         · dsimp only;omega)
theorem Bj3 {c:Int}(h:128<=c):(2<=(Utf8.encode c).size/\(Utf8.encode c).size<=4)/\∀b,(Utf8.encode c)[(Utf8.encode c).size-1]?=some b->128<=b.toNat:=by
 have hc:128<=(if Utf8.valid c then c.toNat else Utf8.runeError)/\(if Utf8.valid c then c.toNat else Utf8.runeError)<0x110000:=by
  split
  ·rename_i hv
   simp only [Utf8.valid,Bool.or_eq_true,Bool.and_eq_true,decide_eq_true_eq] at hv
   omega
  ·decide
 unfold Utf8.encode
 generalize (if Utf8.valid c then c.toNat else Utf8.runeError)=n at hc
 have key:∀m:Nat,128<=(UInt8.ofNat (128+m%64)).toNat:=by
  intro m
  have:=Nat.mod_lt m (show 0<64 by decide)
  simp only [UInt8.toNat_ofNat']
  omega
 simp only
 rw [if_neg (by omega)]
 split
 ·refine ⟨by show 2<=2/\2<=4;decide,λb hb=>?_⟩
  have:(some (UInt8.ofNat (128+n%64)):Option UInt8)=some b:=hb
  cases this;exact key n
 ·split
  ·refine ⟨by show 2<=3/\3<=4;decide,λb hb=>?_⟩
   have:(some (UInt8.ofNat (128+n%64)):Option UInt8)=some b:=hb
   cases this;exact key n
  ·refine ⟨by show 2<=4/\4<=4;decide,λb hb=>?_⟩
   have:(some (UInt8.ofNat (128+n%64)):Option UInt8)=some b:=hb
   cases this;exact key n
theorem indexByte_none:∀{l:List UInt8}{c:UInt8},(∀b∈l,b≠c)->Lib.indexByte l c=-1
 |[],_,_=>rfl
 |b::l,c,h=>by
  have h1:(b==c)=false:=by simpa using h b List.mem_cons_self
  have h2:=indexByte_none (l:=l) (c:=c) λx hx=>h x (List.mem_cons_of_mem _ hx)
  simp [Lib.indexByte,h1,h2]
abbrev Le:ByteArray:={ data:=#[46,95,45,126] }
theorem Br0 {i j:Nat}{b:UInt8}(h:b∈(Le.extract i j).data.toList):b.toNat<128:=by
 rw [ByteArray.data_extract,Array.toList_extract] at h
 have:b∈([46,95,45,126]:List UInt8):=by
  rw [List.extract_eq_take_drop] at h
  exact List.mem_of_mem_drop (List.mem_of_mem_take h)
 clear h
 revert this
 revert b
 decide
theorem Bi5 {c:Int}(h:128<=c) (hc:c<2^31){K:Int->Wp}(hK:∀w',Ext w w'->K (-1) w'):Aa Tryz.prog 130 #[.string Le,.int .i32 c] rI K w:=by
 refine j130 ?_
 unfold F130
 have h128:¬c<128:=by omega
 refine Bj (false,()) (Ac (λ_=>⟨by simp [h128],rfl⟩) (λh2=>absurd h2 (by simp;omega))) (Ap ?_)
 refine Ac (λhe=>?_) (λhe=>?_)
 ·refine Ag (λ_ w'=>Ext w w') (An8 us λr w1 n1 e1 hr=>?_) λ_ w' e=>hK w' e
  refine Bz (λ_ W=>Ext w W/\∃pos,W.heap[r]?=some (.stringIter Le pos)/\pos<=4) (λ_ W=>match W.heap[r]? with|some (.stringIter _ p)=>4-p|_=>0) ⟨e1,0,n1,by decide⟩ ?_
  rintro _ W ⟨eW,pos,hp,hle⟩
  refine Bb8 hp (λ_=>Ap eW) λhlt W1 n2 u2=>?_
  have hlt:pos<4:=hlt
  have hd:(Utf8.decode Le pos).1<128/\(Utf8.decode Le pos).2=1:=by
   rcases (by omega:pos=0\/pos=1\/pos=2\/pos=3) with rfl|rfl|rfl|rfl<;>decide
  refine Di (Ac (λh3=>?_) (λ_=>?_))
  ·have:(((Utf8.decode Le pos).1:Nat):Int)=65533:=by simpa using h3
   omega
  ·rw [hd.2] at n2
   refine ⟨⟨eW.step u2 λk hk=>by omega,pos+1,n2,by omega⟩,?_⟩
   simp only [n2,hp];omega
 ·refine Al3 (v:=Lib.validRune c) (Tryz.utf8_ValidRune c w) (Ac (λ_=>hK w (Ext.refl w)) (λ_=>Bj9 C21.und us ?_))
  obtain ⟨⟨s2,s4⟩,hl⟩:=Bj3 h
  generalize Utf8.encode c=e at s2 s4 hl
  obtain ⟨b,hb⟩:∃b,e[e.size-1]?=some b:=⟨_,getElem?_pos e (e.size-1) (by omega)⟩
  have hbg:=hl b hb
  have ew:IntKind.wrap .i64 (((ByteArray.size e:Nat):Int)-1)=((e.size-1:Nat):Int):=by rw [wrap64 (by omega) (by omega)];omega
  refine Ag (λ_ w'=>Ext w w') ?_ λ_ w' e=>hK w' e
  refine Bz (λs W=>s=(((e.size-1:Nat):Int),())/\Ext w W) (λ_ _=>0) ⟨by rw [ew],Ext.refl w⟩ ?_
  rintro _ W ⟨rfl,eW⟩
  refine Ac (λhlt=>?_) (λ_=>eW)
  have hlt:((e.size-1:Nat):Int)<4:=of_decide_eq_true hlt
  refine Ag (λ_ _=>False) (Dh λW1 e1 _=>?_) (λ_ _ h=>h.elim)
  obtain ⟨a,ha⟩:∃a,Le[e.size-1]?=some a:=⟨_,getElem?_pos Le (e.size-1) (by show e.size-1<4;omega)⟩
  have hal:a.toNat<128:=by
   rcases (by omega:e.size-1=1\/e.size-1=2\/e.size-1=3) with h4|h4|h4<;>rw [h4] at ha<;>(have:=Option.some.inj ha;subst this;decide)
  refine ⟨a,⟨by omega,by simpa using ha⟩,b,⟨by rw [ew];omega,by rw [ew];simpa using hb⟩,Ac (λ_=>?_) (λh5=>?_)⟩
  ·refine Dh λW2 e2 _=>Gf ?_ ⟨b,⟨by rw [ew];omega,by rw [ew];simpa using hb⟩,?_⟩
   ·rw [wrap64 (by omega) (by omega)]
    have:(Le.size:Int)=4:=rfl
    omega
   refine Al3 (v:=Lib.indexByte _ _) (Tryz.strings_IndexByte _ _ W2) (Ac (λ_=>hK W2 ((eW.trans e1).trans e2)) λh6=>?_)
   rw [indexByte_none λx hx=>λhh=>?_] at h6
   ·exact absurd h6 (by decide)
   ·have:=Br0 hx
    rw [hh] at this
    simp at this
    omega
  ·have:((a.toNat:Nat):Int)=((b.toNat:Nat):Int):=by simpa using h5
   omega
def okI (c:Int):Bool:=decide ((97<=c/\c<=122)\/(65<=c/\c<=90)\/(48<=c/\c<=57)\/c=46\/c=95\/c=45\/c=126)
theorem Z8:∀n:Nat,n<128->decide (0<=Lib.indexByte Le.data.toList (n:Int).toNat.toUInt8)=decide (n=46\/n=95\/n=45\/n=126):=by decide +kernel
theorem Ah9 {c:Int}(h0:0<=c) (hc:c<2^31){K:Bool->Wp}(hK:∀w',Ext w w'->K (!okI c) w'):Aa Tryz.prog 52 #[.int .i32 c] rB K w:=by
 refine j52 ?_
 unfold F52
 refine Bj (decide ((97<=c/\c<=122)\/(65<=c/\c<=90)\/(48<=c/\c<=57)),()) ?_ (Ac (λh=>?_) λh=>?_)
 ·refine Bj (decide (97<=c/\c<=122),()) (Ac (λh=>⟨?_,rfl⟩) λh=>⟨?_,rfl⟩) ?_
  ·exact Dx (by simp at h ⊢;omega)
  ·exact Dx (by simp at h ⊢;omega)
  refine Ac (λh=>⟨Dx (by simp at h ⊢;omega),rfl⟩) λh=>?_
  refine Bj (decide (65<=c/\c<=90),()) (Ac (λh=>⟨?_,rfl⟩) λh=>⟨?_,rfl⟩) ?_
  ·exact Dx (by simp at h ⊢;omega)
  ·exact Dx (by simp at h ⊢;omega)
  refine Ac (λh2=>⟨Dx (by simp at h h2 ⊢;omega),rfl⟩) λh2=>?_
  exact Ac (λh3=>⟨Dx (by simp at h h2 h3 ⊢;omega),rfl⟩) λh3=>⟨Dx (by simp at h h2 h3 ⊢;omega),rfl⟩
 ·have h:(97<=c/\c<=122)\/(65<=c/\c<=90)\/(48<=c/\c<=57):=by simpa using h
  have:okI c=true:=by unfold okI;simp only [decide_eq_true_eq];omega
  have hk:=hK w (Ext.refl w)
  rw [this] at hk
  exact hk
 ·have h:¬((97<=c/\c<=122)\/(65<=c/\c<=90)\/(48<=c/\c<=57)):=by simpa using h
  by_cases hb:c<128
  ·refine Al3 (v:=decide (0<=Lib.indexByte Le.data.toList c.toNat.toUInt8)) (Tryz.strings_ContainsRune_ascii Le c w h0 hb) ?_
   have:decide (0<=Lib.indexByte Le.data.toList c.toNat.toUInt8)=okI c:=by
    obtain ⟨n,rfl⟩:=Int.eq_ofNat_of_zero_le h0
    rw [Z8 n (by omega)]
    unfold okI
    rw [decide_eq_decide]
    omega
   rw [this]
   exact hK w (Ext.refl w)
  ·refine j90 ?_
   unfold F90
   refine Bi5 (by omega) hc λw' e=>?_
   have:okI c=false:=by unfold okI;simp only [decide_eq_false_iff_not];omega
   have hk:=hK w' e
   rw [this] at hk
   exact hk
theorem get_at {s:ByteArray}{i:Nat}(h:i<s.size):s.data.toList[i]?=some (s.get! i):=by
 have h':i<s.data.size:=h
 have e:s.get! i=s.data[i]:=by
  show s.data[i]! = _
  exact getElem!_pos s.data i h'
 rw [e,Array.getElem?_toList]
 exact Array.getElem?_eq_getElem h'
theorem Y3 {s:ByteArray}(hs:s.size<2^62){K:Int->Wp}(hK:∀r w',Ext w w'->(r<0↔s.data.toList.all Es=true)->K r w') :
  Aa Tryz.prog 51 #[.string s,.func (.func 52) #[] #[]] rI K w:=by
 refine j51 ?_
 unfold F51
 refine j89 ?_
 unfold F89
 refine Ag (λ_ w'=>Ext w w'/\s.data.toList.all Es=true) (An8 us λr w1 n1 e1 hr=>?_) λ_ w' ⟨e,h⟩=>hK _ w' e ⟨λ_=>h,λ_=>by decide⟩
 refine Bz (λ_ W=>Ext w W/\∃pos,W.heap[r]?=some (.stringIter s pos)/\pos<=s.size/\∀j,j<pos->Es (s.get! j)=true) (λ_ W=>match W.heap[r]? with|some (.stringIter _ p)=>s.size-p|_=>0) ⟨e1,0,n1,by omega,λj hj=>by omega⟩ ?_
 rintro _ W ⟨eW,pos,hp,hle,hok⟩
 refine Bb8 hp (λhge=>Ap ⟨eW,?_⟩) λhlt W1 n2 u2=>?_
 ·rw [List.all_eq_true]
  intro x hx
  obtain ⟨i,hi⟩:=List.mem_iff_getElem?.1 hx
  have hlt:=(List.getElem?_eq_some_iff.1 hi).1
  have hlt:i<s.size:=by simpa using hlt
  rw [get_at hlt] at hi
  cases hi
  exact hok i (by omega)
 have q2:Ext w W1:=eW.step u2 λk hk=>by omega
 have hd:(Utf8.decode s pos).1<2^31/\okI ((Utf8.decode s pos).1:Int)=Es (s.get! pos)/\(Es (s.get! pos)=true->(Utf8.decode s pos).2=1):=by
  by_cases hb:(s.get! pos).toNat<128
  ·rw [Bj6 hb]
   refine ⟨by show (s.get! pos).toNat<2^31;omega,?_,λ_=>rfl⟩
   unfold okI Es
   simp only [decide_eq_decide]
   omega
  ·obtain ⟨h1,h2⟩:=Bj7 (s:=s) (i:=pos) (by omega)
   have hf:Es (s.get! pos)=false:=by unfold Es;simp only [decide_eq_false_iff_not];omega
   refine ⟨h2,?_,λh=>by rw [hf] at h;cases h⟩
   rw [hf]
   unfold okI;simp only [decide_eq_false_iff_not];omega
 refine Di (func_x (by kernel_rfl) (Ah9 (by omega) (by have:=hd.1;omega) λW3 e3=>Bc6 C4.und ?_))
 rw [hd.2.1]
 have q3:=q2.trans e3
 refine Ac (λh=>?_) λh=>?_
 ·have hf:Es (s.get! pos)=false:=by revert h;cases Es (s.get! pos)<;>simp
  refine hK _ _ q3 ⟨λh=>by omega,λh=>?_⟩
  rw [List.all_eq_true] at h
  have:=h _ (List.mem_of_getElem? (get_at hlt))
  rw [hf] at this;cases this
 ·have ht:Es (s.get! pos)=true:=by revert h;cases Es (s.get! pos)<;>simp
  have n3:=e3.ext_get n2
  rw [hd.2.2 ht] at n3
  refine ⟨⟨q3,pos+1,n3,by omega,λj hj=>?_⟩,?_⟩
  ·by_cases hj':j=pos
   ·rw [hj'];exact ht
   ·exact hok j (by omega)
  ·simp only [n3,hp];omega
theorem An6 {s:ByteArray}(hs:s.size<2^62){K:Bool->Wp}(hK:K (decide (s.data.back?=some 126)) w):Aa Tryz.prog 50 #[.string s,.string { data:=#[126] }] rB K w:=by
 refine j50 ?_
 unfold F50
 refine j88 ?_
 unfold F88
 have e1:((ByteArray.size ({ data:=#[126] }:ByteArray):Nat):Int)=1:=rfl
 simp only [e1]
 refine Ac (λh=>?_) λh=>?_
 ·have h:1<=s.size:=by simp at h;omega
  have ew:IntKind.wrap .i64 (((ByteArray.size s:Nat):Int)-1)=((s.size-1:Nat):Int):=by rw [wrap64 (by omega) (by omega)];omega
  rw [ew]
  refine Gf (by omega) ?_
  have:(ByteArray.toList (s.extract (Int.toNat ((s.size-1:Nat):Int)) (Int.toNat ((s.size:Nat):Int)))==ByteArray.toList ({ data:=#[126] }:ByteArray))=decide (s.data.back?=some 126):=by
   rw [bytes_eq,decide_eq_decide,Int.toNat_natCast,Int.toNat_natCast]
   have hl:s.data.size=s.size:=rfl
   have hx:(s.extract (s.size-1) s.size).data=#[s.data[s.size-1]'(by omega)]:=by
    rw [ByteArray.data_extract]
    refine Array.ext (by simp;omega) λi h1 h2=>?_
    have:i=0:=by simpa using h2
    subst this
    simp
   have hb:s.data.back?=some (s.data[s.size-1]'(by omega)):=by
    rw [Array.back?_eq_getElem?]
    exact Array.getElem?_eq_getElem (by omega)
   rw [hb]
   constructor
   ·intro h
    rw [h] at hx
    simpa using hx.symm
   ·intro h
    have h2:=Option.some.inj h
    cases hq:s.extract (s.size-1) s.size
    rw [hq] at hx
    simp only at hx
    rw [hx,h2]
  rw [this];exact hK
 ·have h:s.size=0:=by simp at h;omega
  have hb:decide (s.data.back?=some 126)=false:=by
   have:s.data=#[]:=Array.eq_empty_of_size_eq_zero h
   rw [this];decide
  rw [hb] at hK
  exact hK
theorem Bh7 {n:Nm}(hs:n.size<2^62){K:Bool->Wp}(hK:∀w',Ext w w'->K (userName n) w'):Aa Tryz.prog 15 #[.string n] rB K w:=by
 refine j15 ?_
 unfold F15
 refine Bj (decide (n.size=0\/32<=n.size\/n.data.back?=some 126),()) ?_ ?_
 ·refine Ac (λh=>⟨Dx ⟨λ_=>decide_eq_true (.inl ?_),λ_=>rfl⟩,rfl⟩) λh=>Ac (λh2=>⟨Dx ⟨λ_=>decide_eq_true (.inr (.inl ?_)),λ_=>rfl⟩,rfl⟩) λh2=>An6 hs ⟨Dx ?_,rfl⟩
  ·have:=eq_of_beq h;omega
  ·have:=of_decide_eq_true h2;omega
  have h:n.size≠0:=by have:=ne_of_beq_false h;omega
  have h2:¬32<=n.size:=by have:=of_decide_eq_false h2;omega
  rw [decide_eq_true_eq,decide_eq_true_eq]
  exact ⟨λhb=>.inr (.inr hb),λhb=>(hb.resolve_left h).resolve_left h2⟩
 ·refine Ac (λh=>?_) λh=>Y3 hs λr w' e hr=>?_
  ·have h:n.size=0\/32<=n.size\/n.data.back?=some 126:=by simpa using h
   have:userName n=false:=by
    unfold userName Ba
    rcases h with h|h|h
    ·simp [h]
    ·have:¬n.size<32:=by omega
     simp [this]
    ·simp [h]
   have hk:=hK w (Ext.refl w)
   rw [this] at hk;exact hk
  ·have h:¬(n.size=0\/32<=n.size\/n.data.back?=some 126):=by simpa using h
   simp only [not_or] at h
   obtain ⟨h1,h2,h3⟩:=h
   have:userName n=decide (r<0):=by
    have h4:n.size<32:=by omega
    have h5:n.size<=32:=by omega
    have h6:decide (r<0)=n.data.toList.all Es:=by
     rw [Bool.eq_iff_iff,decide_eq_true_eq];exact hr
    rw [h6]
    unfold userName Ba
    simp [h1,h3,h4,h5]
   have hk:=hK w' e
   rw [this] at hk;exact hk
end
end Dq
end Go.Proofs.YtmooldhpiopcgaaGreatDoor
set_option maxRecDepth 100000
namespace Go.Proofs.YtmooldhpiopcgaaGreatDoor
namespace Dq
open Go Go.Vx Dsk
section
variable {w w':World}{S:Nat->Prop}
theorem As8 {P:Program}{s s':Sem Next}{t:RTy}{K:t.T->Wp}(h:s.run P w=s'.run P w) (hX:Bg P s' t K w):Bg P s t K w:=by
 unfold Bg at hX ⊢
 rw [h];exact hX
def Jh (fn:Func):Array Value->Sem Value:=(Extern.find fn).getD λ_=>pure undef
theorem Ik {f:FuncId}{fn:Func}(hf:Tryz.prog.funcs[f]?=some fn) (hc:((fn.name == "runtime.NumGoroutine"),fn.body.isNone,(Extern.findNext fn).isNone,(Extern.find fn).isSome)=(false,true,true,true)){args:Array Value}{t:RTy}{K:t.T->Wp}{x:t.T}
  (hr:(Jh fn args).run Tryz.prog w=.ok (t.val x) w') (hK:K x w'):Bg Tryz.prog (callFunc f args) t K w:=by
 simp only [Prod.mk.injEq] at hc
 obtain ⟨h1,h2,h3,h4⟩:=hc
 obtain ⟨e,he⟩:=Option.isSome_iff_exists.1 h4
 refine .inr (.inl ⟨x,w',?_,hK⟩)
 rw [run_callFunc_extern hf h1 h2 (by simpa using h3) he]
 unfold Jh at hr
 rw [he] at hr
 simp only [Option.getD_some] at hr
 rw [hr];rfl
theorem Hr {P:Program}{t:TypeId}{v r:Value}{m:String}{f:FuncId}{args:Array Value}{rt:RTy}{K:rt.T->Wp}(hm:(Go.method (P.types.size+Made.depth) t v m).run P w=.ok (f,r) w) (h:Bg P (callFunc f (#[r]++args)) rt K w) :
  Bg P (invoke (.fn (.method m) #[]) (#[.iface t v]++args)) rt K w:=by
 refine As8 ?_ h
 have e:invoke (.fn (.method m) #[]) (#[.iface t v]++args)=callMethod (.iface t v) m args:=by
  have h0:(#[Value.iface t v]++args)[0]?=some (.iface t v):=by simp [Array.getElem?_append]
  simp [invoke,h0]
 rw [e]
 simp only [callMethod,Sem.run_bind,program,Sem.run,Result.andThen_ok,hm]
abbrev hdl (t:Nat):Value:=.pointer (some ⟨2,t,none⟩)
abbrev rty (t:Nat):Value:=.iface 211 (.agg #[hdl t])
abbrev rval (t b:Nat) (k:Int):Value:=.agg #[hdl t,.pointer (some (at0 b)),.int .u64 k]
theorem Aj7 (v:Value) (w:World):(Go.method (Tryz.prog.types.size+Made.depth) 211 (.agg #[v]) "Kind").run Tryz.prog w=.ok (248,v) w:=by kernel_rfl
theorem Br2 (v:Value) (w:World):(Go.method (Tryz.prog.types.size+Made.depth) 211 v "Elem").run Tryz.prog w=.ok (263,v) w:=by kernel_rfl
theorem Br1 (v:Value) (w:World):(Go.method (Tryz.prog.types.size+Made.depth) 211 v "Implements").run Tryz.prog w=.ok (264,v) w:=by kernel_rfl
theorem Aq1 (v:Value) (w:World):(Go.method (Tryz.prog.types.size+Made.depth) 211 v "AssignableTo").run Tryz.prog w=.ok (261,v) w:=by kernel_rfl
theorem Aw4 (v:Option Addr) (w:World):(Jh Tryz.f131 #[.iface 176 (.pointer v)]).run Tryz.prog w=.ok (rval 176 w.heap.size 150) (w.alloc (.cells #[.pointer v] 176)):=by kernel_rfl
theorem Aw3 (v:Option Addr) (w:World):(Jh Tryz.f131 #[.iface 177 (.pointer v)]).run Tryz.prog w=.ok (rval 177 w.heap.size 150) (w.alloc (.cells #[.pointer v] 177)):=by kernel_rfl
theorem Aw2 (v:Option Addr) (w:World):(Jh Tryz.f131 #[.iface 99 (.pointer v)]).run Tryz.prog w=.ok (rval 99 w.heap.size 150) (w.alloc (.cells #[.pointer v] 99)):=by kernel_rfl
theorem Aw1 (v:Int) (w:World):(Jh Tryz.f131 #[.iface 33 (.int .i64 v)]).run Tryz.prog w=.ok (rval 33 w.heap.size 130) (w.alloc (.cells #[.int .i64 v] 33)):=by kernel_rfl
theorem Bx2 (b:Nat) (w:World):(Jh Tryz.f132 #[rval 176 b 150]).run Tryz.prog w=.ok (rty 176) w:=by kernel_rfl
theorem Bx1 (b:Nat) (w:World):(Jh Tryz.f132 #[rval 177 b 150]).run Tryz.prog w=.ok (rty 177) w:=by kernel_rfl
theorem Bx6 (w:World):(Jh Tryz.f248 #[hdl 176]).run Tryz.prog w=.ok (.int .u8 22) w:=by kernel_rfl
theorem Bx5 (w:World):(Jh Tryz.f248 #[hdl 177]).run Tryz.prog w=.ok (.int .u8 22) w:=by kernel_rfl
theorem Bx4 (w:World):(Jh Tryz.f248 #[hdl 99]).run Tryz.prog w=.ok (.int .u8 22) w:=by kernel_rfl
theorem Bx3 (w:World):(Jh Tryz.f248 #[hdl 33]).run Tryz.prog w=.ok (.int .u8 2) w:=by kernel_rfl
theorem By0 (w:World):(Jh Tryz.f263 #[.agg #[hdl 176]]).run Tryz.prog w=.ok (rty 99) w:=by kernel_rfl
theorem Bx9 (w:World):(Jh Tryz.f263 #[.agg #[hdl 177]]).run Tryz.prog w=.ok (rty 33) w:=by kernel_rfl
theorem Bx8 (w:World):(Jh Tryz.f264 #[.agg #[hdl 99],rty 26]).run Tryz.prog w=.ok (.bool true) w:=by kernel_rfl
theorem Bx7 (w:World):(Jh Tryz.f264 #[.agg #[hdl 33],rty 26]).run Tryz.prog w=.ok (.bool true) w:=by kernel_rfl
theorem Bg7 (v:Value) (w:World):(Jh Tryz.f91 #[.iface 99 v]).run Tryz.prog w=.ok (rty 99) w:=by kernel_rfl
theorem Bg6 (v:Value) (w:World):(Jh Tryz.f91 #[.iface 33 v]).run Tryz.prog w=.ok (rty 33) w:=by kernel_rfl
theorem Bg9 (w:World):(Jh Tryz.f261 #[.agg #[hdl 99],rty 99]).run Tryz.prog w=.ok (.bool true) w:=by kernel_rfl
theorem Bg8 (w:World):(Jh Tryz.f261 #[.agg #[hdl 33],rty 33]).run Tryz.prog w=.ok (.bool true) w:=by kernel_rfl
end
end Dq
end Go.Proofs.YtmooldhpiopcgaaGreatDoor
namespace Go.Proofs.YtmooldhpiopcgaaGreatDoor
namespace Dq
open Go Go.Vx Dsk
section
variable {w w':World}{S:Nat->Prop}
theorem Jw {t:TypeId}{i:Inf}(hi:Ak Tryz.prog t i) (hd:Vo i.desc=false){a:Addr}{v:Value}(h:w.cell? a=some v):(loadVar t a).run Tryz.prog w=.ok v w:=by
 simp [loadVar,hi.Nv,hd,load,Sem.run,h]
theorem Bk9 (b:Nat) (w:World):(Jh Tryz.f133 #[rval 176 b 150]).run Tryz.prog w=(Extern.ReflectliteValue.isNil 176 (at0 b) 150 22).run Tryz.prog w:=by kernel_rfl
theorem Bp1 {b:Nat}{q:Addr}(h:w.cell? (at0 b)=some (.pointer (some q))):(Jh Tryz.f133 #[rval 176 b 150]).run Tryz.prog w=.ok (.bool false) w:=by
 rw [Bk9]
 simp [Extern.ReflectliteValue.isNil,Jw Ci8 rfl h]
theorem Bv0 (b:Nat) (w:World):(Jh Tryz.f163 #[rval 176 b 150]).run Tryz.prog w=(do match ←loadVar 176 (at0 b) with
 |.pointer none=>pure Extern.ReflectliteValue.zeroV
 |.pointer (some p)=>Extern.ReflectliteValue.mk 99 p 256
 |_=>Extern.ReflectliteValue.valueError "reflectlite.Value.Elem" 22:Sem Value).run Tryz.prog w:=by kernel_rfl
theorem Bk8 (b:Nat) (w:World):(Jh Tryz.f133 #[rval 177 b 150]).run Tryz.prog w=(Extern.ReflectliteValue.isNil 177 (at0 b) 150 22).run Tryz.prog w:=by kernel_rfl
theorem Bp0 {b:Nat}{q:Addr}(h:w.cell? (at0 b)=some (.pointer (some q))):(Jh Tryz.f133 #[rval 177 b 150]).run Tryz.prog w=.ok (.bool false) w:=by
 rw [Bk8]
 simp [Extern.ReflectliteValue.isNil,Jw Ci7 rfl h]
theorem Bu9 (b:Nat) (w:World):(Jh Tryz.f163 #[rval 177 b 150]).run Tryz.prog w=(do match ←loadVar 177 (at0 b) with
 |.pointer none=>pure Extern.ReflectliteValue.zeroV
 |.pointer (some p)=>Extern.ReflectliteValue.mk 33 p 256
 |_=>Extern.ReflectliteValue.valueError "reflectlite.Value.Elem" 22:Sem Value).run Tryz.prog w:=by kernel_rfl
theorem Ck0 (q:Nat) (w:World):(Extern.ReflectliteValue.mk 99 (at0 q) 256).run Tryz.prog w=.ok (rval 99 q 406) w:=by kernel_rfl
theorem Cj9 (q:Nat) (w:World):(Extern.ReflectliteValue.mk 33 (at0 q) 256).run Tryz.prog w=.ok (rval 33 q 386) w:=by kernel_rfl
theorem Bo9 {b q:Nat}(h:w.cell? (at0 b)=some (.pointer (some (at0 q)))):(Jh Tryz.f163 #[rval 176 b 150]).run Tryz.prog w=.ok (rval 99 q 406) w:=by
 rw [Bv0]
 simp [Jw Ci8 rfl h,Ck0]
theorem Bo8 {b q:Nat}(h:w.cell? (at0 b)=some (.pointer (some (at0 q)))):(Jh Tryz.f163 #[rval 177 b 150]).run Tryz.prog w=.ok (rval 33 q 386) w:=by
 rw [Bu9]
 simp [Jw Ci7 rfl h,Cj9]
theorem Cd1 (q b:Nat) (w:World):(Jh Tryz.f164 #[rval 99 q 406,rval 99 b 150]).run Tryz.prog w=(do let val ←loadVar 99 (at0 b);storeVar 99 (at0 q) val;pure (.tuple #[]):Sem Value).run Tryz.prog w:=by kernel_rfl
theorem Cd0 (q b:Nat) (w:World):(Jh Tryz.f164 #[rval 33 q 386,rval 33 b 130]).run Tryz.prog w=(do let val ←loadVar 33 (at0 b);storeVar 33 (at0 q) val;pure (.tuple #[]):Sem Value).run Tryz.prog w:=by kernel_rfl
theorem Wh {t:TypeId}{i:Inf}(hi:Ak Tryz.prog t i) (hs:i.size=1){q:Nat}{u v:Value}{tt:TypeId}(hq:w.heap[q]?=some (.cells #[u] tt (0,0))) (hv:Du v=true) (hc:v.cells=#[v]) :
  ∃w1,(storeVar t (at0 q) v).run Tryz.prog w=.ok () w1/\Upd (λk=>k=q) w w1/\w1.heap[q]?=some (.cells #[v] tt (0,0)):=by
 obtain ⟨w1,h1,h2,h3,_⟩:=Iy Tryz.prog [v] q 0 0 #[u] tt w (λx hx=>by simp at hx;rw [hx];exact hv) hq (by simp)
 refine ⟨w1,?_,h2,h3⟩
 have hz:(sizeOf t).run Tryz.prog w=.ok 1 w:=by rw [hi.Gh,hs]
 have h1':(storeCells (at0 q) [v]).run Tryz.prog w=.ok () w1:=h1
 simp [storeVar,hz,hc,h1']
theorem Cf2 {q b:Nat}{p:Option Addr}{u:Value}{tt:TypeId}(h:w.cell? (at0 b)=some (.pointer p)) (hq:w.heap[q]?=some (.cells #[u] tt (0,0))) :
  ∃w1,(Jh Tryz.f164 #[rval 99 q 406,rval 99 b 150]).run Tryz.prog w=.ok (.tuple #[]) w1/\Upd (λk=>k=q) w w1/\w1.heap[q]?=some (.cells #[.pointer p] tt (0,0)):=by
 obtain ⟨w1,h1,h2,h3⟩:=Wh C99 rfl hq (v:=.pointer p) rfl rfl
 refine ⟨w1,?_,h2,h3⟩
 rw [Cd1]
 simp [Jw C99 rfl h,h1]
theorem Cf1 {q b:Nat}{e:Int}{u:Value}{tt:TypeId}(h:w.cell? (at0 b)=some (.int .i64 e)) (hq:w.heap[q]?=some (.cells #[u] tt (0,0))) :
  ∃w1,(Jh Tryz.f164 #[rval 33 q 386,rval 33 b 130]).run Tryz.prog w=.ok (.tuple #[]) w1/\Upd (λk=>k=q) w w1/\w1.heap[q]?=some (.cells #[.int .i64 e] tt (0,0)):=by
 obtain ⟨w1,h1,h2,h3⟩:=Wh C33 rfl hq (v:=.int .i64 e) rfl rfl
 refine ⟨w1,?_,h2,h3⟩
 rw [Cd0]
 simp [Jw C33 rfl h,h1]
def Kw (w:World):Prop:=∃c t fr,w.heap[0]?=some (.cells c t fr)/\c[0]?=some (rty 26)
theorem Kw.upd (h:Kw w) (u:Upd S w w') (hS:¬S 0):Kw w':=let ⟨c,t,fr,h1,h2⟩:=h;⟨c,t,fr,u.get h1 hS,h2⟩
theorem Kw.ext (h:Kw w) (u:Ext w w'):Kw w':=h.upd u id
structure Hu (w:World) (v:Value) (e:Int):Prop where
 ok:e=0->v=.nilIface
 bad:e≠0->∃b op nm st,v=.iface 99 (.pointer (some (at0 b)))/\w.heap[b]?=some (.cells #[.string op,.string nm,.int .i64 st,.iface 33 (.int .i64 e)] 101 (0,0))
theorem Ql.v {w0:World}{F:Nat->Prop}{v:Value}{op nm:ByteArray}{e:Int}(h:Ql w0 w F v op nm e):Hu w v e :=
 ⟨h.ok,λhe=>let ⟨b,k,h1,h2,_⟩:=h.bad he;⟨b,op,nm,k,h1,h2⟩⟩
theorem Hu.upd {v:Value}{e:Int}(h:Hu w v e) (u:Upd S w w') (hS:Cc w S 101):Hu w' v e :=
 ⟨h.ok,λhe=>let ⟨b,op,nm,k,h1,h2⟩:=h.bad he;⟨b,op,nm,k,h1,u.get h2 λhb=>hS _ hb _ _ h2⟩⟩
theorem Hu.ext {v:Value}{e:Int}(h:Hu w v e) (u:Ext w w'):Hu w' v e:=h.upd u λ_ h=>h.elim
theorem Hu.one {v:Value}{e:Int}(h:Hu w v e):Du v=true:=by
 by_cases he:e=0
 ·rw [h.ok he];rfl
 ·obtain ⟨b,op,nm,k,h1,_⟩:=h.bad he;rw [h1];rfl
theorem Hu.none (w:World):Hu w .nilIface 0:=⟨λ_=>rfl,λh=>absurd rfl h⟩
theorem Hu.Bd4 {v:Value}{e:Int}(h:Hu w v e){o1:Operand}{K:Bool->Wp}(hK:K (decide (e=0)) w):rdB Tryz.prog (do eqGuard .eql 26 o1 (.const .nilIface) v .nilIface;binOp .eql 26 v .nilIface:Sem Value) K w:=by
 by_cases he:e=0
 ·rw [h.ok he]
  exact O9 (by rw [decide_eq_true he] at hK;exact hK) uE
 ·obtain ⟨b,op,nm,k,h1,_⟩:=h.bad he
  rw [h1]
  exact Kr (by rw [decide_eq_false he] at hK;exact hK) uE
theorem Hu.Uy {v:Value}{e:Int}(h:Hu w v e){o1:Operand}{K:Bool->Wp}(hK:K (decide (e≠0)) w):rdB Tryz.prog (do eqGuard .neq 26 o1 (.const .nilIface) v .nilIface;binOp .neq 26 v .nilIface:Sem Value) K w:=by
 by_cases he:e=0
 ·rw [h.ok he]
  exact Kz (by rw [decide_eq_false (by simp [he])] at hK;exact hK) uE
 ·obtain ⟨b,op,nm,k,h1,_⟩:=h.bad he
  rw [h1]
  exact O8 (by rw [decide_eq_true he] at hK;exact hK) uE
theorem Ak2 {t:TypeId}{ms:Array (String×TypeId)}(hi:Tryz.prog.underlying t=some (.interface ms)) (n:Nat) (d:TypeId) (v:Value) (w:World):(Op.equalIn (n+1) t .nilIface (.iface d v)).run Tryz.prog w=.ok false w:=by
 simp [Op.equalIn,run_underlying hi]
theorem Y1 {v:Value}{e k:Int}(h:Hu w v e) (hk:k≠0){K:Bool->Wp}(hK:K (decide (e=k)) w):Aa Tryz.prog 53 #[v,.iface 33 (.int .i64 k)] rB K w:=by
 by_cases he:e=0
 ·rw [h.ok he]
  refine j53 ?_
  unfold F53
  refine Bj (true,()) (O9 (Di ⟨rfl,rfl⟩) uE) (Di ⟨false,?_,?_⟩)
  ·obtain ⟨ms,hi⟩:=uE
   have:=Ak2 hi 9999 33 (.int .i64 k) w
   simp [eqGuard,binOp,Op.equal,Op.maxDepth,this]
  ·have:decide (e=k)=false:=decide_eq_false (by omega)
   rw [this] at hK
   exact hK
 ·obtain ⟨b,op,nm,st,rfl,hb⟩:=h.bad he
  exact Bz5 hb hK
end
end Dq
end Go.Proofs.YtmooldhpiopcgaaGreatDoor
namespace Go.Proofs.YtmooldhpiopcgaaGreatDoor
namespace Dq
open Go Go.Vx Dsk
section
variable {w w':World}{S:Nat->Prop}
theorem uI0:∃ms,Tryz.prog.underlying 20=some (.interface ms):=⟨_,C20.und⟩
theorem Bu4 {q:Nat}{tt:TypeId}{u:Value}{p:Option Addr}(hl:Kw w) (hq:w.heap[q]?=some (.cells #[u] tt (0,0))){K:Bool->Wp}
  (hK:∀w',w'.heap[q]?=some (.cells #[.pointer p] tt (0,0))->Upd (λk=>k=q) w w'->K true w') :
  Aa Tryz.prog 93 #[.iface 99 (.pointer p),.iface 176 (.pointer (some (at0 q)))] rB K w:=by
 refine j93 ?_
 unfold F93
 refine Kr (Ap ?_) uE
 refine Bj () (Kr (Ap ⟨rfl,rfl⟩) uI0) ?_
 refine Ik (x:=(some ⟨2,176,none⟩,.pointer (some (at0 w.heap.size)),150,())) Tryz.func131 (by kernel_rfl) (Aw4 _ _) ?_
 have e1:Ext w (w.alloc (.cells #[.pointer (some (at0 q))] 176)):=Ext.alloc w _
 have n1:=heap_alloc w (.cells #[.pointer (some (at0 q))] 176)
 obtain ⟨nb,hnb⟩:∃nb,nb=w.heap.size:=⟨_,rfl⟩
 rw [←hnb] at n1 ⊢
 generalize w.alloc (.cells #[.pointer (some (at0 q))] 176)=w1 at e1 n1
 refine (St.start w1).Ia rfl rfl rfl λb6 w2 S2 e2=>S2.lds (cs:=Lj) 0 (some ⟨2,176,none⟩,.pointer (some (at0 nb)),150,()) rfl ?_
 have n2:=e2.ext_get n1
 have e12:=e1.trans e2
 refine Ik (x:=rty 176) Tryz.func132 (by kernel_rfl) (Bx2 _ _) ?_
 refine Bj () (Bj (false,()) (Hr (Aj7 _ _) (Ik (x:=(22:Int)) Tryz.func248 (by kernel_rfl) (Bx6 _) (Ac (λh=>absurd h (by decide)) λ_=>S2.lds (cs:=Lj) 0 (some ⟨2,176,none⟩,.pointer (some (at0 nb)),150,()) rfl (Ik (x:=false) Tryz.func133 (by kernel_rfl) (Bp1 (cell_of n2 rfl)) ⟨rfl,rfl⟩)))) (Ap ⟨rfl,rfl⟩)) ?_
 refine Hr (Br2 _ _) (Ik (x:=rty 99) Tryz.func263 (by kernel_rfl) (By0 _) ?_)
 obtain ⟨c0,t0,fr0,h0,h0'⟩:=hl.ext e12
 refine Bj () (Bj (false,()) (Hr (Aj7 _ _) (Ik (x:=(22:Int)) Tryz.func248 (by kernel_rfl) (Bx4 _) (Di (Ah h0 (x:=rty 26) h0' (Hr (Br1 _ _) (Ik (x:=true) Tryz.func264 (by kernel_rfl) (Bx8 _) ⟨rfl,rfl⟩)))))) (Ap ⟨rfl,rfl⟩)) ?_
 refine S2.lds (cs:=Lj) 0 (some ⟨2,176,none⟩,.pointer (some (at0 nb)),150,()) rfl ?_
 refine j134 (a2:=(some ⟨2,176,none⟩,.pointer (some (at0 nb)),150,())) ?_
 unfold F134
 refine S2.Ad λb7 w3 S3 e3=>Bz (λs W=>s=(.iface 99 (.pointer p),())/\w3=W) (λ_ _=>0) ⟨rfl,rfl⟩ ?_
 rintro _ _ ⟨rfl,rfl⟩
 refine Ik (x:=rty 99) Tryz.func91 (by kernel_rfl) (Bg7 _ _) (Hr (Aq1 _ _) (Ik (x:=true) Tryz.func261 (by kernel_rfl) (Bg9 _) (Di ?_)))
 have n3:=e3.ext_get n2
 refine S3.lds (cs:=Lj) 0 (some ⟨2,176,none⟩,.pointer (some (at0 nb)),150,()) rfl (Ik (x:=(some ⟨2,99,none⟩,.pointer (some (at0 q)),406,())) Tryz.func163 (by kernel_rfl) (Bo9 (cell_of n3 rfl)) ?_)
 refine Ik (x:=(some ⟨2,99,none⟩,.pointer (some (at0 w3.heap.size)),150,())) Tryz.func131 (by kernel_rfl) (Aw2 _ _) ?_
 have e4:Ext w3 (w3.alloc (.cells #[.pointer p] 99)):=Ext.alloc w3 _
 have n4:=heap_alloc w3 (.cells #[.pointer p] 99)
 obtain ⟨w5,h5,u5,n5⟩:=Cf2 (cell_of (off:=0) n4 rfl) (e4.ext_get (e3.ext_get (e12.ext_get hq)))
 refine Ik (t:=.tup []) (x:=()) Tryz.func164 (by kernel_rfl) h5 (hK w5 n5 ((Upd.Aj ((e12.trans e3).trans e4)).new u5 λ_ _ h=>h))
theorem Bu3 {q:Nat}{tt:TypeId}{u:Value}{e:Int}(hl:Kw w) (hq:w.heap[q]?=some (.cells #[u] tt (0,0))){K:Bool->Wp}
  (hK:∀w',w'.heap[q]?=some (.cells #[.int .i64 e] tt (0,0))->Upd (λk=>k=q) w w'->K true w') :
  Aa Tryz.prog 93 #[.iface 33 (.int .i64 e),.iface 177 (.pointer (some (at0 q)))] rB K w:=by
 refine j93 ?_
 unfold F93
 refine Kr (Ap ?_) uE
 refine Bj () (Kr (Ap ⟨rfl,rfl⟩) uI0) ?_
 refine Ik (x:=(some ⟨2,177,none⟩,.pointer (some (at0 w.heap.size)),150,())) Tryz.func131 (by kernel_rfl) (Aw3 _ _) ?_
 have e1:Ext w (w.alloc (.cells #[.pointer (some (at0 q))] 177)):=Ext.alloc w _
 have n1:=heap_alloc w (.cells #[.pointer (some (at0 q))] 177)
 obtain ⟨nb,hnb⟩:∃nb,nb=w.heap.size:=⟨_,rfl⟩
 rw [←hnb] at n1 ⊢
 generalize w.alloc (.cells #[.pointer (some (at0 q))] 177)=w1 at e1 n1
 refine (St.start w1).Ia rfl rfl rfl λb6 w2 S2 e2=>S2.lds (cs:=Lj) 0 (some ⟨2,177,none⟩,.pointer (some (at0 nb)),150,()) rfl ?_
 have n2:=e2.ext_get n1
 have e12:=e1.trans e2
 refine Ik (x:=rty 177) Tryz.func132 (by kernel_rfl) (Bx1 _ _) ?_
 refine Bj () (Bj (false,()) (Hr (Aj7 _ _) (Ik (x:=(22:Int)) Tryz.func248 (by kernel_rfl) (Bx5 _) (Ac (λh=>absurd h (by decide)) λ_=>S2.lds (cs:=Lj) 0 (some ⟨2,177,none⟩,.pointer (some (at0 nb)),150,()) rfl (Ik (x:=false) Tryz.func133 (by kernel_rfl) (Bp0 (cell_of n2 rfl)) ⟨rfl,rfl⟩)))) (Ap ⟨rfl,rfl⟩)) ?_
 refine Hr (Br2 _ _) (Ik (x:=rty 33) Tryz.func263 (by kernel_rfl) (Bx9 _) ?_)
 obtain ⟨c0,t0,fr0,h0,h0'⟩:=hl.ext e12
 refine Bj () (Bj (false,()) (Hr (Aj7 _ _) (Ik (x:=(2:Int)) Tryz.func248 (by kernel_rfl) (Bx3 _) (Di (Ah h0 (x:=rty 26) h0' (Hr (Br1 _ _) (Ik (x:=true) Tryz.func264 (by kernel_rfl) (Bx7 _) ⟨rfl,rfl⟩)))))) (Ap ⟨rfl,rfl⟩)) ?_
 refine S2.lds (cs:=Lj) 0 (some ⟨2,177,none⟩,.pointer (some (at0 nb)),150,()) rfl ?_
 refine j134 (a2:=(some ⟨2,177,none⟩,.pointer (some (at0 nb)),150,())) ?_
 unfold F134
 refine S2.Ad λb7 w3 S3 e3=>Bz (λs W=>s=(.iface 33 (.int .i64 e),())/\w3=W) (λ_ _=>0) ⟨rfl,rfl⟩ ?_
 rintro _ _ ⟨rfl,rfl⟩
 refine Ik (x:=rty 33) Tryz.func91 (by kernel_rfl) (Bg6 _ _) (Hr (Aq1 _ _) (Ik (x:=true) Tryz.func261 (by kernel_rfl) (Bg8 _) (Di ?_)))
 have n3:=e3.ext_get n2
 refine S3.lds (cs:=Lj) 0 (some ⟨2,177,none⟩,.pointer (some (at0 nb)),150,()) rfl (Ik (x:=(some ⟨2,33,none⟩,.pointer (some (at0 q)),386,())) Tryz.func163 (by kernel_rfl) (Bo8 (cell_of n3 rfl)) ?_)
 refine Ik (x:=(some ⟨2,33,none⟩,.pointer (some (at0 w3.heap.size)),130,())) Tryz.func131 (by kernel_rfl) (Aw1 _ _) ?_
 have e4:Ext w3 (w3.alloc (.cells #[.int .i64 e] 33)):=Ext.alloc w3 _
 have n4:=heap_alloc w3 (.cells #[.int .i64 e] 33)
 obtain ⟨w5,h5,u5,n5⟩:=Cf1 (cell_of (off:=0) n4 rfl) (e4.ext_get (e3.ext_get (e12.ext_get hq)))
 refine Ik (t:=.tup []) (x:=()) Tryz.func164 (by kernel_rfl) h5 (hK w5 n5 ((Upd.Aj ((e12.trans e3).trans e4)).new u5 λ_ _ h=>h))
theorem Tf {v:Value}{e:Int}(h:Hu w v e) (hl:Kw w){K:Int->Wp}(hK:∀w',Ext w w'->K e w'):Aa Tryz.prog 54 #[v] rI K w:=by
 refine j54 ?_
 unfold F54
 refine (St.start w).Ad λb1 w1 S1 e1=>S1.Ad λb2 w2 S2 e2=>?_
 have e12:=e1.trans e2
 refine (h.ext e12).Bd4 (Ac (λhe=>?_) λhe=>?_)
 ·have he:=of_decide_eq_true he
  have hk:=hK w2 e12
  rw [he] at hk;exact hk
 have he:=of_decide_eq_false he
 obtain ⟨b,op,nm,st,rfl,hb⟩:=(h.ext e12).bad he
 have g1:=S2.ge 1 rfl
 have g2:=S2.ge 0 rfl
 have hbl:=lt_of_heap ((h.bad he).choose_spec.choose_spec.choose_spec.choose_spec.2)
 refine Ag (λs W=>s=(true,())/\Ext w W/\W.heap[b2]?=some (.cells #[.int .i64 e] 33 (0,0))) (Bu4 (hl.ext e12) (S2.at_ 1 rfl) λw3 n3 u3=>Di (Ah n3 (x:=some (at0 b)) rfl (Af ?_))) ?_
 ·have q3:Ext w w3:=e12.step u3 λk hk=>by omega
  have nd:[b2,b1].Nodup:=S2.nd
  simp only [List.nodup_cons,List.mem_singleton,List.not_mem_nil] at nd
  have hb3:w3.heap[b]?=some (.cells #[.string op,.string nm,.int .i64 st,.iface 33 (.int .i64 e)] 101 (0,0)):=u3.get hb λhh=>by rw [hh,S2.at_ 1 rfl] at hb;cases hb
  rw [addr_add]
  refine Ah hb3 (off:=3) (x:=.iface 33 (.int .i64 e)) rfl (Bu3 (hl.ext q3) (u3.get (S2.at_ 0 rfl) λhh=>nd.1 hh) λw4 n4 u4=>⟨rfl,q3.step u4 λk hk=>by omega,n4⟩)
 ·rintro _ w4 ⟨rfl,q4,n4⟩
  exact Di (Ah n4 (x:=e) rfl (hK w4 q4))
end
end Dq
end Go.Proofs.YtmooldhpiopcgaaGreatDoor
namespace Go.Proofs.YtmooldhpiopcgaaGreatDoor
namespace Dq
open Go Go.Vx Dsk
structure DOp where
 kind:Int
 who:Int
 name:Nm
 to:Nm
 b:List UInt8
 faults:List (Int×Bq)
 names:Int
 bytes:List Int
section
variable {D:Dk}{N:Nat}{α:Type}
theorem D6 {a:α}{act:Dk->Dk×Int×α}{part:Option (Int->Dk->Dk×Int×α)}(ok:Bl D N) (ha:∀D1,Bl D1 (N+1)->Bl (act D1).1 (N+2)) (hp:∀pt,part=some pt->∀D1 k,Bl D1 (N+1)->Bl (pt k D1).1 (N+2)) :
  Bl (Dsk.step D a act part).1 (N+2):=by
 have ok1:Bl { D with steps:=D.steps+1 } (N+1):=by
  have:=ok.steps
  exact ⟨ok.space,λi f hf=>let ⟨a,b,c,e⟩:=ok.fil i f hf;⟨a,b,c,by omega⟩,Nat.le_trans ok.num (Nat.le_succ _),ok.good,⟨by dsimp only;omega,by dsimp only;omega⟩,Nat.le_trans ok.acts (Nat.le_succ _)⟩
 have ok2:Bl { D with steps:=D.steps+1 } (N+2):=ok1.mono (Nat.le_succ _)
 unfold Dsk.step
 split
 ·exact ok.mono (by omega)
 ·split
  ·exact ha _ ok1
  ·rename_i f hf
   unfold Tq
   split
   ·exact ok2
   split
   ·cases part with
    |none=>exact ok2
    |some pt=>exact hp pt rfl _ _ ok1
   split
   ·exact Wq ok2 _ _
   split
   ·exact Wq (ha _ ok1) _ _
   split
   ·exact ha _ ok1
   ·exact ha _ ok1
theorem Bp7 {f:Dk->Dk×Int}(ok:Bl D N) (h:∀D1,Bl D1 (N+1)->Bl (f D1).1 (N+2)):Bl (Dsk.step D () (u f) none).1 (N+2):=D6 ok h λ_ h=>by cases h
theorem Uw (ok:Bl D N) (n:Nm) (b:List UInt8):Bl (Bo D n b).1 (N+2):=by
 refine D6 ok (λD1 ok1=>Bc8 ok1 n b) λpt hpt D1 k ok1=>?_
 cases hpt
 exact Bc8 ok1 n _
theorem Cf0 (D:Dk) (n:Nm):(rdR n D).1=D:=by unfold rdR;split<;>rfl
theorem st_fst (D:Dk) (n:Nm):(stR n D).1=D:=by unfold stR;split<;>rfl
theorem Ap6 (ok:Bl D N) (n:Nm):Bl (Bh D n).1 (N+2) :=
 D6 ok (λD1 ok1=>by rw [Cf0];exact ok1.mono (Nat.le_succ _)) λ_ h=>by cases h
theorem Ws (ok:Bl D N) (n:Nm):Bl (Ai D n).1 (N+2) :=
 D6 ok (λD1 ok1=>by rw [st_fst];exact ok1.mono (Nat.le_succ _)) λ_ h=>by cases h
theorem Yy (ok:Bl D N) (n:Nm):Bl (Dj D n).1 (N+2):=Bp7 ok λD1 ok1=>Bq2 ok1 n
theorem Yx (ok:Bl D N) (n:Nm):Bl (Dc D n).1 (N+2):=Bp7 ok λD1 ok1=>Bp8 ok1 n
theorem Td (ok:Bl D N):Bl (Cm D).1 (N+2):=Bp7 ok λD1 ok1=>(Uj ok1).mono (Nat.le_succ _)
theorem Uu (ok:Bl D N) (n t:Nm):Bl (Eu D n t).1 (N+2):=Bp7 ok λD1 ok1=>Bq1 ok1 n t
theorem Ab4 (ok:Bl D N) (n:Nm):Bl (Ea D n).1 (N+2):=Bp7 ok λD1 ok1=>Bp9 ok1 n
structure Quiet (D:Dk):Prop where
 up:D.down=false
 plan:∀k,D.plan k=none
theorem Gw (q:Quiet D){a:α}{act:Dk->Dk×Int×α}{part:Option (Int->Dk->Dk×Int×α)}:Dsk.step D a act part=act { D with steps:=D.steps+1 }:=by
 unfold Dsk.step
 rw [if_neg (by rw [q.up];simp),q.plan]
theorem Fv (D:Dk) (k:Int) (n:Nm):Dsk.find { D with steps:=k } n=Dsk.find D n:=rfl
theorem Av9 (q:Quiet D){n:Nm}{i:Nat}(hn:Ba n=true) (h:D.seen n=some i):Bh D n=({ D with steps:=D.steps+1 },0,(fl D i).data):=by
 unfold Bh
 rw [Gw q]
 unfold rdR
 have:Dsk.find { D with steps:=D.steps+1 } n=(some i,0):=by rw [Fv];unfold Dsk.find;rw [if_neg (by rw [hn];simp),h]
 rw [this]
 rfl
theorem Yq (q:Quiet D){n:Nm}{i:Nat}(hn:Ba n=true) (h:D.seen n=some i):Ai D n=({ D with steps:=D.steps+1 },0,(i:Int)+1,((fl D i).data.length:Int),(fl D i).count):=by
 unfold Ai
 rw [Gw q]
 unfold stR
 have:Dsk.find { D with steps:=D.steps+1 } n=(some i,0):=by rw [Fv];unfold Dsk.find;rw [if_neg (by rw [hn];simp),h]
 rw [this]
 rfl
end
end Dq
end Go.Proofs.YtmooldhpiopcgaaGreatDoor
namespace Go.Proofs.YtmooldhpiopcgaaGreatDoor
open Go Go.Vx
namespace Trx
structure Ee where
 atoms:Nat
 bytes:Nat
 breaks:Nat
 lf:Bool
 cr:Bool
 deriving DecidableEq
structure Ee.Ok (s:Ee):Prop where
 brk:s.breaks<=s.atoms
 byt:s.atoms<=s.bytes
 lf:s.lf=true->1<=s.breaks
 cr:s.cr=true->1<=s.breaks
 nil:s.atoms=0->s=⟨0,0,0,false,false⟩
def Ee.zero:Ee:=⟨0,0,0,false,false⟩
def Ee.add (s o:Ee):Ee :=
 if s.atoms=0 then o else if o.atoms=0 then s else
  ⟨s.atoms+o.atoms,s.bytes+o.bytes,s.breaks+o.breaks-(if s.cr&&o.lf then 1 else 0),s.lf,o.cr⟩
theorem Ee.Bb0:Ee.zero.Ok:=⟨Nat.le_refl _,Nat.le_refl _,(λh=>by cases h),(λh=>by cases h),λ_=>rfl⟩
theorem Ee.add_zero {s:Ee}(h:s.Ok):s.add .zero=s:=by
 unfold Ee.add Ee.zero
 split
 ·rename_i h0;rw [h.nil h0]
 ·rfl
theorem Ee.Yk {s o:Ee}(h:s.Ok) (h':o.Ok):(s.add o).Ok:=by
 unfold Ee.add
 split
 ·exact h'
 ·split
  ·exact h
  ·have:=h.brk;have:=h.byt;have:=h'.brk;have:=h'.byt
   have h1:=h.lf;have h2:=h'.cr;have h3:=h.cr;have h4:=h'.lf
   refine ⟨?_,?_,?_,?_,?_⟩
   ·show s.breaks+o.breaks-_<=s.atoms+o.atoms
    omega
   ·show s.atoms+o.atoms<=s.bytes+o.bytes
    omega
   ·show s.lf=true->1<=s.breaks+o.breaks-_
    intro e
    have:=h1 e
    split
    ·rename_i hc
     simp only [Bool.and_eq_true] at hc
     have:=h4 hc.2
     omega
    ·omega
   ·show o.cr=true->1<=s.breaks+o.breaks-_
    intro e
    have:=h2 e
    split
    ·rename_i hc
     simp only [Bool.and_eq_true] at hc
     have:=h3 hc.1
     omega
    ·omega
   ·intro e
    have:s.atoms+o.atoms=0:=e
    omega
theorem Ee.add_assoc {a b c:Ee}(ha:a.Ok) (hb:b.Ok) (hc:c.Ok):(a.add b).add c=a.add (b.add c):=by
 by_cases h1:a.atoms=0
 ·have:=ha.nil h1;subst this;rfl
 by_cases h2:b.atoms=0
 ·have:=hb.nil h2;subst this
  have e:=Ee.add_zero ha
  unfold Ee.zero at e
  rw [e];rfl
 by_cases h3:c.atoms=0
 ·have:=hc.nil h3;subst this
  have e:=Ee.add_zero (Ee.Yk ha hb)
  have e':=Ee.add_zero hb
  unfold Ee.zero at e e'
  rw [e,e']
 have h12:¬a.atoms+b.atoms=0:=by omega
 have h23:¬b.atoms+c.atoms=0:=by omega
 simp only [Ee.add,if_neg h1,if_neg h2,if_neg h3,if_neg h12,if_neg h23]
 have a1:(if a.cr=true then 1 else 0)<=a.breaks:=by split;exact ha.cr ‹_›;omega
 have b1:(if b.lf=true then 1 else 0)<=b.breaks:=by split;exact hb.lf ‹_›;omega
 have b2:(if b.cr=true then 1 else 0)<=b.breaks:=by split;exact hb.cr ‹_›;omega
 have c1:(if c.lf=true then 1 else 0)<=c.breaks:=by split;exact hc.lf ‹_›;omega
 refine (Ee.mk.injEq ..).mpr ⟨by omega,by omega,?_,rfl,rfl⟩
 cases h5:a.cr<;>cases h6:b.lf<;>cases h7:b.cr<;>cases h8:c.lf<;>simp only [h5,h6,h7,h8,Bool.and_true,Bool.and_false,Bool.and_self,if_true,if_false,Bool.false_eq_true,reduceIte] at a1 b1 b2 c1 ⊢<;>omega
theorem Ee.Nz (s o:Ee) (h:s.Ok) (h':o.Ok):(s.add o).bytes=s.bytes+o.bytes/\(s.add o).atoms=s.atoms+o.atoms:=by
 unfold Ee.add
 split
 ·rename_i h0;rw [h.nil h0];simp
 ·split
  ·rename_i h0;rw [h'.nil h0];simp
  ·exact ⟨rfl,rfl⟩
structure Pc where
 bytes:Sl
 tag:Int
 sm:Ee
def Pc.zero:Pc:=⟨⟨none,0,0⟩,0,.zero⟩
inductive Tr where
 |nil
 |node (b:Nat) (l:Tr) (x:Pc) (r:Tr)
def Tr.ptr:Tr->Option Addr
 |.nil=>none
 |.node b _ _ _=>some (at0 b)
def Tr.size:Tr->Nat
 |.nil=>0
 |.node _ l _ r=>l.size+1+r.size
def Tr.Hg:Tr->Nat
 |.nil=>0
 |.node _ l _ r=>max l.Hg r.Hg+1
def Tr.items:Tr->List Pc
 |.nil=>[]
 |.node _ l x r=>l.items++x::r.items
def tot (l:List Pc):Ee:=l.foldr (λx s=>x.sm.add s) .zero
def Dz (l:List Pc):Prop:=∀x∈l,x.sm.Ok
theorem Ii:∀{l:List Pc},Dz l->(tot l).Ok
 |[],_=>Ee.Bb0
 |x::r,h=>Ee.Yk (h x List.mem_cons_self) (Ii λy hy=>h y (List.mem_cons_of_mem _ hy))
theorem Hz:∀{l m:List Pc},Dz l->Dz m->tot (l++m)=(tot l).add (tot m)
 |[],m,_,_=>rfl
 |x::r,m,h,h'=>by
  have hr:Dz r:=λy hy=>h y (List.mem_cons_of_mem _ hy)
  show x.sm.add (tot (r++m))=(x.sm.add (tot r)).add (tot m)
  rw [Hz hr h',Ee.add_assoc (h x List.mem_cons_self) (Ii hr) (Ii h')]
theorem Ue {x:Pc}(h:x.sm.Ok):tot [x]=x.sm:=Ee.add_zero h
theorem Ej:∀t:Tr,t.items.length=t.size
 |.nil=>rfl
 |.node _ l x r=>by
  simp only [Tr.items,Tr.size,List.length_append,List.length_cons,Ej l,Ej r];omega
theorem Ov:∀t:Tr,t.Hg<=t.size
 |.nil=>Nat.le_refl _
 |.node _ l x r=>by
  have:=Ov l;have:=Ov r
  simp only [Tr.Hg,Tr.size];omega
theorem Pz {t:Tr}(h:0<t.Hg):∃b l x r,t=.node b l x r:=by
 cases t with
 |nil=>exact absurd h (by decide)
 |node b l x r=>exact ⟨b,l,x,r,rfl⟩
theorem Dz.left {l m:List Pc}(h:Dz (l++m)):Dz l:=λx hx=>h x (List.mem_append_left _ hx)
theorem Dz.right {l m:List Pc}(h:Dz (l++m)):Dz m:=λx hx=>h x (List.mem_append_right _ hx)
theorem Dz.append {l m:List Pc}(h:Dz l) (h':Dz m):Dz (l++m):=λx hx=>(List.mem_append.1 hx).elim (h x) (h' x)
theorem Dz.cons {x:Pc}{m:List Pc}(h:x.sm.Ok) (h':Dz m):Dz (x::m):=λy hy=>(List.mem_cons.1 hy).elim (λe=>e▸h) (h' y)
theorem Dz.one {x:Pc}(h:x.sm.Ok):Dz [x]:=λy hy=>by rw [List.mem_singleton.1 hy];exact h
theorem Dz.head {x:Pc}{m:List Pc}(h:Dz (x::m)):x.sm.Ok:=h x List.mem_cons_self
theorem Dz.tail {x:Pc}{m:List Pc}(h:Dz (x::m)):Dz m:=λy hy=>h y (List.mem_cons_of_mem _ hy)
end Trx
end Go.Proofs.YtmooldhpiopcgaaGreatDoor
namespace Go.Proofs.YtmooldhpiopcgaaGreatDoor
open Cdc Trx
namespace Trx
def one1 (a:Int) (n:Nat):Ee:=⟨1,n,if a=10\/a=13 then 1 else 0,a==10,a==13⟩
theorem Ui (a:Int){n:Nat}(h:1<=n):(one1 a n).Ok:=by
 refine ⟨?_,h,?_,?_,?_⟩
 ·show (if a=10\/a=13 then 1 else 0)<=1
  split<;>omega
 ·intro e
  have:a=10:=by simpa [one1] using e
  show 1<=if a=10\/a=13 then 1 else 0
  rw [if_pos (.inl this)];omega
 ·intro e
  have:a=13:=by simpa [one1] using e
  show 1<=if a=10\/a=13 then 1 else 0
  rw [if_pos (.inr this)];omega
 ·intro e;exact absurd e (by show ¬1=0;omega)
abbrev As:=List (Int×Nat)
def Pv (l:As):Prop:=∀x∈l,1<=x.2
theorem Pv.tail {x:Int×Nat}{l:As}(h:Pv (x::l)):Pv l:=λy hy=>h y (List.mem_cons_of_mem _ hy)
theorem Pv.take {l:As}(h:Pv l) (n:Nat):Pv (l.take n):=λy hy=>h y (List.mem_of_mem_take hy)
theorem Pv.drop {l:As}(h:Pv l) (n:Nat):Pv (l.drop n):=λy hy=>h y (List.mem_of_mem_drop hy)
theorem Ho (e:Enc) (l:Bs):Pv (ats e l):=λx hx=>(Cb3 e _ l (Nat.le_refl _) x hx).1
def msr:As->Ee
 |[]=>.zero
 |x::r=>(one1 x.1 x.2).add (msr r)
theorem Qx:∀{l:As},Pv l->(msr l).Ok
 |[],_=>Ee.Bb0
 |x::r,h=>Ee.Yk (Ui _ (h x List.mem_cons_self)) (Qx h.tail)
theorem Qy:∀{l m:As},Pv l->Pv m->msr (l++m)=(msr l).add (msr m)
 |[],m,_,_=>rfl
 |x::r,m,h,h'=>by
  show (one1 x.1 x.2).add (msr (r++m))=((one1 x.1 x.2).add (msr r)).add (msr m)
  rw [Qy h.tail h',Ee.add_assoc (Ui _ (h x List.mem_cons_self)) (Qx h.tail) (Qx h')]
theorem By6 (a:Int){n:Nat}(h:1<=n):msr [(a,n)]=one1 a n:=Ee.add_zero (Ui a h)
theorem Uk:∀{l:As},Pv l->(msr l).atoms=l.length
 |[],_=>rfl
 |x::r,h=>by
  have:=(Ee.Nz _ _ (Ui x.1 (h x List.mem_cons_self)) (Qx h.tail)).2
  show ((one1 x.1 x.2).add (msr r)).atoms=_
  rw [this,Uk h.tail,List.length_cons]
  show 1+_=_;omega
theorem Jy:∀{l:As},Pv l->(msr l).bytes=szs l
 |[],_=>rfl
 |x::r,h=>by
  have:=(Ee.Nz _ _ (Ui x.1 (h x List.mem_cons_self)) (Qx h.tail)).1
  show ((one1 x.1 x.2).add (msr r)).bytes=_
  rw [this,Jy h.tail,Md];rfl
theorem P7 {e:Enc}{l:Bs}{j:Nat}(h:szs ((ats e l).take j)<l.length):∃a n,(ats e l)[j]?=some (a,n)/\nx e (l.drop (szs ((ats e l).take j)))=(a,n)/\(ats e l).take (j+1)=(ats e l).take j++[(a,n)]/\szs ((ats e l).take (j+1))=szs ((ats e l).take j)+n/\1<=n /\
  szs ((ats e l).take (j+1))<=l.length:=by
 have hc:=(Ro e j l).2
 have hne:l.drop (szs ((ats e l).take j))≠[]:=λhn=>by
  have:=congrArg List.length hn
  rw [List.length_drop,List.length_nil] at this;omega
 rw [Ot e hne] at hc
 have hj:j<(ats e l).length:=by
  by_cases hj:j<(ats e l).length
  ·exact hj
  ·have hz:(ats e l).drop j=[]:=List.drop_eq_nil_of_le (by omega)
   rw [hz] at hc;cases hc
 have hd:=List.drop_eq_getElem_cons hj
 rw [hd] at hc
 obtain ⟨h1,-⟩:=List.cons.inj hc
 have ht:(ats e l).take (j+1)=(ats e l).take j++[(ats e l)[j]]:=by rw [List.take_succ_eq_append_getElem hj]
 have hp:=Ho e l _ (List.getElem_mem hj)
 have hx:=List.getElem?_eq_getElem hj
 generalize (ats e l)[j]=x at *
 obtain ⟨a,n⟩:=x
 have hs:szs ((ats e l).take (j+1))=szs ((ats e l).take j)+n:=by rw [ht,Dl,Md,Ah7,Nat.add_zero]
 refine ⟨a,n,hx,h1,ht,hs,hp,?_⟩
 have ha:=Jj e l
 rw [←List.take_append_drop (j+1) (ats e l),Dl] at ha
 omega
theorem Bm7:∀{l:As},Pv l->szs l=0->l=[]
 |[],_,_=>rfl
 |x::r,h,h0=>by rw [Md] at h0;have:=h x List.mem_cons_self;omega
theorem Aj0 {e:Enc}{l:Bs}{j:Nat}(h:¬szs ((ats e l).take j)<l.length):(ats e l).take j=ats e l:=by
 have ha:=Jj e l
 rw [←List.take_append_drop j (ats e l),Dl] at ha
 have:=Bm7 ((Ho e l).drop j) (by omega)
 rw [List.drop_eq_nil_iff] at this
 exact List.take_of_length_le this
theorem Ai9 {e:Enc}{l:Bs}(j:Nat):szs ((ats e l).take j)<=l.length:=by
 have ha:=Jj e l
 rw [←List.take_append_drop j (ats e l),Dl] at ha
 omega
theorem Bq8 {l:As}{a:Int}{n:Nat}(h:Pv l) (hn:1<=n):msr (l++[(a,n)])=(msr l).add (one1 a n):=by
 rw [Qy h (λx hx=>by rw [List.mem_singleton.1 hx];exact hn),By6 a hn]
end Trx
end Go.Proofs.YtmooldhpiopcgaaGreatDoor
