/- YtmooldhpiopcgaaGreatDoorSAg5: parts of the proof, put together by program. -/
import Derived.Test.YtmooldhpiopcgaaGreatDoorSAg4
set_option linter.unusedVariables false
set_option linter.unusedSimpArgs false
set_option linter.unusedSectionVars false
noncomputable section
set_option maxRecDepth 100000
namespace Go.Proofs.YtmooldhpiopcgaaGreatDoor
open Go Go.Vx Trx
section
variable {w w':World}{S:Nat->Prop}
theorem Dt {m:Nat}{o o':Obj}(hm:w.heap[m]?=some o):Upd (λk=>k=m) w (w.putObj m o')/\(w.putObj m o').heap[m]?=some o':=Jp hm
def By1:Obj->Bool
 |.cells _ t _=>t==186||(t==183||(t==184||t==146))
 |.deferred _=>true
 |_=>false
structure Eb (W W':World):Prop where
 size:W.heap.size<=W'.heap.size
 at_:∀(k:Nat) (o:Obj),W.heap[k]?=some o->By1 o=true->W'.heap[k]?=some o
theorem Eb.refl (W:World):Eb W W:=⟨Nat.le_refl _,λ_ _ h _=>h⟩
theorem Eb.trans {W W' W'':World}(h:Eb W W') (h':Eb W' W''):Eb W W'':=⟨Nat.le_trans h.size h'.size,λk o ho hp=>h'.at_ k o (h.at_ k o ho hp) hp⟩
theorem Eb.ext {W W':World}(e:Ext W W'):Eb W W':=⟨e.size,λ_ _ h _=>e.ext_get h⟩
theorem Eb.upd {W W':World}(u:Upd S W W') (h:∀k,S k->∀o,W.heap[k]?=some o->By1 o=false):Eb W W' :=
 ⟨u.size,λk o ho hp=>u.get ho λhk=>by rw [h k hk o ho] at hp;cases hp⟩
theorem Trx.Tr.In.stay:∀{t:Tr},t.In w->Eb w w'->t.In w'
 |.nil,_,_=>trivial
 |.node _ _ _ _,h,s=>⟨s.at_ _ _ h.1 rfl,h.2.1.stay s,h.2.2.stay s⟩
theorem Bb1 {l:Nat}{v:Value}{R:Bool->Wp}(h:Ah0 Tryz.prog l [v] R w) :
  Bg Tryz.prog (do let d ←Deferred.ofValue (.func (.yield l) #[] #[]) #[v];invoke d.target d.args:Sem Next) (.one (.one .bool)) R w:=by
 obtain ⟨f,tmps,assign,body,h1,h2⟩:=h
 refine .inr (.inr ⟨l,f,tmps,assign,body,?_,h2⟩)
 simp only [Deferred.ofValue,pure_bind,invoke]
 exact h1
structure ItE (l b1 b2:Nat) (W:World):Prop where
 y:W.heap[b1]?=some (.cells #[.func (.yield l) #[] #[]] 183 (0,0))
 f:W.heap[b2]?=some (.cells #[.func (.func 99) #[] #[.pointer (some (at0 b2)),.pointer (some (at0 b1))]] 184 (0,0))
theorem ItE.stay {l b1 b2:Nat}(h:ItE l b1 b2 w) (s:Eb w w'):ItE l b1 b2 w':=⟨s.at_ _ _ h.y rfl,s.at_ _ _ h.f rfl⟩
theorem Ay3 {l b1 b2:Nat}{rc:LoopState->Option Code->Loop}{its:List Pc}{Inv:Nat->Wp}{Brk:World->Prop}
  (hx:∀j W W',Inv j W->Ext W W'->Inv j W')
  (hy:∀(j:Nat) (x:Pc) (W:World) (K:Bool->Wp),its[j]?=some x->Inv j W->W.heap[l]?=some (.loop (rc .ready none)) ->
   (∀c W',Eb W W'->(c=true->Inv (j+1) W'/\W'.heap[l]?=some (.loop (rc .ready none)))->(c=false->Brk W')->K c W')->Ah0 Tryz.prog l [pcV x] K W) :
  ∀(t:Tr) (m:Nat) (pre post:List Pc) (W:World) (K:Bool->Wp),t.In W->ItE l b1 b2 W->W.heap[l]?=some (.loop (rc .ready none))->Fine t.items->m<2^61->its=pre++(t.items.drop m++post)->Inv pre.length W ->
   (∀c W',Eb W W'->(c=true->Inv (pre.length+(t.items.length-m)) W'/\W'.heap[l]?=some (.loop (rc .ready none)))->(c=false->Brk W')->K c W') ->
   Aa Tryz.prog 99 #[.pointer t.ptr,.int .i64 (m:Int),.pointer (some (at0 b2)),.pointer (some (at0 b1))] rB K W:=by
 intro t
 induction t with
 |nil =>
  intro m pre post W K _ hE hr _ _ hi hI hK
  refine j99 ?_
  unfold F99
  refine Ag (λs W'=>s=(true,())/\W=W') (Ac (λ_=>⟨rfl,rfl⟩) (λh=>by cases h)) ?_
  rintro _ _ ⟨rfl,rfl⟩
  exact Di (hK true W (Eb.refl W) (λ_=>⟨by simpa [Tr.items] using hI,hr⟩) (λh=>by cases h))
 | node b lt x rt ihl ihr =>
  intro m pre post W K ht hE hr hf hm hi hI hK
  refine j99 ?_
  unfold F99
  have hti:(Tr.node b lt x rt).items=lt.items++x::rt.items:=rfl
  have hsz:(Tr.node b lt x rt).items.length=(Tr.node b lt x rt).size:=Ej _
  have hsl:=Ej lt
  have hlen:(Tr.node b lt x rt).items.length=lt.items.length+1+rt.items.length:=by rw [hti];simp;omega
  have few:=hf.few
  have hfl:Fine lt.items:=hf.left
  have hfr:Fine rt.items:=by
   have h2:Fine (x::rt.items):=(hti▸hf).right
   have ex:x::rt.items=[x]++rt.items:=rfl
   exact (ex▸h2).right
  refine Ag (λs W'=>s=(decide ((m:Int)>=(((Tr.node b lt x rt).size:Nat):Int)),())/\W=W') (Ac (λh=>by cases h) (λ_=>Af (by rw [addr_add];exact Ah ht.1 (x:=((Tr.node b lt x rt).size:Int)) rfl ⟨rfl,rfl⟩))) ?_
  rintro _ _ ⟨rfl,rfl⟩
  refine Ac (λh=>?_) (λh=>?_)
  ·simp only [decide_eq_true_eq,ge_iff_le] at h
   refine hK true W (Eb.refl W) (λ_=>⟨?_,hr⟩) (λh=>by cases h)
   have:(Tr.node b lt x rt).items.length-m=0:=by omega
   rw [this];exact hI
  simp only [decide_eq_false_iff_not,ge_iff_le] at h
  refine Ef ht (Ir ht.2.1 ?_)
  refine Ag (λs W'=>(s.1=false->Eb W W'/\Inv (pre.length+(lt.items.length-m)) W'/\W'.heap[l]?=some (.loop (rc .ready none)))/\(s.1=true->Eb W W'/\Brk W')) ?_ ?_
  ·refine Dh λW1 e1 _=>?_
   have s1:=Eb.ext e1
   refine Ac (λh2=>?_) (λh2=>?_)
   ·simp only [decide_eq_true_eq] at h2
    refine Ah (hE.stay s1).f (x:=(.func (.func 99) #[] #[.pointer (some (at0 b2)),.pointer (some (at0 b1))]:Value)) rfl ?_
    refine Ef (ht.stay s1) (func_x (by kernel_rfl) ?_)
    refine ihl m pre (x::rt.items++post) W1 _ (ht.2.1.stay s1) (hE.stay s1) (e1.ext_get hr) hfl hm ?_ (hx _ _ _ hI e1) ?_
    ·rw [hi,hti,List.drop_append_of_le_length (by omega)];simp
    ·intro c W2 s2 ht2 hf2
     refine ⟨λhc=>?_,λhc=>?_⟩
     ·have hct:c=true:=by simpa using hc
      obtain ⟨i2,r2⟩:=ht2 hct
      exact ⟨s1.trans s2,i2,r2⟩
     ·have hcf:c=false:=by simpa using hc
      exact ⟨s1.trans s2,hf2 hcf⟩
   ·simp only [decide_eq_false_iff_not] at h2
    refine ⟨λ_=>⟨s1,?_,e1.ext_get hr⟩,λh=>by cases h⟩
    have:lt.items.length-m=0:=by omega
    rw [this];exact hx _ _ _ hI e1
  rintro ⟨sb,_⟩ W2 ⟨hA,hB⟩
  refine Ac (λe=>?_) (λe=>?_)
  ·obtain ⟨s2,hb2⟩:=hB e
   exact hK false W2 s2 (λh=>by cases h) (λ_=>hb2)
  obtain ⟨s2,i2,r2⟩:=hA e
  refine Ag (λs W'=>(s.1=false->Eb W W'/\Inv (pre.length+(lt.items.length-m)+(if m<=lt.items.length then 1 else 0)) W'/\W'.heap[l]?=some (.loop (rc .ready none)))/\(s.1=true->Eb W W'/\Brk W')) ?_ ?_
  ·refine Dh λW3 e3 _=>?_
   have s3:=s2.trans (Eb.ext e3)
   refine Ac (λh3=>?_) (λh3=>?_)
   ·simp only [decide_eq_true_eq] at h3
    have hle:m<=lt.items.length:=by omega
    refine Ah (hE.stay s3).y (x:=(.func (.yield l) #[] #[]:Value)) rfl ?_
    refine Ht (ht.stay s3) (Bb1 (hy (pre.length+(lt.items.length-m)) x W3 _ ?_ (hx _ _ _ i2 e3) (e3.ext_get r2) ?_))
    ·rw [hi,hti,List.drop_append_of_le_length hle,List.getElem?_append_right (by omega),List.append_assoc,List.getElem?_append_right (by rw [List.length_drop];omega)]
     have:pre.length+(lt.items.length-m)-pre.length-(lt.items.drop m).length=0:=by rw [List.length_drop];omega
     rw [this];rfl
    ·intro c W4 s4 ht4 hf4
     refine ⟨λhc=>?_,λhc=>?_⟩
     ·have hct:c=true:=by simpa using hc
      obtain ⟨i4,r4⟩:=ht4 hct
      rw [if_pos hle]
      exact ⟨s3.trans s4,i4,r4⟩
     ·have hcf:c=false:=by simpa using hc
      exact ⟨s3.trans s4,hf4 hcf⟩
   ·simp only [decide_eq_false_iff_not] at h3
    refine ⟨λ_=>⟨s3,?_,e3.ext_get r2⟩,λh=>by cases h⟩
    rw [if_neg (by omega)];exact hx _ _ _ i2 e3
  rintro ⟨sb,_⟩ W4 ⟨hA,hB⟩
  refine Ac (λe=>?_) (λe=>?_)
  ·obtain ⟨s4,hb4⟩:=hB e
   exact hK false W4 s4 (λh=>by cases h) (λ_=>hb4)
  obtain ⟨s4,i4,r4⟩:=hA e
  refine Dh λW5 e5 _=>?_
  have s5:=s4.trans (Eb.ext e5)
  refine Ah (hE.stay s5).f (x:=(.func (.func 99) #[] #[.pointer (some (at0 b2)),.pointer (some (at0 b1))]:Value)) rfl ?_
  refine Fp (ht.stay s5) (func_x (by kernel_rfl) ?_)
  have ew:(if IntKind.wrap .i64 (IntKind.wrap .i64 ((m:Int)-(lt.size:Int))-1)>0 then IntKind.wrap .i64 (IntKind.wrap .i64 ((m:Int)-(lt.size:Int))-1) else 0)=((m-lt.items.length-1:Nat):Int):=by
   rw [wrap64 (a:=(m:Int)-(lt.size:Int)) (by omega) (by omega),wrap64 (by omega) (by omega)]
   split<;>omega
  rw [ew]
  have fin:∀(pre':List Pc),its=pre'++(rt.items.drop (m-lt.items.length-1)++post)->pre'.length=pre.length+(lt.items.length-m)+(if m<=lt.items.length then 1 else 0) ->
    Aa Tryz.prog 99 #[.pointer rt.ptr,.int .i64 ((m-lt.items.length-1:Nat):Int),.pointer (some (at0 b2)),.pointer (some (at0 b1))] rB K W5:=by
   intro pre' hp hl
   refine ihr _ pre' post W5 K (ht.2.2.stay s5) (hE.stay s5) (e5.ext_get r4) hfr (by omega) hp (by rw [hl];exact hx _ _ _ i4 e5) ?_
   intro c W6 s6 ht6 hf6
   refine hK c W6 (s5.trans s6) (λhc=>?_) hf6
   have h6:=ht6 hc
   have el:pre'.length+(rt.items.length-(m-lt.items.length-1))=pre.length+((Tr.node b lt x rt).items.length-m):=by
    rw [hl,hlen];split<;>omega
   rw [el] at h6
   exact h6
  by_cases hle:m<=lt.items.length
  ·refine fin (pre++(lt.items.drop m++[x])) ?_ ?_
   ·rw [hi,hti,List.drop_append_of_le_length hle]
    have:m-lt.items.length-1=0:=by omega
    rw [this];simp
   ·rw [if_pos hle];simp;omega
  ·refine fin pre ?_ ?_
   ·rw [hi,hti,List.drop_append]
    have e1:lt.items.drop m=[]:=List.drop_eq_nil_of_le (by omega)
    obtain ⟨q,hq⟩:∃q,m-lt.items.length=q+1:=⟨m-lt.items.length-1,by omega⟩
    rw [e1,hq];simp
   ·rw [if_neg hle];omega
theorem Zh {t:Tr}{n b1 b2:Nat}{vals:Cells.T c146×Unit->List Value}{body:Nat->(LoopState->Option Code->Loop)->(Bool->Wp)->Cells.T c146×Unit->Wp}{aft':Nat->Option Code->Wp}
  (hv:∀s,vals s=[.agg (Cells.vals c146 s.1).toArray]) (h1:w.heap[b1]?=some (.cells #[.pointer t.ptr] 139 (0,0))) (h2:w.heap[b2]?=some (.cells #[.int .i64 (n:Int)] 3 (0,0))) (ht:t.In w) (hf:Fine t.items) (hn:n<2^61)
  (Inv:Nat->Wp) (Brk:Code->Wp) (h0:∀W,Ext w W->w.heap.size+2<=W.heap.size->Inv 0 W) (hx:∀j W W',Inv j W->Ext W W'->Inv j W')
  (hb:∀(rc:LoopState->Option Code->Loop) j x R W,(t.items.drop n)[j]?=some x->Inv j W->W.heap[w.heap.size+1]?=some (.loop (rc .ready none)) ->
   (∀W',Eb W W'->Inv (j+1) W'->W'.heap[w.heap.size+1]?=some (.loop (rc .ready none))->R true W')->(∀e W',Eb W W'->W'.heap[w.heap.size+1]?=some (.loop (rc .done (some e)))->Brk e W'->R false W')->body (w.heap.size+1) rc R (pcT x,()) W)
  (he:∀W W',Inv (t.items.length-n) W->W'.heap[w.heap.size]?=some (.deferred (some []))->Upd (λk=>k=w.heap.size+1) W W'->aft' w.heap.size none W')
  (hk:∀e W W',Brk e W->W'.heap[w.heap.size]?=some (.deferred (some []))->Upd (λk=>k=w.heap.size+1) W W'->aft' w.heap.size (some e) W') :
  Xv Tryz.prog vals (.func (.func 98) #[] #[.pointer (some (at0 b1)),.pointer (some (at0 b2))]) body aft' w:=by
 intro rc hyield
 have e0:Ext w (w.alloc (.deferred (some []))):=Ext.alloc w _
 generalize hW0:w.alloc (.deferred (some []))=W0 at *
 have d0:W0.heap[w.heap.size]?=some (.deferred (some [])):=by rw [←hW0];exact heap_alloc w _
 have z0:W0.heap.size=w.heap.size+1:=by rw [←hW0];simp
 have e1:Ext W0 (W0.alloc (.loop (rc .ready none))):=Ext.alloc W0 _
 have l1:(W0.alloc (.loop (rc .ready none))).heap[w.heap.size+1]?=some (.loop (rc .ready none)):=by rw [←z0];exact heap_alloc W0 _
 have z1:(W0.alloc (.loop (rc .ready none))).heap.size=w.heap.size+2:=by simp [z0]
 generalize hW1:W0.alloc (.loop (rc .ready none))=W1 at *
 refine ⟨98,#[.func (.yield (w.heap.size+1)) #[] #[],.pointer (some (at0 b1)),.pointer (some (at0 b2))],?_,?_⟩
 ·simp only [Deferred.ofValue,pure_bind,invoke]
  exact Gg (P:=Tryz.prog) (f:=98) (by kernel_rfl) W1
 have e01:=e0.trans e1
 refine j98 ?_
 unfold F98
 refine Gf rfl ((St.start W1).Ad λc1 W2 S2 e2=>S2.Ad λc2 W3 S3 e3=>Gf rfl (S3.stC 0 rfl (by decide) λW4 S4 u4=>?_))
 have e14:=S4.upd
 have hE:ItE (w.heap.size+1) c1 c2 W4:=⟨S4.at_ 1 rfl,S4.at_ 0 rfl⟩
 have ew4:=e01.trans e14
 refine S4.ld 0 rfl (x:=(.func (.func 99) #[] #[.pointer (some (at0 c2)),.pointer (some (at0 c1))]:Value)) rfl (Ah (ew4.ext_get h1) (x:=t.ptr) rfl (Ah (ew4.ext_get h2) (x:=(n:Int)) rfl (func_x (by kernel_rfl) ?_)))
 have ew:(if (n:Int)>0 then (n:Int) else 0)=(n:Int):=by split<;>omega
 rw [ew]
 refine Ay3 (Inv:=Inv) (Brk:=λW=>∃e,W.heap[w.heap.size+1]?=some (.loop (rc .done (some e)))/\Brk e W) (its:=t.items.drop n) (rc:=rc) hx ?_ t n [] [] W4 _ (ht.ext ew4) hE (e14.ext_get l1) hf hn (by simp) (h0 W4 ew4 (by have:=e14.size;omega)) ?_
 ·intro j x W K hj hI hr hK
  have:=hyield K (pcT x,()) W hr (hb rc j x K W hj hI hr (λW' s i r=>hK true W' s (λ_=>⟨i,r⟩) (λh=>by cases h)) (λe W' s r b=>hK false W' s (λh=>by cases h) (λ_=>⟨e,r,b⟩)))
  rw [hv] at this
  exact this
 ·intro c W5 s5 ht5 hf5
  have d5:=s5.at_ _ _ (e14.ext_get (e1.ext_get d0)) rfl
  have fin:∀st pe,W5.heap[w.heap.size+1]?=some (.loop (rc st pe))->(W5.putObj (w.heap.size+1) (.loop (rc .exhausted pe))).heap[w.heap.size]?=some (.deferred (some []))/\Upd (λk=>k=w.heap.size+1) W5 (W5.putObj (w.heap.size+1) (.loop (rc .exhausted pe))):=by
   intro st pe h
   obtain ⟨u,_⟩:=Dt (o':=.loop (rc .exhausted pe)) h
   exact ⟨u.get d5 (by omega),u⟩
  cases c with
  |true =>
   obtain ⟨i5,r5⟩:=ht5 rfl
   obtain ⟨d6,u6⟩:=fin _ _ r5
   refine ⟨.ready,none,r5,by decide,he W5 _ ?_ d6 u6⟩
   simpa using i5
  |false =>
   obtain ⟨e,r5,b5⟩:=hf5 rfl
   obtain ⟨d6,u6⟩:=fin _ _ r5
   exact ⟨.done,some e,r5,by decide,hk e W5 _ b5 d6 u6⟩
end
end Go.Proofs.YtmooldhpiopcgaaGreatDoor
namespace Go.Proofs.YtmooldhpiopcgaaGreatDoor
open Go Go.Vx Cdc
section
variable {w w':World}
def lw (be:Bool):Int:=if be then 1 else 0
theorem Ac4 {s:Sl}{be:Bool}{a b:UInt8}{r:Bs}(hB:By w s (a::b::r)){K:Int->Wp}(hK:∀w',Ext w w'->K ((un be a b:Nat):Int) w') :
  Aa Tryz.prog 280 #[.agg #[.int .i64 (lw be)],s.v] rI K w:=by
 refine Cp9 (a0:=(lw be,())) ?_
 unfold F280
 have ha:=a.toNat_lt
 have hb:=b.toNat_lt
 refine Aq λb1 w1 e1 n1 _ _=>Dh λw2 e2 _=>?_
 have n2:=e2.ext_get n1
 have hB2:By w2 s (a::b::r):=hB.ext (e1.trans e2)
 refine Ah n2 (x:=lw be) rfl ?_
 have bits:∀x y:UInt8,IntKind.wrap .i64 ((BitVec.toNat (BitVec.ofInt (IntKind.bits .i64) (IntKind.wrap .i64 (x.toNat:Int)) ||| BitVec.ofInt (IntKind.bits .i64) (IntKind.wrap .i64 ((IntKind.wrap .i64 (y.toNat:Int))*2^(min (Int.toNat (8:Int)) (IntKind.bits .i64))))):Nat):Int)=((x.toNat+y.toNat*256:Nat):Int):=by
  intro x y
  have hx:=x.toNat_lt
  have hy:=y.toNat_lt
  have e:((2:Int)^(min (Int.toNat (8:Int)) (IntKind.bits .i64)))=2^8:=rfl
  rw [e,wrap64 (a:=(x.toNat:Int)) (by omega) (by omega),wrap64 (a:=(y.toNat:Int)) (by omega) (by omega),wrap64 (a:=(y.toNat:Int)*2^8) (by omega) (by omega)]
  have h:=Bh3 (b:=IntKind.bits .i64) (k:=8) (a:=(y.toNat:Int)) (c:=(x.toNat:Int)) (by omega) (by omega) (by omega) (by show _<(2:Int)^64;omega)
  rw [h,wrap64 (by omega) (by omega)]
  omega
 cases be with
 |false =>
  have e0:lw false=0:=rfl
  have e1':IntKind.wrap .i64 (1-(0:Int))=1:=by decide
  rw [e0] at n2 ⊢
  refine Oj hB2 (by decide) (b:=a) rfl λp=>Ah n2 (x:=(0:Int)) rfl ?_
  rw [e1']
  refine Oj hB2 (by decide) (b:=b) rfl λp=>Gf (by decide) ?_
  rw [bits]
  exact hK w2 (e1.trans e2)
 |true =>
  have e0:lw true=1:=rfl
  have e1':IntKind.wrap .i64 (1-(1:Int))=0:=by decide
  rw [e0] at n2 ⊢
  refine Oj hB2 (by decide) (b:=b) rfl λp=>Ah n2 (x:=(1:Int)) rfl ?_
  rw [e1']
  refine Oj hB2 (by decide) (b:=a) rfl λp=>Gf (by decide) ?_
  rw [bits]
  exact hK w2 (e1.trans e2)
theorem Bi6 {u:Nat}(hu:u<65536){K:Bool->Wp}(hK:K (decide (u/1024=54)) w):Aa Tryz.prog 281 #[.int .i64 (u:Int)] rB K w:=by
 refine Cp8 ?_
 unfold F281
 have h:=Bu5 (a:=(u:Int)) (m:=1023) (by omega) (by omega) rfl
 have e:(((BitVec.toNat (BitVec.ofInt (IntKind.bits .i64) (u:Int) &&& ~~~(BitVec.ofInt (IntKind.bits .i64) (1023:Int))):Nat):Int))=(u:Int)/1024*1024:=h
 rw [e,wrap64 (by omega) (by omega)]
 have:((u:Int)/1024*1024==(55296:Int))=decide (u/1024=54):=by
  rw [Bool.eq_iff_iff];simp only [beq_iff_eq,decide_eq_true_eq];omega
 rw [this];exact hK
theorem Br3 {u:Nat}(hu:u<65536){K:Bool->Wp}(hK:K (decide (u/1024=55)) w):Aa Tryz.prog 282 #[.int .i64 (u:Int)] rB K w:=by
 refine Cp7 ?_
 unfold F282
 have h:=Bu5 (a:=(u:Int)) (m:=1023) (by omega) (by omega) rfl
 have e:(((BitVec.toNat (BitVec.ofInt (IntKind.bits .i64) (u:Int) &&& ~~~(BitVec.ofInt (IntKind.bits .i64) (1023:Int))):Nat):Int))=(u:Int)/1024*1024:=h
 rw [e,wrap64 (by omega) (by omega)]
 have:((u:Int)/1024*1024==(56320:Int))=decide (u/1024=55):=by
  rw [Bool.eq_iff_iff];simp only [beq_iff_eq,decide_eq_true_eq];omega
 rw [this];exact hK
theorem Bm2 (be:Bool) (a b:UInt8):un be a b<65536:=by
 have ha:=a.toNat_lt
 have hb:=b.toNat_lt
 unfold un;split<;>omega
theorem Xc {s:Sl}{be:Bool}{b:UInt8}{r:Bs}(hB:By w s (b::r)){K:Int×Int×Unit->Wp}(hK:∀w',Ext w w'->K ((Lc be (b::r)).1,((Lc be (b::r)).2:Nat),()) w') :
  Aa Tryz.prog 275 #[.agg #[.int .i64 (lw be)],s.v] (.tup [(.one (.int .i64)),(.one (.int .i64))]) K w:=by
 refine Cq2 (a0:=(lw be,())) ?_
 unfold F275
 have hlen:r.length+1=s.len:=hB.len
 have hcap:=hB.le
 have hb:=b.toNat_lt
 refine Aq λb1 w1 e1 n1 _ _=>?_
 have hB1:By w1 s (b::r):=hB.ext e1
 cases r with
 |nil =>
  have hl:s.len=1:=by simpa using hlen.symm
  refine Ac (λ_=>?_) (λh=>by simp [hl] at h)
  refine Oj hB1 (by decide) (b:=b) rfl λp=>?_
  rw [wrap64 (a:=(b.toNat:Int)) (by omega) (by omega),wrap64 (by omega) (by omega)]
  exact hK w1 e1
 | cons c r =>
  have hl2:r.length+2=s.len:=by simpa using hlen
  refine Ac (λh=>?_) (λ_=>?_)
  ·simp only [beq_iff_eq] at h;omega
  refine Gi n1 (x:=(lw be,())) (λi v hv=>by rw [Nat.zero_add,←Array.getElem?_toList];exact hv) (Ac4 hB1 λw2 e2=>?_)
  have hB2:=hB1.ext e2
  have hu:=Bm2 be b c
  have n2:=e2.ext_get n1
  have short:¬(un be b c/1024=54/\∃d e r',r=d::e::r'/\un be d e/1024=55)->Lc be (b::c::r)=(((un be b c:Nat):Int),2):=by
   intro h
   simp only [Lc]
   split
   ·rename_i h1
    split
    ·rename_i d e r'
     split
     ·rename_i h2;exact absurd ⟨h1,d,e,r',rfl,h2⟩ h
     ·rfl
    ·rfl
   ·rfl
  refine Ag (λ_ w'=>Ext w w'/\¬(un be b c/1024=54/\∃d e r',r=d::e::r'/\un be d e/1024=55)) ?_ ?_
  ·refine Ag (λx w'=>x=(decide (un be b c/1024=54/\4<=s.len),())/\w2=w') ?_ ?_
   ·refine Bi6 hu (Ac (λh=>?_) (λh=>?_))
    ·simp only [decide_eq_true_eq] at h
     refine ⟨Dx ?_,rfl⟩
     simp only [decide_eq_true_eq];omega
    ·simp only [decide_eq_false_iff_not] at h
     exact ⟨by rw [decide_eq_false (by omega)],rfl⟩
   ·rintro _ w' ⟨rfl,rfl⟩
    refine Ac (λh=>?_) (λh=>?_)
    ·simp only [decide_eq_true_eq] at h
     obtain ⟨d,e,r',rfl⟩:∃d e r',r=d::e::r':=by
      match r,hl2 with
      |[],hl2=>simp at hl2;omega
      |[_],hl2=>simp at hl2;omega
      |d::e::r',_=>exact ⟨d,e,r',rfl⟩
     refine Dh λw3 e3 _=>?_
     have n3:=e3.ext_get n2
     have hB3:=hB2.ext e3
     refine Gi n3 (x:=(lw be,())) (λi v hv=>by rw [Nat.zero_add,←Array.getElem?_toList];exact hv) ?_
     refine Xp hB3 (by decide) (by omega) (by omega) (by omega) (by omega) λs' hs' hl' _=>?_
     have hR:((b::c::d::e::r').drop (Int.toNat 2)).take (((s.len:Nat):Int).toNat-Int.toNat 2)=d::e::r':=by
      have:((s.len:Nat):Int).toNat-Int.toNat 2=(d::e::r').length:=by simp at hl2 ⊢;omega
      rw [this]
      show (d::e::r').take _=_
      rw [List.take_length]
     rw [hR] at hs'
     refine Ac4 hs' λw4 e4=>Br3 (Bm2 be d e) ?_
     have e04:=(e1.trans e2).trans (e3.trans e4)
     refine Ac (λh5=>Gf (by decide) ?_) (λh5=>?_)
     ·simp only [decide_eq_true_eq] at h5
      have hv:=Bm2 be d e
      have g1:=Yj (b:=IntKind.bits .i64) (k:=10) (a:=((un be b c:Nat):Int)) (m:=1023) (by omega) (by show _<(2:Int)^64;omega) rfl (by decide)
      have g2:=Yj (b:=IntKind.bits .i64) (k:=10) (a:=((un be d e:Nat):Int)) (m:=1023) (by omega) (by show _<(2:Int)^64;omega) rfl (by decide)
      have ep:((2:Int)^(min (Int.toNat (10:Int)) (IntKind.bits .i64)))=2^10:=rfl
      rw [g1,g2,ep,wrap64 (a:=((un be b c:Nat):Int)%2^10) (by omega) (by omega),wrap64 (a:=((un be d e:Nat):Int)%2^10) (by omega) (by omega),
       wrap64 (a:=((un be b c:Nat):Int)%2^10*2^10) (by omega) (by omega),wrap64 (a:=65536+((un be b c:Nat):Int)%2^10*2^10) (by omega) (by omega),wrap64 (by omega) (by omega)]
      have:=hK w4 e04
      simp only [Lc,if_pos h.1,if_pos h5] at this
      have e':65536+((un be b c:Nat):Int)%2^10*2^10+((un be d e:Nat):Int)%2^10=65536+((un be b c%1024*1024+un be d e%1024:Nat):Int):=by omega
      rw [e']
      exact this
     ·simp only [decide_eq_false_iff_not] at h5
      refine ⟨e04,?_⟩
      rintro ⟨_,d',e',r'',hr,h6⟩
      cases hr
      exact h5 h6
    ·simp only [decide_eq_false_iff_not] at h
     refine ⟨e1.trans e2,?_⟩
     rintro ⟨h6,d',e',r'',rfl,_⟩
     simp at hl2
     omega
  ·rintro _ w' ⟨hw,hno⟩
   have:=hK w' hw
   rw [short hno] at this
   exact this
theorem Ar5 {s:Sl}{b:UInt8}{r:Bs}(hB:By w s (b::r)){K:Int×Int×Unit->Wp}(hK:∀w',Ext w w'->K ((nx1 (b::r)).1,((nx1 (b::r)).2:Nat),()) w') :
  Aa Tryz.prog 284 #[.agg #[],s.v] (.tup [(.one (.int .i64)),(.one (.int .i64))]) K w:=by
 refine Cp5 (a0:=()) ?_
 unfold F284
 have hb:=b.toNat_lt
 refine Aq λ_ w1 e1 _ _ _=>?_
 have hB1:By w1 s (b::r):=hB.ext e1
 refine Oj hB1 (by decide) (b:=b) rfl λp=>?_
 rw [wrap64 (by omega) (by omega)]
 exact hK w1 e1
def Zp:Enc->Value
 |.u8=>.iface 180 (.agg #[])
 |.le=>.iface 263 (.agg #[.int .i64 0])
 |.be=>.iface 263 (.agg #[.int .i64 1])
 |.l1=>.iface 264 (.agg #[])
theorem Aj4 {e:Enc}{K:Value->Wp}(hK:K (Zp e) w):Aa Tryz.prog 126 #[.int .i64 e.num] (.one (.one .any)) K w:=by
 refine j126 ?_
 unfold F126
 cases e with
 |u8=>exact Ac (λ_=>hK) (λh=>by cases h)
 |le=>exact Ac (λh=>by cases h) (λ_=>Ac (λ_=>hK) (λh=>by cases h))
 |be=>exact Ac (λh=>by cases h) (λ_=>Ac (λh=>by cases h) (λ_=>Ac (λ_=>hK) (λh=>by cases h)))
 |l1=>exact Ac (λh=>by cases h) (λ_=>Ac (λh=>by cases h) (λ_=>Ac (λh=>by cases h) (λ_=>Ac (λ_=>hK) (λh=>by cases h))))
theorem Tz (e:Enc):∃t v,Zp e=.iface t v:=by cases e<;>exact ⟨_,_,rfl⟩
theorem Bt2 (e:Enc):Ax7 Tryz.prog (Zp e) "copyist/codec.first" := by
 cases e
 ·exact ⟨_,_,rfl,λw=>by kernel_rfl⟩
 ·exact ⟨_,_,rfl,λw=>by kernel_rfl⟩
 ·exact ⟨_,_,rfl,λw=>by kernel_rfl⟩
 ·exact ⟨_,_,rfl,λw=>by kernel_rfl⟩
theorem Ca0 {e:Enc}{s:Sl}{l:Bs}(hB:By w s l) (hl:l≠[]){K:Int×Int×Unit->Wp}(hK:∀w',Ext w w'->K ((nx e l).1,((nx e l).2:Nat),()) w') :
  Bg Tryz.prog (invoke (.fn (.method "copyist/codec.first") #[]) (#[Zp e]++#[.slice s.a s.len s.cap])) (.tup [(.one (.int .i64)),(.one (.int .i64))]) K w:=by
 cases l with
 |nil=>exact absurd rfl hl
 |cons b r =>
  cases e with
  |u8=>exact Hr (f:=95) (v':=.agg #[]) (λw=>by kernel_rfl) (by kernel_rfl) (Zj hB hK)
  |le=>exact Hr (f:=275) (v':=.agg #[.int .i64 (lw false)]) (λw=>by kernel_rfl) (by kernel_rfl) (Xc hB hK)
  |be=>exact Hr (f:=275) (v':=.agg #[.int .i64 (lw true)]) (λw=>by kernel_rfl) (by kernel_rfl) (Xc hB hK)
  |l1=>exact Hr (f:=284) (v':=.agg #[]) (λw=>by kernel_rfl) (by kernel_rfl) (Ar5 hB hK)
theorem Xx {e:Enc}{s:Sl}{l:Bs}(hB:By w s l){n:Nat}(hn:n<l.length){K:Int×Int×Unit->Wp}(hK:∀w',Ext w w'->K ((nx e (l.drop n)).1,((nx e (l.drop n)).2:Nat),()) w') :
  Aa Tryz.prog 84 #[.int .i64 e.num,s.v,.int .i64 (n:Int)] (.tup [(.one (.int .i64)),(.one (.int .i64))]) K w:=by
 refine j84 ?_
 unfold F84
 have hlen:=hB.len
 have hcap:=hB.le
 refine Aj4 ?_
 refine Ag (λx w'=>x=(false,())/\w=w') ?_ ?_
 ·obtain ⟨t,v,hc⟩:=Tz e
  rw [hc]
  refine Kr ?_ ⟨_,Tryz.underlying204⟩
  refine Ac (λh=>by cases h) (λ_=>Ac (λh=>?_) (λ_=>?_))
  ·simp only [decide_eq_true_eq] at h;omega
  ·exact ⟨by rw [decide_eq_false (by omega)],rfl⟩
 rintro _ w' ⟨rfl,rfl⟩
 refine Ac (λh=>by cases h) (λ_=>Dh λw1 e1 _=>?_)
 have hB1:=hB.ext e1
 refine Xp hB1 (by omega) (by omega) (by omega) (by omega) (by omega) λs' hs' hl' _=>Gf (Bt2 e) ?_
 have hR:(l.drop (n:Int).toNat).take (((s.len:Nat):Int).toNat-(n:Int).toNat)=l.drop n:=by
  have:((s.len:Nat):Int).toNat-(n:Int).toNat=(l.drop n).length:=by rw [List.length_drop];omega
  rw [this,Int.toNat_natCast,List.take_length]
 rw [hR] at hs'
 refine Ca0 hs' (λh=>?_) λw2 e2=>hK w2 (e1.trans e2)
 have:=congrArg List.length h
 rw [List.length_drop,List.length_nil] at this
 omega
end
end Go.Proofs.YtmooldhpiopcgaaGreatDoor
namespace Go.Proofs.YtmooldhpiopcgaaGreatDoor
namespace Cdc
def sz8 (a:Int):Nat:=if a < -256\/(-129<a/\a<0)\/1114111<a\/(55296<=a/\a<=57343) then 0 else if a<128 then 1 else if a<2048 then 2 else if a<65536 then 3 else 4
def Vy (a:Int):Nat:=if a < -256\/1114111<a then 0 else if a<0 then 1 else if a<65536 then 2 else 4
def sz1 (a:Int):Nat:=if a<0\/255<a then 0 else 1
def sz:Enc->Int->Nat
 |.u8,a=>sz8 a
 |.le,a=>Vy a
 |.be,a=>Vy a
 |.l1,a=>sz1 a
def cts:Nat->Nat->Bs
 |0,_=>[]
 |k+1,a=>UInt8.ofNat (128+a/64^k%64)::cts k a
def mk8 (n:Nat):Nat:=if n=2 then 192 else if n=3 then 224 else 240
def pt8 (a:Int):Bs:=if a<0 then [UInt8.ofNat (-1-a).toNat] else if sz8 a=1 then [UInt8.ofNat a.toNat] else UInt8.ofNat (mk8 (sz8 a)+a.toNat/64^(sz8 a-1))::cts (sz8 a-1) a.toNat
def uni (be:Bool) (u:Nat):Bs:=if be then [UInt8.ofNat (u/256),UInt8.ofNat u] else [UInt8.ofNat u,UInt8.ofNat (u/256)]
def Ab3 (be:Bool) (a:Int):Bs:=if a<0 then [UInt8.ofNat (-1-a).toNat] else if a<65536 then uni be a.toNat else uni be (55296+(a.toNat-65536)/1024)++uni be (56320+a.toNat%1024)
def pt1 (a:Int):Bs:=[UInt8.ofNat a.toNat]
def pt:Enc->Int->Bs
 |.u8,a=>pt8 a
 |.le,a=>Ab3 false a
 |.be,a=>Ab3 true a
 |.l1,a=>pt1 a
theorem Al0:∀(k a:Nat),(cts k a).length=k
 |0,_=>rfl
 |k+1,a=>congrArg (·+1) (Al0 k a)
theorem Zy (be:Bool) (u:Nat):(uni be u).length=2:=by unfold uni;split<;>rfl
theorem Aw5 (e:Enc) (a:Int) (h:sz e a≠0):(pt e a).length=sz e a:=by
 have h16:∀be,Vy a≠0->(Ab3 be a).length=Vy a:=by
  intro be h
  simp only [Ab3,Vy] at h ⊢
  repeat' split at h
  ·exact absurd rfl h
  ·rename_i h1 h2;rw [if_pos h2,if_neg h1,if_pos h2];rfl
  ·rename_i h1 h2 h3;rw [if_neg h2,if_pos h3,if_neg h1,if_neg h2,if_pos h3];exact Zy _ _
  ·rename_i h1 h2 h3;rw [if_neg h2,if_neg h3,if_neg h1,if_neg h2,if_neg h3,List.length_append,Zy,Zy]
 cases e with
 | u8 =>
  simp only [sz,pt,pt8] at h ⊢
  by_cases h0:a<0
  ·rw [if_pos h0]
   simp only [sz8] at h ⊢
   split at h
   ·exact absurd rfl h
   ·rename_i h1;rw [if_neg h1,if_pos (by omega)];rfl
  ·rw [if_neg h0]
   split
   ·rename_i h1;rw [h1];rfl
   ·simp only [List.length_cons,Al0];omega
 |le=>exact h16 _ h
 |be=>exact h16 _ h
 |l1=>simp only [sz,sz1] at h ⊢;split at h;exact absurd rfl h;rename_i h1;rw [if_neg h1];rfl
end Cdc
end Go.Proofs.YtmooldhpiopcgaaGreatDoor
namespace Go.Proofs.YtmooldhpiopcgaaGreatDoor
open Go Go.Vx Cdc
section
variable {w w':World}
theorem EBy:Ie Tryz.prog 30 5 1 1:=Ie.of (z:=.int .u8 0) C30 C5 rfl rfl rfl (by decide)
theorem uBy:Tryz.prog.underlying 30=some (.slice 5):=EBy.ts_
theorem O1 {a:Int}{K:Int->Wp}(hK:∀w',Ext w w'->K ((sz8 a:Nat):Int) w'):Aa Tryz.prog 259 #[.agg #[],.int .i64 a] rI K w:=by
 refine Cq3 (a0:=()) ?_
 unfold F259
 refine Aq λ_ w1 e1 _ _ _=>?_
 refine Ag (λx w'=>x=(decide (a < -256\/(-129<a/\a<0)\/1114111<a\/(55296<=a/\a<=57343)),())/\w1=w') ?_ ?_
 ·repeat' refine Ac (λh=>?_) (λh=>?_)
  all_goals simp only [decide_eq_true_eq,decide_eq_false_iff_not,gt_iff_lt,ge_iff_le] at *
  all_goals
   refine ⟨?_,trivial⟩
   first
    |(rw [decide_eq_true (by omega)];done)
    |(rw [decide_eq_false (by omega)];done)
    |(refine Dx ?_;simp only [decide_eq_true_eq];omega)
 rintro _ w' ⟨rfl,rfl⟩
 replace hK:=hK w1 e1
 unfold sz8 at hK
 refine Ac (λh=>?_) (λh=>?_)
 ·simp only [decide_eq_true_eq] at h
  rw [if_pos h] at hK;exact hK
 ·simp only [decide_eq_false_iff_not] at h
  rw [if_neg h] at hK
  refine Ac (λh=>?_) (λh=>Ac (λh=>?_) (λh=>Ac (λh=>?_) (λh=>?_)))
  all_goals simp only [decide_eq_true_eq,decide_eq_false_iff_not] at *
  ·rw [if_pos h] at hK;exact hK
  ·rw [if_neg (by omega),if_pos h] at hK;exact hK
  ·rw [if_neg (by omega),if_neg (by omega),if_pos h] at hK;exact hK
  ·rw [if_neg (by omega),if_neg (by omega),if_neg h] at hK;exact hK
theorem Yr {be:Bool}{a:Int}{K:Int->Wp}(hK:∀w',Ext w w'->K ((Vy a:Nat):Int) w'):Aa Tryz.prog 279 #[.agg #[.int .i64 (lw be)],.int .i64 a] rI K w:=by
 refine Cq0 (a0:=(lw be,())) ?_
 unfold F279
 refine Aq λ_ w1 e1 _ _ _=>?_
 refine Ag (λx w'=>x=(decide (a < -256\/1114111<a),())/\w1=w') ?_ ?_
 ·repeat' refine Ac (λh=>?_) (λh=>?_)
  all_goals simp only [decide_eq_true_eq,decide_eq_false_iff_not,gt_iff_lt,ge_iff_le] at *
  all_goals
   refine ⟨?_,trivial⟩
   first
    |(rw [decide_eq_true (by omega)];done)
    |(rw [decide_eq_false (by omega)];done)
    |(refine Dx ?_;simp only [decide_eq_true_eq];omega)
 rintro _ w' ⟨rfl,rfl⟩
 replace hK:=hK w1 e1
 unfold Vy at hK
 refine Ac (λh=>?_) (λh=>?_)
 ·simp only [decide_eq_true_eq] at h
  rw [if_pos h] at hK;exact hK
 ·simp only [decide_eq_false_iff_not] at h
  rw [if_neg h] at hK
  refine Ac (λh=>?_) (λh=>Ac (λh=>?_) (λh=>?_))
  all_goals simp only [decide_eq_true_eq,decide_eq_false_iff_not] at *
  ·rw [if_pos h] at hK;exact hK
  ·rw [if_neg (by omega),if_pos h] at hK;exact hK
  ·rw [if_neg (by omega),if_neg h] at hK;exact hK
theorem Av0 {a:Int}{K:Int->Wp}(hK:∀w',Ext w w'->K ((sz1 a:Nat):Int) w'):Aa Tryz.prog 288 #[.agg #[],.int .i64 a] rI K w:=by
 refine Cp3 (a0:=()) ?_
 unfold F288
 refine Aq λ_ w1 e1 _ _ _=>?_
 refine Ag (λx w'=>x=(decide (a<0\/255<a),())/\w1=w') ?_ ?_
 ·repeat' refine Ac (λh=>?_) (λh=>?_)
  all_goals simp only [decide_eq_true_eq,decide_eq_false_iff_not,gt_iff_lt,ge_iff_le] at *
  all_goals
   refine ⟨?_,trivial⟩
   first
    |(rw [decide_eq_true (by omega)];done)
    |(rw [decide_eq_false (by omega)];done)
    |(refine Dx ?_;simp only [decide_eq_true_eq];omega)
 rintro _ w' ⟨rfl,rfl⟩
 replace hK:=hK w1 e1
 unfold sz1 at hK
 refine Ac (λh=>?_) (λh=>?_)
 ·simp only [decide_eq_true_eq] at h
  rw [if_pos h] at hK;exact hK
 ·simp only [decide_eq_false_iff_not] at h
  rw [if_neg h] at hK;exact hK
theorem Bn6 {e:Enc}{a:Int}{K:Int->Wp}(hK:∀w',Ext w w'->K ((sz e a:Nat):Int) w') :
  Bg Tryz.prog (invoke (.fn (.method "copyist/codec.size") #[]) (#[Zp e]++#[.int .i64 a])) (.one (.one (.int .i64))) K w:=by
 cases e with
 |u8=>exact Hr (f:=259) (v':=.agg #[]) (λw=>by kernel_rfl) (by kernel_rfl) (O1 hK)
 |le=>exact Hr (f:=279) (v':=.agg #[.int .i64 (lw false)]) (λw=>by kernel_rfl) (by kernel_rfl) (Yr hK)
 |be=>exact Hr (f:=279) (v':=.agg #[.int .i64 (lw true)]) (λw=>by kernel_rfl) (by kernel_rfl) (Yr hK)
 |l1=>exact Hr (f:=288) (v':=.agg #[]) (λw=>by kernel_rfl) (by kernel_rfl) (Av0 hK)
theorem Bf7 {e:Enc}{a:Int}{K:Int->Wp}(hK:∀w',Ext w w'->K ((sz e a:Nat):Int) w'):Aa Tryz.prog 118 #[.int .i64 e.num,.int .i64 a] rI K w:=by
 refine j118 ?_
 unfold F118
 refine Aj4 ?_
 have hx:=Bn6 (w:=w) (e:=e) (a:=a) hK
 obtain ⟨t,v,hc⟩:=Tz e
 rw [hc] at hx ⊢
 exact Kr (Ac (λh=>by cases h) λ_=>hx) ⟨_,Tryz.underlying204⟩
theorem app1 {B:Nat}{s:Sl}{l:Bs}{c:UInt8}{v:Int}{K:Sl->Wp}(hv:v=(c.toNat:Int)) (ho:Au w B s 5 1 (bv l)) (hr:s.len<2^44) (hB:B<=w.heap.size)
  (hK:∀s' w',Au w' B s' 5 1 (bv (l++[c]))->s'.len=s.len+1->Upd s.blk w w'->(∀k,s'.blk k->s.blk k\/w.heap.size<=k)->K s' w') :
  Ad (.cells #[.int .u8 v] 5) (λb=>Dp Tryz.prog (.one (.one .sl)) (Builtin.append_ #[30,30] 30 #[.slice s.a s.len s.cap,.slice (some (at0 b)) 1 1]) K) w:=by
 subst hv
 refine Aq λb w1 e1 n1 _ _=>?_
 refine Ua (x:=⟨some (at0 b),1,1⟩) EBy uBy (ho.ext e1) (Cj.Jq (n:=1) (sz:=1) n1 rfl) (λv hv=>by simp at hv;subst hv;rfl) (by dsimp only;omega) (Nat.le_trans hB e1.size) λs' w2 o2 hl u2 hb=>?_
 refine hK s' w2 ?_ hl ((Upd.Aj e1).trans u2) λk hk=>(hb k hk).imp id (Nat.le_trans e1.size)
 simpa [bv] using o2
end
section
variable {w w':World}
abbrev Ub (w:World) (B:Nat) (s:Sl) (l bs:Bs) (K:Sl->Wp):Prop :=
 ∀s' w',Au w' B s' 5 1 (bv (l++bs))->s'.len=s.len+bs.length->Upd s.blk w w'->(∀k,s'.blk k->s.blk k\/w.heap.size<=k)->K s' w'
theorem Ub.then {B:Nat}{s s1:Sl}{l b1 b2:Bs}{w1:World}{K:Sl->Wp}(hK:Ub w B s l (b1++b2) K) (hl:s1.len=s.len+b1.length) (u:Upd s.blk w w1) (hb:∀k,s1.blk k->s.blk k\/w.heap.size<=k) :
  Ub w1 B s1 (l++b1) b2 K:=λs' w' ho hl' u' hb' =>
 hK s' w' (by rw [←List.append_assoc];exact ho) (by rw [hl',hl,List.length_append];omega) (u.new u' λk hk h=>(hb k h).resolve_right (by omega)) λk hk=>by
  rcases hb' k hk with h|h
  ·exact hb k h
  ·exact .inr (Nat.le_trans u.size h)
theorem Ub.ext {B:Nat}{s:Sl}{l bs:Bs}{w1:World}{K:Sl->Wp}(hK:Ub w B s l bs K) (e:Ext w w1):Ub w1 B s l bs K:=λs' w' ho hl' u' hb' =>
 hK s' w' ho hl' ((Upd.Aj e).trans u') λk hk=>(hb' k hk).imp id (Nat.le_trans e.size)
theorem app1' {B:Nat}{s:Sl}{l:Bs}{c:UInt8}{v:Int}{K:Sl->Wp}(hv:v=(c.toNat:Int)) (ho:Au w B s 5 1 (bv l)) (hr:s.len<2^44) (hB:B<=w.heap.size) (hK:Ub w B s l [c] K) :
  Ad (.cells #[.int .u8 v] 5) (λb=>Dp Tryz.prog (.one (.one .sl)) (Builtin.append_ #[30,30] 30 #[.slice s.a s.len s.cap,.slice (some (at0 b)) 1 1]) K) w:=app1 hv ho hr hB hK
theorem Jb (n:Nat) (h:n<256):((UInt8.ofNat n).toNat:Int)=(n:Int):=by
 rw [UInt8.toNat_ofNat'];omega
theorem Bt1 (a j:Nat) (hj:j<=2):IntKind.wrap .u8 ((BitVec.toNat (BitVec.ofInt (IntKind.bits .u8) (128:Int) ||| BitVec.ofInt (IntKind.bits .u8) (IntKind.wrap .u8 ((BitVec.toNat (BitVec.ofInt (IntKind.bits .u8) (IntKind.wrap .u8 (Int.fdiv (a:Int) (2^(min (Int.toNat (IntKind.wrap .i64 ((6:Int)*(j:Int)))) (IntKind.bits .i64))))) &&& BitVec.ofInt (IntKind.bits .u8) (63:Int)):Nat):Int))):Nat):Int)=((UInt8.ofNat (128+a/64^j%64)).toNat:Int):=by
 have e:((2:Int)^(min (Int.toNat (IntKind.wrap .i64 ((6:Int)*(j:Int)))) (IntKind.bits .i64)))=((64^j:Nat):Int):=by
  match j,hj with
  |0,_=>decide
  |1,_=>decide
  |2,_=>decide
 rw [e,Int.fdiv_eq_ediv_of_nonneg _ (Int.natCast_nonneg _),←Int.natCast_ediv]
 generalize a/64^j=q
 rw [Au0 (a:=(q:Int))]
 have h1:=Yj (b:=IntKind.bits .u8) (k:=6) (a:=(q:Int)%256) (m:=63) (by omega) (by show _<(2:Int)^8;omega) rfl (by decide)
 rw [h1,Vs (a:=(q:Int)%256%2^6) (by omega) (by omega)]
 have h2:=Qc (b:=IntKind.bits .u8) (k:=6) (a:=2) (c:=(q:Int)%256%2^6) (by omega) (by omega) (by omega) (by show _<(2:Int)^8;omega)
 have e2:(2:Int)*2^6=128:=by decide
 rw [e2] at h2
 rw [h2,Vs (by omega) (by omega),Jb _ (by omega)]
 omega
theorem Bs2 (a n:Nat) (hn:n=sz8 a) (h2:2<=n):∃x:Int,([(0:Int),0,192,224,240])[n]?=some x/\IntKind.wrap .u8 ((BitVec.toNat (BitVec.ofInt (IntKind.bits .u8) x ||| BitVec.ofInt (IntKind.bits .u8) (IntKind.wrap .u8 (Int.fdiv (a:Int) (2^(min (Int.toNat (IntKind.wrap .i64 ((6:Int)*(IntKind.wrap .i64 ((n:Int)-(1:Int)))))) (IntKind.bits .i64)))))):Nat):Int)=((UInt8.ofNat (mk8 n+a/64^(n-1))).toNat:Int):=by
 have go:∀(k:Nat) (q m:Int),0<=q->q<2^k->0<=m->m*2^k+q<256->IntKind.wrap .u8 ((BitVec.toNat (BitVec.ofInt (IntKind.bits .u8) (m*2^k) ||| BitVec.ofInt (IntKind.bits .u8) (IntKind.wrap .u8 q)):Nat):Int)=m*2^k+q:=by
  intro k q m h0 h1 hm h3
  have hp:(0:Int)<=m*2^k:=Int.mul_nonneg hm (Int.le_of_lt (Int.pow_pos (by decide)))
  rw [Vs (a:=q) h0 (by omega),Qc (b:=IntKind.bits .u8) hm h0 h1 h3,Vs (by omega) h3]
 unfold sz8 at hn
 split at hn
 ·omega
 split at hn
 ·omega
 split at hn
 ·subst hn
  refine ⟨192,rfl,?_⟩
  have e:((2:Int)^(min (Int.toNat (IntKind.wrap .i64 ((6:Int)*(IntKind.wrap .i64 (((2:Nat):Int)-(1:Int)))))) (IntKind.bits .i64)))=((64:Nat):Int):=by decide
  rw [e,Int.fdiv_eq_ediv_of_nonneg _ (by omega)]
  have:=go 5 ((a:Int)/((64:Nat):Int)) 6 (by omega) (by omega) (by omega) (by omega)
  have e2:(6:Int)*2^5=192:=by decide
  rw [e2] at this
  rw [this]
  have e3:mk8 2+a/64^(2-1)=192+a/64:=rfl
  rw [e3,Jb _ (by omega)]
  omega
 split at hn
 ·subst hn
  refine ⟨224,rfl,?_⟩
  have e:((2:Int)^(min (Int.toNat (IntKind.wrap .i64 ((6:Int)*(IntKind.wrap .i64 (((3:Nat):Int)-(1:Int)))))) (IntKind.bits .i64)))=((4096:Nat):Int):=by decide
  rw [e,Int.fdiv_eq_ediv_of_nonneg _ (by omega)]
  have:=go 4 ((a:Int)/((4096:Nat):Int)) 14 (by omega) (by omega) (by omega) (by omega)
  have e2:(14:Int)*2^4=224:=by decide
  rw [e2] at this
  rw [this]
  have e3:mk8 3+a/64^(3-1)=224+a/4096:=rfl
  rw [e3,Jb _ (by omega)]
  omega
 ·subst hn
  refine ⟨240,rfl,?_⟩
  have e:((2:Int)^(min (Int.toNat (IntKind.wrap .i64 ((6:Int)*(IntKind.wrap .i64 (((4:Nat):Int)-(1:Int)))))) (IntKind.bits .i64)))=((262144:Nat):Int):=by decide
  rw [e,Int.fdiv_eq_ediv_of_nonneg _ (by omega)]
  have:=go 3 ((a:Int)/((262144:Nat):Int)) 30 (by omega) (by omega) (by omega) (by omega)
  have e2:(30:Int)*2^3=240:=by decide
  rw [e2] at this
  rw [this]
  have e3:mk8 4+a/64^(4-1)=240+a/262144:=rfl
  rw [e3,Jb _ (by omega)]
  omega
theorem Bd7:∀(m a k:Nat),k<m->(cts m a)[k]?=some (UInt8.ofNat (128+a/64^(m-1-k)%64))
 |0,_,k,h=>absurd h (by omega)
 |m+1,a,0,_=>rfl
 |m+1,a,k+1,h=>by
  have e:m+1-1-(k+1)=m-1-k:=by omega
  rw [e]
  exact Bd7 m a k (by omega)
theorem Bh0 {B:Nat}{s:Sl}{l:Bs}{a:Int}{K:Sl->Wp}(hf:sz8 a≠0) (ho:Au w B s 5 1 (bv l)) (hr:s.len<2^43) (hB:B<=w.heap.size) (hK:Ub w B s l (pt8 a) K) :
  Aa Tryz.prog 258 #[.agg #[],s.v,.int .i64 a] rS K w:=by
 refine Cq4 (a0:=()) ?_
 unfold F258
 refine Aq λb1 w1 e1 n1 _ _=>?_
 refine Gi n1 (x:=()) (λi v hv=>by cases hv) (O1 λw2 e2=>?_)
 have e12:=e1.trans e2
 have ho2:=ho.ext e12
 have hB2:=Nat.le_trans hB e12.size
 have hK2:=hK.ext e12
 have hrng:-256<=a/\(a<=-129\/0<=a)/\a<=1114111:=by
  simp only [sz8] at hf
  split at hf
  ·exact absurd rfl hf
  ·omega
 unfold pt8 at hK2
 refine Ac (λh=>?_) (λh=>?_)
 ·simp only [decide_eq_true_eq] at h
  rw [if_pos h] at hK2
  refine app1' ?_ ho2 (by omega) hB2 hK2
  rw [wrap64 (by omega) (by omega),Vs (by omega) (by omega),Jb _ (by omega)]
  omega
 simp only [decide_eq_false_iff_not] at h
 rw [if_neg h] at hK2
 obtain ⟨n,rfl⟩:=Int.eq_ofNat_of_zero_le (Int.not_lt.1 h)
 refine Ac (λh1=>?_) (λh1=>?_)
 ·simp only [beq_iff_eq] at h1
  have h1':sz8 (n:Int)=1:=by omega
  rw [if_pos h1'] at hK2
  refine app1' ?_ ho2 (by omega) hB2 hK2
  have:(n:Int)<128:=by
   simp only [sz8] at h1'
   repeat' split at h1'
   all_goals first|omega|(cases h1')
  rw [Vs (by omega) (by omega),Jb _ (by omega)]
  omega
 simp only [beq_eq_false_iff_ne] at h1
 have h1':sz8 (n:Int)≠1:=by omega
 rw [if_neg h1'] at hK2
 have h4:sz8 (n:Int)<=4:=by unfold sz8;(repeat' split)<;>omega
 obtain ⟨x,hx,hhead⟩:=Bs2 n _ rfl (by omega)
 generalize hm:sz8 (n:Int)=m at *
 simp only [Int.toNat_natCast] at hK2
 refine (St.start w2).Ia rfl rfl rfl λb2 w3 S3 e3=>S3.drew λw4 S4 e4 _=>?_
 have e24:=e3.trans e4
 have eix:((at0 b2).add (scaled (Int.toNat ((m:Nat):Int)) 1))=⟨b2,m,none⟩:=by rw [Int.toNat_natCast,addr_add];simp [Gm]
 have hm24:m=2\/m=3\/m=4:=by omega
 have hw1:IntKind.wrap .i64 (((m:Nat):Int)-1)=((m-1:Nat):Int):=by rw [wrap64 (by omega) (by omega)];omega
 refine Gf ⟨by omega,by omega⟩ ?_
 rw [eix]
 refine Ah (S4.at_ 0 rfl) (x:=x) ?_ (Gf ?_ ?_)
 ·rcases hm24 with rfl|rfl|rfl<;>(cases hx;rfl)
 ·rw [hw1,wrap64 (by omega) (by omega)];omega
 have ho4:=ho2.ext e24
 have hK4:=hK2.ext e24
 have hB4:=Nat.le_trans hB2 e24.size
 refine app1' hhead ho4 (by omega) hB4 λs5 w5 o5 hl5 u5 hb5=>?_
 have hK5:=Ub.then (b1:=[_]) hK4 hl5 u5 hb5
 have hB5:=Nat.le_trans hB4 u5.size
 have hcl:=Al0 (m-1) n
 have hl5':s5.len=s.len+1:=hl5
 refine Ag (λx w'=>K x.1 w') ?_ (λ_ _ h=>h)
 refine Bz (λx w'=>∃k,k<=m-1/\x.2.1=((m:Nat):Int)-2-(k:Int)/\x.1.len=s5.len+k/\B<=w'.heap.size/\Au w' B x.1 5 1 (bv ((l++[UInt8.ofNat (mk8 m+n/64^(m-1))])++(cts (m-1) n).take k)) /\
  Ub w' B x.1 ((l++[UInt8.ofNat (mk8 m+n/64^(m-1))])++(cts (m-1) n).take k) ((cts (m-1) n).drop k) K) (λx _=>(x.2.1+1).toNat) ⟨0,Nat.zero_le _,?_,rfl,hB5,?_,?_⟩ ?_
 ·show IntKind.wrap .i64 (((m:Nat):Int)-2)=_
  rw [wrap64 (by omega) (by omega)];omega
 ·simpa using o5
 ·simpa using hK5
 rintro ⟨s6,i,⟨⟩⟩ w6 ⟨k,hk,hi,hl6,hB6,o6,hK6⟩
 dsimp only at hi hl6 o6 hK6 ⊢
 refine Ac (λh=>?_) (λh=>?_)
 ·simp only [decide_eq_true_eq,ge_iff_le] at h
  have hkm:k<m-1:=by omega
  obtain ⟨j,hj⟩:∃j:Nat,j=m-2-k:=⟨_,rfl⟩
  have hij:i=(j:Int):=by omega
  rw [hij]
  have hj2:j<=2:=by omega
  refine Gf ?_ ?_
  ·rw [wrap64 (by omega) (by omega)];omega
  have hg:=Bd7 (m-1) n k hkm
  have ej:m-1-1-k=j:=by omega
  rw [ej] at hg
  have hdr:(cts (m-1) n).drop k=UInt8.ofNat (128+n/64^j%64)::(cts (m-1) n).drop (k+1):=by
   have hlt:k<(cts (m-1) n).length:=by omega
   rw [List.drop_eq_getElem_cons hlt]
   rw [List.getElem?_eq_getElem hlt] at hg
   rw [Option.some.inj hg]
  rw [hdr] at hK6
  have htk:(cts (m-1) n).take (k+1)=(cts (m-1) n).take k++[UInt8.ofNat (128+n/64^j%64)]:=by
   rw [List.take_add_one,hg];rfl
  refine app1' (Bt1 n j hj2) o6 (by omega) hB6 λs7 w7 o7 hl7 u7 hb7=>?_
  have hK7:=Ub.then (b1:=[_]) (b2:=(cts (m-1) n).drop (k+1)) hK6 hl7 u7 hb7
  rw [List.append_assoc,←htk] at hK7 o7
  have hl7':s7.len=s6.len+1:=hl7
  have hwi:IntKind.wrap .i64 ((j:Int)-1)=(j:Int)-1:=wrap64 (by omega) (by omega)
  rw [hwi]
  exact ⟨⟨k+1,by omega,by omega,by omega,Nat.le_trans hB6 u7.size,o7,hK7⟩,by omega⟩
 ·simp only [decide_eq_false_iff_not,ge_iff_le] at h
  have hkm:k=m-1:=by omega
  have:(cts (m-1) n).drop k=[]:=List.drop_eq_nil_of_le (by omega)
  rw [this] at hK6
  exact hK6 s6 w6 (by simpa using o6) rfl (Upd.refl _ _) λk hk=>.inl hk
theorem Yb {B:Nat}{s:Sl}{l:Bs}{be:Bool}{u:Nat}{K:Sl->Wp}(hu:u<65536) (ho:Au w B s 5 1 (bv l)) (hr:s.len<2^43) (hB:B<=w.heap.size) (hK:Ub w B s l (uni be u) K) :
  Aa Tryz.prog 283 #[.agg #[.int .i64 (lw be)],s.v,.int .i64 (u:Int)] rS K w:=by
 refine Cp6 (a0:=(lw be,())) ?_
 unfold F283
 refine (St.start w).Ad λb1 w1 S1 e1=>S1.Ad λb2 w2 S2 e2=>S2.drew λw3 S3 e3 _=>?_
 refine S3.ld 1 rfl (x:=lw be) rfl (S3.ld 1 rfl (x:=lw be) rfl (Gf (by decide) ?_))
 have e13:=(e1.trans e2).trans e3
 have hsh:IntKind.wrap .u8 (Int.fdiv (u:Int) (2^(min (Int.toNat (8:Int)) (IntKind.bits .i64))))=((UInt8.ofNat (u/256)).toNat:Int):=by
  have e:((2:Int)^(min (Int.toNat (8:Int)) (IntKind.bits .i64)))=256:=by decide
  rw [e,Int.fdiv_eq_ediv_of_nonneg _ (by decide),Au0,Jb _ (by omega)]
  omega
 have hlo:IntKind.wrap .u8 (u:Int)=((UInt8.ofNat u).toNat:Int):=by
  rw [Au0,UInt8.toNat_ofNat'];omega
 rw [hsh,hlo]
 have fin:∀(x y:UInt8) (w5:World),Ext w w5->uni be u=[x,y]->w5.heap[b2]?=some (.cells #[.int .u8 (x.toNat:Int),.int .u8 (y.toNat:Int)] 352 (0,0)) ->
   slc (some (at0 b2)) 0 ((2:Nat):Int) ((2:Nat):Int) 2 1 (λx5=>Dp Tryz.prog (.one (.one .sl)) (Builtin.append_ #[30,30] 30 #[(.slice s.a s.len s.cap),(.slice x5.a x5.len x5.cap)]) K) w5:=by
  intro x y w5 e5 hxy n5
  refine Qa (s:=⟨some (at0 b2),2,2⟩) (Cj.Jq (n:=2) (sz:=1) n5 rfl) (by decide) (by decide) (Int.le_refl _) (Int.le_refl _) (Int.le_refl _) λs6 h6 hl6 _ _=>?_
  have hl6':s6.len=2:=hl6
  refine Ua EBy uBy (ho.ext e5) h6 (λv hv=>?_) (by omega) (Nat.le_trans hB e5.size) λs7 w7 o7 hl7 u7 hb7=>?_
  ·have hv':=List.mem_of_mem_drop (List.mem_of_mem_take hv)
   simp at hv'
   rcases hv' with rfl|rfl<;>rfl
  ·have hK5:=hK.ext e5
   rw [hxy] at hK5
   refine hK5 s7 w7 ?_ (by rw [hl7,hl6'];rfl) u7 hb7
   simpa [bv] using o7
 cases be with
 |false =>
  have e0:lw false=0:=rfl
  rw [e0] at S3 ⊢
  have ew:IntKind.wrap .i64 ((1:Int)-0)=1:=by decide
  rw [ew]
  refine Gf (by decide) ?_
  have a0:((at0 b2).add (scaled (Int.toNat (0:Int)) 1))=⟨b2,0,none⟩:=by rw [addr_add];rfl
  have a1:((at0 b2).add (scaled (Int.toNat (1:Int)) 1))=⟨b2,1,none⟩:=by rw [addr_add];rfl
  rw [a0,a1]
  refine S3.stC 0 (off:=0) rfl (by decide) λw4 S4 u4=>S4.keep 1 rfl rfl (Gf (by decide) (S4.stC 0 (off:=1) rfl (by simp) λw5 S5 u5=>?_))
  exact fin _ _ w5 S5.upd rfl (S5.at_ 0 rfl)
 |true =>
  have e0:lw true=1:=rfl
  rw [e0] at S3 ⊢
  have ew:IntKind.wrap .i64 ((1:Int)-1)=0:=by decide
  rw [ew]
  refine Gf (by decide) ?_
  have a0:((at0 b2).add (scaled (Int.toNat (0:Int)) 1))=⟨b2,0,none⟩:=by rw [addr_add];rfl
  have a1:((at0 b2).add (scaled (Int.toNat (1:Int)) 1))=⟨b2,1,none⟩:=by rw [addr_add];rfl
  rw [a0,a1]
  refine S3.stC 0 (off:=1) rfl (by decide) λw4 S4 u4=>S4.keep 1 rfl rfl (Gf (by decide) (S4.stC 0 (off:=0) rfl (by simp) λw5 S5 u5=>?_))
  exact fin _ _ w5 S5.upd rfl (S5.at_ 0 rfl)
theorem Bq6 {a:Int}(h:a<0) (h2:-256<=a):IntKind.wrap .u8 (IntKind.wrap .i64 ((-1:Int)-a))=((UInt8.ofNat (-1-a).toNat).toNat:Int):=by
 rw [wrap64 (by omega) (by omega),Vs (by omega) (by omega),Jb _ (by omega)]
 omega
theorem P6 {B:Nat}{s:Sl}{l:Bs}{be:Bool}{a:Int}{K:Sl->Wp}(hf:Vy a≠0) (ho:Au w B s 5 1 (bv l)) (hr:s.len<2^42) (hB:B<=w.heap.size) (hK:Ub w B s l (Ab3 be a) K) :
  Aa Tryz.prog 278 #[.agg #[.int .i64 (lw be)],s.v,.int .i64 a] rS K w:=by
 refine Cq1 (a0:=(lw be,())) ?_
 unfold F278
 have hrng:-256<=a/\a<=1114111:=by
  simp only [Vy] at hf
  split at hf
  ·exact absurd rfl hf
  ·omega
 refine (St.start w).Ad λb1 w1 S1 e1=>?_
 unfold Ab3 at hK
 refine Ac (λh=>?_) (λh=>?_)
 ·simp only [decide_eq_true_eq] at h
  rw [if_pos h] at hK
  exact app1' (Bq6 h hrng.1) (ho.ext e1) (by omega) (Nat.le_trans hB e1.size) (hK.ext e1)
 simp only [decide_eq_false_iff_not] at h
 rw [if_neg h] at hK
 obtain ⟨n,rfl⟩:=Int.eq_ofNat_of_zero_le (Int.not_lt.1 h)
 rw [Int.toNat_natCast] at hK
 refine Ac (λh1=>?_) (λh1=>?_)
 ·simp only [decide_eq_true_eq] at h1
  rw [if_pos h1] at hK
  exact S1.lds 0 (lw be,()) rfl (Yb (by omega) (ho.ext e1) (by omega) (Nat.le_trans hB e1.size) (hK.ext e1))
 simp only [decide_eq_false_iff_not] at h1
 rw [if_neg h1] at hK
 refine S1.drew λw2 S2 e2 _=>S2.lds 0 (lw be,()) rfl (S2.lds 0 (lw be,()) rfl (Gf (by decide) ?_))
 have e12:=e1.trans e2
 have b1e:IntKind.wrap .i64 ((BitVec.toNat (BitVec.ofInt (IntKind.bits .i64) (55296:Int) ||| BitVec.ofInt (IntKind.bits .i64) (Int.fdiv (IntKind.wrap .i64 ((n:Int)-(65536:Int))) (2^(min (Int.toNat (10:Int)) (IntKind.bits .i64))))):Nat):Int)=((55296+(n-65536)/1024:Nat):Int):=by
  have e:((2:Int)^(min (Int.toNat (10:Int)) (IntKind.bits .i64)))=1024:=by decide
  rw [e,wrap64 (a:=(n:Int)-65536) (by omega) (by omega),Int.fdiv_eq_ediv_of_nonneg _ (by decide)]
  have h2:=Qc (b:=IntKind.bits .i64) (k:=10) (a:=54) (c:=((n:Int)-65536)/1024) (by omega) (by omega) (by omega) (by show _<(2:Int)^64;omega)
  have e2:(54:Int)*2^10=55296:=by decide
  rw [e2] at h2
  rw [h2,wrap64 (by omega) (by omega)]
  omega
 have b2e:IntKind.wrap .i64 ((BitVec.toNat (BitVec.ofInt (IntKind.bits .i64) (56320:Int) ||| BitVec.ofInt (IntKind.bits .i64) (IntKind.wrap .i64 ((BitVec.toNat (BitVec.ofInt (IntKind.bits .i64) (n:Int) &&& BitVec.ofInt (IntKind.bits .i64) (1023:Int)):Nat):Int))):Nat):Int)=((56320+n%1024:Nat):Int):=by
  have g1:=Yj (b:=IntKind.bits .i64) (k:=10) (a:=(n:Int)) (m:=1023) (by omega) (by show _<(2:Int)^64;omega) rfl (by decide)
  rw [g1,wrap64 (a:=(n:Int)%2^10) (by omega) (by omega)]
  have h2:=Qc (b:=IntKind.bits .i64) (k:=10) (a:=55) (c:=(n:Int)%2^10) (by omega) (by omega) (by omega) (by show _<(2:Int)^64;omega)
  have e2:(55:Int)*2^10=56320:=by decide
  rw [e2] at h2
  rw [h2,wrap64 (by omega) (by omega)]
  omega
 rw [b1e,b2e]
 have n2:=S2.at_ 0 rfl
 have hbo:B<=b1\/True:=.inr trivial
 refine Yb (by omega) (ho.ext e12) (by omega) (Nat.le_trans hB e12.size) λs3 w3 o3 hl3 u3 hb3=>?_
 have hnb:¬s.blk b1:=λhk=>by
  have:=(ho.ext e12).in.Bc hk
  obtain ⟨c,fr,hc⟩:=this
  rw [n2] at hc;cases hc
 refine Ar (Fz _ 0 λj v hj=>?_) ?_
 ·rw [Nat.zero_add]
  exact cell_of (u3.get n2 hnb) (by rw [Nat.zero_add,←Array.getElem?_toList];exact hj)
 ·have hl3':s3.len=s.len+2:=by rw [hl3,Zy]
  exact Yb (by omega) o3 (by omega) (Nat.le_trans (Nat.le_trans hB e12.size) u3.size) (Ub.then (hK.ext e12) hl3 u3 hb3)
theorem Bh1 {B:Nat}{s:Sl}{l:Bs}{a:Int}{K:Sl->Wp}(hf:sz1 a≠0) (ho:Au w B s 5 1 (bv l)) (hr:s.len<2^42) (hB:B<=w.heap.size) (hK:Ub w B s l (pt1 a) K) :
  Aa Tryz.prog 287 #[.agg #[],s.v,.int .i64 a] rS K w:=by
 refine Cp4 (a0:=()) ?_
 unfold F287
 have hrng:0<=a/\a<=255:=by
  simp only [sz1] at hf
  split at hf
  ·exact absurd rfl hf
  ·omega
 refine Aq λb1 w1 e1 _ _ _=>app1' ?_ (ho.ext e1) (by omega) (Nat.le_trans hB e1.size) (hK.ext e1)
 rw [Vs (by omega) (by omega),Jb _ (by omega)]
 omega
theorem Ck1 {B:Nat}{s:Sl}{l:Bs}{e:Enc}{a:Int}{K:Sl->Wp}(hf:sz e a≠0) (ho:Au w B s 5 1 (bv l)) (hr:s.len<2^42) (hB:B<=w.heap.size) (hK:Ub w B s l (pt e a) K) :
  Bg Tryz.prog (invoke (.fn (.method "copyist/codec.put") #[]) (#[Zp e]++#[.slice s.a s.len s.cap,.int .i64 a])) (.one (.one .sl)) K w:=by
 cases e with
 |u8=>exact D7 (f:=258) (v':=.agg #[]) (λw=>by kernel_rfl) (by kernel_rfl) (Bh0 hf ho (by omega) hB hK)
 |le=>exact D7 (f:=278) (v':=.agg #[.int .i64 (lw false)]) (λw=>by kernel_rfl) (by kernel_rfl) (P6 hf ho hr hB hK)
 |be=>exact D7 (f:=278) (v':=.agg #[.int .i64 (lw true)]) (λw=>by kernel_rfl) (by kernel_rfl) (P6 hf ho hr hB hK)
 |l1=>exact D7 (f:=287) (v':=.agg #[]) (λw=>by kernel_rfl) (by kernel_rfl) (Bh1 hf ho hr hB hK)
theorem Bj4 {s:Sl}{t:TypeId}{e:Enc}{a:Int}{K:Sl×Int×Int×Unit->Wp}(hf:sz e a≠0) (hs:Cj w s t 1 [.int .i64 a])
  (hK:∀s' w',Au w' w.heap.size s' 5 1 (bv (pt e a))->Ext w w'->K (s',0,0,()) w') :
  Aa Tryz.prog 155 #[.int .i64 e.num,s.v] (.tup [(.one .sl),(.one (.int .i64)),(.one (.int .i64))]) K w:=by
 refine Cs5 ?_
 unfold F155
 have hlen:s.len=1:=by have:=hs.len1;simpa using this.symm
 have hs':Cj w s t 1 ([a].map (Cell.int .i64).val):=hs
 refine Aj4 ?_
 have put:∀{w1:World} {o:Sl} {K:Sl->Wp},Ext w w1->o=⟨none,0,0⟩->Ub w1 w.heap.size o [] (pt e a) K->Bg Tryz.prog (invoke (.fn (.method "copyist/codec.put") #[]) (#[Zp e]++#[.slice o.a o.len o.cap,.int .i64 a])) (.one (.one .sl)) K w1:=by
  rintro w1 o K e1 rfl hK
  exact Ck1 hf (Au.nil _ _ _ _) (by show (0:Nat)<2^42;decide) e1.size hK
 have size:∀{w:World} {K:Int->Wp},(∀w',Ext w w'->K ((sz e a:Nat):Int) w')->Bg Tryz.prog (invoke (.fn (.method "copyist/codec.size") #[]) (#[Zp e]++#[.int .i64 a])) (.one (.one (.int .i64))) K w:=λh=>Bn6 h
 obtain ⟨ty,v,hc⟩:=Tz e
 rw [hc] at put size ⊢
 refine Kr (Ac (λh=>by cases h) λ_=>?_) ⟨_,Tryz.underlying204⟩
 refine Ag (λx w'=>Au w' w.heap.size x.1 5 1 (bv (pt e a))/\Ext w w') ?_ λx w' h=>hK _ _ h.1 h.2
 refine Bz (λx w'=>(x=(⟨none,0,0⟩,0,())/\w=w')\/(x.2.1=1/\Au w' w.heap.size x.1 5 1 (bv (pt e a))/\Ext w w')) (λx _=>(1-x.2.1).toNat) (.inl ⟨rfl,rfl⟩) ?_
 rintro x w' (⟨rfl,rfl⟩|⟨hx,ho,hE⟩)
 ·refine Ac (λ_=>?_) (λh=>?_)
  ·refine Zg hs' (by decide) (x:=a) rfl λp=>size λw1 e1=>Ac (λh=>?_) (λ_=>?_)
   ·simp only [beq_iff_eq] at h;omega
   ·refine put e1 rfl λs2 w2 o2 _ u2 _=>⟨.inr ⟨by show IntKind.wrap .i64 (0+1)=1;decide,by simpa using o2,e1.trans (u2.mono λk _ hk=>?_)⟩,by show (1-IntKind.wrap .i64 (0+1)).toNat<((1:Int)-0).toNat;decide⟩
    obtain ⟨p,hp,_⟩:=hk
    cases hp
  ·simp only [decide_eq_false_iff_not] at h;omega
 ·refine Ac (λh=>?_) (λ_=>⟨ho,hE⟩)
  simp only [decide_eq_true_eq] at h;omega
end
end Go.Proofs.YtmooldhpiopcgaaGreatDoor
namespace Go.Proofs.YtmooldhpiopcgaaGreatDoor
open Go Go.Vx Cdc Trx
section
variable {w w':World}{S:Nat->Prop}
theorem An9 {a:Int}{n:Nat}{K:Cells.T Bf->Wp}(hK:∀w',Ext w w'->K (smT (one1 a n)) w') :
  Aa Tryz.prog 128 #[.int .i64 a,.int .i64 (n:Int)] (.one (.agg Bf)) K w:=by
 refine j128 ?_
 unfold F128
 refine (St.start w).Ad λb1 w1 S1 e1=>S1.Ad λb2 w2 S2 e2=>S2.Ae 0 rfl rfl rfl rfl λw3 S3 u3=>?_
 let z1:Nat×Obj:=(b1,.cells #[(.int .i64 (0:Int)),(.int .i64 (0:Int)),(.int .i64 (0:Int)),(.bool false),(.bool false)] 144 (0,0))
 refine Ag (λ_ w'=>St (λ_=>False) w w' [(b2,.cells (Cells.vals Bf (smT (one1 a n))).toArray 144 (0,0)),z1]) ?_ ?_
 ·refine Ag (λx w'=>x=((a==10||a==13),())/\w3=w') (S3.ld 0 rfl (x:=(a==10)) rfl (Ac (λh=>⟨by rw [h];rfl,rfl⟩) (λh=>S3.ld 0 rfl (x:=(a==13)) rfl ⟨by rw [h];rfl,rfl⟩))) ?_
  rintro _ w' ⟨rfl,rfl⟩
  have e0:(one1 a n).breaks=if (a==10||a==13)=true then 1 else 0:=by
   show (if a=10\/a=13 then 1 else 0)=_
   simp
  refine Ac (λh=>S3.stC 0 rfl (by show 2<5;decide) λw4 S4 u4=>?_) (λh=>?_)
  ·have:smT (one1 a n)=((1:Int),(n:Int),(1:Int),(a==10),(a==13),()):=by
    unfold smT;rw [e0,if_pos h];rfl
   rw [this];exact S4
  ·have:smT (one1 a n)=((1:Int),(n:Int),(0:Int),(a==10),(a==13),()):=by
    unfold smT
    have h':(a==10||a==13)=false:=h
    rw [e0,h'];rfl
   rw [this];exact S3
 ·intro _ w5 S5
  exact S5.lds 0 (smT (one1 a n)) rfl (S5.Ae 1 rfl rfl rfl rfl λw6 S6 u6=>S6.lds 1 (smT (one1 a n)) rfl (hK w6 S6.upd))
def Vk (e:Enc) (s:Sl) (tag:Int) (l:Bs):Pc:=⟨s,tag,msr (ats e l)⟩
theorem Ns {e:Enc}{s:Sl}{l:Bs}{tag:Int}(hB:By w s l) (hl:l.length<2^59){K:Cells.T c146->Wp}(hK:∀w',Ext w w'->K (pcT (Vk e s tag l)) w') :
  Aa Tryz.prog 85 #[.int .i64 e.num,s.v,.int .i64 tag] (.one (.agg c146)) K w:=by
 refine j85 ?_
 unfold F85
 have hlen:=hB.len
 let z1:Nat×Obj:=(0,.cells #[(.slice none 0 0),(.int .i64 (0:Int)),(.int .i64 (0:Int)),(.int .i64 (0:Int)),(.int .i64 (0:Int)),(.bool false),(.bool false)] 146 (0,0))
 refine (St.start w).Ad λb1 w1 S1 e1=>S1.Ad λb2 w2 S2 e2=>S2.Ae 0 rfl rfl rfl rfl λw3 S3 u3=>?_
 refine Ag (λ_ w'=>St (λ_=>False) w w' [(b2,.cells (Cells.vals c146 (pcT (Vk e s tag l))).toArray 146 (0,0)),(b1,z1.2)]) ?_ ?_
 ·refine Bz (λx w'=>∃j,x=((szs ((ats e l).take j):Int),())/\St (λ_=>False) w w' [(b2,.cells (Cells.vals c146 (pcT ⟨s,tag,msr ((ats e l).take j)⟩)).toArray 146 (0,0)),(b1,z1.2)]) (λx _=>((l.length:Int)-x.1).toNat) ⟨0,rfl,S3⟩ ?_
  rintro _ w5 ⟨j,rfl,S5⟩
  have okj:=Qx ((Ho e l).take j)
  have byj:=Jy ((Ho e l).take j)
  refine Ac (λh=>?_) (λh=>?_)
  ·simp only [decide_eq_true_eq] at h
   obtain ⟨a,n,ha,hn,ht,hs,h1,hle⟩:=P7 (e:=e) (l:=l) (j:=j) (by omega)
   refine Xx (hB.ext S5.upd) (by omega) λw6 e6=>?_
   rw [hn]
   have S6:=S5.ext e6
   refine S6.drew λw7 S7 e7 _=>?_
   have h7:∀{W:World} {t:Nat},St (λ_=>False) w W [(b2,.cells (Cells.vals c146 (pcT ⟨s,tag,msr ((ats e l).take j)⟩)).toArray 146 (0,0)),(b1,z1.2)]->∀i v,(Cells.vals Bf (smT (msr ((ats e l).take j))))[i]?=some v->((Cells.vals c146 (pcT ⟨s,tag,msr ((ats e l).take j)⟩)).toArray)[2+i]?=some v:=by
    intro W t _ i v hv
    match i,hv with
    |0,hv=>exact hv
    |1,hv=>exact hv
    |2,hv=>exact hv
    |3,hv=>exact hv
    |4,hv=>exact hv
    |i+5,hv=>cases hv
   refine Gi (S7.at_ 0 rfl) (x:=smT (msr ((ats e l).take j))) (h7 (t:=0) S7) (An9 λw8 e8=>?_)
   have S8:=S7.ext e8
   refine Ar ?_ (Aa4 okj (Ui a h1) (by rw [byj];show szs ((ats e l).take j)+n<2^60;omega) λw9 e9=>?_)
   ·exact Fz _ 0 λi v hv=>cell_of (S8.at_ 0 rfl) (by rw [Nat.zero_add];exact h7 (t:=0) S8 i v hv)
   have S9:=S8.ext e9
   rw [←Bq8 ((Ho e l).take j) h1,←ht]
   refine S9.Cc8 0 rfl rfl rfl (by show 2+5<=7;decide) λw10 S10=>?_
   have ew:IntKind.wrap .i64 ((szs ((ats e l).take j):Int)+(n:Int))=((szs ((ats e l).take (j+1)):Nat):Int):=by
    rw [wrap64 (by omega) (by omega)];omega
   refine ⟨⟨j+1,by dsimp only;rw [ew],S10⟩,?_⟩
   dsimp only
   rw [ew];omega
  ·simp only [decide_eq_false_iff_not] at h
   rw [Aj0 (e:=e) (l:=l) (j:=j) (by omega)] at S5
   exact S5
 ·intro _ w5 S5
  exact S5.lds 0 (pcT (Vk e s tag l)) rfl (S5.Ae 1 rfl rfl rfl rfl λw6 S6 u6=>S6.lds 1 (pcT (Vk e s tag l)) rfl (hK w6 S6.upd))
end
section
variable {w w':World}{S:Nat->Prop}
def top (s:Sl):Nat:=match s.a with|some p=>p.off+s.len|none=>0
theorem Um {s:Sl}{l h m:Int}{k:Nat}(hk:(Sl.cut s.a l h m 1).blk k):s.blk k:=by
 obtain ⟨p,hp,rfl⟩:=hk
 have hp:(if m.toNat=l.toNat then s.a else s.a.map (·.add (scaled l.toNat 1)))=some p:=hp
 split at hp
 ·exact ⟨p,hp,rfl⟩
 ·cases ha:s.a with
  |none=>rw [ha] at hp;cases hp
  |some q =>
   rw [ha] at hp;cases hp
   exact ⟨q,ha,by unfold Addr.add;split<;>rfl⟩
theorem By.at0 {s:Sl}{l:Bs}(h:By w s l){p:Addr}(hp:s.a=some p):p.spot=none:=by
 rcases h.at_ with ⟨hn,_⟩|⟨b,off,c,fr,ha,_⟩
 ·rw [hn] at hp;cases hp
 ·rw [ha] at hp;cases hp;rfl
theorem Ak9 {s:Sl}{b:Bs}(hB:By w s b){l h m:Int}(h0:0<=l) (h1:l<=h) (h2:h<=s.len):top (Sl.cut s.a l h m 1)<=top s:=by
 unfold top
 show (match (if m.toNat=l.toNat then s.a else s.a.map (·.add (scaled l.toNat 1))) with|some p=>p.off+(h.toNat-l.toNat)|none=>0)<=_
 cases ha:s.a with
 |none=>split<;>simp_all
 | some q =>
  have hs:=hB.at0 ha
  split
  ·rename_i p hp
   split at hp
   ·cases hp
    show q.off+(h.toNat-l.toNat)<=q.off+s.len
    omega
   ·simp only [Option.map_some,Option.some.injEq] at hp
    subst hp
    obtain ⟨qb,qo,qs⟩:=q
    simp only at hs
    subst hs
    rw [Gm,addr_add]
    show qo+l.toNat*1+(h.toNat-l.toNat)<=qo+s.len
    omega
  ·exact Nat.zero_le _
theorem By.cut {s:Sl}{b:Bs}(hB:By w s b){l h m:Int}(h0:0<=l) (h1:l<=h) (h2:h<=s.len) (h3:h<=m) (h4:m<=s.cap):By w (Sl.cut s.a l h m 1) ((b.drop l.toNat).take (h.toNat-l.toNat)):=by
 have:=Xp (K:=λs' w'=>By w s' ((b.drop l.toNat).take (h.toNat-l.toNat))) hB h0 h1 h2 h3 h4 λs' h _ _=>h
 obtain ⟨_,_,h⟩:=this
 exact h
def cutAt (e:Enc) (b:Bs) (n:Nat):Nat:=szs ((ats e b).take n)
theorem Tv (e:Enc) (b:Bs) (n:Nat):cutAt e b n<=b.length:=Ai9 n
def Po (e:Enc) (x:Pc) (b:Bs) (n:Nat):Pc:=Vk e (Sl.cut x.bytes.a 0 (cutAt e b n:Int) (cutAt e b n:Int) 1) x.tag (b.take (cutAt e b n))
def Kq (t:Int) (n:Nat):Int:=if 0<=t then t+n else t
def Oe (e:Enc) (x:Pc) (b:Bs) (n:Nat):Pc:=Vk e (Sl.cut x.bytes.a (cutAt e b n:Int) (x.bytes.len:Int) (x.bytes.cap:Int) 1) (Kq x.tag (cutAt e b n)) (b.drop (cutAt e b n))
theorem Fq {e:Enc}{x:Pc}{b:Bs}{n:Nat}(hB:By w x.bytes b) (hl:b.length<2^59) (ht:-1<=x.tag/\x.tag<2^59) (hn:n<2^62){K:Cells.T c146×Cells.T c146×Unit->Wp}
  (hK:∀w',Ext w w'->K (pcT (Po e x b n),pcT (Oe e x b n),()) w') :
  Aa Tryz.prog 122 #[pcV x,.int .i64 e.num,.int .i64 (n:Int)] (.tup [(.agg c146),(.agg c146)]) K w:=by
 refine j122 (a0:=pcT x) ?_
 unfold F122
 have hlen:=hB.len
 have hcap:=hB.le
 let z:Obj:=.cells #[(.slice none 0 0),(.int .i64 (0:Int)),(.int .i64 (0:Int)),(.int .i64 (0:Int)),(.int .i64 (0:Int)),(.bool false),(.bool false)] 146 (0,0)
 let q:Obj:=.cells (Cells.vals c146 (pcT x)).toArray 146 (0,0)
 refine (St.start w).Ad λb1 w1 S1 e1=>S1.Ad λb2 w2 S2 e2=>S2.Ad λb3 w3 S3 e3=>?_
 have hcl:=Tv e b n
 refine Ag (λs w'=>s=((cutAt e b n:Int),())/\St (λ_=>False) w w' [(b3,z),(b2,z),(b1,q)]) ?_ ?_
 ·refine Bz (λs w'=>∃j,j<=n/\s=(((n-j:Nat):Int),(szs ((ats e b).take j):Int),())/\St (λ_=>False) w w' [(b3,z),(b2,z),(b1,q)]) (λs _=>s.1.toNat) ⟨0,Nat.zero_le _,rfl,S3⟩ ?_
  rintro _ w5 ⟨j,hj,rfl,S5⟩
  refine Ag (λs w'=>s=(decide (j<n)&&decide (szs ((ats e b).take j)<b.length),())/\w5=w') ?_ ?_
  ·refine Ac (λh=>S5.ld 2 rfl (x:=x.bytes) rfl ⟨Dx ?_,rfl⟩) (λh=>⟨Dx ?_,rfl⟩)
   ·simp only [decide_eq_true_eq,gt_iff_lt,Bool.and_eq_true] at h ⊢;omega
   ·simp only [decide_eq_false_iff_not,gt_iff_lt,Bool.and_eq_true,decide_eq_true_eq] at h ⊢
    constructor
    ·intro h;cases h
    ·intro h;omega
  rintro _ w6 ⟨rfl,rfl⟩
  refine Ac (λh=>?_) (λh=>?_)
  ·simp only [Bool.and_eq_true,decide_eq_true_eq] at h
   obtain ⟨a,m,ha,hm,htk,hs,h1,hle⟩:=P7 (e:=e) (l:=b) (j:=j) h.2
   refine S5.ld 2 rfl (x:=x.bytes) rfl (Xx (hB.ext S5.upd) h.2 λw7 e7=>?_)
   rw [hm]
   have ew:IntKind.wrap .i64 ((szs ((ats e b).take j):Int)+(m:Int))=((szs ((ats e b).take (j+1)):Nat):Int):=by
    rw [wrap64 (by omega) (by omega)];omega
   have ew2:IntKind.wrap .i64 (((n-j:Nat):Int)-1)=((n-(j+1):Nat):Int):=by
    rw [wrap64 (by omega) (by omega)];omega
   refine ⟨⟨j+1,by omega,by dsimp only;rw [ew,ew2],S5.ext e7⟩,?_⟩
   dsimp only
   rw [ew2];omega
  ·refine ⟨?_,S5⟩
   have:szs ((ats e b).take j)=cutAt e b n:=by
    unfold cutAt
    by_cases hjn:j<n
    ·have hnl:¬szs ((ats e b).take j)<b.length:=λhc=>by simp [hjn,hc] at h
     have h1:=Aj0 hnl
     have h2:(ats e b).take n=ats e b:=by
      refine List.take_of_length_le ?_
      have:(ats e b).length<=j:=by
       have:=congrArg List.length h1
       rw [List.length_take] at this;omega
      omega
     rw [h1,h2]
    ·have:j=n:=by omega
     rw [this]
   rw [this]
 ·rintro _ w5 ⟨rfl,S5⟩
  refine S5.ld 2 rfl (x:=x.tag) rfl ?_
  refine Ag (λs w'=>s=(Kq x.tag (cutAt e b n),())/\w5=w') ?_ ?_
  ·unfold Kq
   refine Ac (λh=>⟨?_,rfl⟩) (λh=>⟨?_,rfl⟩)
   ·simp only [decide_eq_true_eq,ge_iff_le] at h
    rw [if_pos h,wrap64 (by omega) (by omega)]
   ·simp only [decide_eq_false_iff_not,ge_iff_le] at h
    rw [if_neg h]
  rintro _ w6 ⟨rfl,rfl⟩
  refine S5.drew λw7 S7 e7 _=>S7.ld 2 rfl (x:=x.bytes) rfl ?_
  have hB7:By w7 x.bytes b:=hB.ext S7.upd
  have c1:=hB7.cut (l:=0) (h:=(cutAt e b n:Int)) (m:=(cutAt e b n:Int)) (by omega) (by omega) (by omega) (by omega) (by omega)
  have c2:=hB7.cut (l:=(cutAt e b n:Int)) (h:=(x.bytes.len:Int)) (m:=(x.bytes.cap:Int)) (by omega) (by omega) (by omega) (by omega) (by omega)
  have d1:(b.drop (0:Int).toNat).take ((cutAt e b n:Int).toNat-(0:Int).toNat)=b.take (cutAt e b n):=by simp
  have d2:(b.drop (cutAt e b n:Int).toNat).take ((x.bytes.len:Int).toNat-(cutAt e b n:Int).toNat)=b.drop (cutAt e b n):=by
   rw [Int.toNat_natCast,Int.toNat_natCast]
   exact List.take_of_length_le (by rw [List.length_drop];omega)
  rw [d1] at c1
  rw [d2] at c2
  refine Gf (by omega) (S7.ld 2 rfl (x:=x.tag) rfl (S7.ld 2 rfl (x:=x.bytes) rfl (Gf (by omega) ?_)))
  refine Ns c1 (by rw [List.length_take];omega) λw8 e8=>?_
  have S8:=S7.ext e8
  refine S8.keep 2 rfl (v:=.slice x.bytes.a x.bytes.len x.bytes.cap) rfl ?_
  refine Ns (c2.ext e8) (by rw [List.length_drop];omega) λw9 e9=>?_
  have S9:=S8.ext e9
  exact S9.Ae 1 rfl rfl rfl rfl λw10 S10 u10=>S10.Ae 0 rfl rfl rfl rfl λw11 S11 u11=>S11.lds 1 (pcT (Po e x b n)) rfl (S11.lds 0 (pcT (Oe e x b n)) rfl (hK w11 S11.upd))
end
section
variable {w w':World}{S:Nat->Prop}
abbrev Parts:=List (Int×Bs)
def aOf (e:Enc) (M:Parts):As:=M.flatMap λx=>ats e x.2
theorem Iu (e:Enc) (x:Int×Bs) (M:Parts):aOf e (x::M)=ats e x.2++aOf e M:=rfl
theorem Jo (e:Enc) (M N:Parts):aOf e (M++N)=aOf e M++aOf e N:=by simp [aOf]
theorem Ji (e:Enc) (M:Parts):Pv (aOf e M):=λx hx=>by
 obtain ⟨y,_,hy⟩:=List.mem_flatMap.1 hx
 exact Ho e _ x hy
structure Zw (w:World) (e:Enc) (x:Pc) (y:Int×Bs):Prop where
 by_:By w x.bytes y.2
 sm:x.sm=msr (ats e y.2)
 tag:x.tag=y.1
 ne:y.2≠[]
 lo:-1<=y.1
 hi:y.1+y.2.length<=2^40
def Its (w:World) (e:Enc):List Pc->Parts->Prop
 |[],[]=>True
 |x::l,y::M=>Zw w e x y/\Its w e l M
 |_,_=>False
theorem Zw.upd {e:Enc}{x:Pc}{y:Int×Bs}(h:Zw w e x y) (u:Upd S w w') (hS:∀k,x.bytes.blk k->¬S k):Zw w' e x y:=⟨h.by_.upd u hS,h.sm,h.tag,h.ne,h.lo,h.hi⟩
theorem Its.upd {e:Enc}:∀{l:List Pc}{M:Parts},Its w e l M->Upd S w w'->(∀x∈l,∀k,x.bytes.blk k->¬S k)->Its w' e l M
 |[],[],_,_,_=>trivial
 |x::l,y::M,h,u,hS=>⟨h.1.upd u (hS x List.mem_cons_self),h.2.upd u λz hz=>hS z (List.mem_cons_of_mem _ hz)⟩
theorem Its.ext {e:Enc}{l:List Pc}{M:Parts}(h:Its w e l M) (x:Ext w w'):Its w' e l M:=h.upd x λ_ _ _ _=>id
theorem Its.len {e:Enc}:∀{l:List Pc}{M:Parts},Its w e l M->l.length=M.length
 |[],[],_=>rfl
 |x::l,y::M,h=>by simp [h.2.len]
theorem Its.app {e:Enc}:∀{l:List Pc}{M:Parts}{l':List Pc}{M':Parts},Its w e l M->Its w e l' M'->Its w e (l++l') (M++M')
 |[],[],_,_,_,h=>h
 |x::l,y::M,_,_,h,h'=>⟨h.1,h.2.app h'⟩
theorem Its.take {e:Enc}:∀{l:List Pc}{M:Parts}(n:Nat),Its w e l M->Its w e (l.take n) (M.take n)
 |[],[],n,_=>by simp [Its]
 |x::l,y::M,0,_=>trivial
 |x::l,y::M,n+1,h=>⟨h.1,h.2.take n⟩
theorem Its.drop {e:Enc}:∀{l:List Pc}{M:Parts}(n:Nat),Its w e l M->Its w e (l.drop n) (M.drop n)
 |[],[],n,_=>by simp [Its]
 |x::l,y::M,0,h=>h
 |x::l,y::M,n+1,h=>h.2.drop n
theorem Its.get {e:Enc}:∀{l:List Pc}{M:Parts}(n:Nat){x:Pc},Its w e l M->l[n]?=some x->∃y,M[n]?=some y/\Zw w e x y
 |x::l,y::M,0,z,h,hz=>⟨y,rfl,by cases hz;exact h.1⟩
 |x::l,y::M,n+1,z,h,hz=>h.2.get n (by simpa using hz)
theorem Its.ok {e:Enc}:∀{l:List Pc}{M:Parts},Its w e l M->Dz l
 |[],[],_=>λ_ h=>by cases h
 |x::l,y::M,h=>Dz.cons (by rw [h.1.sm];exact Qx (Ho e _)) h.2.ok
theorem Its.tot {e:Enc}:∀{l:List Pc}{M:Parts},Its w e l M->tot l=msr (aOf e M)
 |[],[],_=>rfl
 |x::l,y::M,h=>by
  show x.sm.add (Trx.tot l)=_
  rw [h.1.sm,h.2.tot,Iu,Qy (Ho e _) (Ji e M)]
theorem Its.fine {e:Enc}{l:List Pc}{M:Parts}(h:Its w e l M) (hs:szs (aOf e M)<2^59):Fine l:=by
 refine ⟨h.ok,?_,by rw [h.tot,Jy (Ji e M)];omega⟩
 have key:∀(l:List Pc) (M:Parts),Its w e l M->l.length<=szs (aOf e M):=by
  intro l
  induction l with
  |nil=>intro M _;simp
  | cons x l ih =>
   intro M h
   cases M with
   |nil=>exact h.elim
   |cons y M =>
    have h1:=ih M h.2
    have h2:=Jj e y.2
    have h3:=List.length_pos_iff.2 h.1.ne
    rw [Iu,Dl,List.length_cons];omega
 have:=key l M h
 omega
structure Txt (w:World) (p:Nat) (e:Enc) (lim na:Nat) (O:Nat->Prop) (M:Parts):Prop where
 ex:∃(t:Tr) (a:Sl) (ab:Bs),w.heap[p]?=some (.cells #[.int .i64 e.num,.int .i64 (lim:Int),.pointer t.ptr,.slice a.a a.len a.cap] 141 (0,0))/\t.In w/\Its w e t.items M/\Au w 0 a 5 1 (bv ab) /\
  (∀x∈t.items,∀k,x.bytes.blk k->a.blk k->top x.bytes<=top a)/\(∀x∈t.items,∀k,x.bytes.blk k->O k)/\(∀k,a.blk k->O k)/\a.len<=na
 lims:lim<=65536
 sz:szs (aOf e M)<=1048576
 op:O p
 own:∀k,O k->k<w.heap.size
variable {p:Nat}{e:Enc}{lim na:Nat}{O:Nat->Prop}{M:Parts}
theorem Txt.upd (h:Txt w p e lim na O M) (u:Upd S w w') (hS:∀k,O k->¬S k) (hN:Cc w S 186):Txt w' p e lim na O M:=by
 obtain ⟨t,a,ab,h1,h2,h3,h4,h5,h6,h7,h8⟩:=h.ex
 exact ⟨⟨t,a,ab,u.get h1 (hS p h.op),h2.ty u hN,h3.upd u λx hx k hk=>hS k (h6 x hx k hk),h4.upd u λk _ hk=>hS k (h7 k hk),h5,h6,h7,h8⟩,h.lims,h.sz,h.op,λk hk=>Nat.lt_of_lt_of_le (h.own k hk) u.size⟩
theorem Txt.ext (h:Txt w p e lim na O M) (x:Ext w w'):Txt w' p e lim na O M:=h.upd x (λ_ _=>id) λ_ hk=>hk.elim
theorem Xn:∀{l:As},Pv l->l.length<=szs l
 |[],_=>Nat.zero_le _
 |x::r,h=>by rw [Md,List.length_cons];have:=Xn h.tail;have:=h x List.mem_cons_self;omega
theorem Txt.few (h:Txt w p e lim na O M):(aOf e M).length<=1048576:=Nat.le_trans (Xn (Ji e M)) h.sz
theorem Txt.Bm5 (h:Txt w p e lim na O M):∃t:Tr,t.In w/\Its w e t.items M/\Fine t.items/\(∀{w'}{K:Addr->Cells.T c139->Wp},Ext w w'->K (at0 p) (t.ptr,()) w'->nn (some (at0 p)) (λq=>lds c139 (q.add 2) (K q)) w')/\∀x∈t.items,∀k,x.bytes.blk k->O k:=by
 obtain ⟨t,a,ab,h1,h2,h3,_,_,h6,_⟩:=h.ex
 refine ⟨t,h2,h3,h3.fine (by have:=h.sz;have:=h.lims;omega),λ{w'} {K} x hK=>Af ?_,h6⟩
 rw [addr_add]
 refine Gi (x.ext_get h1) (x:=(t.ptr,())) (λi v hv=>?_) hK
 match i,hv with
 |0,hv=>exact hv
 |i+1,hv=>cases hv
theorem Txt.tree (h:Txt w p e lim na O M):∃t:Tr,t.In w/\Its w e t.items M/\Fine t.items/\∀{w'}{K:Addr->Cells.T c139->Wp},Ext w w'->K (at0 p) (t.ptr,()) w'->nn (some (at0 p)) (λq=>lds c139 (q.add 2) (K q)) w':=by
 obtain ⟨t,h1,h2,h3,h4,_⟩:=h.Bm5
 exact ⟨t,h1,h2,h3,h4⟩
theorem Txt.enc (h:Txt w p e lim na O M){K:Addr->Int->Wp}(hK:K (at0 p) e.num w):nn (some (at0 p)) (λq=>ld (.int .i64) q (K q)) w:=by
 obtain ⟨t,a,ab,h1,_⟩:=h.ex
 exact Af (Ah h1 (x:=e.num) rfl hK)
theorem Aq5 (h:Txt w p e lim na O M){K:Int->Wp}(hK:∀w',Ext w w'->K (((aOf e M).length:Nat):Int) w') :
  Aa Tryz.prog 47 #[.pointer (some (at0 p))] rI K w:=by
 refine j47 ?_
 unfold F47
 obtain ⟨t,ht,hi,hf,rd⟩:=h.tree
 refine rd (Ext.refl w) (Ac5 ht λw1 e1=>?_)
 have:=hK w1 e1
 rw [←Uk (Ji e M),←hi.tot] at this
 exact this
theorem N9 (h:Txt w p e lim na O M){K:Int->Wp}(hK:∀w',Ext w w'->K ((szs (aOf e M):Nat):Int) w') :
  Aa Tryz.prog 69 #[.pointer (some (at0 p))] rI K w:=by
 refine j69 ?_
 unfold F69
 obtain ⟨t,ht,hi,hf,rd⟩:=h.tree
 refine rd (Ext.refl w) (Ac5 ht λw1 e1=>?_)
 have:=hK w1 e1
 rw [←Jy (Ji e M),←hi.tot] at this
 exact this
def At9 (e:Enc) (M:Parts) (at_ i n:Nat):Prop:=(at_=0/\i=0/\n=0)\/∃x,M[i]?=some x/\1<=n/\n<=(ats e x.2).length/\at_=(aOf e (M.take i)).length+n
theorem Bb7 (e:Enc):∀(M:Parts) (at_:Nat),1<=at_->at_<=(aOf e M).length->∃i n,i<M.length/\At9 e M at_ i n/\1<=n/\at_=(aOf e (M.take i)).length+n/\at_<=(aOf e (M.take (i+1))).length/\∀j,j<=i->(aOf e (M.take j)).length<at_
 |[],at_,h1,h2=>by simp [aOf] at h2;omega
 | x::M,at_,h1,h2=>by
  by_cases hle:at_<=(ats e x.2).length
  ·exact ⟨0,at_,by simp,.inr ⟨x,rfl,h1,hle,by simp [aOf]⟩,h1,by simp [aOf],by simpa [aOf] using hle,λj hj=>by
    have:j=0:=by omega
    subst this;simp [aOf];omega⟩
  ·rw [Iu,List.length_append] at h2
   obtain ⟨i,n,hi,hs,hn,he,hle2,hlow⟩:=Bb7 e M (at_-(ats e x.2).length) (by omega) (by omega)
   refine ⟨i+1,n,by simpa using hi,?_,hn,?_,?_,?_⟩
   ·rcases hs with ⟨h,_⟩|⟨y,hy,g1,g2,g3⟩
    ·omega
    ·exact .inr ⟨y,by simpa using hy,g1,g2,by rw [List.take_succ_cons,Iu,List.length_append];omega⟩
   ·rw [List.take_succ_cons,Iu,List.length_append];omega
   ·rw [List.take_succ_cons,Iu,List.length_append];omega
   ·intro j hj
    cases j with
    |zero=>simp [aOf];omega
    |succ j=>rw [List.take_succ_cons,Iu,List.length_append];have:=hlow j (by omega);omega
theorem Vg {at_:Int}(h:Txt w p e lim na O M) (hle:at_<=((aOf e M).length:Int)){K:Int×Int×Unit->Wp}
  (hK:∀(i n:Nat) w',At9 e M at_.toNat i n->i<=M.length->Ext w w'->K ((i:Int),(n:Int),()) w'):Aa Tryz.prog 120 #[.pointer (some (at0 p)),.int .i64 at_] (.tup [(.one (.int .i64)),(.one (.int .i64))]) K w:=by
 refine j120 ?_
 unfold F120
 have few:=h.few;have lim:=h.lims
 obtain ⟨t,ht,hi,hf,rd⟩:=h.tree
 refine Ac (λh=>hK 0 0 w (.inl ⟨?_,rfl,rfl⟩) (Nat.zero_le _) (Ext.refl w)) (λh=>?_)
 ·simp only [decide_eq_true_eq] at h;omega
 simp only [decide_eq_false_iff_not] at h
 obtain ⟨m,rfl⟩:∃m:Nat,at_=(m:Int):=⟨at_.toNat,by omega⟩
 obtain ⟨i,n,hil,hs,hn,he,hle2,hlow⟩:=Bb7 e M m (by omega) (by omega)
 have hlen:=hi.len
 have kk:∀j,keyOf 0 (tot (t.items.take j))=(aOf e (M.take j)).length:=λj=>by
  have:=(hi.take j).tot
  show (tot (t.items.take j)).atoms=_
  rw [this,Uk (Ji e _)]
 have hfind:Zk 0 m t.items=i+1:=Ar6 (by omega) (by rw [kk];exact hle2) λj hj=>by rw [kk];exact hlow j (by omega)
 refine rd (Ext.refl w) (Jf (k:=0) (n:=m) (by decide) (by omega) ht hf λw1 e1=>?_)
 have few2:=hf.few
 have ew:IntKind.wrap .i64 (((i+1:Nat):Int)-1)=(i:Int):=by rw [wrap64 (by omega) (by omega)];omega
 rw [hfind,ew]
 refine rd e1 (Ac3 (ht.ext e1) hf (by omega) λw2 e2=>?_)
 have ea:((smT (tot (t.items.take i))).1)=(((aOf e (M.take i)).length:Nat):Int):=by rw [←kk i];rfl
 rw [ea]
 have ew2:IntKind.wrap .i64 ((m:Int)-(((aOf e (M.take i)).length:Nat):Int))=(n:Int):=by rw [wrap64 (by omega) (by omega)];omega
 rw [ew2]
 exact hK i n w2 (by simpa using hs) (by omega) (e1.trans e2)
theorem Ac7 {e:Enc}{M:Parts}{at_ i n:Nat}(h:At9 e M at_ i n):(aOf e M).take at_=aOf e (M.take i)++(match M[i]? with|some x=>(ats e x.2).take n|none=>[]):=by
 rcases h with ⟨rfl,rfl,rfl⟩|⟨x,hx,h1,h2,rfl⟩
 ·cases M[0]?<;>simp [aOf]
 ·rw [hx]
  have hil:=(List.getElem?_eq_some_iff.1 hx).1
  have hd:M=M.take i++x::M.drop (i+1):=by
   have:=List.drop_eq_getElem_cons hil
   have hx':M[i]=x:=by rw [List.getElem?_eq_getElem hil] at hx;exact Option.some.inj hx
   rw [hx'] at this
   rw [←this,List.take_append_drop]
  have:aOf e M=aOf e (M.take i)++(ats e x.2++aOf e (M.drop (i+1))):=by
   conv=>lhs;rw [hd]
   rw [Jo,Iu]
  rw [this,List.take_length_add_append,List.take_append_of_le_length h2]
end
section
variable {w w':World}{S:Nat->Prop}{p:Nat}{e:Enc}{lim na:Nat}{O:Nat->Prop}{M:Parts}
theorem Txt.Ls (h:Txt w p e lim na O M):w.cell? (at0 p)=some (.int .i64 e.num):=by
 obtain ⟨t,a,ab,h1,_⟩:=h.ex
 exact cell_of h1 rfl
theorem Bf0 {l:As}(h:Pv l) (n:Nat):szs (l.take n)<=szs l:=by
 have:=Dl (l.take n) (l.drop n)
 rw [List.take_append_drop] at this;omega
theorem Aa3 {at_:Nat}(h:Txt w p e lim na O M) (hle:at_<=(aOf e M).length){K:Cells.T Bf->Wp}(hK:∀w',Ext w w'->K (smT (msr ((aOf e M).take at_))) w') :
  Aa Tryz.prog 119 #[.pointer (some (at0 p)),.int .i64 (at_:Int)] (.one (.agg Bf)) K w:=by
 refine j119 ?_
 unfold F119
 have few:=h.few;have lims:=h.lims;have hsz:=h.sz
 obtain ⟨t,ht,hi,hf,rd⟩:=h.tree
 let z1:Nat->Nat×Obj:=λb=>(b,.cells #[(.int .i64 (0:Int)),(.int .i64 (0:Int)),(.int .i64 (0:Int)),(.bool false),(.bool false)] 144 (0,0))
 refine (St.start w).Ad λb1 w1 S1 e1=>Vg (h.ext e1) (by omega) λi n w2 hs hil e2=>?_
 rw [Int.toNat_natCast] at hs
 have S2:=S1.ext e2
 have hn:n<2^30:=by
  rcases hs with ⟨_,_,hn⟩|⟨x,hx,h1,h2,h3⟩
  ·omega
  ·omega
 have il:=hi.len
 have fl:=hf.few
 refine rd S2.upd (Ac3 (ht.ext S2.upd) hf (by omega) λw3 e3=>?_)
 have etk:tot (t.items.take i)=msr (aOf e (M.take i)):=(hi.take i).tot
 rw [etk]
 refine (S2.ext e3).Ad λb6 w4 S4 e4=>S4.Ae 0 rfl rfl rfl rfl λw5 S5 u5=>?_
 refine Ag (λ_ w'=>St (λ_=>False) w w' [(b6,.cells (Cells.vals Bf (smT (msr ((aOf e M).take at_)))).toArray 144 (0,0)),z1 b1]) ?_ ?_
 ·refine rd S5.upd (Al6 (ht.ext S5.upd) hf (by omega) λw6 e6=>?_)
  refine (S5.ext e6).Ad λb12 w7 S7 e7=>S7.Ae 0 rfl rfl rfl rfl λw8 S8 u8=>?_
  have tk:=Ac7 hs
  cases hx:t.items[i]? with
  |none =>
   have hM:M[i]?=none:=List.getElem?_eq_none (by have:=List.getElem?_eq_none_iff.1 hx;omega)
   have e0:atI t.items i=(Pc.zero,false):=by unfold atI;rw [hx]
   rw [e0] at S8 ⊢
   rw [hM] at tk
   refine Ac (λh=>by cases h) (λ_=>?_)
   rw [tk,List.append_nil]
   exact S8.tail
  | some x =>
   have e0:atI t.items i=(x,true):=by unfold atI;rw [hx]
   rw [e0] at S8 ⊢
   obtain ⟨y,hy,hp⟩:=hi.get i hx
   rw [hy] at tk
   have hyl:y.2.length<=1048576:=by
    have h1:y∈M:=List.mem_of_getElem? hy
    have h2:szs (aOf e M)=szs (aOf e (M.take i))+(y.2.length+szs (aOf e (M.drop (i+1)))):=by
     have hil:=(List.getElem?_eq_some_iff.1 hy).1
     have hd:=List.drop_eq_getElem_cons hil
     have hx':M[i]=y:=by rw [List.getElem?_eq_getElem hil] at hy;exact Option.some.inj hy
     rw [hx'] at hd
     conv=>lhs;rw [←List.take_append_drop i M,hd]
     rw [Jo,Iu,Dl,Dl,Jj]
    omega
   have hlo:=hp.lo;have hhi:=hp.hi
   refine Ac (λ_=>?_) (λh=>by cases h)
   have hT:=h
   have S:=S8
   refine Ag (λs W=>∃b,s.1=at0 b/\W.heap[b]?=some (.cells (Cells.vals c146 (pcT (Po e x y.2 n))).toArray 146 (0,0))/\St (λ_=>False) w W [(b12,.cells (Cells.vals c146 (pcT x)).toArray 146 (0,0)),(b6,.cells (Cells.vals Bf (smT (msr (aOf e (M.take i))))).toArray 144 (0,0)),z1 b1]) ?_ ?_
   ·refine S.drew λw9 S e9 _=>S.lds 0 (pcT x) rfl ((hT.ext S.upd).enc ?_)
    exact ⟨S.Ad λb18 wx S ex=>Ar (hT.ext S.upd).Ls (S.keeps 1 rfl (⟨S.Ad λb19 wx S ex=>Ar (hT.ext S.upd).Ls (S.keeps 2 rfl (Fq (hp.by_.ext S.upd) (by omega) (by rw [hp.tag];omega) (by omega) λwx ex=>(λS=>S.Ae 1 rfl rfl rfl rfl λwx S ux=>S.Ae 0 rfl rfl rfl rfl λwx S ux=>⟨b18,rfl,S.at_ 1 rfl,S.tail.tail⟩) (S.ext ex))),Fq (hp.by_.ext S.upd) (by omega) (by rw [hp.tag];omega) (by omega) λwx ex=>(λS=>⟨S.Ad λb22 wx S ex=>Ar (hT.ext S.upd).Ls (S.keeps 2 rfl (S.Ae 1 rfl rfl rfl rfl λwx S ux=>S.Ae 0 rfl rfl rfl rfl λwx S ux=>⟨b18,rfl,S.at_ 1 rfl,S.tail.tail⟩)),trivial⟩) (S.ext ex)⟩)),⟨S.Ad λb23 wx S ex=>Ar (hT.ext S.upd).Ls (S.keeps 1 rfl (⟨S.Ad λb24 wx S ex=>Ar (hT.ext S.upd).Ls (S.keeps 2 rfl (Fq (hp.by_.ext S.upd) (by omega) (by rw [hp.tag];omega) (by omega) λwx ex=>(λS=>S.Ae 0 rfl rfl rfl rfl λwx S ux=>S.Ae 1 rfl rfl rfl rfl λwx S ux=>⟨b24,rfl,S.at_ 0 rfl,S.tail.tail⟩) (S.ext ex))),Fq (hp.by_.ext S.upd) (by omega) (by rw [hp.tag];omega) (by omega) λwx ex=>(λS=>⟨S.Ad λb27 wx S ex=>Ar (hT.ext S.upd).Ls (S.keeps 2 rfl (S.Ae 0 rfl rfl rfl rfl λwx S ux=>S.Ae 1 rfl rfl rfl rfl λwx S ux=>⟨b27,rfl,S.at_ 0 rfl,S.tail.tail⟩)),trivial⟩) (S.ext ex)⟩)),Fq (hp.by_.ext S.upd) (by omega) (by rw [hp.tag];omega) (by omega) λwx ex=>(λS=>⟨S.Ad λb29 wx S ex=>Ar (hT.ext S.upd).Ls (S.keeps 1 rfl (⟨S.Ad λb30 wx S ex=>Ar (hT.ext S.upd).Ls (S.keeps 2 rfl (S.Ae 1 rfl rfl rfl rfl λwx S ux=>S.Ae 0 rfl rfl rfl rfl λwx S ux=>⟨b29,rfl,S.at_ 1 rfl,S.tail.tail⟩)),trivial⟩)),⟨S.Ad λb31 wx S ex=>Ar (hT.ext S.upd).Ls (S.keeps 1 rfl (⟨S.Ad λb32 wx S ex=>Ar (hT.ext S.upd).Ls (S.keeps 2 rfl (S.Ae 0 rfl rfl rfl rfl λwx S ux=>S.Ae 1 rfl rfl rfl rfl λwx S ux=>⟨b32,rfl,S.at_ 0 rfl,S.tail.tail⟩)),trivial⟩)),trivial⟩⟩) (S.ext ex)⟩⟩
   ·rintro ⟨_,_⟩ w9 ⟨b,rfl,hb,S9⟩
    refine S9.lds 1 (smT (msr (aOf e (M.take i)))) rfl ?_
    dsimp only
    rw [addr_add]
    refine Gi hb (x:=smT (Po e x y.2 n).sm) (λj v hv=>?_) ?_
    ·match j,hv with
     |0,hv=>exact hv
     |1,hv=>exact hv
     |2,hv=>exact hv
     |3,hv=>exact hv
     |4,hv=>exact hv
     |j+5,hv=>cases hv
    have hsm:(Po e x y.2 n).sm=msr ((ats e y.2).take n):=by
     show msr (ats e (y.2.take (cutAt e y.2 n)))=_
     unfold cutAt
     rw [(Ro e n y.2).1]
    rw [hsm]
    have p1:=Ji e (M.take i)
    have p2:=(Ho e y.2).take n
    refine Aa4 (Qx p1) (Qx p2) ?_ λw10 e10=>?_
    ·have h3:=Bf0 (Ji e M) at_
     rw [tk,Dl] at h3
     rw [Jy p1,Jy p2]
     dsimp only at h3
     omega
    have S10:=S9.ext e10
    rw [←Qy p1 p2]
    dsimp only at tk
    rw [←tk]
    exact S10.Ae 1 rfl rfl rfl rfl λw11 S11 u11=>S11.tail
 ·intro _ w6 S6
  exact S6.lds 0 (smT _) rfl (S6.Ae 1 rfl rfl rfl rfl λw7 S7 u7=>S7.lds 1 (smT _) rfl (hK w7 S7.upd))
end
section
variable {w w':World}{S:Nat->Prop}{p:Nat}{e:Enc}{lim na:Nat}{O:Nat->Prop}{M:Parts}
theorem _root_.Go.Vx.Upd.Et {b k:Nat}{o:Obj}(u:Upd (λk=>k=b) w w') (h:w.heap[k]?=some o) (hn:k≠b):w'.heap[k]?=some o:=u.get h hn
theorem Ri {W:World}{b:Nat}{c:Array Value}{t:TypeId}(h:W.heap[b]?=some (.cells c t (0,0))) (hp:By1 (.cells c t (0,0))=false){W':World}(u:Upd (λk=>k=b) W W'):Eb W W' :=
 Eb.upd u λk hk o ho=>by subst hk;rw [h] at ho;cases ho;exact hp
structure WAt (w:World) (p:Nat) (e:Enc) (lim na:Nat) (O:Nat->Prop) (M:Parts) (its:List Pc) (b1 b2 b7 b8 N n cnt:Nat) (f:Value) (Inv:Nat->Nat->Wp) (c:Nat) (W:World):Prop where
 inv:Inv N (c-n) W
 lt:c-n<cnt
 txt:Txt W p e lim na O M
 its:Its W e its M
 size:N<=W.heap.size
 h1:W.heap[b1]?=some (.cells #[.pointer (some (at0 p))] 51 (0,0))
 h2:W.heap[b2]?=some (.cells #[f] 313 (0,0))
 h7:W.heap[b7]?=some (.cells #[.int .i64 ((n-c:Nat):Int)] 3 (0,0))
 h8:W.heap[b8]?=some (.cells #[.int .i64 ((cnt-(c-n):Nat):Int)] 3 (0,0))
end
section
variable {w w':World}{S:Nat->Prop}{p:Nat}{e:Enc}{lim na:Nat}{O:Nat->Prop}{M:Parts}
abbrev iv (l:List Int):List Value:=l.map (Value.int .i64)
end
section
variable {w w':World}{S:Nat->Prop}{p:Nat}{e:Enc}{lim na:Nat}{O:Nat->Prop}{M:Parts}
theorem Pq:Ie Tryz.prog 165 146 7 64:=Ie.of (z:=.agg #[.slice none 0 0,.int .i64 0,.int .i64 0,.int .i64 0,.int .i64 0,.bool false,.bool false]) Co2 Co4 rfl rfl rfl (by decide)
def bOf (M:Parts):Bs:=M.flatMap λx=>x.2
theorem Xk (M N:Parts):bOf (M++N)=bOf M++bOf N:=by simp [bOf]
theorem Aa6 (x:Pc):∀v∈flat c146 [pcT x],Du v=true:=by
 intro v hv
 rw [Ar4] at hv
 have:v∈(Cells.vals c146 (pcT x)):=hv
 revert this
 show v∈[_,_,_,_,_,_,_]->_
 intro h
 simp only [List.mem_cons,List.not_mem_nil,or_false] at h
 rcases h with rfl|rfl|rfl|rfl|rfl|rfl|rfl<;>rfl
set_option maxHeartbeats 1000000 in
theorem Qe {s:Sl}{l:Bs}(hB:By w s l) (hl:l.length<=lim) (hlim:lim<=65536){K:Option Addr×Int×Unit->Wp}
  (hK:∀p O M w',Txt w' p e lim 0 O M->aOf e M=ats e l->bOf M=l->Ext w w'->(∀k,O k->w.heap.size<=k)->K (some (at0 p),0,()) w') :
  Aa Tryz.prog 48 #[.int .i64 e.num,s.v,.int .i64 (lim:Int)] (.tup [(.one .ptr),(.one (.int .i64))]) K w:=by
 refine j48 ?_
 unfold F48
 have hlen:=hB.len
 have hen:1<=e.num/\e.num<=4:=by cases e<;>decide
 refine Ag (λx w'=>x=(false,())/\w=w') (Ac (λh=>?_) (λh=>⟨by rw [decide_eq_false (by omega)],rfl⟩)) ?_
 ·simp only [decide_eq_true_eq] at h;omega
 rintro _ _ ⟨rfl,rfl⟩
 refine Ap (Ag (λx w'=>x=(false,())/\w=w') (Ac (λh=>?_) (λh=>⟨by rw [decide_eq_false (by omega)],rfl⟩)) ?_)
 ·simp only [decide_eq_true_eq] at h;omega
 rintro _ _ ⟨rfl,rfl⟩
 refine Ap (Ac (λh=>?_) (λ_=>?_))
 ·simp only [decide_eq_true_eq,gt_iff_lt] at h;omega
 refine Zc EBy.ts_ C5 (z:=.int .u8 0) rfl rfl (by omega) (by show ((s.len:Nat):Int)*1<=2^48;omega) (by omega) λb w1 c n1 hc1 _ e1 hb1=>?_
 rw [Int.toNat_natCast] at hc1 ⊢
 have hc1':c.size=s.len:=by rw [hc1];show s.len*1=_;omega
 refine Bt0 (off:=0) EBy.ts_ C5.Gh n1 (by rw [List.length_map];omega) (hB.ext e1).x (Nat.le_refl _) (Rn l) λw2 n2 u2 _=>?_
 rw [Wi (bv l) c (by rw [List.length_map];omega)] at n2
 have e2:Ext w w2:=e1.step u2 λk hk=>by omega
 have hL:By w2 ⟨some (at0 b),s.len,s.len⟩ l:=by
  have:=Cj.Jq n2 (n:=s.len) (sz:=1) (by simp;omega)
  simpa using this
 refine (St.start w2).Ad λb7 w3 S3 e3=>?_
 have hb7:=S3.ge 0 rfl
 let Zt:Option Addr->Obj:=λq=>.cells #[.int .i64 e.num,.int .i64 (lim:Int),.pointer q,.slice none 0 0] 141 (0,0)
 let Lp:Nat->Sl->World->Prop:=λj r W=>∃(its:List Pc) (M:Parts),St (λ_=>False) w2 W [(b7,Zt none)]/\Au W w3.heap.size r 146 7 (flat c146 (its.map pcT))/\Its W e its M/\aOf e M=(ats e l).take j/\bOf M=l.take (szs ((ats e l).take j)) /\
  (∀x∈its,∀k,x.bytes.blk k->k=b)/\By W ⟨some (at0 b),s.len,s.len⟩ l/\its.length<=j/\w3.heap.size<=W.heap.size
 have hne:∀{r:Sl} {its:List Pc} {W:World},Au W w3.heap.size r 146 7 (flat c146 (its.map pcT))->its.length=r.len:=λho=>by
  have:=Au.Oi (cs:=c146) ho (by decide)
  rwa [List.length_map] at this
 refine Ag (λx W=>∃j,Lp j x.1 W/\(ats e l).take j=ats e l) ?_ ?_
 ·refine Bz (λx W=>∃j,j<=(ats e l).length/\x.2=(((szs ((ats e l).take j):Nat):Int),())/\Lp j x.1 W) (λx _=>((l.length:Int)-x.2.1).toNat) ⟨0,Nat.zero_le _,rfl,[],[],S3,Au.nil _ _ _ _,trivial,rfl,rfl,(λ_ h=>by cases h),hL.ext e3,Nat.le_refl _,Nat.le_refl _⟩ ?_
  rintro ⟨r,_⟩ W4 ⟨j,hj,rfl,its,M,S4,ho,hi,ha,hb,hk,hL4,hil,hW4⟩
  have hsj:szs ((ats e l).take j)<=l.length:=Ai9 j
  dsimp only at ho ⊢
  refine Ac (λhc=>?_) (λhc=>?_)
  ·simp only [decide_eq_true_eq] at hc
   have hc':szs ((ats e l).take j)<l.length:=by omega
   refine Ag (λx W=>∃q,1<=q/\j+q<=(ats e l).length/\x=(((szs ((ats e l).take (j+q)):Nat):Int),())/\Ext W4 W) ?_ ?_
   ·refine Bz (λx W=>∃q,j+q<=(ats e l).length/\q<=128/\x=(((szs ((ats e l).take (j+q)):Nat):Int),(q:Int),())/\Ext W4 W) (λx _=>((l.length:Int)-x.1).toNat) ⟨0,by omega,by omega,rfl,Ext.refl W4⟩ ?_
    rintro _ W5 ⟨q,hq,hq2,rfl,x5⟩
    have hsq:szs ((ats e l).take (j+q))<=l.length:=Ai9 _
    refine Ag (λx W=>x=(decide (szs ((ats e l).take (j+q))<l.length/\q<128),())/\W5=W) ?_ ?_
    ·refine Ac (λh=>⟨Dx ?_,rfl⟩) (λh=>⟨Dx ?_,rfl⟩)
     ·simp only [decide_eq_true_eq] at h ⊢;omega
     ·simp only [decide_eq_false_iff_not,decide_eq_true_eq] at h ⊢
      exact ⟨(λh=>by cases h),λh=>by omega⟩
    rintro _ W6 ⟨rfl,rfl⟩
    refine Ac (λh=>?_) (λh=>?_)
    ·simp only [decide_eq_true_eq] at h
     obtain ⟨a,m,hqa,hnx,htk,hss,hm1,hsl⟩:=P7 (e:=e) (l:=l) (j:=j+q) h.1
     have hql:j+q<(ats e l).length:=(List.getElem?_eq_some_iff.1 hqa).1
     refine Xx (hL4.ext x5) h.1 λW7 x7=>?_
     rw [hnx]
     have ewa:IntKind.wrap .i64 (((szs ((ats e l).take (j+q)):Nat):Int)+(m:Int))=((szs ((ats e l).take (j+q+1)):Nat):Int):=by rw [wrap64 (by omega) (by omega)];omega
     have ewb:IntKind.wrap .i64 ((q:Int)+1)=((q+1:Nat):Int):=by rw [wrap64 (by omega) (by omega)];omega
     refine ⟨⟨q+1,by omega,by omega,by dsimp only;rw [ewa,ewb];rfl,x5.trans x7⟩,?_⟩
     dsimp only
     rw [ewa];omega
    ·refine ⟨q,?_,hq,rfl,x5⟩
     rcases Nat.eq_zero_or_pos q with h0|h0
     ·subst h0
      have h':¬(szs ((ats e l).take (j+0))<l.length/\0<128):=λhh=>by rw [decide_eq_true hh] at h;cases h
      exact absurd ⟨hc',by decide⟩ h'
     ·exact h0
   ·rintro _ W5 ⟨q,hq1,hjq,rfl,x5⟩
    have S5:=S4.ext x5
    have hsq:szs ((ats e l).take (j+q))<=l.length:=Ai9 _
    have hadd:szs ((ats e l).take (j+q))=szs ((ats e l).take j)+szs (((ats e l).drop j).take q):=by rw [List.take_add,Dl]
    have hpq:=((Ho e l).drop j).take q
    have hqpos:1<=szs (((ats e l).drop j).take q):=by
     have:=Xn hpq
     rw [List.length_take,List.length_drop] at this;omega
    obtain ⟨pb,hpb⟩:∃pb:Bs,pb=(l.drop (szs ((ats e l).take j))).take (szs (((ats e l).drop j).take q)):=⟨_,rfl⟩
    have hpa:ats e pb=((ats e l).drop j).take q:=by
     have h1:=(Ro e j l).2
     have h2:=(Ro e q (l.drop (szs ((ats e l).take j)))).1
     rw [h1] at h2
     rw [hpb];exact h2
    have hpl:pb.length=szs (((ats e l).drop j).take q):=by rw [←hpa,Jj]
    have hL5:=hL4.ext x5
    have hcut:=By.cut hL5 (l:=((szs ((ats e l).take j):Nat):Int)) (h:=((szs ((ats e l).take (j+q)):Nat):Int)) (m:=((szs ((ats e l).take (j+q)):Nat):Int)) (by omega) (by omega) (by show _<=((s.len:Nat):Int);omega) (by omega) (by show _<=((s.len:Nat):Int);omega)
    have hcb:(l.drop ((szs ((ats e l).take j):Nat):Int).toNat).take (((szs ((ats e l).take (j+q)):Nat):Int).toNat-((szs ((ats e l).take j):Nat):Int).toNat)=pb:=by
     rw [hpb,Int.toNat_natCast,Int.toNat_natCast,hadd,Nat.add_sub_cancel_left]
    rw [hcb] at hcut
    refine Gf (by omega) (Ns hcut (by omega) λW6 x6=>?_)
    have S6:=S5.ext x6
    refine S6.Ad λb21 W7 S7 x7=>?_
    have x47:=(x5.trans x6).trans x7
    have hrl:=hne ho
    have hi7:Its W7 e its M:=hi.ext x47
    have hx:Zw W7 e (Vk e (Sl.cut (some (at0 b)) ((szs ((ats e l).take j):Nat):Int) ((szs ((ats e l).take (j+q)):Nat):Int) ((szs ((ats e l).take (j+q)):Nat):Int) 1) ((szs ((ats e l).take j):Nat):Int) pb) (((szs ((ats e l).take j):Nat):Int),pb) :=
     ⟨hcut.ext (x6.trans x7),rfl,rfl,λh0=>by have h0':pb=[]:=h0;rw [h0'] at hpl;simp at hpl;omega,by show -1<=((szs ((ats e l).take j):Nat):Int);omega,by show ((szs ((ats e l).take j):Nat):Int)+(pb.length:Int)<=2^40;omega⟩
    generalize hpc:Vk e (Sl.cut (some (at0 b)) ((szs ((ats e l).take j):Nat):Int) ((szs ((ats e l).take (j+q)):Nat):Int) ((szs ((ats e l).take (j+q)):Nat):Int) 1) ((szs ((ats e l).take j):Nat):Int) pb=xp at *
    have hxb:∀k,xp.bytes.blk k->k=b:=by
     rw [←hpc]
     rintro k hk
     obtain ⟨pp,hp1,hp2⟩:=Um (s:=⟨some (at0 b),s.len,s.len⟩) hk
     cases hp1;exact hp2.symm
    have hbox:SlX W7 ⟨some (at0 b21),1,1⟩ 7 (flat c146 [pcT xp]):=by
     have:=Cj.Jq (S7.at_ 0 rfl) (n:=1) (sz:=7) rfl
     exact this.x
    refine Fg Pq Pq.ts_ (x:=⟨some (at0 b21),1,1⟩) (ho.ext x47) hbox (Aa6 xp) (by
     show (r.len+1+(r.len+1)/4+512)*64<=2^48
     have:=Xn (Ho e l)
     rw [Jj] at this
     omega) (by have:=x47.size;omega) λr' W8 o8 l8 u8 k8=>?_
    have hty:∀{t':TypeId},146≠t'->Cc W7 r.blk t':=λht=>Cc.blk (ho.ext x47).in ht
    have st8:St (λ_=>False) w2 W8 [(b7,Zt none)]:=by
     refine S7.tail.fresh u8 (λk hk=>.inr ?_) (λx hx hk=>?_)
     ·have:=ho.Ew hk;have:=e3.size;omega
     ·rw [List.mem_singleton.1 hx] at hk
      exact hty (by decide) _ hk _ _ (S7.at_ 1 rfl)
    have e8:flat c146 (its.map pcT)++flat c146 [pcT xp]=flat c146 ((its++[xp]).map pcT):=by rw [List.map_append,Nb];rfl
    rw [e8] at o8
    have hi8:Its W8 e (its++[xp]) (M++[(((szs ((ats e l).take j):Nat):Int),pb)]):=by
     have h9:Its W7 e (its++[xp]) (M++[(((szs ((ats e l).take j):Nat):Int),pb)]):=hi7.app ⟨hx,trivial⟩
     refine h9.upd u8 λx hx k hk hS=>?_
     obtain ⟨y,hy⟩:∃y,Zw W7 e x y:=by
      obtain ⟨n,hn⟩:=List.getElem?_of_mem hx
      obtain ⟨y,_,hy⟩:=h9.get n hn
      exact ⟨y,hy⟩
     obtain ⟨c2,fr2,hc2⟩:=hy.by_.Bc hk
     exact hty (t':=5) (by decide) k hS _ _ hc2
    refine ⟨⟨j+q,hjq,rfl,its++[xp],M++[_],st8,o8,hi8,?_,?_,?_,?_,?_,?_⟩,?_⟩
    ·rw [Jo,ha,List.take_add]
     show _++aOf e [_]=_
     simp only [aOf,List.flatMap_cons,List.flatMap_nil,List.append_nil]
     rw [hpa]
    ·rw [Xk,hb,hadd,List.take_add]
     show _++bOf [_]=_
     simp only [bOf,List.flatMap_cons,List.flatMap_nil,List.append_nil]
     rw [hpb]
    ·intro x hx k hkk
     rcases List.mem_append.1 hx with hx|hx
     ·exact hk x hx k hkk
     ·rw [List.mem_singleton.1 hx] at hkk;exact hxb k hkk
    ·exact Cj.ty (hL5.ext (x6.trans x7)) u8 (hty (by decide))
    ·rw [List.length_append];simp;omega
    ·have:=u8.size;have:=x47.size;omega
    ·dsimp only
     omega
  ·simp only [decide_eq_false_iff_not] at hc
   have:=Aj0 (e:=e) (l:=l) (j:=j) (by omega)
   exact ⟨j,⟨its,M,S4,ho,hi,ha,hb,hk,hL4,hil,hW4⟩,this⟩
 ·rintro ⟨r,_⟩ W4 ⟨j,⟨its,M,S4,ho,hi,ha,hb,hk,hL4,hil,hW4⟩,hj⟩
  rw [hj] at ha hb
  have hM:szs (aOf e M)=l.length:=by rw [ha,Jj]
  have hfine:=hi.fine (by omega)
  refine Am9 (l:=its) ho.in hfine λt W5 ht hti x5=>Af ?_
  have S5:=S4.ext x5
  rw [addr_add]
  refine Fb (S5.at_ 0 rfl) rfl rfl (by show 0+2+1<=4;decide) λW6 u56 n6' z6=>?_
  have n6:W6.heap[b7]?=some (Zt t.ptr):=n6'
  have hb0:w.heap.size<=b:=by omega
  have hb0':w.heap.size<=b7:=by have:=e2.size;omega
  have e06:Ext w W6:=(e2.trans S5.upd).step u56 λk hk=>by omega
  refine hK b7 (λk=>k=b\/k=b7) M W6 ⟨⟨t,⟨none,0,0⟩,[],n6,?_,?_,Au.nil _ _ _ _,?_,?_,?_,Nat.le_refl _⟩,hlim,by omega,.inr rfl,?_⟩ ha (by rw [hb,Jj];exact List.take_length) e06 (by rintro k (rfl|rfl)<;>assumption)
  ·exact ht.ty u56 (Cc.box (S5.at_ 0 rfl) (by decide))
  ·rw [hti]
   refine (hi.ext x5).upd u56 λx hx k hkk he=>?_
   have:=hk x hx k hkk
   have hbl:=lt_of_heap n2
   omega
  ·rintro x hx k hkk ⟨q,hq,_⟩;cases hq
  ·intro x hx k hkk
   rw [hti] at hx
   exact .inl (hk x hx k hkk)
  ·rintro k ⟨q,hq,_⟩;cases hq
  ·have hbl:=lt_of_heap n2
   have h7:=lt_of_heap n6
   have:=S5.upd.size
   rintro k (rfl|rfl)<;>omega
end
section
variable {w w':World}{S:Nat->Prop}{p:Nat}{e:Enc}{lim na:Nat}{O:Nat->Prop}{M:Parts}
theorem Xj (e:Enc):∀M:Parts,(bOf M).length=szs (aOf e M)
 |[]=>rfl
 |x::M=>by
  show (x.2++bOf M).length=szs (ats e x.2++aOf e M)
  rw [List.length_append,Dl,Jj,Xj e M]
theorem Bw6 {c:Array Value}{l:List Value}(hs:c.size=l.length) (h:∀(i:Nat) (v:Value),l[i]?=some v->c[i]?=some v):c.toList=l:=by
 refine List.ext_getElem? λi=>?_
 rw [Array.getElem?_toList]
 cases hl:l[i]? with
 |some v=>exact h i v hl
 |none =>
  rw [List.getElem?_eq_none_iff] at hl
  exact Array.getElem?_eq_none (by omega)
set_option maxHeartbeats 1000000 in
theorem Aa1 (h:Txt w p e lim na O M){K:Sl->Wp}(hK:∀s w',By w' s (bOf M)->Ext w w'->K s w') :
  Aa Tryz.prog 39 #[.pointer (some (at0 p))] rS K w:=by
 refine j39 ?_
 unfold F39
 have few:=h.few;have lims:=h.lims;have hsz:=h.sz
 obtain ⟨t,ht,hi,hf,rd,hOt⟩:=h.Bm5
 have il:=hi.len;have fl:=hf.few
 have hbl:=Xj e M
 obtain ⟨n,hn⟩:∃n,szs (aOf e M)=n:=⟨_,rfl⟩
 rw [hn] at hbl hsz
 refine N9 h λw1 e1=>?_
 rw [hn]
 refine Zc EBy.ts_ C5 (z:=.int .u8 0) rfl rfl (by omega) (by show ((n:Nat):Int)*1<=2^48;omega) (by omega) λbO w2 c0 n2 hc2 _ e2 hbO=>?_
 rw [Int.toNat_natCast] at hc2 ⊢
 have hc2':c0.size=n:=by rw [hc2];show n*1=_;omega
 have x2:=e1.trans e2
 have hbOl:=lt_of_heap n2
 have hbOg:w.heap.size<=bO:=by have:=e1.size;omega
 refine (St.start w2).Ad λb3 w3 S3 e3=>S3.stC 0 rfl (by decide) λw4 S4 u4=>S4.Ad λb4 w5 S5 e5=>S5.stC 0 rfl (by decide) λw6 S6 u6=>rd (x2.trans S6.upd) ?_
 refine j70 (a0:=(t.ptr,())) ?_
 unfold F70
 refine S6.Ad λc1 w9 S9 e9=>S9.Ad λc2 w10 S10 e10=>?_
 have hx10:Ext w w10:=x2.trans S10.upd
 have hsz10:=hx10.size
 have g3:=S10.ge 3 rfl
 have g4:=S10.ge 2 rfl
 have l3:=lt_of_heap (S10.at_ 3 rfl)
 have l4:=lt_of_heap (S10.at_ 2 rfl)
 have hz2:=S10.upd.size
 have nd:[c2,c1,b4,b3].Nodup:=S10.nd
 simp only [List.nodup_cons,List.mem_cons,List.not_mem_nil,or_false,not_or] at nd
 let At:Nat->World->Prop:=λj W=>Ext w W/\w10.heap.size+2<=W.heap.size/\(∃cc:Array Value,W.heap[bO]?=some (.cells cc 5 (0,0))/\cc.size=n/\∀(i:Nat) (v:Value),(bv (bOf (M.take j)))[i]?=some v->cc[i]?=some v)/\W.heap[b3]?=some (.cells #[.slice (some (at0 bO)) n n] 30 (0,0))/\W.heap[b4]?=some (.cells #[.int .i64 ((bOf (M.take j)).length:Int)] 3 (0,0))
 refine Zh (n:=0) (λ_=>rfl) (S10.at_ 1 rfl) (S10.at_ 0 rfl) (ht.ext hx10) hf (by omega) At (λ_ _=>False) ?_ ?_ ?_ ?_ ?_
 ·intro W x hW
  refine ⟨hx10.trans x,hW,⟨c0,x.ext_get (S10.upd.ext_get n2),hc2',λi v hv=>by simp [bOf] at hv⟩,x.ext_get (S10.at_ 3 rfl),x.ext_get (S10.at_ 2 rfl)⟩
 ·rintro j W W' ⟨a1,a2,⟨cc,a3,a4,a5⟩,a6,a7⟩ x
  exact ⟨a1.trans x,Nat.le_trans a2 x.size,⟨cc,x.ext_get a3,a4,a5⟩,x.ext_get a6,x.ext_get a7⟩
 ·rintro rc j x R W hj ⟨a1,a2,⟨cc,a3,a4,a5⟩,a6,a7⟩ hr hRt _
  have hxi:t.items[j]?=some x:=hj
  obtain ⟨y,hy,hp⟩:=(hi.ext a1).get j hxi
  have hM1:bOf (M.take (j+1))=bOf (M.take j)++y.2:=by
   rw [List.take_add_one,hy,Option.toList_some,Xk]
   simp [bOf]
  have hMl:(bOf (M.take (j+1))).length<=n:=by
   rw [←hbl]
   have h1:bOf M=bOf (M.take (j+1))++bOf (M.drop (j+1)):=by rw [←Xk,List.take_append_drop]
   rw [h1,List.length_append];omega
  rw [hM1,List.length_append] at hMl
  have hxl:=hp.by_.len
  have hy0:0<y.2.length:=List.length_pos_iff.2 hp.ne
  obtain ⟨k,hk⟩:∃k,(bOf (M.take j)).length=k:=⟨_,rfl⟩
  rw [hk] at hMl a7
  refine (St.start W).Ia rfl rfl rfl λb13 W1 T1 y1=>⟨y1.ext_get hr,?_⟩
  have g13:=T1.ge 0 rfl
  have r1:=y1.ext_get hr
  obtain ⟨u2,r2⟩:=Dt (o':=.loop (rc .busy none)) r1
  have s2:Eb W1 (W1.putObj (w10.heap.size+1) (.loop (rc .busy none))):=Eb.upd u2 λk hk o ho=>by subst hk;rw [r1] at ho;cases ho;rfl
  have q2:Ext w (W1.putObj (w10.heap.size+1) (.loop (rc .busy none))):=(a1.trans y1).step u2 λk hk=>by omega
  have m13:=u2.Et (T1.at_ 0 rfl) (by omega)
  have m3:=u2.Et (y1.ext_get a6) (by omega)
  have m4:=u2.Et (y1.ext_get a7) (by omega)
  have mO:=u2.Et (y1.ext_get a3) (by omega)
  have z1:=y1.size
  have z2:=u2.size
  generalize W1.putObj (w10.heap.size+1) (.loop (rc .busy none))=W2 at *
  refine Dh λW4 y4 _=>?_
  have q4:=q2.trans y4
  refine Ah (y4.ext_get m4) (x:=(k:Int)) rfl (Ah (y4.ext_get m3) (x:=⟨some (at0 bO),n,n⟩) rfl (Ah (y4.ext_get m4) (x:=(k:Int)) rfl (Gf (by show 0<=(k:Int)/\(k:Int)<=((n:Nat):Int)/\((n:Nat):Int)<=((n:Nat):Int)/\((n:Nat):Int)<=((n:Nat):Int);omega) ?_)))
  have ecut:Sl.cut (some (at0 bO)) (k:Int) ((n:Nat):Int) ((n:Nat):Int) 1=⟨some ⟨bO,k,none⟩,n-k,n-k⟩:=by
   unfold Sl.cut
   rw [if_neg (by omega),Int.toNat_natCast,Int.toNat_natCast,Option.map_some,addr_add,Gm]
   simp
  rw [ecut]
  refine Ah (y4.ext_get m13) (x:=x.bytes) rfl ?_
  have hBx:By W4 x.bytes y.2:=by
   obtain ⟨y',hy',hp'⟩:=(hi.ext q4).get j hxi
   rw [hy] at hy';cases hy'
   exact hp'.by_
  refine Bt0 (off:=k) EBy.ts_ C5.Gh (y4.ext_get mO) (by rw [List.length_map];omega) hBx.x (by show x.bytes.len<=n-k;omega) (Rn y.2) λW5 n5 u5 z5=>?_
  have s5:Eb W4 W5:=Ri (y4.ext_get mO) rfl u5
  have q5:Ext w W5:=q4.step u5 λk hk=>by omega
  have m45:=u5.Et (y4.ext_get m4) (by omega)
  refine Ar (cell_of (off:=0) m45 rfl) (Ei m45 Nat.one_pos λW6 u6' n6 _=>?_)
  have s6:Eb W5 W6:=Ri m45 rfl u6'
  have q6:Ext w W6:=q5.step u6' λk hk=>by omega
  have r6:W6.heap[w10.heap.size+1]?=some (.loop (rc .busy none)):=u6'.Et (u5.Et (y4.ext_get r2) (by omega)) (by omega)
  obtain ⟨u8,r8⟩:=Dt (o':=.loop (rc .ready none)) r6
  have s8:Eb W6 (W6.putObj (w10.heap.size+1) (.loop (rc .ready none))):=Eb.upd u8 λk hk o ho=>by subst hk;rw [r6] at ho;cases ho;rfl
  refine ⟨⟨_,_,r6⟩,hRt _ ((((((Eb.ext y1).trans s2).trans (Eb.ext y4)).trans s5).trans s6).trans s8) ?_ r8⟩
  have z4:=y4.size;have z6:=u6'.size;have z8:=u8.size
  refine ⟨q6.step u8 λk hk=>by omega,Nat.le_trans (by omega) u8.size,⟨setRow cc k (bv y.2),u8.Et (u6'.Et n5 (by omega)) (by omega),by rw [Go.Vx.size_setRow];exact a4,λi v hv=>?_⟩,u8.Et (u6'.Et (u5.Et (y4.ext_get m3) (by omega)) (by omega)) (by omega),?_⟩
  ·have hbv:bv (bOf (M.take j)++y.2)=bv (bOf (M.take j))++bv y.2:=List.map_append
   rw [hM1,hbv] at hv
   by_cases hik:i<k
   ·rw [List.getElem?_append_left (by rw [List.length_map];omega)] at hv
    rw [Go.Vx.Gv _ _ _ _ hik]
    exact a5 i v hv
   ·rw [List.getElem?_append_right (by rw [List.length_map];omega),List.length_map,hk] at hv
    have hlt:=(List.getElem?_eq_some_iff.1 hv).1
    rw [List.length_map] at hlt
    have:=Go.Vx.Om (bv y.2) cc k (i-k) (by rw [List.length_map];omega) (by rw [List.length_map];exact hlt)
    rw [show k+(i-k)=i by omega] at this
    rw [this];exact hv
  ·have:IntKind.wrap .i64 ((k:Int)+((x.bytes.len:Nat):Int))=((bOf (M.take (j+1))).length:Int):=by
    rw [hM1,List.length_append,wrap64 (by omega) (by omega)];omega
   rw [this] at n6
   exact u8.Et n6 (by omega)
 ·rintro W W' ⟨a1,a2,⟨cc,a3,a4,a5⟩,a6,a7⟩ hD u
  have q1:Ext w W':=a1.step u λk hk=>by omega
  have m3:=u.Et a6 (by omega)
  have mO:=u.Et a3 (by omega)
  refine Ah m3 (x:=⟨some (at0 bO),n,n⟩) rfl ?_
  obtain ⟨u2,_⟩:=Dt (o':=.deferred none) hD
  refine ⟨hD,hK _ _ ?_ (q1.step u2 λk hk=>by omega)⟩
  have hall:cc.toList=bv (bOf M):=by
   refine Bw6 (by rw [List.length_map];omega) λi v hv=>a5 i v ?_
   rw [Nat.sub_zero,il,List.take_length];exact hv
  have:=Cj.Jq (u2.Et mO (by omega)) (n:=n) (sz:=1) (by omega)
  rw [hall] at this
  exact this
 ·rintro _ _ _ hfalse
  exact hfalse.elim
end
section
variable {w w':World}{S:Nat->Prop}{e:Enc}{M:Parts}
def Hl (B:Bs) (j:Nat):Bs:=(B.drop (1024*j)).take 1024
structure Wk (z l b1 c1:Nat) (rc:LoopState->Option Code->Loop) (A:List Nat) (G0:Nat->Prop) (its:List Pc) (e:Enc) (M:Parts) (Inv:Nat->(Nat->Prop)->Wp) (j:Nat) (G:Nat->Prop) (W:World):Prop where
 inv:Inv j G W
 lt:∀k,G k->k<W.heap.size
 sub:∀k,G k->G0 k\/z<=k
 no:∀k∈A,¬G k/\k<W.heap.size/\z<=k
 y:W.heap[b1]?=some (.cells #[.func (.yield l) #[] #[]] 304 (0,0))
 c:W.heap[c1]?=some (.cells #[.int .i64 1024] 3 (0,0))
 r:W.heap[l]?=some (.loop (rc .ready none))
 its:Its W e its M
 d:W.heap[z]?=some (.deferred (some []))
structure Ck (z b3:Nat) (A:List Nat) (s:Sl) (ch:Bs) (G:Nat->Prop) (W:World):Prop where
 box:W.heap[b3]?=some (.cells #[.slice s.a s.len s.cap] 30 (0,0))
 row:Au W z s 5 1 (bv ch)
 no:∀k,s.blk k->¬G k
 na:∀k∈A,¬s.blk k
structure Rds (z l:Nat) (rc:LoopState->Option Code->Loop) (B:Bs) (Inv:Nat->(Nat->Prop)->Wp) (Brk:Code->(Nat->Prop)->Wp):Prop where
 hx:∀j G (S:Nat->Prop) W W',Inv j G W->Upd S W W'->(∀k,S k->¬G k/\z<=k)->Inv j G W'
 hxb:∀q G (S:Nat->Prop) W W',Brk q G W->Upd S W W'->(∀k,S k->¬G k/\z<=k)->Brk q G W'
 hy:∀j s (G:Nat->Prop) W (R:Bool->Wp),Hl B j≠[]->Inv j G W->(∀k,G k->k<W.heap.size)->¬G l->By W s (Hl B j)->(∀k,s.blk k->¬G k)->W.heap[l]?=some (.loop (rc .ready none)) ->
  (∀G' W',Eb W W'->Upd (λk=>G k\/k=l) W W'->(∀k,G' k->G k\/W.heap.size<=k)->(∀k,G' k->k<W'.heap.size)->Inv (j+1) G' W'->W'.heap[l]?=some (.loop (rc .ready none))->R true W') ->
  (∀q G' W',Eb W W'->Upd (λk=>G k\/k=l) W W'->(∀k,G' k->G k\/W.heap.size<=k)->(∀k,G' k->k<W'.heap.size)->Brk q G' W'->W'.heap[l]?=some (.loop (rc .done (some q)))->R false W') ->
  Ah0 Tryz.prog l [.slice s.a s.len s.cap] R W
variable {z l b1 b3 c1:Nat}{rc:LoopState->Option Code->Loop}{A:List Nat}{G0 G:Nat->Prop}{its:List Pc}{Inv:Nat->(Nat->Prop)->Wp}{Brk:Code->(Nat->Prop)->Wp}{j:Nat}{W W':World}{s:Sl}{ch B:Bs}
theorem Wk.own (h:Wk z l b1 c1 rc A G0 its e M Inv j G W) (R:Rds z l rc B Inv Brk) (u:Upd S W W') (hS:∀k,S k->¬G k/\z<=k) (h1:¬S b1) (h2:¬S c1) (h3:¬S l) (h4:∀x∈its,∀k,x.bytes.blk k->¬S k) (h5:¬S z):Wk z l b1 c1 rc A G0 its e M Inv j G W' :=
 ⟨R.hx _ _ _ _ _ h.inv u hS,λk hk=>Nat.lt_of_lt_of_le (h.lt k hk) u.size,h.sub,λk hk=>let ⟨a,b,c⟩:=h.no k hk;⟨a,Nat.lt_of_lt_of_le b u.size,c⟩,u.get h.y h1,u.get h.c h2,u.get h.r h3,h.its.upd u h4,u.get h.d h5⟩
theorem Wk.ext (h:Wk z l b1 c1 rc A G0 its e M Inv j G W) (R:Rds z l rc B Inv Brk) (u:Ext W W'):Wk z l b1 c1 rc A G0 its e M Inv j G W' :=
 h.own R u (λ_ h=>h.elim) id id id (λ_ _ _ _=>id) id
theorem Ck.ext (h:Ck z b3 A s ch G W) (u:Ext W W'):Ck z b3 A s ch G W':=⟨u.ext_get h.box,h.row.ext u,h.no,h.na⟩
theorem Ck.upd (h:Ck z b3 A s ch G W) (u:Upd S W W') (h1:¬S b3) (h2:∀k,s.blk k->¬S k):Ck z b3 A s ch G W':=⟨u.get h.box h1,h.row.upd u λk _ hk=>h2 k hk,h.no,h.na⟩
theorem Am4 (h:Wk z l b1 c1 rc A G0 its e M Inv j G W) (C:Ck z b3 A s ch G W) (R:Rds z l rc B Inv Brk) (hl:l∈A) (h1:b1∈A) (hz:z∈A) (hc1:c1<z/\¬G0 c1) (hits:∀x∈its,∀k,x.bytes.blk k->k<z/\¬G0 k)
  (hch:Hl B j=ch) (hne:ch≠[]) {K:Bool->Wp}
  (ht:∀G' W',Wk z l b1 c1 rc A G0 its e M Inv (j+1) G' W'->Upd (λk=>G0 k\/z<=k) W W'->(∀k∈A,k≠l->∀o,W.heap[k]?=some o->W'.heap[k]?=some o)->Eb W W'->K true W')
  (hf:∀q G' W',Brk q G' W'->(∀k∈A,¬G' k)->W'.heap[l]?=some (.loop (rc .done (some q)))->(∀k∈A,k≠l->∀o,W.heap[k]?=some o->W'.heap[k]?=some o)->Eb W W'->K false W') :
  Bg Tryz.prog (do let d ←Deferred.ofValue (.func (.yield l) #[] #[]) #[.slice s.a s.len s.cap];invoke d.target d.args:Sem Next) (.one (.one .bool)) K W:=by
 have hby:By W s (Hl B j):=by rw [hch];exact C.row.in
 have noA:∀(G':Nat->Prop),(∀k,G' k->G k\/W.heap.size<=k)->∀k∈A,¬G' k:=λG' hG' k hk hg=>by
  obtain ⟨a,b,_⟩:=h.no k hk
  rcases hG' k hg with hh|hh
  ·exact a hh
  ·omega
 refine Bb1 (R.hy j s G W K (by rw [hch];exact hne) h.inv h.lt (h.no l hl).1 hby C.no h.r (λG' W' st u hG' hlt hi hr=>?_) λq G' W' st u hG' hlt hb hr=>?_)
 ·have ne:∀k∈A,k≠l->¬(λk=>G k\/k=l) k:=λk hk hne hh=>hh.elim (h.no k hk).1 hne
  have hb1l:b1≠l:=λhh=>by have:=h.y;rw [hh,h.r] at this;cases this
  have hc1l:c1≠l:=λhh=>by have:=h.c;rw [hh,h.r] at this;cases this
  have old:∀k,k<z->¬G0 k->¬G k:=λk hk h0 hg=>by
   rcases h.sub k hg with hh|hh
   ·exact h0 hh
   ·omega
  have hlz:=(h.no l hl).2.2
  refine ht G' W' ⟨hi,hlt,λk hk=>?_,λk hk=>?_,u.get h.y (ne b1 h1 hb1l),u.get h.c λhh=>hh.elim (old c1 hc1.1 hc1.2) hc1l,hr,h.its.upd u λx hx k hk hh=>?_,u.get h.d (ne z hz λhh=>by have:=h.d;rw [hh,h.r] at this;cases this)⟩ (u.mono λk _ hk=>hk.elim (h.sub k) λhh=>.inr (by omega)) (λk hk hne o ho=>u.get ho (ne k hk hne)) st
  ·rcases hG' k hk with hh|hh
   ·exact h.sub k hh
   ·exact .inr (by have:=h.no l hl;omega)
  ·obtain ⟨a,b,c⟩:=h.no k hk
   exact ⟨noA G' hG' k hk,Nat.lt_of_lt_of_le b u.size,c⟩
  ·obtain ⟨k1,k2⟩:=hits x hx k hk
   rcases hh with hh|hh
   ·exact old k k1 k2 hh
   ·omega
 ·exact hf q G' W' hb (noA G' hG') hr (λk hk hne o ho=>u.get ho λhh=>hh.elim (h.no k hk).1 hne) st
theorem Kt {Q:Prop}{k n m:Nat}(h:(⟨none,n,m⟩:Sl).blk k):Q:=by
 obtain ⟨p,hp,_⟩:=h
 cases hp
theorem Ca3 (h:Wk z l b1 c1 rc A G0 its e M Inv j G W) (C:Ck z b3 A s ch G W) (R:Rds z l rc B Inv Brk) (h3:b3∈A) (hc1:c1<z) (hits:∀x∈its,∀k,x.bytes.blk k->k<z){x:Sl}{us:Bs}(hx:SlX W x 1 (bv us)) (hlen:ch.length+us.length<=2048){K:World->Prop}
  (hK:∀s' W',Wk z l b1 c1 rc A G0 its e M Inv j G W'->Ck z b3 A s' (ch++us) G W'->Upd (λk=>s.blk k\/k=b3) W W'->Eb W W'->K W') :
  Dp Tryz.prog (.one (.one .sl)) (Builtin.append_ #[30,30] 30 #[.slice s.a s.len s.cap,.slice x.a x.len x.cap]) (λx=>stC (at0 b3) (.slice x.a x.len x.cap) K) W:=by
 have hl1:=C.row.len1
 rw [List.length_map] at hl1
 have hl2:=hx.len1
 rw [List.length_map] at hl2
 have hz:=h.no b3 h3
 have bc:∀k,s.blk k->∃c fr,W.heap[k]?=some (.cells c 5 fr):=λk hk=>C.row.in.Bc hk
 refine Fg EBy uBy C.row hx (Rn us) (by omega) (by omega) λs' W1 r1 hl u1 hb1=>?_
 have hb3:¬s.blk b3:=λhh=>by obtain ⟨c,fr,hc⟩:=bc _ hh;rw [C.box] at hc;cases hc
 have hzb:¬s.blk z:=λhh=>by obtain ⟨c,fr,hc⟩:=bc _ hh;rw [h.d] at hc;cases hc
 have w1:=h.own R u1 (λk hk=>⟨C.no k hk,C.row.Ew hk⟩) (λhh=>by obtain ⟨c,fr,hc⟩:=bc _ hh;rw [h.y] at hc;cases hc) (λhh=>by obtain ⟨c,fr,hc⟩:=bc _ hh;rw [h.c] at hc;cases hc)
  (λhh=>by obtain ⟨c,fr,hc⟩:=bc _ hh;rw [h.r] at hc;cases hc) (λx' hx' k hk hh=>by have:=hits x' hx' k hk;have:=C.row.Ew hh;omega) hzb
 have st1:Eb W W1:=Eb.upd u1 λk hk o ho=>by obtain ⟨c,fr,hc⟩:=bc k hk;rw [hc] at ho;cases ho;rfl
 have x1:=u1.get C.box hb3
 refine Ei x1 Nat.one_pos λW2 u2 n2 _=>?_
 have w2:=w1.own R u2 (λk hk=>by rw [hk];exact ⟨hz.1,hz.2.2⟩) (λhh=>by have:=w1.y;rw [hh,x1] at this;cases this) (by omega) (λhh=>by have:=w1.r;rw [hh,x1] at this;cases this) (λx' hx' k hk hh=>by have:=hits x' hx' k hk;omega) (λhh=>by have:=w1.d;rw [hh,x1] at this;cases this)
 have st2:Eb W1 W2:=Ri x1 rfl u2
 have hbv:bv (ch++us)=bv ch++bv us:=List.map_append
 refine hK s' W2 w2 ⟨n2,?_,λk hk hg=>?_,λk hk hh=>?_⟩ (Upd.trans (u1.mono λk _ hk=>.inl hk) (u2.mono λk _ hk=>.inr hk)) (st1.trans st2)
 ·rw [hbv]
  exact r1.upd u2 λk _ hk hh=>by obtain ⟨c,fr,hc⟩:=r1.in.Bc hk;rw [hh,x1] at hc;cases hc
 ·rcases hb1 k hk with hh|hh
  ·exact C.no k hh hg
  ·have:=h.lt k hg;omega
 ·rcases hb1 k hh with h'|h'
  ·exact C.na k hk h'
  ·have:=(h.no k hk).2.1;omega
theorem Ch0 (h:Wk z l b1 c1 rc A G0 its e M Inv j G W) (hb:W.heap[b3]?=some (.cells #[.slice s.a s.len s.cap] 30 (0,0))) (R:Rds z l rc B Inv Brk) (h3:b3∈A) (hc1:c1<z) (hits:∀x∈its,∀k,x.bytes.blk k->k<z){K:World->Prop}
  (hK:∀W',Wk z l b1 c1 rc A G0 its e M Inv j G W'->Ck z b3 A ⟨none,0,0⟩ [] G W'->Upd (λk=>k=b3) W W'->Eb W W'->K W'):stC (at0 b3) (.slice none 0 0) K W:=by
 have hz:=h.no b3 h3
 refine Ei hb Nat.one_pos λW2 u2 n2 _=>hK W2 ?_ ⟨n2,Au.nil _ _ _ _,λk hk=>Kt hk,λk _ hk=>Kt hk⟩ u2 (Ri hb rfl u2)
 exact h.own R u2 (λk hk=>by rw [hk];exact ⟨hz.1,hz.2.2⟩) (λhh=>by have:=h.y;rw [hh,hb] at this;cases this) (by omega) (λhh=>by have:=h.r;rw [hh,hb] at this;cases this) (λx' hx' k hk hh=>by have:=hits x' hx' k hk;omega) (λhh=>by have:=h.d;rw [hh,hb] at this;cases this)
theorem Az9 {B P:Bs}{j:Nat}(hp:P <+: B) (h1:1024*j<=P.length) (h2:P.length=1024*(j+1)):Hl B j=P.drop (1024*j):=by
 obtain ⟨Q,rfl⟩:=hp
 unfold Hl
 rw [List.drop_append_of_le_length h1,List.take_append_of_le_length (by rw [List.length_drop];omega),List.take_of_length_le (by rw [List.length_drop];omega)]
theorem Az8 {B:Bs}{j:Nat}(h2:B.length<=1024*(j+1)):Hl B j=B.drop (1024*j):=by
 unfold Hl
 exact List.take_of_length_le (by rw [List.length_drop];omega)
theorem At7 {N:World->Prop}{E:Nat->Wp}{R:World->Prop}(h:N W):aft N E R none W:=h
theorem Be1 {N:World->Prop}{E:Nat->Wp}{R:World->Prop}(h:R W):aft N E R (some .ret) W:=h
set_option maxHeartbeats 2000000 in
theorem Al2 {t:Tr}{c4:Nat}{vals:Sl×Unit->List Value}{body:Nat->(LoopState->Option Code->Loop)->(Bool->Wp)->Sl×Unit->Wp}{aft':Nat->Option Code->Wp}
  (hv:∀s,vals s=[.slice s.1.a s.1.len s.1.cap]) (h1:w.heap[c1]?=some (.cells #[.int .i64 1024] 3 (0,0))) (h2:w.heap[c4]?=some (.cells #[.pointer t.ptr] 139 (0,0))) (ht:t.In w) (hi:Its w e t.items M) (hf:Fine t.items)
  (hG0:∀k,G0 k->k<w.heap.size) (hc1:¬G0 c1) (hits:∀x∈t.items,∀k,x.bytes.blk k->¬G0 k) (hB:(bOf M).length<=2^30)
  (h0:∀W,Ext w W->w.heap.size+2<=W.heap.size->Inv 0 G0 W)
  (hx:∀j G (S:Nat->Prop) W W',Inv j G W->Upd S W W'->(∀k,S k->¬G k/\w.heap.size<=k)->Inv j G W')
  (hxb:∀q G (S:Nat->Prop) W W',Brk q G W->Upd S W W'->(∀k,S k->¬G k/\w.heap.size<=k)->Brk q G W')
  (hb:∀(rc:LoopState->Option Code->Loop) j s (G:Nat->Prop) (R:Bool->Wp) W,Hl (bOf M) j≠[]->Inv j G W->(∀k,G k->k<W.heap.size)->¬G (w.heap.size+1)->By W s (Hl (bOf M) j)->(∀k,s.blk k->¬G k)->W.heap[w.heap.size+1]?=some (.loop (rc .ready none)) ->
   (∀G' W',Eb W W'->Upd (λk=>G k\/k=w.heap.size+1) W W'->(∀k,G' k->G k\/W.heap.size<=k)->(∀k,G' k->k<W'.heap.size)->Inv (j+1) G' W'->W'.heap[w.heap.size+1]?=some (.loop (rc .ready none))->R true W') ->
   (∀q G' W',Eb W W'->Upd (λk=>G k\/k=w.heap.size+1) W W'->(∀k,G' k->G k\/W.heap.size<=k)->(∀k,G' k->k<W'.heap.size)->Brk q G' W'->W'.heap[w.heap.size+1]?=some (.loop (rc .done (some q)))->R false W') ->
   body (w.heap.size+1) rc R (s,()) W)
  (he:∀n G W W',(bOf M).length<=1024*n->Inv n G W->¬G (w.heap.size+1)->¬G w.heap.size->W'.heap[w.heap.size]?=some (.deferred (some []))->Upd (λk=>k=w.heap.size+1) W W'->aft' w.heap.size none W')
  (hk:∀q G W W',Brk q G W->¬G (w.heap.size+1)->¬G w.heap.size->W'.heap[w.heap.size]?=some (.deferred (some []))->Upd (λk=>k=w.heap.size+1) W W'->aft' w.heap.size (some q) W') :
  Xv Tryz.prog vals (.func (.func 200) #[] #[.pointer (some (at0 c1)),.pointer (some (at0 c4))]) body aft' w:=by
 intro rc hyield
 have e0:Ext w (w.alloc (.deferred (some []))):=Ext.alloc w _
 generalize hW0:w.alloc (.deferred (some []))=W0 at *
 have d0:W0.heap[w.heap.size]?=some (.deferred (some [])):=by rw [←hW0];exact heap_alloc w _
 have z0:W0.heap.size=w.heap.size+1:=by rw [←hW0];simp
 have e1:Ext W0 (W0.alloc (.loop (rc .ready none))):=Ext.alloc W0 _
 have l1:(W0.alloc (.loop (rc .ready none))).heap[w.heap.size+1]?=some (.loop (rc .ready none)):=by rw [←z0];exact heap_alloc W0 _
 have z1:(W0.alloc (.loop (rc .ready none))).heap.size=w.heap.size+2:=by simp [z0]
 generalize hW1:W0.alloc (.loop (rc .ready none))=W1 at *
 refine ⟨200,#[.func (.yield (w.heap.size+1)) #[] #[],.pointer (some (at0 c1)),.pointer (some (at0 c4))],?_,?_⟩
 ·simp only [Deferred.ofValue,pure_bind,invoke]
  exact Gg (P:=Tryz.prog) (f:=200) (by kernel_rfl) W1
 have e01:=e0.trans e1
 refine Cr3 ?_
 unfold F200
 refine Gf rfl ((St.start W1).Ad λb1 W2 S2 e2=>Ah (S2.upd.ext_get (e01.ext_get h1)) (x:=(1024:Int)) rfl (Ac (λh=>absurd h (by decide)) λ_=>S2.Ad λb3 W3 S3 e3=>Gi (x:=(t.ptr,())) (S3.upd.ext_get (e01.ext_get h2)) (λi v hv=>by rw [Nat.zero_add,←Array.getElem?_toList];exact hv) ?_))
 refine j70 (a0:=(t.ptr,())) ?_
 unfold F70
 refine S3.Ad λd1 W4 S4 e4=>S4.Ad λd2 W5 S5 e5=>?_
 have x15:=S5.upd
 have x05:Ext w W5:=e01.trans x15
 have g1:=S5.ge 3 rfl
 have g3:=S5.ge 2 rfl
 have lb1:=lt_of_heap (S5.at_ 3 rfl)
 have lb3:=lt_of_heap (S5.at_ 2 rfl)
 have zz:=x15.size
 have nd:[d2,d1,b3,b1].Nodup:=S5.nd
 simp only [List.nodup_cons,List.mem_cons,List.not_mem_nil,or_false,not_or] at nd
 have y5:=S5.at_ 3 rfl
 have k5:=S5.at_ 2 rfl
 obtain ⟨z,hz⟩:∃z,z=w.heap.size:=⟨_,rfl⟩
 obtain ⟨l,hl⟩:∃l,l=z+1:=⟨_,rfl⟩
 obtain ⟨z5,hz5⟩:∃z5,z5=W5.heap.size:=⟨_,rfl⟩
 rw [←hz] at d0 z0 l1 z1 y5 hyield hx hxb h0 hb he hk hG0 ⊢
 rw [←hl] at l1 y5 hyield hb he hk ⊢
 have hc1z:c1<z:=by have:=lt_of_heap h1;omega
 obtain ⟨A,hA⟩:∃A,A=[l,b1,b3,z5,z5+1,z]:=⟨_,rfl⟩
 have itsz:∀x∈t.items,∀k,x.bytes.blk k->k<z/\¬G0 k:=λx hx k hk=>by
  obtain ⟨i,hxi⟩:=List.mem_iff_getElem?.1 hx
  obtain ⟨y,_,hp⟩:=hi.get i hxi
  exact ⟨by have:=hp.by_.Em hk;omega,hits x hx k hk⟩
 have Rd:Rds z l rc (bOf M) Inv Brk:=⟨hx,hxb,λj s G W R hne hj hlt hGl hs hsG hr hT hF=>by
  have:=hyield R (s,()) W hr (hb rc j s G R W hne hj hlt hGl hs hsG hr hT hF)
  rwa [hv] at this⟩
 let At:Nat->World->Prop:=λi W=>∃j G s,Wk z l b1 c1 rc A G0 t.items e M Inv j G W/\Ck z b3 A s ((bOf (M.take i)).drop (1024*j)) G W/\1024*j<=(bOf (M.take i)).length/\(bOf (M.take i)).length<1024*(j+1)
 have fin:∀(K':World->Prop) q G W,Brk q G W->(∀k∈A,¬G k)->W.heap[l]?=some (.loop (rc .done (some q)))->W.heap[z]?=some (.deferred (some []))->W.heap[z5]?=some (.deferred (some []))->(aft' z (some q) (((W.putObj z5 (.deferred none))).putObj l (.loop (rc .exhausted (some q))))->K' (W.putObj z5 (.deferred none)))->Ry z5 K' W:=by
  intro K' q G W hq hA' hr hd hD hK'
  obtain ⟨u1,_⟩:=Dt (o':=.deferred none) hD
  have r1:=u1.Et hr (by omega)
  obtain ⟨u2,_⟩:=Dt (o':=.loop (rc .exhausted (some q))) r1
  have q1:=hxb q G _ _ _ hq u1 λk hk=>⟨by rw [hk];exact hA' z5 (by rw [hA];simp),by omega⟩
  refine ⟨hD,hK' (hk q G _ _ q1 (hA' l (by rw [hA];simp)) (hA' z (by rw [hA];simp)) ?_ u2)⟩
  exact u2.Et (u1.Et hd (by omega)) (by omega)
 have fin2:∀(K':World->Prop) n G W,(bOf M).length<=1024*n->Wk z l b1 c1 rc A G0 t.items e M Inv n G W->W.heap[z5]?=some (.deferred (some []))->(aft' z none (((W.putObj z5 (.deferred none))).putObj l (.loop (rc .exhausted none)))->K' (W.putObj z5 (.deferred none)))->Ry z5 K' W:=by
  intro K' n G W hn hW hD hK'
  obtain ⟨u1,_⟩:=Dt (o':=.deferred none) hD
  have r1:=u1.Et hW.r (by omega)
  obtain ⟨u2,_⟩:=Dt (o':=.loop (rc .exhausted none)) r1
  have q1:=hx n G _ _ _ hW.inv u1 λk hk=>⟨by rw [hk];exact (hW.no z5 (by rw [hA];simp)).1,by omega⟩
  refine ⟨hD,hK' (he n G _ _ hn q1 (hW.no l (by rw [hA];simp)).1 (hW.no z (by rw [hA];simp)).1 ?_ u2)⟩
  have hd:=hW.d
  exact u2.Et (u1.Et hd (by omega)) (by omega)
 refine Zh (n:=0) (λ_=>rfl) (S5.at_ 1 rfl) (S5.at_ 0 rfl) (ht.ext x05) hf (by omega) At (λc W=>c=.ret/\∃q G,Brk q G W/\(∀k∈A,¬G k)/\W.heap[l]?=some (.loop (rc .done (some q)))/\W.heap[z]?=some (.deferred (some []))) ?_ ?_ ?_ ?_ ?_
 ·intro W x hW
  refine ⟨0,G0,⟨none,0,0⟩,⟨h0 W (x05.trans x) (by have:=x.size;omega),λk hk=>?_,λk hk=>.inl hk,λk hk=>?_,x.ext_get y5,x.ext_get (x05.ext_get h1),x.ext_get (x15.ext_get l1),hi.ext (x05.trans x),x.ext_get (x15.ext_get (e1.ext_get d0))⟩,⟨x.ext_get k5,Au.nil _ _ _ _,λk hk=>Kt hk,λk _ hk=>Kt hk⟩,by simp,by simp [bOf]⟩
  ·have:=hG0 k hk;have:=x.size;omega
  ·rw [hA] at hk
   simp only [List.mem_cons,List.not_mem_nil,or_false] at hk
   have:z<=k/\k<W.heap.size:=by have:=x.size;omega
   exact ⟨λhg=>by have:=hG0 k hg;omega,this.2,this.1⟩
 ·rintro i W W' ⟨j,G,s,hW,hC,hj⟩ x
  exact ⟨j,G,s,hW.ext Rd x,hC.ext x,hj⟩
 ·rintro rc6 i x R W hxi ⟨j,G,s,hW,hC,hj1,hj2⟩ hr6 hRt hRf
  rw [←hz5] at hr6 hRt hRf ⊢
  have hxi:t.items[i]?=some x:=hxi
  obtain ⟨y,hy,hp⟩:=hW.its.get i hxi
  have hM1:bOf (M.take (i+1))=bOf (M.take i)++y.2:=by
   rw [List.take_add_one,hy,Option.toList_some,Xk]
   simp [bOf]
  have hpre:bOf (M.take (i+1)) <+: bOf M:=by
   have:bOf M=bOf (M.take (i+1))++bOf (M.drop (i+1)):=by rw [←Xk,List.take_append_drop]
   rw [this];exact List.prefix_append _ _
  have hplen:=hpre.length_le
  obtain ⟨P,hP⟩:∃P,bOf (M.take i)=P:=⟨_,rfl⟩
  rw [hP] at hM1 hC hj1 hj2
  rw [hM1,List.length_append] at hplen
  have hxz:∀k,x.bytes.blk k->k<z/\¬G0 k:=itsz x (List.mem_of_getElem? hxi)
  have h6A:z5+1∈A:=by rw [hA];simp
  have hlA:l∈A:=by rw [hA];simp
  have h1A:b1∈A:=by rw [hA];simp
  have h3A:b3∈A:=by rw [hA];simp
  have hxl:=hp.by_.len
  refine (St.start W).Ia rfl rfl rfl λb11 W2 T2 y2=>⟨y2.ext_get hr6,?_⟩
  have r6:=y2.ext_get hr6
  obtain ⟨u3,r3⟩:=Dt (o':=.loop (rc6 .busy none)) r6
  have s3:Eb W2 (W2.putObj (z5+1) (.loop (rc6 .busy none))):=Eb.upd u3 λk hk o ho=>by subst hk;rw [r6] at ho;cases ho;rfl
  have m11:=u3.Et (T2.at_ 0 rfl) (λhh=>by have:=T2.at_ 0 rfl;rw [hh,r6] at this;cases this)
  have hW2:=hW.ext Rd y2
  have hC2:=hC.ext y2
  have hW3:=hW2.own Rd u3 (λk hk=>by rw [hk];exact ⟨(hW2.no _ h6A).1,(hW2.no _ h6A).2.2⟩) (by omega) (by omega) (by omega) (λx' hx' k hk hh=>by have:=(itsz x' hx' k hk).1;omega) (by omega)
  have hC3:=hC2.upd u3 (by omega) λk hk hh=>by
   obtain ⟨c,fr,hc⟩:=hC2.row.in.Bc hk
   rw [hh,r6] at hc;cases hc
  have st3:Eb W (W2.putObj (z5+1) (.loop (rc6 .busy none))):=(Eb.ext y2).trans s3
  generalize W2.putObj (z5+1) (.loop (rc6 .busy none))=W3 at *
  refine Ah m11 (x:=x.bytes) rfl ?_
  refine Bz (λs4 W4=>∃q j G s,q<=y.2.length/\By W4 s4.1 (y.2.drop q)/\(∀k,s4.1.blk k->x.bytes.blk k)/\W4.heap[z5+1]?=some (.loop (rc6 .busy none))/\Eb W W4/\Wk z l b1 c1 rc A G0 t.items e M Inv j G W4/\Ck z b3 A s ((P++y.2.take q).drop (1024*j)) G W4/\1024*j<=(P++y.2.take q).length/\(P++y.2.take q).length<1024*(j+1)) (λs4 _=>s4.1.len) ⟨0,j,G,s,Nat.zero_le _,?_,λk hk=>hk,r3,st3,hW3,by simpa using hC3,by simpa using hj1,by simpa using hj2⟩ ?_
  ·obtain ⟨y',hy',hp'⟩:=hW3.its.get i hxi
   rw [hy] at hy';cases hy'
   simpa using hp'.by_
  clear hW hC hW2 hC2 hW3 hC3 hj1 hj2 hp m11 r3 st3 T2 y2 u3 s3
  rintro ⟨sx,_⟩ W4 ⟨q,j,G,s,hq,hby,hsb,r4,st4,hW4,hC4,hj1,hj2⟩
  dsimp only at hby hsb ⊢
  have hbl:=hby.len
  rw [List.length_drop] at hbl
  refine Ac (λhlt=>?_) λhge=>?_
  rotate_left
  ·
   have hge:=of_decide_eq_false hge
   have hql:q=y.2.length:=by omega
   obtain ⟨u8,r8⟩:=Dt (o':=.loop (rc6 .ready none)) r4
   have s8:Eb W4 (W4.putObj (z5+1) (.loop (rc6 .ready none))):=Eb.upd u8 λk hk o ho=>by subst hk;rw [r4] at ho;cases ho;rfl
   refine ⟨⟨_,_,r4⟩,hRt _ (st4.trans s8) ⟨j,G,s,hW4.own Rd u8 (λk hk=>by rw [hk];exact ⟨(hW4.no _ h6A).1,(hW4.no _ h6A).2.2⟩) (by omega) (by omega) (by omega) (λx' hx' k hk hh=>by have:=(itsz x' hx' k hk).1;omega) (by omega),?_⟩ r8⟩
   rw [hM1]
   rw [hql,List.take_length] at hC4 hj1 hj2
   refine ⟨hC4.upd u8 (by omega) λk hk hh=>?_,hj1,hj2⟩
   obtain ⟨c,fr,hc⟩:=hC4.row.in.Bc hk
   rw [hh,r4] at hc;cases hc
  have hlt:=of_decide_eq_true hlt
  have hzA:z∈A:=by rw [hA];simp
  have hl1:=hC4.row.len1
  rw [List.length_map,List.length_drop] at hl1
  obtain ⟨cl,hcl⟩:∃cl,cl=(P++y.2.take q).length:=⟨_,rfl⟩
  rw [←hcl] at hl1 hj1 hj2
  have hcle:cl=P.length+q:=by rw [hcl,List.length_append,List.length_take];omega
  refine Ah hW4.c (x:=(1024:Int)) rfl (Ah hC4.box (x:=s) rfl (Dh λW5 e5 _=>?_))
  have hW5:=hW4.ext Rd e5
  have hC5:=hC4.ext e5
  obtain ⟨n,hn,hn1,hn2,hn3,hn4⟩:∃n:Nat,(if ((sx.len:Nat):Int)<IntKind.wrap .i64 (1024-((s.len:Nat):Int)) then ((sx.len:Nat):Int) else IntKind.wrap .i64 (1024-((s.len:Nat):Int)))=(n:Int)/\n<=sx.len/\s.len+n<=1024/\0<n/\(n=sx.len\/s.len+n=1024):=by
   rw [wrap64 (by omega) (by omega)]
   by_cases hc:((sx.len:Nat):Int)<1024-((s.len:Nat):Int)
   ·exact ⟨sx.len,by rw [if_pos hc],by omega,by omega,by omega,.inl rfl⟩
   ·exact ⟨1024-s.len,by rw [if_neg hc];omega,by omega,by omega,by omega,.inr (by omega)⟩
  rw [hn]
  have hcap:=hby.le
  refine Ah hC5.box (x:=s) rfl (Qa (hby.ext e5) (by omega) (by omega) (by omega) (by omega) (by omega) λx18 hx18 hl18 _ hb18=>?_)
  have hbv:((bv (y.2.drop q)).drop (Int.toNat 0*1)).take ((Int.toNat (n:Int)-Int.toNat 0)*1)=bv ((y.2.drop q).take n):=by
   rw [Int.toNat_natCast];simp [List.map_take]
  rw [hbv] at hx18
  have htl:((y.2.drop q).take n).length=n:=by rw [List.length_take,List.length_drop];omega
  refine Ca3 hW5 hC5 Rd h3A hc1z (λx hx k hk=>(itsz x hx k hk).1) hx18.x (by rw [htl,List.length_drop,←hcl];omega) λs6 W6 hW6 hC6 u6 st6=>?_
  have hPq:(P++y.2.take q).drop (1024*j)++(y.2.drop q).take n=(P++y.2.take (q+n)).drop (1024*j):=by
   rw [List.take_add,←List.append_assoc]
   exact (List.drop_append_of_le_length (by rw [←hcl];exact hj1)).symm
  rw [hPq] at hC6
  have hby6:By W6 sx (y.2.drop q):=(hby.ext e5).upd u6 λk hk hh=>by
   have h1:=(hxz k (hsb k hk)).1
   rcases hh with hh|hh
   ·have:=hC5.row.Ew hh;omega
   ·omega
  have r6':W6.heap[z5+1]?=some (.loop (rc6 .busy none)):=u6.get (e5.ext_get r4) λhh=>by
   rcases hh with hh|hh
   ·obtain ⟨c,fr,hc⟩:=hC5.row.in.Bc hh
    rw [e5.ext_get r4] at hc;cases hc
   ·omega
  refine Qa hby6 (by omega) (by omega) (by omega) (by omega) (by omega) λx20 hx20 hl20 _ hb20=>?_
  have hbv2:((bv (y.2.drop q)).drop (Int.toNat (n:Int)*1)).take ((Int.toNat ((sx.len:Nat):Int)-Int.toNat (n:Int))*1)=bv (y.2.drop (q+n)):=by
   rw [Int.toNat_natCast,Int.toNat_natCast,Nat.mul_one,Nat.mul_one,←List.map_drop,List.drop_drop,List.take_of_length_le]
   rw [List.length_map,List.length_drop];omega
  rw [hbv2] at hx20
  have hPl:(P++y.2.take (q+n)).length=cl+n:=by rw [List.length_append,List.length_take];omega
  have hPp:P++y.2.take (q+n) <+: bOf M:=by
   refine List.IsPrefix.trans ?_ hpre
   rw [hM1]
   exact (List.prefix_append_right_inj P).2 (List.take_prefix _ _)
  have hl6:=hC6.row.len1
  rw [List.length_map,List.length_drop,hPl] at hl6
  refine Ah hC6.box (x:=s6) rfl (Ah hW6.c (x:=(1024:Int)) rfl (Ac (λhfull=>?_) λhpart=>?_))
  ·have hfull:((s6.len:Nat):Int)=1024:=by simpa using hfull
   refine Ah hW6.y (x:=(.func (.yield l) #[] #[]:Value)) rfl (Ah hC6.box (x:=s6) rfl ?_)
   refine Am4 hW6 hC6 Rd hlA h1A hzA ⟨hc1z,hc1⟩ itsz (Az9 hPp (by rw [hPl];omega) (by rw [hPl];omega)) (λhh=>by have:=congrArg List.length hh;rw [List.length_drop,hPl,List.length_nil] at this;omega) (λG7 W7 hW7 u7 k7 st7=>?_) λq7 G7 W7 hq7 hn7 hr7 k7 st7=>?_
   ·refine Ac (λh=>by cases h) λ_=>?_
    have r7:=k7 (z5+1) h6A (by omega) _ r6'
    have hby7:By W7 x20 (y.2.drop (q+n)):=hx20.upd u7 λk hk hh=>by
     have h1:=hxz k (hsb k (hb20 k hk))
     rcases hh with hh|hh
     ·exact h1.2 hh
     ·omega
    refine Ch0 hW7 (k7 b3 h3A (by omega) _ hC6.box) Rd h3A hc1z (λx hx k hk=>(itsz x hx k hk).1) λW8 hW8 hC8 u8 st8=>⟨⟨q+n,j+1,G7,⟨none,0,0⟩,by omega,hby7.upd u8 λk hk hh=>?_,λk hk=>hsb k (hb20 k hk),u8.Et r7 (by omega),(((st4.trans (Eb.ext e5)).trans st6).trans st7).trans st8,hW8,?_,by rw [hPl];omega,by rw [hPl];omega⟩,?_⟩
    ·have:=(hxz k (hsb k (hb20 k hk))).1;omega
    ·have:(P++y.2.take (q+n)).drop (1024*(j+1))=[]:=List.drop_eq_nil_of_le (by rw [hPl];omega)
     rw [this];exact hC8
    ·show x20.len<sx.len;omega
   ·refine Ac (λ_=>?_) λh=>by cases h
    have r7:=k7 (z5+1) h6A (by omega) _ r6'
    obtain ⟨u8,r8⟩:=Dt (o':=.loop (rc6 .done (some .ret))) r7
    have s8:Eb W7 (W7.putObj (z5+1) (.loop (rc6 .done (some .ret)))):=Eb.upd u8 λk hk o ho=>by subst hk;rw [r7] at ho;cases ho;rfl
    refine ⟨⟨_,_,r7⟩,hRf .ret _ ((((st4.trans (Eb.ext e5)).trans st6).trans st7).trans s8) r8 ⟨rfl,q7,G7,hxb q7 G7 _ _ _ hq7 u8 λk hk=>⟨by rw [hk];exact hn7 _ h6A,by omega⟩,hn7,u8.Et hr7 (by omega),u8.Et (k7 z hzA (by omega) _ hW6.d) (by omega)⟩⟩
  ·have hpart:¬((s6.len:Nat):Int)=1024:=by simpa using hpart
   refine ⟨⟨q+n,j,G,s6,by omega,hx20,λk hk=>hsb k (hb20 k hk),r6',(st4.trans (Eb.ext e5)).trans st6,hW6,hC6,by rw [hPl];omega,by rw [hPl];omega⟩,?_⟩
   show x20.len<sx.len;omega
 ·rintro W W' ⟨j,G,s,hW,hC,hj1,hj2⟩ hD u
  rw [←hz5] at hD u ⊢
  have il:=hi.len
  rw [Nat.sub_zero,il,List.take_length] at hC hj1 hj2
  have h6A:z5+1∈A:=by rw [hA];simp
  have hlA:l∈A:=by rw [hA];simp
  have h1A:b1∈A:=by rw [hA];simp
  have h3A:b3∈A:=by rw [hA];simp
  have hzA:z∈A:=by rw [hA];simp
  have hW':=hW.own Rd u (λk hk=>by rw [hk];exact ⟨(hW.no _ h6A).1,(hW.no _ h6A).2.2⟩) (by omega) (by omega) (by omega) (λx' hx' k hk hh=>by have:=(itsz x' hx' k hk).1;omega) (by omega)
  have hl1:=hC.row.len1
  rw [List.length_map,List.length_drop] at hl1
  have n3:=u.Et hC.box (by omega)
  have hfin:∀n G W,(bOf M).length<=1024*n->Wk z l b1 c1 rc A G0 t.items e M Inv n G W->W.heap[z5]?=some (.deferred (some []))->Ry z5 (λW=>∃st pe,W.heap[l]?=some (.loop (rc st pe))/\st≠.busy/\aft' z pe (W.putObj l (.loop (rc .exhausted pe)))) W:=λn G W hn hw hd =>
   fin2 _ n G W hn hw hd λh=>⟨.ready,none,(Dt (o':=.deferred none) hd).1.Et hw.r (by omega),by decide,h⟩
  refine At7 (Ah n3 (x:=s) rfl (Ac (λhp=>?_) λhp=>?_))
  ·have hp:=of_decide_eq_true hp
   have hs6:∀k,s.blk k->k≠z5+1:=λk hk hh=>hC.na _ h6A (hh▸hk)
   have hC':Ck z b3 A s ((bOf M).drop (1024*j)) G W':=hC.upd u (by omega) λk hk hh=>hs6 k hk hh
   refine Ah hW'.y (x:=(.func (.yield l) #[] #[]:Value)) rfl (Ah n3 (x:=s) rfl ?_)
   refine Am4 hW' hC' Rd hlA h1A hzA ⟨hc1z,hc1⟩ itsz (Az8 (by omega)) (λhh=>by have:=congrArg List.length hh;rw [List.length_drop,List.length_nil] at this;omega) (λG7 W7 hW7 u7 k7 st7=>?_) λq7 G7 W7 hq7 hn7 hr7 k7 st7=>?_
   ·exact hfin (j+1) G7 W7 (by omega) hW7 (st7.at_ _ _ hD rfl)
   ·have hd7:=st7.at_ _ _ hD rfl
    exact fin _ q7 G7 W7 hq7 hn7 hr7 (k7 z hzA (by omega) _ hW'.d) hd7 λh=>⟨.done,some q7,(Dt (o':=.deferred none) hd7).1.Et hr7 (by omega),by decide,h⟩
  ·have hp:=of_decide_eq_false hp
   exact hfin j G W' (by omega) hW' hD
 ·rintro c W W' ⟨rfl,q,G,hq,hnA,hr,hd⟩ hD u
  rw [←hz5] at hD u ⊢
  have h6A:z5+1∈A:=by rw [hA];simp
  have hr':=u.Et hr (by omega)
  refine Be1 ?_
  exact fin _ q G W' (hxb q G _ _ _ hq u λk hk=>⟨by rw [hk];exact hnA _ h6A,by omega⟩) hnA hr' (u.Et hd (by omega)) hD λh=>⟨.done,some q,(Dt (o':=.deferred none) hD).1.Et hr' (by omega),by decide,h⟩
end
end Go.Proofs.YtmooldhpiopcgaaGreatDoor
namespace Go.Proofs.YtmooldhpiopcgaaGreatDoor
namespace Dq
open Go Go.Vx Dsk Trx
def dty:Obj->Bool
 |.map _ _=>true
 |.cells _ t _=>t==107||(t==123||(t==5||(t==147||(t==9||(t==121||(t==127||t==3))))))
 |_=>false
section
variable {w w':World}{S F F':Nat->Prop}{d m ms ml:Nat}{f:Dir}{fb:List Nat}{ds:List Sl}{fs:List Fl}{sa:Sl}{vs:List Value}{D:Dk}{pl:Option Nat}{p:Int->Option Bq}{N:Nat}
theorem Jz {c:Array Value}{t:TypeId}{fr:Nat×Nat}{k:Nat}(h:w.heap[k]?=some (.cells c t fr)) (ht:dty (.cells #[] t fr)=true):∀o,w.heap[k]?=some o->dty o=true:=λo ho=>by
 rw [h] at ho;cases ho;exact ht
theorem Ak7 {c:Array MapEntry}{t:Nat}{k:Nat}(h:w.heap[k]?=some (.map c t)):∀o,w.heap[k]?=some o->dty o=true:=λo ho=>by
 rw [h] at ho;cases ho;rfl
theorem Ak8 {s:Sl}{t:TypeId}{sz:Nat}{vs:List Value}(h:Cj w s t sz vs) (ht:∀fr,dty (.cells #[] t fr)=true){k:Nat}(hk:s.blk k):∀o,w.heap[k]?=some o->dty o=true:=by
 obtain ⟨c,fr,hc⟩:=h.Bc hk
 exact Jz hc (ht fr)
theorem Ce.thin (h:Ce w d F D):Ce w d (λk=>F k/\∀o,w.heap[k]?=some o->dty o=true) D:=by
 obtain ⟨ms,ml,sa,pl,vs,fb,ds,A⟩:=h
 obtain ⟨o1,c1,h1⟩:=A.seen.Ed
 obtain ⟨o2,c2,h2⟩:=A.lasts.Ed
 refine ⟨ms,ml,sa,pl,vs,fb,ds,A.box,A.seen,A.lasts,A.files,⟨A.acts.row,A.acts.len,λi v a hv ha=>?_⟩,?_,A.ne,A.nes,A.nel,⟨A.fd,Jz A.box rfl⟩,⟨A.fms,Ak7 h1⟩,⟨A.fml,Ak7 h2⟩,λb hb=>⟨A.ffb b hb,?_⟩,λs hs k hk=>⟨A.fds s hs k hk,?_⟩,λk hk=>⟨A.fsa k hk,Ak8 A.acts.row.in (λ_=>rfl) hk⟩,λk hk=>A.lt k hk.1⟩
 ·have:=A.acts.at_ i v a hv ha
  cases a with
  |rm n=>obtain ⟨b,g1,g2,g3⟩:=this;exact ⟨b,g1,g2,g3,Jz g2 rfl⟩
  |mk n i=>obtain ⟨b1,b2,g1,g2,g3,g4,g5,g6⟩:=this;exact ⟨b1,b2,g1,g2,g3,⟨g4,Jz g2 rfl⟩,⟨g5,Jz g3 rfl⟩,g6⟩
  |mv a b i=>obtain ⟨b1,b2,g1,g2,g3,g4,g5,g6⟩:=this;exact ⟨b1,b2,g1,g2,g3,⟨g4,Jz g2 rfl⟩,⟨g5,Jz g3 rfl⟩,g6⟩
 ·rcases A.plan with h|⟨m,es,g1,g2,g3,g4⟩
  ·exact .inl h
  ·obtain ⟨o3,c3,h3⟩:=Nc.D9 g3
   refine .inr ⟨m,es,g1,⟨g2,Ak7 h3⟩,g3,λk=>?_⟩
   have:=g4 k
   revert this
   generalize Je es k=v
   generalize D.plan k=q
   intro this
   match v,q,this with
   |none,none,_=>trivial
   |some v,some g,⟨s,h1,h2,h3,h4⟩=>exact ⟨s,h1,h2,λk hk=>⟨h3 k hk,Ak8 h2 (λ_=>rfl) hk⟩,h4⟩
 ·obtain ⟨i,s,f,_,_,_,g,_⟩:=A.files.Yc hb
  exact Jz g rfl
 ·obtain ⟨i,hi,hs'⟩:=List.mem_iff_getElem.1 hs
  obtain ⟨b,f,_,_,_,g⟩:=A.files.Ak0 (i:=i) (s:=s) (by rw [List.getElem?_eq_getElem hi,hs'])
  exact Ak8 g.in (λ_=>rfl) hk
structure DS (w:World) (d:Nat) (F:Nat->Prop) (D:Dk) (N:Nat):Prop where
 disk:Ce w d F D
 ok:Bl D N
 ty:∀k,F k->∀o,w.heap[k]?=some o->dty o=true
 no0:¬F 0
theorem DS.lt (h:DS w d F D N):∀k,F k->k<w.heap.size:=h.disk.lt
theorem DS.frame (h:DS w d F D N) (u:Upd S w w') (hS:∀k,F k->¬S k):DS w' d F D N :=
 ⟨h.disk.frame u hS,h.ok,λk hk o ho=>h.ty k hk o (by rw [u.at_ k (h.lt k hk) (hS k hk)] at ho;exact ho),h.no0⟩
theorem DS.ext (h:DS w d F D N) (e:Ext w w'):DS w' d F D N:=h.frame e λ_ _=>id
theorem DS.mono {M:Nat}(h:DS w d F D N) (hm:N<=M):DS w d F D M:=⟨h.disk,h.ok.mono hm,h.ty,h.no0⟩
theorem DS.no {t:TypeId}(h:DS w d F D N) (ht:∀fr,dty (.cells #[] t fr)=false):Cc w F t:=λk hk c fr hc=>by
 have h1:=h.ty k hk _ hc
 have h2:=ht fr
 unfold dty at h1 h2
 simp only at h1 h2
 rw [h1] at h2;cases h2
theorem DS.stay (h:DS w d F D N) (u:Upd F w w'):Eb w w':=Eb.upd u λk hk o ho=>by
 have:=h.ty k hk o ho
 unfold dty at this
 unfold By1
 split at this
 ·rfl
 ·rename_i t _
  simp only [Bool.or_eq_true,beq_iff_eq] at this
  rcases this with h|h|h|h|h|h|h|h<;>subst h<;>rfl
 ·cases this
theorem DS.of {D':Dk}(h:DS w d F D N) (A:Ce w' d F' D') (ok:Bl D' (N+2)) (hF:∀k,F' k->F k\/w.heap.size<=k) (h0:0<w.heap.size):DS w' d (λk=>F' k/\∀o,w'.heap[k]?=some o->dty o=true) D' (N+2) :=
 ⟨A.thin,ok,λk hk=>hk.2,λh0'=>by rcases hF 0 h0'.1 with hh|hh;exact h.no0 hh;omega⟩
theorem DS.pos (h:DS w d F D N):0<w.heap.size:=by have:=h.lt d h.disk.fd;omega
theorem Ql.new {w0:World}{v:Value}{op nm:ByteArray}{e:Int}(h:Ql w0 w F v op nm e):∀b,v=.iface 99 (.pointer (some (at0 b)))->w0.heap.size<=b:=λb hb=>by
 by_cases he:e=0
 ·rw [h.ok he] at hb;cases hb
 ·obtain ⟨b',k,h1,_,h3,_⟩:=h.bad he
  rw [h1] at hb
  have:b'=b:=by simpa using hb
  omega
abbrev Ag9 (w:World) (d:Nat) (F:Nat->Prop) (N:Nat) (r:Dk×Int×Unit) (K:Value->Wp):Prop :=
 ∀F' w' v,Hu w' v r.2.1->DS w' d F' r.1 (N+2)->Upd F w w'->(∀k,F' k->F k\/w.heap.size<=k)->K v w'
theorem Z4 {op nm:ByteArray}{r:Dk×Int×Unit}{K:Value->Wp}(h:DS w d F D N) (ok:Bl r.1 (N+2)) (hK:Ag9 w d F N r K):Ends w d F op nm r K :=
 λF' w' v hv A u hF=>hK _ w' v hv.v (h.of A ok hF h.pos) u λk hk=>hF k hk.1
theorem Cc4 (h:DS w d F D N) (hN:N+2<=2^30){n:Nm}{K:Value->Wp}(hK:Ag9 w d F N (Dj D n) K):Aa Tryz.prog 137 #[.pointer (some (at0 d)),.string n] (.one (.one .any)) K w :=
 Bh9 h.disk h.ok hN (Z4 h (Yy h.ok n) hK)
theorem Cj4 (h:DS w d F D N) (hN:N+2<=2^30){n:Nm}{K:Value->Wp}(hK:Ag9 w d F N (Dc D n) K):Aa Tryz.prog 139 #[.pointer (some (at0 d)),.string n] (.one (.one .any)) K w :=
 Bf2 h.disk h.ok (by omega) (Z4 h (Yx h.ok n) hK)
theorem Bm8 (h:DS w d F D N) (hN:N+2<=2^30){K:Value->Wp}(hK:Ag9 w d F N (Cm D) K):Aa Tryz.prog 76 #[.pointer (some (at0 d))] (.one (.one .any)) K w :=
 Ah8 h.disk h.ok (by omega) (Z4 h (Td h.ok) hK)
theorem Bc5 (h:DS w d F D N) (hN:N+2<=2^30){n:Nm}{K:Value->Wp}(hK:Ag9 w d F N (Ea D n) K):Aa Tryz.prog 75 #[.pointer (some (at0 d)),.string n] (.one (.one .any)) K w :=
 Ao6 h.disk h.ok hN (Z4 h (Ab4 h.ok n) hK)
theorem Bw9 (h:DS w d F D N) (hN:N+2<=2^30){n t:Nm}{K:Value->Wp}(hK:Ag9 w d F N (Eu D n t) K):Aa Tryz.prog 140 #[.pointer (some (at0 d)),.string n,.string t] (.one (.one .any)) K w :=
 Ao5 h.disk h.ok hN (Z4 h (Uu h.ok n t) hK)
theorem Be0 (h:DS w d F D N) (hN:N+2<=2^30){n:Nm}{x:Sl}{l:List UInt8}(hx:Bytes w x l) (hxb:Lie (λk=>k<w.heap.size/\¬F k) x){K:(Int×Value×Unit)->Wp}
  (hK:∀F' w' v,Hu w' v (Bo D n l).2.1->DS w' d F' (Bo D n l).1 (N+2)->Upd F w w'->(∀k,F' k->F k\/w.heap.size<=k)->(∀b,v=.iface 99 (.pointer (some (at0 b)))->w.heap.size<=b)->K ((Bo D n l).2.2,v,()) w') :
  Aa Tryz.prog 169 #[.pointer (some (at0 d)),.string n,x.v] (.tup [(.one (.int .i64)),(.one .any)]) K w :=
 At6 h.disk h.ok hN hx hxb λF' w' v hv A u hF=>hK _ w' v hv.v (h.of A (Uw h.ok n l) hF h.pos) u (λk hk=>hF k hk.1) hv.new
theorem N8 (h:DS w d F D N) (hN:N+2<=2^30){n:Nm}{K:((Int×Int×Int×Unit)×Value×Unit)->Wp}
  (hK:∀F' w' v,Hu w' v (Ai D n).2.1->DS w' d F' (Ai D n).1 (N+2)->Upd F w w'->(∀k,F' k->F k\/w.heap.size<=k)->K (((Ai D n).2.2.1,(Ai D n).2.2.2.1,(Ai D n).2.2.2.2,()),v,()) w') :
  Aa Tryz.prog 34 #[.pointer (some (at0 d)),.string n] (.tup [(.agg c57),(.one .any)]) K w :=
 Au6 h.disk h.ok hN λF' w' v hv A u hF=>hK _ w' v hv.v (h.of A (Ws h.ok n) hF h.pos) u λk hk=>hF k hk.1
theorem Bo6 (h:DS w d F D N) (hN:N+2<=2^30){n:Nm}{K:(Sl×Value×Unit)->Wp}
  (hK:∀F' w' s v,Hu w' v (Bh D n).2.1->DS w' d F' (Bh D n).1 (N+2)->Upd F w w'->(∀k,F' k->F k\/w.heap.size<=k)->En w' w.heap.size s (Bh D n).2.2->(∀k,s.blk k->¬F' k)->K (s,v,()) w') :
  Aa Tryz.prog 49 #[.pointer (some (at0 d)),.string n] (.tup [(.one .sl),(.one .any)]) K w :=
 Bg4 h.disk h.ok hN λF' w' s v hv A u hF hs hb=>hK _ w' s v hv.v (h.of A (Ap6 h.ok n) hF h.pos) u (λk hk=>hF k hk.1) hs λk hk hk'=>hb k hk hk'.1
theorem Ck2 (h:DS w d F D N) (hN:N+2<=2^30){n:Nm}{x:Sl}{l:List UInt8}(hx:Bytes w x l) (hxb:∀k,x.blk k->k<w.heap.size/\¬F k){K:Value->Wp}
  (hK:∀F' w' v,Hu w' v (Nk D n l).2->DS w' d F' (Nk D n l).1 (N+2)->Upd F w w'->(∀k,F' k->F k\/w.heap.size<=k)->K v w') :
  Aa Tryz.prog 32 #[.pointer (some (at0 d)),.string n,x.v] (.one (.one .any)) K w :=
 Bp2 h.disk h.ok hN hx hxb λF' w' v hv A u hF=>hK _ w' v hv.v (h.of A ((Bq0 h.ok n l).mono (Nat.le_succ _)) hF h.pos) u λk hk=>hF k hk.1
theorem Ax2 {space:Int}(h0:0<=space) (h1:space<=1048576):Bl (Tm space) 0 :=
 ⟨⟨h0,h1⟩,λi f hf=>by simp [Tm] at hf,Nat.le_refl _,λk=>by
  have:Ez ((Tm space).acts.take k) (Tm space).lasts=λ_=>none:=by simp [Tm,Ez]
  rw [this];exact ⟨λ_ _ h=>(by cases h),⟨[],⟨List.nodup_nil,λn=>by simp⟩,by simp⟩,λ_ _ _ h=>(by cases h),λ_ _ h=>(by cases h)⟩,⟨Int.le_refl 0,Int.le_refl 0⟩,Nat.le_refl _⟩
theorem newS {space:Int}(h0:0<=space) (h1:space<=1048576) (hp:0<w.heap.size){K:(Option Addr×Value×Unit)->Wp}
  (hK:∀d F w',DS w' d F (Tm space) 0->Ext w w'->(∀k,F k->w.heap.size<=k)->K (some (at0 d),.nilIface,()) w'):Aa Tryz.prog 17 #[.int .i64 space] (.tup [(.one .ptr),(.one .any)]) K w :=
 Bq4 h0 h1 λd F w' A e hF=>hK d _ w' ⟨A.thin,Ax2 h0 h1,λk hk=>hk.2,λh=>by have:=hF 0 h.1;omega⟩ e λk hk=>hF k hk.1
theorem Pe {s:Sl}{l:List UInt8}(h:Bytes w s l) (hl:l.length<=2^30){K:Sl->Wp}(hK:∀s' w',En w' w.heap.size s' l->Ext w w'->K s' w'):Aa Tryz.prog 57 #[s.v] rS K w:=by
 refine j57 (a0:=s) ?_
 unfold F57
 have hl1:=h.len1
 rw [List.length_map] at hl1
 refine Ac (λh0=>?_) λh0=>?_
 ·have hn:s.a=none:=by simpa using h0
  have:l=[]:=by
   rcases h.at_ with ⟨h1,h2⟩|⟨t,h2⟩
   ·simpa using h2
   ·rcases h2.at_ with ⟨_,hc⟩|⟨b,off,c,fr,ha,_⟩
    ·have:=h2.le
     rw [hc] at this
     exact List.length_eq_zero_iff.1 (by omega)
    ·rw [hn] at ha;cases ha
  subst this
  exact hK _ w (Au.nil _ _ _ _) (Ext.refl w)
 ·refine Aq λb1 w1 e1 n1 hb1 hz1=>?_
  have ho:Au w1 w.heap.size ⟨some (at0 b1),0,0⟩ 5 1 []:=⟨rfl,Nat.le_refl _,.inr ⟨b1,0,#[],rfl,by omega,n1,Nat.le_refl _,λj v hj=>by simp at hj⟩⟩
  refine Fg (s:=⟨some (at0 b1),0,0⟩) (x:=s) EB uB ho (h.ext e1) (Rn l) (by dsimp only;omega) (by omega) λs' w2 hs' hl' u2 _=>?_
  rw [List.nil_append] at hs'
  exact hK s' w2 hs' (e1.step u2 λk hk=>by obtain ⟨p,hp,rfl⟩:=hk;cases hp;show w.heap.size<=b1;omega)
end
end Dq
end Go.Proofs.YtmooldhpiopcgaaGreatDoor
namespace Go.Proofs.YtmooldhpiopcgaaGreatDoor
namespace Dq
open Go Go.Vx Dsk Cdc Trx
theorem Ag0:∀(n m:Nat) (l:List UInt8),l.length<=n->l.length<=m->Ab7 n l=Ab7 m l
 |0,m,l,h,_=>by
  obtain rfl:l=[]:=List.length_eq_zero_iff.1 (by omega)
  cases m<;>simp [Ab7]
 |n+1,0,l,_,h=>by
  obtain rfl:l=[]:=List.length_eq_zero_iff.1 (by omega)
  simp [Ab7]
 | n+1,m+1,l,h1,h2=>by
  by_cases hl:l=[]
  ·simp [Ab7,hl]
  ·have:0<l.length:=List.length_pos_iff.2 hl
   simp only [Ab7,if_neg hl]
   rw [Ag0 n m (l.drop 1024) (by rw [List.length_drop];omega) (by rw [List.length_drop];omega)]
def Dy (n:Nm) (T:List UInt8) (D:Dk):Dk×Int:=Bd2 n (Ab7 T.length T) D
theorem Nw (n:Nm) (D:Dk):Dy n [] D=(D,0):=rfl
theorem Rj {n:Nm}{T:List UInt8}{D:Dk}(h:T≠[]):Dy n T D=if (Bo D n (T.take 1024)).2.1=0 then Dy n (T.drop 1024) (Bo D n (T.take 1024)).1 else ((Bo D n (T.take 1024)).1,(Bo D n (T.take 1024)).2.1):=by
 have hl:0<T.length:=List.length_pos_iff.2 h
 obtain ⟨k,hk⟩:∃k,T.length=k+1:=⟨T.length-1,by omega⟩
 unfold Dy
 rw [hk]
 simp only [Ab7,if_neg h,Bd2]
 rw [Ag0 k (T.drop 1024).length (T.drop 1024) (by rw [List.length_drop];omega) (Nat.le_refl _)]
section
variable {w w':World}{S F F':Nat->Prop}{d:Nat}{D:Dk}{N:Nat}{p:Nat}{e:Enc}{lim na:Nat}{O:Nat->Prop}{M:Parts}
structure FI (w:World) (F:Nat->Prop) (d N f b1 b2 b3 b8:Nat) (cs:Array Value) (n:Nm) (T mk B:List UInt8) (D:Dk) (j:Nat) (G:Nat->Prop) (W:World) (fl:Nat) (Fd:Nat->Prop) (Df:Dk) (s:Sl):Prop where
 disk:DS W d Fd Df (N+2*fl)
 fg:∀k,Fd k->G k
 g8:G b8
 g3:G b3
 gs:∀k,s.blk k->G k
 gw:∀k,G k->F k\/w.heap.size<=k
 n1:W.heap[b1]?=some (.cells #[.pointer (some (at0 f))] 29 (0,0))
 n2:W.heap[b2]?=some (.cells #[.string n] 9 (0,0))
 n3:W.heap[b3]?=some (.cells #[.nilIface] 26 (0,0))
 n8:W.heap[b8]?=some (.cells #[.slice s.a s.len s.cap] 30 (0,0))
 nf:W.heap[f]?=some (.cells cs 110 (0,0))
 row:En W w.heap.size s ((mk++B.take (1024*j)).drop (1024*fl))
 no8:¬Fd b8
 no3:¬Fd b3
 nos:∀k,s.blk k->¬Fd k
 lo:1024*fl<=(mk++B.take (1024*j)).length
 hi:(mk++B.take (1024*j)).length<1024*(fl+1)
 left:Dy n T D=Dy n (T.drop (1024*fl)) Df
 upd:Upd (λk=>F k\/w.heap.size<=k) w W
 no2:¬Fd b2
 fw:∀k,Fd k->F k\/w.heap.size<=k
theorem FI.move {f b1 b2 b3 b8:Nat}{cs:Array Value}{n:Nm}{T mk B:List UInt8}{j:Nat}{G:Nat->Prop}{W W':World}{fl:Nat}{Fd:Nat->Prop}{Df:Dk}{s:Sl}(h:FI w F d N f b1 b2 b3 b8 cs n T mk B D j G W fl Fd Df s) (u:Upd S W W') (hS:∀k,S k->¬G k) (h1:¬S b1) (h2:¬S b2) (hf:¬S f) (hw:∀k,S k->w.heap.size<=k) :
  FI w F d N f b1 b2 b3 b8 cs n T mk B D j G W' fl Fd Df s :=
 ⟨h.disk.frame u λk hk hh=>hS k hh (h.fg k hk),h.fg,h.g8,h.g3,h.gs,h.gw,u.get h.n1 h1,u.get h.n2 h2,u.get h.n3 λhh=>hS _ hh h.g3,u.get h.n8 λhh=>hS _ hh h.g8,u.get h.nf hf,h.row.upd u λk _ hk hh=>hS k hh (h.gs k hk),h.no8,h.no3,h.nos,h.lo,h.hi,h.left,h.upd.trans (u.mono λk _ hk=>.inr (hw k hk)),h.no2,h.fw⟩
structure FB (w:World) (F:Nat->Prop) (d N b3:Nat) (n:Nm) (T:List UInt8) (D:Dk) (G:Nat->Prop) (W:World) (Fd:Nat->Prop) (v:Value):Prop where
 disk:DS W d Fd (Dy n T D).1 (N+4000)
 fg:∀k,Fd k->G k
 g3:G b3
 n3:W.heap[b3]?=some (.cells #[v] 26 (0,0))
 er:Hu W v (Dy n T D).2
 gv:∀b,v=.iface 99 (.pointer (some (at0 b)))->G b
 upd:Upd (λk=>F k\/w.heap.size<=k) w W
 fw:∀k,Fd k->F k\/w.heap.size<=k
theorem FB.move {b3:Nat}{n:Nm}{T:List UInt8}{G:Nat->Prop}{W W':World}{Fd:Nat->Prop}{v:Value}(h:FB w F d N b3 n T D G W Fd v) (u:Upd S W W') (hS:∀k,S k->¬G k) (hw:∀k,S k->w.heap.size<=k):FB w F d N b3 n T D G W' Fd v :=
 ⟨h.disk.frame u λk hk hh=>hS k hh (h.fg k hk),h.fg,h.g3,u.get h.n3 λhh=>hS _ hh h.g3,⟨h.er.ok,λhe=>let ⟨b,op,nm,st,q1,q2⟩:=h.er.bad he;⟨b,op,nm,st,q1,u.get q2 λhh=>hS _ hh (h.gv b q1)⟩⟩,h.gv,h.upd.trans (u.mono λk _ hk=>.inr (hw k hk)),h.fw⟩
set_option maxHeartbeats 2000000 in
theorem Bi8 (A:DS w d F D N) (hN:N+5000<=2^30) (h:Txt w p e lim na O M) (hO:∀k,O k->¬F k){f:Nat}{cs:Array Value}(hf:w.heap[f]?=some (.cells cs 110 (0,0))){sm:Sl}(c0:cs[0]?=some (.pointer (some (at0 d)))) (c2:cs[2]?=some (.slice sm.a sm.len sm.cap)) (hfF:¬F f)
  {mk:List UInt8} (hm:Bytes w sm mk) (hml:mk.length<1024) {n:Nm} {K:Value->Wp}
  (hK:∀F' w' v,Hu w' v (Dy n (mk++bOf M) D).2->DS w' d F' (Dy n (mk++bOf M) D).1 (N+4000)->Upd F w w'->(∀k,F' k->F k\/w.heap.size<=k)->K v w') :
  Aa Tryz.prog 138 #[.pointer (some (at0 f)),.string n,.pointer (some (at0 p))] (.one (.one .any)) K w:=by
 refine j138 ?_
 unfold F138
 have hBl:=Xj e M
 have hsz:=h.sz
 have hfl:=lt_of_heap hf
 have hAlt:=A.lt
 obtain ⟨B,hBd⟩:∃B,B=bOf M:=⟨_,rfl⟩
 have hBlen:B.length<=1048576:=by rw [hBd];omega
 rw [←hBd] at hK
 refine Aq λb1 w1 e1 n1 hb1 hz1=>Aq λb2 w2 e2 n2 hb2 hz2=>Aq λb3 w3 e3 n3 hb3 hz3=>?_
 have e13:=(e1.trans e2).trans e3
 refine Ah ((e2.trans e3).ext_get n1) (x:=some (at0 f)) rfl (Af ?_)
 rw [addr_add]
 refine Ah (e13.ext_get hf) (off:=2) (x:=sm) c2 (Pe (hm.ext e13) (by omega) λs0 w4 r4 e4=>Aq λb8 w5 e5 n5 hb5 hz5=>Ei n5 Nat.one_pos λw6 u6 n6 hz6=>?_)
 have e46:Ext w4 w6:=e5.step u6 λk hk=>by omega
 have e36:=e4.trans e46
 have e06:=e13.trans e36
 have hsz4:=e4.size
 obtain ⟨t,ht,hi,hff,rd,hOt⟩:=h.Bm5
 refine Cr9 ?_
 unfold F168
 refine Aq λc1 w7 e7 n7 hc1 hz7=>rd (e06.trans e7) (Aq λc4 w8 e8 n8 hc4 hz8=>Fb n8 rfl rfl (by decide) λw9 u9 n9 hz9=>?_)
 have e79:Ext w7 w9:=e8.step u9 λk hk=>by omega
 have e69:=e7.trans e79
 have e09:=e06.trans e69
 have hz79:=e79.size
 have m1:=(e36.trans e69).ext_get ((e2.trans e3).ext_get n1)
 have m2:=(e36.trans e69).ext_get (e3.ext_get n2)
 have m3:=(e36.trans e69).ext_get n3
 have m8:=e69.ext_get n6
 have mf:=e09.ext_get hf
 have mc1:=e79.ext_get n7
 have row0:En w9 w.heap.size s0 mk:=((r4.ext e46).ext e69).mono (by omega)
 have s0lt:∀k,s0.blk k->w.heap.size<=k/\k<w4.heap.size:=λk hk=>⟨by have:=r4.Ew hk;omega,r4.in.Em hk⟩
 obtain ⟨G0,hG0⟩:∃G0:Nat->Prop,G0=λk=>F k\/k=b8\/k=b3\/s0.blk k:=⟨_,rfl⟩
 have hG0lt:∀k,G0 k->k<w9.heap.size:=λk hk=>by
  rw [hG0] at hk
  rcases hk with hk|hk|hk|hk
  ·have:=hAlt k hk;omega
  ·omega
  ·omega
  ·have:=(s0lt k hk).2;omega
 have hb8s:¬s0.blk b8:=λhh=>by have:=(s0lt _ hh).2;omega
 have hb3s:¬s0.blk b3:=λhh=>by have:=r4.Ew hh;omega
 have hc1G:¬G0 c1:=λhh=>by
  rw [hG0] at hh
  rcases hh with hk|hk|hk|hk
  ·have:=hAlt _ hk;omega
  ·omega
  ·omega
  ·have:=(s0lt _ hk).2;omega
 have hOG:∀x∈t.items,∀k,x.bytes.blk k->¬G0 k:=λx hx k hk hh=>by
  have hok:=hOt x hx k hk
  have hol:=h.own k hok
  rw [hG0] at hh
  rcases hh with hh|hh|hh|hh
  ·exact hO k hok hh
  ·omega
  ·omega
  ·have:=(s0lt k hh).1;omega
 refine Al2 (t:=t) (c1:=c1) (c4:=c4) (G0:=G0) (e:=e) (M:=M) (λ_=>rfl) mc1 n9 (ht.ext e09) (hi.ext e09) hff hG0lt hc1G hOG (by omega)
  (Inv:=λj G W=>∃fl Fd Df s,FI w F d N f b1 b2 b3 b8 cs n (mk++B) mk B D j G W fl Fd Df s) (Brk:=λq G W=>q=.ret/\∃Fd v,FB w F d N b3 n (mk++B) D G W Fd v) ?_ ?_ ?_ ?_ ?_ ?_
 ·intro W x hW
  refine ⟨0,F,D,s0,A.ext (e09.trans x),?_,?_,?_,?_,?_,x.ext_get m1,x.ext_get m2,x.ext_get m3,x.ext_get m8,x.ext_get mf,by simpa using row0.ext x,λhh=>?_,λhh=>?_,λk hk hh=>?_,by simp,by simpa using hml,by simp,Upd.Aj (e09.trans x),λhh=>?_,λk hk=>.inl hk⟩
  ·intro k hk;rw [hG0];exact .inl hk
  ·rw [hG0];exact .inr (.inl rfl)
  ·rw [hG0];exact .inr (.inr (.inl rfl))
  ·intro k hk;rw [hG0];exact .inr (.inr (.inr hk))
  ·intro k hk
   rw [hG0] at hk
   rcases hk with hk|hk|hk|hk
   ·exact .inl hk
   ·exact .inr (by omega)
   ·exact .inr (by omega)
   ·exact .inr (s0lt k hk).1
  ·have:=hAlt _ hh;omega
  ·have:=hAlt _ hh;omega
  ·have:=hAlt _ hh;have:=(s0lt k hk).1;omega
  ·have:=hAlt _ hh;omega
 ·rintro j G S W W' ⟨fl,Fd,Df,s,I⟩ u hS
  exact ⟨fl,Fd,Df,s,I.move u (λk hk=>(hS k hk).1) (λhh=>by have:=(hS _ hh).2;omega) (λhh=>by have:=(hS _ hh).2;omega) (λhh=>by have:=(hS _ hh).2;omega) λk hk=>by have:=(hS k hk).2;omega⟩
 ·rintro q G S W W' ⟨rfl,Fd,v,I⟩ u hS
  exact ⟨rfl,Fd,v,I.move u (λk hk=>(hS k hk).1) λk hk=>by have:=(hS k hk).2;omega⟩
 ·rintro rc j sc G R W hne ⟨fl,Fd,Df,s,I⟩ hGlt hGl hsc hscG hr hT hF
  rw [←hBd] at hne hsc
  obtain ⟨l,hl⟩:∃l,l=w9.heap.size+1:=⟨_,rfl⟩
  rw [←hl] at hGl hr hT hF ⊢
  have hlW:=lt_of_heap hr
  refine ⟨hr,?_⟩
  obtain ⟨u1,r1⟩:=Dt (o':=.loop (rc .busy none)) hr
  have st1:Eb W (W.putObj l (.loop (rc .busy none))):=Eb.upd u1 λk hk o ho=>by subst hk;rw [hr] at ho;cases ho;rfl
  have I1:=I.move u1 (λk hk=>by rw [hk];exact hGl) (by omega) (by omega) (by omega) (λk hk=>by omega)
  have hsc1:=hsc.upd u1 λk hk hh=>by obtain ⟨c,fr,hc⟩:=hsc.Bc hk;rw [hh,hr] at hc;cases hc
  have hzu1:=u1.size
  generalize W.putObj l (.loop (rc .busy none))=W1 at *
  have hsl1:=I1.row.len1
  have hscl:=hsc1.len1
  rw [List.length_map] at hscl
  have hckl:(Hl B j).length<=1024:=by unfold Hl;rw [List.length_take];omega
  have hlo:=I1.lo
  have hhi:=I1.hi
  have htn:mk++B.take (1024*(j+1))=(mk++B.take (1024*j))++Hl B j:=by
   unfold Hl
   rw [show 1024*(j+1)=1024*j+1024 by omega,List.take_add,List.append_assoc]
  obtain ⟨T0,hT0⟩:∃T0,T0=mk++B.take (1024*j):=⟨_,rfl⟩
  have row1:=I1.row
  rw [←hT0] at hsl1 hlo hhi htn row1
  rw [List.length_map,List.length_drop] at hsl1
  have hdr:T0.drop (1024*fl)++Hl B j=(mk++B.take (1024*(j+1))).drop (1024*fl):=by
   rw [htn,List.drop_append_of_le_length hlo]
  obtain ⟨R1,hR1⟩:∃R1,R1=(mk++B.take (1024*(j+1))).drop (1024*fl):=⟨_,rfl⟩
  have hR1l:R1.length=(mk++B.take (1024*(j+1))).length-1024*fl:=by rw [hR1,List.length_drop]
  have htl:(mk++B.take (1024*(j+1))).length=T0.length+(Hl B j).length:=by rw [htn,List.length_append]
  have hpre:R1 <+: (mk++B).drop (1024*fl):=by
   rw [hR1]
   obtain ⟨Q,hQ⟩:=(List.prefix_append_right_inj mk).2 (List.take_prefix (1024*(j+1)) B)
   exact ⟨Q,by rw [←List.drop_append_of_le_length (by rw [htl];omega),hQ]⟩
  have hTl:(mk++B).length<=1048576+1024:=by rw [List.length_append];omega
  have hprel:=hpre.length_le
  rw [List.length_drop] at hprel
  refine Ah I1.n8 (x:=s) rfl (Fg (s:=s) (x:=sc) EB uB row1 hsc1.x (Rn _) (by omega) (by have:=(u1.size);have:=I.upd.size;omega) λs1 W2 r2 hl2 u2 hb2=>?_)
  have hbv:bv (T0.drop (1024*fl))++bv (Hl B j)=bv R1:=by rw [hR1,←hdr];exact List.map_append.symm
  rw [hbv] at r2
  have bc:∀k,s.blk k->∃c fr,W1.heap[k]?=some (.cells c 5 fr):=λk hk=>row1.in.Bc hk
  have ns8:¬s.blk b8:=λhh=>by obtain ⟨c,fr,hc⟩:=bc _ hh;rw [I1.n8] at hc;cases hc
  have ns3:¬s.blk b3:=λhh=>by obtain ⟨c,fr,hc⟩:=bc _ hh;rw [I1.n3] at hc;cases hc
  have nsl:¬s.blk l:=λhh=>by obtain ⟨c,fr,hc⟩:=bc _ hh;rw [r1] at hc;cases hc
  have ns1:¬s.blk b1:=λhh=>by obtain ⟨c,fr,hc⟩:=bc _ hh;rw [I1.n1] at hc;cases hc
  have ns2:¬s.blk b2:=λhh=>by obtain ⟨c,fr,hc⟩:=bc _ hh;rw [I1.n2] at hc;cases hc
  have nsf:¬s.blk f:=λhh=>by obtain ⟨c,fr,hc⟩:=bc _ hh;rw [I1.nf] at hc;cases hc
  have st2:Eb W1 W2:=Eb.upd u2 λk hk o ho=>by obtain ⟨c,fr,hc⟩:=bc k hk;rw [hc] at ho;cases ho;rfl
  have m8:=u2.get I1.n8 ns8
  refine Ei m8 Nat.one_pos λW3 u3 n8 _=>?_
  have n8:W3.heap[b8]?=some (.cells #[.slice s1.a s1.len s1.cap] 30 (0,0)):=n8
  have st3:Eb W2 W3:=Ri m8 rfl u3
  have row3:En W3 w.heap.size s1 R1:=r2.upd u3 λk _ hk hh=>by obtain ⟨c,fr,hc⟩:=r2.in.Bc hk;rw [hh,m8] at hc;cases hc
  have r3:W3.heap[l]?=some (.loop (rc .busy none)):=u3.Et (u2.get r1 nsl) (λhh=>by have:=I1.n8;rw [←hh,r1] at this;cases this)
  have disk3:DS W3 d Fd Df (N+2*fl):=(I1.disk.frame u2 λk hk hh=>I1.nos k hh hk).frame u3 λk hk hh=>I1.no8 (hh▸hk)
  have n1':=u3.Et (u2.get I1.n1 ns1) (by omega)
  have n2':=u3.Et (u2.get I1.n2 ns2) (by omega)
  have n3':=u3.Et (u2.get I1.n3 ns3) (by omega)
  have nf':=u3.Et (u2.get I1.nf nsf) (by omega)
  have s1F:∀k,s1.blk k->¬Fd k:=λk hk hh=>by
   rcases hb2 k hk with h'|h'
   ·exact I1.nos k h' hh
   ·have:=I1.disk.lt k hh;omega
  have U3:Upd (λk=>G k\/k=l) W W3:=((u1.mono λk _ hk=>.inr hk).trans (u2.mono λk _ hk=>.inl (I1.gs k hk))).trans (u3.mono λk _ hk=>.inl (hk▸I1.g8))
  have S3:Eb W W3:=(st1.trans st2).trans st3
  have zW:=I.upd.size
  have z2:=u2.size
  have z3:=u3.size
  have hrl:=row3.len1
  rw [List.length_map] at hrl
  have gW:∀k,G k->F k\/w.heap.size<=k:=I.gw
  have UW:∀W',Upd (λk=>G k\/k=l) W W'->Upd (λk=>F k\/w.heap.size<=k) w W':=λW' u=>I.upd.trans (u.mono λk _ hk=>hk.elim (gW k) λhh=>.inr (by omega))
  refine Ah n8 (x:=s1) rfl (Ac (λhfull=>?_) λhpart=>?_)
  ·have hfull:=of_decide_eq_true hfull
   have hR1g:1024<=R1.length:=by omega
   refine Dh λW4 e4 _=>Ah (e4.ext_get n1') (x:=some (at0 f)) rfl (Af (Ah (e4.ext_get nf') (off:=0) (x:=some (at0 d)) c0 (Ah (e4.ext_get n2') (x:=n) rfl (Ah (e4.ext_get n8) (x:=s1) rfl ?_))))
   have hcap:=row3.in.le
   refine Qa (row3.in.ext e4) (by omega) (by omega) (by omega) (by omega) (by omega) λx23 hx23 hl23 _ hb23=>?_
   have hbv23:((bv R1).drop (Int.toNat 0*1)).take ((Int.toNat 1024-Int.toNat 0)*1)=bv (((mk++B).drop (1024*fl)).take 1024):=by
    have e1:R1.take 1024=((mk++B).drop (1024*fl)).take 1024:=by
     obtain ⟨Q,hQ⟩:=hpre
     rw [←hQ,List.take_append_of_le_length hR1g]
    rw [←e1];simp [List.map_take]
   rw [hbv23] at hx23
   obtain ⟨blk,hblk⟩:∃blk,blk=((mk++B).drop (1024*fl)).take 1024:=⟨_,rfl⟩
   rw [←hblk] at hx23
   have hne:(mk++B).drop (1024*fl)≠[]:=λhh=>by have:=congrArg List.length hh;rw [List.length_drop,List.length_nil] at this;omega
   have hcons:=Rj (n:=n) (D:=Df) hne
   rw [←hblk,List.drop_drop,show 1024*fl+1024=1024*(fl+1) by omega] at hcons
   have hleft:=I.left
   refine Be0 (disk3.ext e4) (by omega) hx23.x (.inr λk hk=>⟨hx23.Em hk,s1F k (hb23 k hk)⟩) λF5 W5 v5 hv5 disk5 u5 hF5 hnew5=>?_
   have z4:=e4.size
   have z5:=u5.size
   have g5:∀k,Fd k->G k:=I.fg
   have n35:=u5.get (e4.ext_get n3') I1.no3
   have n85:=u5.get (e4.ext_get n8) I1.no8
   have r5:=u5.get (e4.ext_get r3) λhh=>hGl (g5 _ hh)
   have n15:=u5.get (e4.ext_get n1') (λhh=>by rcases I1.fw _ hh with h'|h';have:=hAlt _ h';omega;have:=disk3.ty _ hh _ n1';cases this)
   have n25:W5.heap[b2]?=some (.cells #[.string n] 9 (0,0)):=u5.get (e4.ext_get n2') I1.no2
   have nf5:=u5.get (e4.ext_get nf') (λhh=>by rcases I1.fw _ hh with h'|h';exact hfF h';omega)
   have U5:Upd (λk=>G k\/k=l) W W5:=(U3.trans (Upd.Aj e4)).trans (u5.mono λk _ hk=>.inl (g5 k hk))
   have S5:Eb W W5:=(S3.trans (Eb.ext e4)).trans ((disk3.ext e4).stay u5)
   refine hv5.Uy (Ac (λhe=>?_) λhe=>?_)
   ·have he:=of_decide_eq_true he
    rw [if_neg he] at hcons
    rw [hcons] at hleft
    refine Gf hv5.one (Ei n35 Nat.one_pos λW6 u6 n6 _=>?_)
    have n6:W6.heap[b3]?=some (.cells #[v5] 26 (0,0)):=n6
    have r6:=u6.Et r5 (λhh=>by rw [←hh,r5] at n35;cases n35)
    obtain ⟨u7,r7⟩:=Dt (o':=.loop (rc .done (some .ret))) r6
    have st7:Eb W6 (W6.putObj l (.loop (rc .done (some .ret)))):=Eb.upd u7 λk hk o ho=>by subst hk;rw [r6] at ho;cases ho;rfl
    have U7:Upd (λk=>G k\/k=l) W (W6.putObj l (.loop (rc .done (some .ret)))):=(U5.trans (u6.mono λk _ hk=>.inl (hk▸I.g3))).trans (u7.mono λk _ hk=>.inr hk)
    have z6:=u6.size
    have z7:=u7.size
    refine ⟨⟨_,_,r6⟩,hF .ret (λk=>(G k\/W.heap.size<=k)/\k<(W6.putObj l (.loop (rc .done (some .ret)))).heap.size) _ ((S5.trans (Ri n35 rfl u6)).trans st7) U7 (λk hk=>hk.1) (λk hk=>hk.2) ⟨rfl,F5,v5,?_⟩ r7⟩
    have n6l:b3≠l:=λhh=>by rw [hh,r6] at n6;cases n6
    have f5G:∀k,F5 k->G k\/W.heap.size<=k:=λk hk=>(hF5 k hk).elim (λhh=>.inl (g5 k hh)) λhh=>.inr (by omega)
    have no3:¬F5 b3:=λhh=>(hF5 _ hh).elim I1.no3 λhh=>by have:=lt_of_heap (e4.ext_get n3');omega
    have nol:¬F5 l:=λhh=>(hF5 _ hh).elim (λhh=>hGl (g5 _ hh)) λhh=>by omega
    have dk7:=(disk5.frame u6 λk hk hh=>no3 (hh▸hk)).frame u7 λk hk hh=>nol (hh▸hk)
    have gb3:=lt_of_heap n6
    refine ⟨?_,λk hk=>⟨f5G k hk,dk7.lt k hk⟩,⟨.inl I.g3,by omega⟩,u7.Et n6 n6l,?_,?_,UW _ U7,λk hk=>(hF5 k hk).elim (I.fw k) λhh=>.inr (by omega)⟩
    ·rw [hleft];exact dk7.mono (by omega)
    ·rw [hleft]
     exact (hv5.upd u6 (Cc.box n35 (by decide))).upd u7 λk hk c fr hc=>by subst hk;rw [r6] at hc;cases hc
    ·intro b hb
     obtain ⟨b',op,nm,st,q1,q2⟩:=hv5.bad he
     rw [q1] at hb
     have hbb:b'=b:=by simpa using hb
     subst hbb
     have hlt:=lt_of_heap q2
     exact ⟨.inr (by have:=hnew5 _ q1;omega),by omega⟩
   ·have he:(Bo Df n blk).2.1=0:=by have:=of_decide_eq_false he;omega
    rw [if_pos he] at hcons
    rw [hcons] at hleft
    have n85':W5.heap[b8]?=some (.cells #[.slice s1.a s1.len s1.cap] 30 (0,0)):=n85
    have row5:En W5 w.heap.size s1 R1:=(row3.ext e4).upd u5 λk _ hk hh=>s1F k hk hh
    refine Ah n85' (x:=s1) rfl (Qa row5.in (by omega) (by omega) (by omega) (by omega) (by omega) λx27 hx27 hl27 _ hb27=>?_)
    have hbv27:((bv R1).drop (Int.toNat 1024*1)).take ((Int.toNat ((s1.len:Nat):Int)-Int.toNat 1024)*1)=bv (R1.drop 1024):=by
     rw [show Int.toNat 1024*1=1024 from rfl,←List.map_drop,List.take_of_length_le]
     rw [List.length_map,List.length_drop,Int.toNat_natCast];omega
    rw [hbv27] at hx27
    refine Pe hx27.x (by rw [List.length_drop];omega) λs5 W6 r6 e6=>?_
    have n86:=e6.ext_get n85'
    refine Ei n86 Nat.one_pos λW7 u7 n7 _=>?_
    have n7:W7.heap[b8]?=some (.cells #[.slice s5.a s5.len s5.cap] 30 (0,0)):=n7
    have z6:=e6.size
    have z7:=u7.size
    have b8l:b8≠l:=λhh=>by rw [hh,r5] at n85';cases n85'
    have r7:=u7.Et (e6.ext_get r5) b8l.symm
    obtain ⟨u8,r8⟩:=Dt (o':=.loop (rc .ready none)) r7
    have z8:=u8.size
    have st8:Eb W7 (W7.putObj l (.loop (rc .ready none))):=Eb.upd u8 λk hk o ho=>by subst hk;rw [r7] at ho;cases ho;rfl
    have U8:Upd (λk=>G k\/k=l) W (W7.putObj l (.loop (rc .ready none))):=((U5.trans (Upd.Aj e6)).trans (u7.mono λk _ hk=>.inl (hk▸I.g8))).trans (u8.mono λk _ hk=>.inr hk)
    have s5ge:∀k,s5.blk k->W5.heap.size<=k/\k<W6.heap.size:=λk hk=>⟨r6.Ew hk,r6.in.Em hk⟩
    have no8:¬F5 b8:=λhh=>(hF5 _ hh).elim I1.no8 λhh=>by have:=lt_of_heap (e4.ext_get n8);omega
    have no3:¬F5 b3:=λhh=>(hF5 _ hh).elim I1.no3 λhh=>by have:=lt_of_heap (e4.ext_get n3');omega
    have nol:¬F5 l:=λhh=>(hF5 _ hh).elim (λhh=>hGl (g5 _ hh)) λhh=>by omega
    have dk8:=((disk5.ext e6).frame u7 λk hk hh=>no8 (hh▸hk)).frame u8 λk hk hh=>nol (hh▸hk)
    have f5G:∀k,F5 k->G k\/W.heap.size<=k:=λk hk=>(hF5 k hk).elim (λhh=>.inl (g5 k hh)) λhh=>.inr (by omega)
    have l8:=lt_of_heap n7
    have l3:=lt_of_heap n35
    have keep:∀{k o},W5.heap[k]?=some o->k≠b8->k≠l->(W7.putObj l (.loop (rc .ready none))).heap[k]?=some o:=λh h1 h2=>u8.Et (u7.Et (e6.ext_get h) h1) h2
    refine ⟨⟨_,_,r7⟩,hT (λk=>(G k\/W.heap.size<=k)/\k<(W7.putObj l (.loop (rc .ready none))).heap.size) _ (((S5.trans (Eb.ext e6)).trans (Ri n86 rfl u7)).trans st8) U8 (λk hk=>hk.1) (λk hk=>hk.2) ⟨fl+1,F5,(Bo Df n blk).1,s5,?_⟩ r8⟩
    refine ⟨dk8.mono (by omega),λk hk=>⟨f5G k hk,dk8.lt k hk⟩,⟨.inl I.g8,by omega⟩,⟨.inl I.g3,by omega⟩,λk hk=>⟨.inr (by have:=(s5ge k hk).1;omega),by have:=(s5ge k hk).2;omega⟩,λk hk=>hk.1.elim (gW k) λhh=>.inr (by omega),keep n15 (by omega) (by omega),keep n25 (by omega) (by omega),keep n35 (by omega) (λhh=>by rw [hh,r5] at n35;cases n35),u8.Et n7 b8l,keep nf5 (by omega) (by omega),?_,no8,no3,λk hk hh=>?_,?_,?_,hleft,UW _ U8,?_,λk hk=>(hF5 k hk).elim (I.fw k) λhh=>.inr (by omega)⟩
    ·have hq:(mk++B.take (1024*(j+1))).drop (1024*(fl+1))=R1.drop 1024:=by rw [hR1,List.drop_drop];congr 1
     rw [hq]
     refine Au.mono ((r6.upd u7 λk _ hk hh=>?_).upd u8 λk _ hk hh=>?_) (by omega)
     ·obtain ⟨c,fr,hc⟩:=r6.in.Bc hk;rw [hh,n86] at hc;cases hc
     ·have:=s5ge k hk;omega
    ·have:=disk5.lt k hh;have:=(s5ge k hk).1;omega
    ·rw [htl];omega
    ·rw [htl];omega
    ·exact λhh=>(hF5 _ hh).elim I1.no2 λhh=>by have:=lt_of_heap (e4.ext_get n2');omega
  ·have hpart:=of_decide_eq_false hpart
   obtain ⟨u8,r8⟩:=Dt (o':=.loop (rc .ready none)) r3
   have z8:=u8.size
   have st8:Eb W3 (W3.putObj l (.loop (rc .ready none))):=Eb.upd u8 λk hk o ho=>by subst hk;rw [r3] at ho;cases ho;rfl
   have U8:Upd (λk=>G k\/k=l) W (W3.putObj l (.loop (rc .ready none))):=U3.trans (u8.mono λk _ hk=>.inr hk)
   have b8l:b8≠l:=λhh=>by rw [hh,r3] at n8;cases n8
   have l8:=lt_of_heap n8
   have l3:=lt_of_heap n3'
   have dk8:=disk3.frame u8 λk hk hh=>hGl (I.fg _ (hh▸hk))
   refine ⟨⟨_,_,r3⟩,hT (λk=>(G k\/W.heap.size<=k)/\k<(W3.putObj l (.loop (rc .ready none))).heap.size) _ (S3.trans st8) U8 (λk hk=>hk.1) (λk hk=>hk.2) ⟨fl,Fd,Df,s1,?_⟩ r8⟩
   refine ⟨dk8,λk hk=>⟨.inl (I.fg k hk),dk8.lt k hk⟩,⟨.inl I.g8,by omega⟩,⟨.inl I.g3,by omega⟩,λk hk=>⟨?_,?_⟩,λk hk=>hk.1.elim (gW k) λhh=>.inr (by omega),u8.Et n1' (by omega),u8.Et n2' (by omega),u8.Et n3' (λhh=>by rw [hh,r3] at n3';cases n3'),u8.Et n8 b8l,u8.Et nf' (by omega),?_,I1.no8,I1.no3,s1F,?_,?_,I.left,UW _ U8,I.no2,I.fw⟩
   ·rcases hb2 k hk with h'|h'
    ·exact .inl (I1.gs k h')
    ·exact .inr (by omega)
   ·have:=row3.in.Em hk;omega
   ·rw [←hR1]
    exact row3.upd u8 λk _ hk hh=>by obtain ⟨c,fr,hc⟩:=row3.in.Bc hk;rw [hh,r3] at hc;cases hc
   ·rw [htl];omega
   ·rw [htl];omega
 ·rintro n0 G W W' hn ⟨fl,Fd,Df,s,I⟩ hGl hGD hD u
  rw [←hBd] at hn
  have htk:B.take (1024*n0)=B:=List.take_of_length_le hn
  have I1:=I.move u (λk hk=>by rw [hk];exact hGl) (by omega) (by omega) (by omega) (λk hk=>by omega)
  have row:=I1.row
  have lo:=I1.lo
  have hi':=I1.hi
  rw [htk] at row lo hi'
  have hrl:=row.len1
  rw [List.length_map,List.length_drop] at hrl
  have hTl:(mk++B).length<=1048576+1024:=by rw [List.length_append];omega
  obtain ⟨D0,hD0⟩:∃D0,D0=w9.heap.size:=⟨_,rfl⟩
  rw [←hD0] at hD hGD ⊢
  have zW:=I1.upd.size
  have gD3:D0≠b3:=λhh=>by have:=I1.n3;rw [←hh,hD] at this;cases this
  have fin:∀F' W2 v,W2.heap[b3]?=some (.cells #[v] 26 (0,0))->W2.heap[D0]?=some (.deferred (some []))->Hu W2 v (Dy n (mk++B) D).2->DS W2 d F' (Dy n (mk++B) D).1 (N+4000)->¬F' D0->Upd (λk=>F k\/w.heap.size<=k) w W2->(∀k,F' k->F k\/w.heap.size<=k)->Ry D0 (ld .any (at0 b3) K) W2:=by
   intro F' W2 v h3 hD2 hv hd hn hu hF
   obtain ⟨u3,_⟩:=Dt (o':=.deferred none) hD2
   refine ⟨hD2,Ah (u3.Et h3 gD3.symm) (x:=v) rfl (hK F' _ v (hv.upd u3 λk hk c fr hc=>?_) (hd.frame u3 λk hk hh=>hn (hh▸hk)) ?_ hF)⟩
   ·subst hk;rw [hD2] at hc;cases hc
   ·exact (hu.trans (u3.mono (S':=λk=>F k\/w.heap.size<=k) λk _ hk=>.inr (by omega))).mono λk hk h=>h.resolve_right (by omega)
  have hFD:∀k,Fd k->k≠D0:=λk hk hh=>hGD (I.fg _ (hh▸hk))
  refine At7 (Ah I1.n8 (x:=s) rfl (Ac (λh0=>?_) λh0=>?_))
  ·have h0:((s.len:Nat):Int)=0:=by simpa using h0
   have hnil:(mk++B).drop (1024*fl)=[]:=List.drop_eq_nil_of_le (by omega)
   have hleft:=I1.left
   rw [hnil,Nw] at hleft
   refine Gf rfl (Ei I1.n3 Nat.one_pos λW2 u2 n2 _=>?_)
   have n2:W2.heap[b3]?=some (.cells #[.nilIface] 26 (0,0)):=n2
   refine fin Fd W2 .nilIface n2 (u2.Et hD gD3) (by rw [hleft];exact Hu.none W2) ?_ (λhh=>hFD _ hh rfl) (I1.upd.trans (u2.mono λk _ hk=>.inr (by omega))) I1.fw
   rw [hleft]
   exact (I1.disk.frame u2 λk hk hh=>I1.no3 (hh▸hk)).mono (by omega)
  ·have h0:¬((s.len:Nat):Int)=0:=by simpa using h0
   have hne:(mk++B).drop (1024*fl)≠[]:=λhh=>by have:=congrArg List.length hh;rw [List.length_drop,List.length_nil] at this;omega
   have hcons:=Rj (n:=n) (D:=Df) hne
   have hlt:((mk++B).drop (1024*fl)).length<=1024:=by rw [List.length_drop];omega
   rw [List.take_of_length_le hlt,List.drop_eq_nil_of_le hlt,Nw] at hcons
   have hleft:Dy n (mk++B) D=((Bo Df n ((mk++B).drop (1024*fl))).1,(Bo Df n ((mk++B).drop (1024*fl))).2.1):=by
    rw [I1.left,hcons]
    split
    ·rename_i hh;rw [hh]
    ·rfl
   refine Dh λW4 e4 _=>Ah (e4.ext_get I1.n1) (x:=some (at0 f)) rfl (Af (Ah (e4.ext_get I1.nf) (off:=0) (x:=some (at0 d)) c0 (Ah (e4.ext_get I1.n2) (x:=n) rfl (Ah (e4.ext_get I1.n8) (x:=s) rfl ?_))))
   refine Be0 (I1.disk.ext e4) (by omega) (row.in.ext e4).x (.inr λk hk=>⟨(row.in.ext e4).Em hk,I1.nos k hk⟩) λF5 W5 v5 hv5 disk5 u5 hF5 _=>?_
   have z4:=e4.size
   have n35:=u5.get (e4.ext_get I1.n3) I1.no3
   refine Gf hv5.one (Ei n35 Nat.one_pos λW6 u6 n6 _=>?_)
   have n6:W6.heap[b3]?=some (.cells #[v5] 26 (0,0)):=n6
   have l3:=lt_of_heap (e4.ext_get I1.n3)
   have lD:=lt_of_heap (e4.ext_get hD)
   refine fin F5 W6 v5 n6 (u6.Et (u5.get (e4.ext_get hD) λhh=>hFD _ hh rfl) gD3) ?_ ?_ (λhh=>(hF5 _ hh).elim (λhh=>hFD _ hh rfl) λhh=>by omega) (((I1.upd.trans (Upd.Aj e4)).trans (u5.mono λk _ hk=>I1.fw k hk)).trans (u6.mono λk _ hk=>.inr (by omega))) λk hk=>(hF5 k hk).elim (I1.fw k) λhh=>.inr (by omega)
   ·rw [hleft];exact hv5.upd u6 (Cc.box n35 (by decide))
   ·rw [hleft]
    exact (disk5.frame u6 λk hk hh=>(hF5 k hk).elim (λh'=>I1.no3 (hh▸h')) λh'=>by omega).mono (by omega)
 ·rintro q G W W' ⟨rfl,Fd,v,I⟩ hGl hGD hD u
  have I1:=I.move u (λk hk=>by rw [hk];exact hGl) (λk hk=>by omega)
  obtain ⟨D0,hD0⟩:∃D0,D0=w9.heap.size:=⟨_,rfl⟩
  rw [←hD0] at hD hGD ⊢
  obtain ⟨u3,_⟩:=Dt (o':=.deferred none) hD
  have I2:=I1.move u3 (λk hk=>by rw [hk];exact hGD) (λk hk=>by omega)
  exact Be1 ⟨hD,Ah I2.n3 (x:=v) rfl (hK Fd _ v I2.er I2.disk (I2.upd.mono λk hk h=>h.resolve_right (by omega)) I2.fw)⟩
end
end Dq
end Go.Proofs.YtmooldhpiopcgaaGreatDoor
namespace Go.Proofs.YtmooldhpiopcgaaGreatDoor
namespace Dq
open Go Go.Vx Dsk
section
variable {w w':World}
abbrev stT (s:Stm):Cells.T c57:=(s.1,s.2.1,s.2.2,())
theorem Xt {xs:Array Value}{j:Nat}{v:Value}(h:xs[j]?=some v):(part 3 xs j).run Tryz.prog w=.ok v w:=by
 simp [part,C3.Nv,h,show Vo i3.desc=false from rfl]
theorem Ad1 (a b:Stm) (w:World):(Op.equalIn 10000 57 (.agg (Cells.vals c57 (stT a)).toArray) (.agg (Cells.vals c57 (stT b)).toArray)).run Tryz.prog w=.ok (decide (a=b)) w:=by
 obtain ⟨j,hj,_⟩:=C3.Ar1
 have hu:Tryz.prog.underlying 57=some (.array 3 3):=C57.und
 have hc:Tryz.prog.cellsOf 3=1:=by kernel_rfl
 rw [run_equalIn_array w 9999 _ _ hu hj,hc]
 obtain ⟨a1,a2,a3⟩:=a
 obtain ⟨b1,b2,b3⟩:=b
 have hI:∀x y:Int,(Op.equalIn 9999 3 (.int .i64 x) (.int .i64 y)).run Tryz.prog w=.ok (x==y) w:=λx y=>run_equalIn_int w 9998 _ _ _ _ _ C3.und
 have p0:∀(x y z:Int),(part 3 (Cells.vals c57 (stT (x,y,z))).toArray 0).run Tryz.prog w=.ok (.int .i64 x) w:=λx y z=>Xt rfl
 have p1:∀(x y z:Int),(part 3 (Cells.vals c57 (stT (x,y,z))).toArray 1).run Tryz.prog w=.ok (.int .i64 y) w:=λx y z=>Xt rfl
 have p2:∀(x y z:Int),(part 3 (Cells.vals c57 (stT (x,y,z))).toArray 2).run Tryz.prog w=.ok (.int .i64 z) w:=λx y z=>Xt rfl
 show (Op.eqItems 9999 3 1 _ _ [0,1,2]).run Tryz.prog w=_
 by_cases h1:a1=b1<;>by_cases h2:a2=b2<;>by_cases h3:a3=b3<;>simp [Op.eqItems,h1,h2,h3,hI,p0,p1,p2]
theorem Ad0 (op:BinOp) (o1 o2:Operand) (a b:Stm) (w:World):(eqGuard op 57 o1 o2 (.agg (Cells.vals c57 (stT a)).toArray) (.agg (Cells.vals c57 (stT b)).toArray)).run Tryz.prog w=.ok () w:=run_eqGuard_agg w op 57 o1 o2 _ _ (by kernel_rfl)
theorem Cd9 {o1 o2:Operand}{a b:Stm}{K:Bool->Wp}(hK:K (decide (a=b)) w):rdB Tryz.prog (do eqGuard .eql 57 o1 o2 (.agg (Cells.vals c57 (stT a)).toArray) (.agg (Cells.vals c57 (stT b)).toArray);binOp .eql 57 (.agg (Cells.vals c57 (stT a)).toArray) (.agg (Cells.vals c57 (stT b)).toArray):Sem Value) K w:=by
 refine ⟨decide (a=b),?_,hK⟩
 have h:=run_eql_struct (P:=Tryz.prog) w 57 (Cells.vals c57 (stT a)).toArray (Cells.vals c57 (stT b)).toArray
 rw [Ad1] at h
 dsimp only
 rw [Sem.run_bind,Ad0 .eql o1 o2 a b w,Result.andThen_ok,h];rfl
theorem Cd8 {o1 o2:Operand}{a b:Stm}{K:Bool->Wp}(hK:K (decide (a≠b)) w):rdB Tryz.prog (do eqGuard .neq 57 o1 o2 (.agg (Cells.vals c57 (stT a)).toArray) (.agg (Cells.vals c57 (stT b)).toArray);binOp .neq 57 (.agg (Cells.vals c57 (stT a)).toArray) (.agg (Cells.vals c57 (stT b)).toArray):Sem Value) K w:=by
 refine ⟨decide (a≠b),?_,hK⟩
 have h:=run_neq_struct (P:=Tryz.prog) w 57 (Cells.vals c57 (stT a)).toArray (Cells.vals c57 (stT b)).toArray
 rw [Ad1] at h
 dsimp only
 rw [Sem.run_bind,Ad0 .neq o1 o2 a b w,Result.andThen_ok,h]
 show Result.ok (Value.bool !decide (a=b)) w=Result.ok (Value.bool (decide (a≠b))) w
 rw [decide_not]
end
end Dq
end Go.Proofs.YtmooldhpiopcgaaGreatDoor
namespace Go.Proofs.YtmooldhpiopcgaaGreatDoor
namespace Dq
open Go Go.Vx Dsk Cdc Trx
section
variable {w w':World}{S F F':Nat->Prop}{d:Nat}{D:Dk}{N:Nat}{p:Nat}{e:Enc}{lim na:Nat}{O:Nat->Prop}{M:Parts}
theorem Bw0 (n:Nm):n++({ data:=#[126] }:ByteArray)=side n:=by
 unfold side
 cases h:n++({ data:=#[126] }:ByteArray)
 have:(n++({ data:=#[126] }:ByteArray)).data=n.data++#[126]:=ByteArray.data_append
 rw [h] at this
 simp only at this
 rw [this];simp
theorem Ai3 (v0 v1 v2:Addr) (K:World->Prop):Cd3 tab Tryz.prog Tryz.f136 Cl8 [.pointer (some v0),.pointer (some v1),.pointer (some v2)] K=F136 v0 v1 v2 (λ_=>K):=by kernel_rfl
theorem Ab2 {v0 v1 v2:Addr}{K:World->Prop}(h:F136 v0 v1 v2 (λ_=>K) w):Uz Tryz.prog { target:=.fn (.func 136) #[.pointer (some v0),.pointer (some v1),.pointer (some v2)],args:=#[]++#[] } K w:=by
 refine ⟨.func 136,#[.pointer (some v0),.pointer (some v1),.pointer (some v2)],136,#[.pointer (some v0),.pointer (some v1),.pointer (some v2)],rfl,?_,?_⟩
 ·exact Gg (P:=Tryz.prog) (f:=136) (by kernel_rfl) w
 ·exact I9 Am Tryz.func136 Cl8 [.pointer (some v0),.pointer (some v1),.pointer (some v2)] K w (Eq.mpr (congrFun (Ai3 v0 v1 v2 K) w) h)
structure Bd (b1 b2 b3 f d:Nat) (sm:Sl) (bs:Nm) (bt:Nat) (ct:Array Value) (tt:TypeId) (mk:List UInt8) (p:Nat) (e:Enc) (lim na:Nat) (O:Nat->Prop) (M:Parts) (F:Nat->Prop) (w:World):Prop where
 n1:w.heap[b1]?=some (.cells #[.pointer (some (at0 f))] 29 (0,0))
 n2:∃v,w.heap[b2]?=some (.cells #[v] 26 (0,0))
 n3:w.heap[b3]?=some (.cells #[.string bs] 9 (0,0))
 nf:∃cs,w.heap[f]?=some (.cells cs 110 (0,0))/\cs[0]?=some (.pointer (some (at0 d)))/\cs[2]?=some (.slice sm.a sm.len sm.cap)
 nt:w.heap[bt]?=some (.cells ct tt (0,0))
 x3:¬F b3
 xf:¬F f
 xt:¬F bt
 x1:¬F b1
 x2:¬F b2
 tt2:bt≠b2
 nz:b2≠0
 txt:Txt w p e lim na O M
 xO:∀k,O k->¬F k/\k≠b2
 mk_:By w sm mk
 xm:∀k,sm.blk k->¬F k
 laid:Kw w
variable {b1 b2 b3 f:Nat}{sm:Sl}{bs:Nm}{bt:Nat}{ct:Array Value}{tt:TypeId}{mk:List UInt8}
theorem Bd.step (h:Bd b1 b2 b3 f d sm bs bt ct tt mk p e lim na O M F w) (A:DS w d F D N) (u:Upd F w w') (hF:∀k,F' k->F k\/w.heap.size<=k):Bd b1 b2 b3 f d sm bs bt ct tt mk p e lim na O M F' w':=by
 obtain ⟨v,hv⟩:=h.n2
 obtain ⟨cs,c1,c2,c3⟩:=h.nf
 have nn:∀{k o},w.heap[k]?=some o->¬F k->¬F' k:=λ{k o} hk hn hh=>(hF _ hh).elim hn λhl=>by have:=lt_of_heap hk;omega
 exact ⟨u.get h.n1 h.x1,⟨v,u.get hv h.x2⟩,u.get h.n3 h.x3,⟨cs,u.get c1 h.xf,c2,c3⟩,u.get h.nt h.xt,nn h.n3 h.x3,nn c1 h.xf,nn h.nt h.xt,nn h.n1 h.x1,nn hv h.x2,h.tt2,h.nz,h.txt.upd u (λk hk=>(h.xO k hk).1) (A.no λ_=>rfl),
  λk hk=>⟨λhh=>(hF _ hh).elim (h.xO k hk).1 λhl=>by have:=h.txt.own k hk;omega,(h.xO k hk).2⟩,h.mk_.upd u h.xm,λk hk hh=>(hF _ hh).elim (h.xm k hk) λhl=>by have:=h.mk_.Em hk;omega,h.laid.upd u A.no0⟩
theorem Bd.ext (h:Bd b1 b2 b3 f d sm bs bt ct tt mk p e lim na O M F w) (A:DS w d F D N) (u:Ext w w'):Bd b1 b2 b3 f d sm bs bt ct tt mk p e lim na O M F w':=h.step A (Upd.Aj u) λk hk=>.inl hk
theorem Bd.err (h:Bd b1 b2 b3 f d sm bs bt ct tt mk p e lim na O M F w) (u:Upd (λk=>k=b2) w w'){v:Value}(hv:w'.heap[b2]?=some (.cells #[v] 26 (0,0))):Bd b1 b2 b3 f d sm bs bt ct tt mk p e lim na O M F w':=by
 obtain ⟨v0,h0⟩:=h.n2
 obtain ⟨cs,c1,c2,c3⟩:=h.nf
 exact ⟨u.Et h.n1 (λhh=>by have:=h.n1;rw [hh,h0] at this;cases this),⟨v,hv⟩,u.Et h.n3 (λhh=>by have:=h.n3;rw [hh,h0] at this;cases this),⟨cs,u.Et c1 (λhh=>by rw [hh,h0] at c1;cases c1),c2,c3⟩,u.Et h.nt h.tt2,h.x3,h.xf,h.xt,h.x1,h.x2,h.tt2,h.nz,
  h.txt.upd u (λk hk hh=>(h.xO k hk).2 hh) (Cc.box h0 (by decide)),h.xO,h.mk_.upd u (λk hk hh=>by obtain ⟨c,fr,hc⟩:=h.mk_.Bc hk;rw [hh,h0] at hc;cases hc),h.xm,h.laid.upd u λhh=>h.nz hh.symm⟩
theorem Bd.Cf3 (h:Bd b1 b2 b3 f d sm bs bt ct tt mk p e lim na O M F w) (A:DS w d F D N){v:Value}{er:Int}{D':Dk}{N':Nat}(hv:Hu w' v er) (A':DS w' d F' D' N') (u:Upd F w w') (hF:∀k,F' k->F k\/w.heap.size<=k){K:World->Prop}
  (hK:∀w'',Bd b1 b2 b3 f d sm bs bt ct tt mk p e lim na O M F' w''->DS w'' d F' D' N'->w''.heap[b2]?=some (.cells #[v] 26 (0,0))->Hu w'' v er->Upd (λk=>F k\/k=b2) w w''->Upd (λk=>k=b2) w' w''->K w''):chk (Du v=true) (stC (at0 b2) v K) w':=by
 have h':=h.step A u hF
 obtain ⟨v0,h0⟩:=h'.n2
 refine Gf hv.one (Ei h0 Nat.one_pos λw2 u2 n2 _=>?_)
 have n2:w2.heap[b2]?=some (.cells #[v] 26 (0,0)):=n2
 exact hK w2 (h'.err u2 n2) (A'.frame u2 λk hk hh=>h'.x2 (hh▸hk)) n2 (hv.upd u2 (Cc.box h0 (by decide))) ((u.mono λk _ hk=>.inl hk).trans (u2.mono λk _ hk=>.inr hk)) u2
theorem Bd.put (h:Bd b1 b2 b3 f d sm bs bt ct tt mk p e lim na O M F w) (A:DS w d F D N){v:Value}{er:Int}{D':Dk}{N':Nat}(hv:Hu w' v er) (A':DS w' d F' D' N') (u:Upd F w w') (hF:∀k,F' k->F k\/w.heap.size<=k){K:World->Prop}
  (hK:∀w'',Bd b1 b2 b3 f d sm bs bt ct tt mk p e lim na O M F' w''->DS w'' d F' D' N'->w''.heap[b2]?=some (.cells #[v] 26 (0,0))->Hu w'' v er->Upd (λk=>F k\/k=b2) w w''->K w''):chk (Du v=true) (stC (at0 b2) v K) w' :=
 h.Cf3 A hv A' u hF λw'' a b c d e _=>hK w'' a b c d e
theorem Bw8 (h:Bd b1 b2 b3 f d sm bs bt ct tt mk p e lim na O M F w) (A:DS w d F D N) (hN:N+2<=2^30){v:Value}{er:Int}{t:Stm}(hv:Hu w v er) (n2:w.heap[b2]?=some (.cells #[v] 26 (0,0))){K:Value->Wp}
  (hK:∀F' w',Hu w' v er->DS w' d F' (clean D bs er t).1 (N+2)->Upd F w w'->(∀k,F' k->F k\/w.heap.size<=k)->K v w') :
  Uz Tryz.prog { target:=.fn (.func 136) #[.pointer (some (at0 b2)),.pointer (some (at0 b1)),.pointer (some (at0 b3))],args:=#[]++#[] } (ld .any (at0 b2) K) w:=by
 refine Ab2 ?_
 unfold F136
 unfold clean at hK
 refine Ah n2 (x:=v) rfl (hv.Uy (Ac (λhe=>?_) λhe=>?_))
 ·have he:=of_decide_eq_true he
  rw [if_neg he] at hK
  obtain ⟨cs,c1,c2,_⟩:=h.nf
  refine Dh λw1 e1 _=>Ah (e1.ext_get h.n1) (x:=some (at0 f)) rfl (Af (Ah (e1.ext_get c1) (off:=0) (x:=some (at0 d)) c2 (Ah (e1.ext_get h.n3) (x:=bs) rfl ?_)))
  refine Bc5 (A.ext e1) hN λF' w2 v' _ A2 u2 hF2=>?_
  have hz:=e1.size
  exact Ah (u2.get (e1.ext_get n2) h.x2) (x:=v) rfl (hK F' w2 ((hv.ext e1).upd u2 ((A.ext e1).no λ_=>rfl)) A2 ((Upd.Aj e1).trans u2) λk hk=>(hF2 k hk).imp id λhh=>by omega)
 ·have he:er=0:=by have:=of_decide_eq_false he;omega
  rw [if_pos he] at hK
  exact Ah n2 (x:=v) rfl (hK F w hv (A.mono (by omega)) (Upd.refl _ _) λk hk=>.inl hk)
end
end Dq
end Go.Proofs.YtmooldhpiopcgaaGreatDoor
namespace Go.Proofs.YtmooldhpiopcgaaGreatDoor
namespace Dq
open Go Go.Vx Dsk Cdc Trx
section
variable {w w':World}{S F F':Nat->Prop}{d:Nat}{D:Dk}{N:Nat}{p:Nat}{e:Enc}{lim na:Nat}{O:Nat->Prop}{M:Parts}
variable {b1 b2 b3 f:Nat}{sm:Sl}{bs:Nm}{bt ot:Nat}{ct:Array Value}{tt:TypeId}{mk:List UInt8}
theorem Yt:∀(vs:List Value) (c:Array Value) (o:Nat),(∀i v,vs[i]?=some v->c[o+i]?=some v)->setRow c o vs=c
 |[],_,_,_=>rfl
 | v::r,c,o,h=>by
  have h0:=h 0 v rfl
  have e:c.setIfInBounds o v=c:=by
   refine Array.ext (by simp) λi h1 h2=>?_
   rw [Array.getElem_setIfInBounds]
   split
   ·rename_i hh
    subst hh
    have:=Array.getElem?_eq_getElem h2
    rw [Nat.add_zero] at h0
    rw [this] at h0
    exact (Option.some.inj h0).symm
   ·rfl
  show setRow (c.setIfInBounds o v) (o+1) r=c
  rw [e]
  exact Yt r c (o+1) λi u hu=>by have:=h (i+1) u hu;rwa [show o+(i+1)=o+1+i by omega] at this
theorem Bd.tried (h:Bd b1 b2 b3 f d sm bs bt ct tt mk p e lim na O M F w) (u:Upd (λk=>k=bt) w w'){ct':Array Value}(hn:w'.heap[bt]?=some (.cells ct' tt (0,0))) (hc:bt=f->ct'[0]?=ct[0]?/\ct'[2]?=ct[2]?) (h1:bt≠b1) (h3:bt≠b3) (hO:¬O bt) (hs:¬sm.blk bt) (h0:bt≠0) (hN:tt≠186):Bd b1 b2 b3 f d sm bs bt ct' tt mk p e lim na O M F w':=by
 obtain ⟨v0,hv0⟩:=h.n2
 obtain ⟨cs,c1,c2,c3⟩:=h.nf
 refine ⟨u.Et h.n1 h1.symm,⟨v0,u.Et hv0 h.tt2.symm⟩,u.Et h.n3 h3.symm,?_,hn,h.x3,h.xf,h.xt,h.x1,h.x2,h.tt2,h.nz,h.txt.upd u (λk hk hh=>hO (hh▸hk)) (Cc.box h.nt hN),h.xO,h.mk_.upd u (λk hk hh=>hs (hh▸hk)),h.xm,h.laid.upd u λhh=>h0 hh.symm⟩
 by_cases hbf:bt=f
 ·have hnt:=h.nt
  rw [hbf,c1] at hnt
  cases hnt
  rw [hbf] at hn
  obtain ⟨g1,g2⟩:=hc hbf
  exact ⟨ct',hn,by rw [g1];exact c2,by rw [g2];exact c3⟩
 ·exact ⟨cs,u.Et c1 (Ne.symm hbf),c2,c3⟩
theorem Bd.rd (h:Bd b1 b2 b3 f d sm bs bt ct tt mk p e lim na O M F w){K:Option Addr->ByteArray->Wp}(hK:∀w1,Ext w w1->K (some (at0 d)) bs w1) :
  drew (ld (.ptr) (at0 b1) λx=>nn x λq=>ld (.ptr) q λy=>ld (.str) (at0 b3) λz=>K y z) w:=by
 obtain ⟨csx,q1,q2,q3⟩:=h.nf
 exact Dh λw5 e5 _=>Ah (e5.ext_get h.n1) (x:=some (at0 f)) rfl (Af (Ah (e5.ext_get q1) (off:=0) (x:=some (at0 d)) q2 (Ah (e5.ext_get h.n3) (x:=bs) rfl (hK w5 e5))))
theorem Bd.rd4 (h:Bd b1 b2 b3 f d sm bs bt ct tt mk p e lim na O M F w){K:Option Addr->Addr->Option Addr->ByteArray->Wp}(hK:∀w1,Ext w w1->K (some (at0 f)) (at0 f) (some (at0 d)) bs w1) :
  drew (ld (.ptr) (at0 b1) λx=>nn x λq=>ld (.ptr) q λy=>ld (.str) (at0 b3) λz=>K x q y z) w:=by
 obtain ⟨csx,q1,q2,q3⟩:=h.nf
 exact Dh λw5 e5 _=>Ah (e5.ext_get h.n1) (x:=some (at0 f)) rfl (Af (Ah (e5.ext_get q1) (off:=0) (x:=some (at0 d)) q2 (Ah (e5.ext_get h.n3) (x:=bs) rfl (hK w5 e5))))
theorem Bc4 {n:Nm}{b:List UInt8}{t:Stm}(h:(Cb D (side n)).2≠0):Gs D n b t=clean (Cb D (side n)).1 (side n) (Cb D (side n)).2 t:=by
 unfold Gs
 simp only [if_pos h]
theorem Bc3 {n:Nm}{b:List UInt8}{t:Stm}(h:(Cb D (side n)).2=0) (h2:(Dy (side n) b (Cb D (side n)).1).2≠0):Gs D n b t=clean (Dy (side n) b (Cb D (side n)).1).1 (side n) (Dy (side n) b (Cb D (side n)).1).2 t:=by
 unfold Gs Dy at *
 simp only [h,ne_eq,not_true_eq_false,if_false,if_pos h2]
theorem Bc2 {n:Nm}{b:List UInt8}{t:Stm}(h:(Cb D (side n)).2=0) (h2:(Dy (side n) b (Cb D (side n)).1).2=0) (h3:(Dc (Dy (side n) b (Cb D (side n)).1).1 (side n)).2.1≠0) :
  Gs D n b t=clean (Dc (Dy (side n) b (Cb D (side n)).1).1 (side n)).1 (side n) (Dc (Dy (side n) b (Cb D (side n)).1).1 (side n)).2.1 t:=by
 unfold Gs Dy at *
 simp only [h,h2,ne_eq,not_true_eq_false,if_false,if_pos h3]
theorem Bc1 {n:Nm}{b:List UInt8}{t:Stm}(h:(Cb D (side n)).2=0) (h2:(Dy (side n) b (Cb D (side n)).1).2=0) (h3:(Dc (Dy (side n) b (Cb D (side n)).1).1 (side n)).2.1=0)
  (h4:(Ai (Dc (Dy (side n) b (Cb D (side n)).1).1 (side n)).1 (side n)).2.1≠0) :
  Gs D n b t=clean (Ai (Dc (Dy (side n) b (Cb D (side n)).1).1 (side n)).1 (side n)).1 (side n) (Ai (Dc (Dy (side n) b (Cb D (side n)).1).1 (side n)).1 (side n)).2.1 t:=by
 unfold Gs Dy at *
 simp only [h,h2,h3,ne_eq,not_true_eq_false,if_false,if_pos h4]
theorem Ai4 {n:Nm}{b:List UInt8}{t:Stm}(h:(Cb D (side n)).2=0) (h2:(Dy (side n) b (Cb D (side n)).1).2=0) (h3:(Dc (Dy (side n) b (Cb D (side n)).1).1 (side n)).2.1=0)
  (h4:(Ai (Dc (Dy (side n) b (Cb D (side n)).1).1 (side n)).1 (side n)).2.1=0) :
  Gs D n b t=clean (Eu (Ai (Dc (Dy (side n) b (Cb D (side n)).1).1 (side n)).1 (side n)).1 (side n) n).1 (side n) (Eu (Ai (Dc (Dy (side n) b (Cb D (side n)).1).1 (side n)).1 (side n)).1 (side n) n).2.1 (Ai (Dc (Dy (side n) b (Cb D (side n)).1).1 (side n)).1 (side n)).2.2:=by
 unfold Gs Dy at *
 simp only [h,h2,h3,h4,ne_eq,not_true_eq_false,if_false]
set_option maxHeartbeats 2000000 in
theorem Qs (A:DS w d F D N) (hN:N+6000<=2^30) (h:Txt w p e lim na O M) (hO:∀k,O k->¬F k){cs:Array Value}(hf:w.heap[f]?=some (.cells cs 110 (0,0))) (c0:cs[0]?=some (.pointer (some (at0 d)))) (c2:cs[2]?=some (.slice sm.a sm.len sm.cap)) (hfF:¬F f)
  (hm:By w sm mk) (hmF:∀k,sm.blk k->¬F k) (hml:mk.length<1024) (hl:Kw w) (hbt:w.heap[bt]?=some (.cells ct tt (0,0))) (hot:ot+3<=ct.size) (hbtf:bt=f->3<=ot) (hbtF:¬F bt) (hbtO:¬O bt) (hbts:¬sm.blk bt) (hbt0:bt≠0) (hbtn:tt≠186)
  {t:Stm} (ht:∀i v,(Cells.vals c57 (stT t))[i]?=some v->ct[ot+i]?=some v) {n:Nm} (hn:n.size<=2^40) {K:Value->Wp}
  (hK:∀F' w' v,Hu w' v (Gs D n (mk++bOf M) t).2.1->DS w' d F' (Gs D n (mk++bOf M) t).1 (N+5000)->Upd (λk=>F k\/k=bt) w w'->(∀k,F' k->F k\/w.heap.size<=k) ->
   w'.heap[bt]?=some (.cells (setRow ct ot (Cells.vals c57 (stT (Gs D n (mk++bOf M) t).2.2))) tt (0,0))->K v w') :
  Aa Tryz.prog 97 #[.pointer (some (at0 f)),.string n,.pointer (some (at0 p)),.pointer (some ⟨bt,ot,none⟩)] (.one (.one .any)) K w:=by
 refine j97 ?_
 unfold F97
 have hAlt:=A.lt
 have lbt:=lt_of_heap hbt
 have lf:=lt_of_heap hf
 obtain ⟨T,hT⟩:∃T,T=mk++bOf M:=⟨_,rfl⟩
 rw [←hT] at hK
 have hw0:0<w.heap.size:=A.pos
 refine Aq λb1 w1 e1 n1 hb1 hz1=>Aq λb2 w2 e2 n2 hb2 hz2=>Gf ?_ (Aq λb3 w3 e3 n3 hb3 hz3=>Ei n3 Nat.one_pos λw4 u4 n4 hz4=>?_)
 ·have:(ByteArray.size ({ data:=#[126] }:ByteArray))=1:=rfl
  rw [this,show IntKind.max .i64=9223372036854775807 by decide];omega
 obtain ⟨bs,hbs⟩:∃bs,bs=side n:=⟨_,rfl⟩
 have n4:w4.heap[b3]?=some (.cells #[.string bs] 9 (0,0)):=by rw [hbs,←Bw0 n];exact n4
 have e24:Ext w2 w4:=e3.step u4 λk hk=>by omega
 have e04:Ext w w4:=(e1.trans e2).trans e24
 have hz04:=e04.size
 have A4:=A.ext e04
 have B4:Bd b1 b2 b3 f d sm bs bt ct tt mk p e lim na O M F w4:=by
  refine ⟨(e2.trans e24).ext_get n1,⟨_,e24.ext_get n2⟩,n4,⟨cs,e04.ext_get hf,c0,c2⟩,e04.ext_get hbt,λhh=>?_,hfF,hbtF,λhh=>?_,λhh=>?_,by omega,by omega,h.ext e04,λk hk=>⟨hO k hk,?_⟩,hm.ext e04,hmF,hl.ext e04⟩
  ·have:=hAlt _ hh;omega
  ·have:=hAlt _ hh;omega
  ·have:=hAlt _ hh;omega
  ·have:=h.own k hk;omega
 have hct:setRow ct ot (Cells.vals c57 (stT t))=ct:=Yt _ _ _ ht
 have fin:∀(W:World) (F1:Nat->Prop) (D1:Dk) (N1:Nat) (ct1:Array Value) (v:Value) (er:Int) (t1:Stm),Bd b1 b2 b3 f d sm bs bt ct1 tt mk p e lim na O M F1 W->DS W d F1 D1 N1->N1+2<=N+5000->Hu W v er->W.heap[b2]?=some (.cells #[v] 26 (0,0))->Upd (λk=>F k\/(k=b2\/k=bt)) w4 W->(∀k,F1 k->F k\/w4.heap.size<=k) ->
   ct1=setRow ct ot (Cells.vals c57 (stT t1))->Gs D n T t=clean D1 bs er t1->Uz Tryz.prog { target:=.fn (.func 136) #[.pointer (some (at0 b2)),.pointer (some (at0 b1)),.pointer (some (at0 b3))],args:=#[]++#[] } (ld .any (at0 b2) K) W:=by
  intro W F1 D1 N1 ct1 v er t1 B1 A1 hN1 hv hn2 U hF1 hct1 hrep
  refine Bw8 (t:=t1) B1 A1 (by omega) hv hn2 λF' w' hv' A' u' hF'=>?_
  have e1:(clean D1 bs er t1).2.1=er:=by unfold clean;split<;>rfl
  have e2:(clean D1 bs er t1).2.2=t1:=by unfold clean;split<;>rfl
  have zz:=U.size
  refine hK F' w' v (by rw [hrep,e1];exact hv') (by rw [hrep];exact A'.mono hN1) ?_ (λk hk=>?_) ?_
  ·exact Upd.new (Upd.Aj e04) ((U.new u' λk hk hh=>(hF1 k hh).imp id λh'=>by omega)) λk hk hh=>by
    rcases hh with hh|hh|hh
    ·exact .inl hh
    ·omega
    ·exact .inr hh
  ·rcases hF' k hk with hh|hh
   ·exact (hF1 k hh).imp id λh'=>by omega
   ·exact .inr (by omega)
  ·rw [hrep,e2,←hct1]
   exact u'.get B1.nt B1.xt
 have UE:∀{W W':World} {F1:Nat->Prop},Upd (λk=>F k\/(k=b2\/k=bt)) w4 W->(∀k,F1 k->F k\/w4.heap.size<=k)->Upd (λk=>F1 k\/k=b2) W W'->Upd (λk=>F k\/(k=b2\/k=bt)) w4 W':=λ{W W' F1} U hF1 u=>U.new u λk hk hh=>by
  rcases hh with hh|hh
  ·exact (hF1 k hh).imp id λh'=>by omega
  ·exact .inr (.inl hh)
 have FE:∀{W:World} {F1 F2:Nat->Prop},Upd (λk=>F k\/(k=b2\/k=bt)) w4 W->(∀k,F1 k->F k\/w4.heap.size<=k)->(∀k,F2 k->F1 k\/W.heap.size<=k)->∀k,F2 k->F k\/w4.heap.size<=k:=λ{W F1 F2} U h1 h2 k hk=>by
  have:=U.size
  rcases h2 k hk with hh|hh
  ·exact h1 k hh
  ·exact .inr (by omega)
 have fail:∀(W:World) (F1:Nat->Prop) (D1:Dk) (N1:Nat) (v:Value) (er:Int),Bd b1 b2 b3 f d sm bs bt ct tt mk p e lim na O M F1 W->DS W d F1 D1 N1->N1+2<=N+5000->Hu W v er->W.heap[b2]?=some (.cells #[v] 26 (0,0))->Upd (λk=>F k\/(k=b2\/k=bt)) w4 W->(∀k,F1 k->F k\/w4.heap.size<=k) ->
   Gs D n T t=clean D1 bs er t->(ld .any (at0 b2) λx=>chk (Du x=true)<|stC (at0 b2) x<|Uz Tryz.prog { target:=.fn (.func 136) #[.pointer (some (at0 b2)),.pointer (some (at0 b1)),.pointer (some (at0 b3))],args:=#[]++#[] } (ld .any (at0 b2) K)) W:=by
  intro W F1 D1 N1 v er B1 A1 hN1 hv hn2 U hF1 hrep
  refine Ah hn2 (x:=v) rfl (Gf hv.one (Ei hn2 Nat.one_pos λW2 u2 n2 _=>?_))
  exact fin W2 F1 D1 N1 ct v er t (B1.err u2 n2) (A1.frame u2 λk hk hh=>B1.x2 (hh▸hk)) hN1 (hv.upd u2 (Cc.box hn2 (by decide))) n2 (U.trans (u2.mono λk _ hk=>.inr (.inl hk))) hF1 hct.symm hrep
 have U0:Upd (λk=>F k\/(k=b2\/k=bt)) w4 w4:=Upd.refl _ _
 refine B4.rd λw5 e5=>Cc4 (A4.ext e5) (by omega) λF6 w6 v6 hv6 A6 u6 hF6=>(B4.ext A4 e5).put (A4.ext e5) hv6 A6 u6 hF6 λw7 B7 A7 n7 hv7 U7=>?_
 have U5:Upd (λk=>F k\/(k=b2\/k=bt)) w4 w5:=Upd.Aj e5
 have V7:=UE U5 (λk hk=>.inl hk) U7
 have G6:=FE U5 (λk hk=>.inl hk) hF6
 have hbp:Cb D bs=if (Dj D bs).2.1=163 then (if (Ea (Dj D bs).1 bs).2.1=0 then ((Dj (Ea (Dj D bs).1 bs).1 bs).1,(Dj (Ea (Dj D bs).1 bs).1 bs).2.1) else ((Ea (Dj D bs).1 bs).1,(Ea (Dj D bs).1 bs).2.1)) else ((Dj D bs).1,(Dj D bs).2.1):=rfl
 refine Ag (λ_ W=>∃F1 v,Bd b1 b2 b3 f d sm bs bt ct tt mk p e lim na O M F1 W/\DS W d F1 (Cb D bs).1 (N+6)/\W.heap[b2]?=some (.cells #[v] 26 (0,0))/\Hu W v (Cb D bs).2/\Upd (λk=>F k\/(k=b2\/k=bt)) w4 W/\∀k,F1 k->F k\/w4.heap.size<=k) ?_ ?_
 ·refine Ah n7 (x:=v6) rfl (Y1 hv7 (by decide) (Ac (λh163=>?_) λh163=>?_))
  ·have h163:=of_decide_eq_true h163
   rw [if_pos h163] at hbp
   refine B7.rd λw8 e8=>Bc5 (A7.ext e8) (by omega) λF9 w9 v9 hv9 A9 u9 hF9=>(B7.ext A7 e8).put (A7.ext e8) hv9 A9 u9 hF9 λw10 B10 A10 n10 hv10 U10=>Ah n10 (x:=v9) rfl (hv10.Bd4 (Ac (λh0=>?_) λh0=>?_))
   all_goals
    have V8:=V7.trans (S:=λk=>F k\/(k=b2\/k=bt)) (Upd.Aj e8)
    have V10:=UE V8 G6 U10
    have G9:=FE V8 G6 hF9
   ·have h0:=of_decide_eq_true h0
    rw [if_pos h0] at hbp
    refine B10.rd λw11 e11=>Cc4 (A10.ext e11) (by omega) λF12 w12 v12 hv12 A12 u12 hF12=>(B10.ext A10 e11).put (A10.ext e11) hv12 A12 u12 hF12 λw13 B13 A13 n13 hv13 U13=>?_
    have V11:=V10.trans (S:=λk=>F k\/(k=b2\/k=bt)) (Upd.Aj e11)
    exact ⟨F12,v12,B13,by rw [hbp];exact A13,n13,by rw [hbp];exact hv13,UE V11 G9 U13,FE V11 G9 hF12⟩
   ·have h0:=of_decide_eq_false h0
    rw [if_neg h0] at hbp
    exact ⟨F9,v9,B10,by rw [hbp];exact A10.mono (by omega),n10,by rw [hbp];exact hv10,V10,G9⟩
  ·have h163:=of_decide_eq_false h163
   rw [if_neg h163] at hbp
   exact ⟨F6,v6,B7,by rw [hbp];exact A7.mono (by omega),n7,by rw [hbp];exact hv7,V7,G6⟩
 clear hbp V7 G6 B7 A7 n7 hv7 U7 hv6 A6 u6 hF6
 rintro _ W1 ⟨F1,v1,B1,A1,n1',hv1,V1,G1⟩
 refine Ah n1' (x:=v1) rfl (hv1.Uy (Ac (λhe=>?_) λhe=>?_))
 ·have he:=of_decide_eq_true he
  exact fail W1 F1 _ _ v1 _ B1 A1 (by omega) hv1 n1' V1 G1 (by rw [hbs] at he ⊢;exact Bc4 he)
 have hb0:(Cb D bs).2=0:=by have:=of_decide_eq_false he;omega
 obtain ⟨csx,q1,q2,q3⟩:=B1.nf
 refine Ah B1.n1 (x:=some (at0 f)) rfl (Ah B1.n3 (x:=bs) rfl (Bi8 A1 (by omega) B1.txt (λk hk=>(B1.xO k hk).1) q1 q2 q3 B1.xf B1.mk_.x hml λF2 w2 v2 hv2 A2 u2 hF2=>?_))
 rw [←hT] at hv2 A2
 refine B1.put A1 hv2 A2 u2 hF2 λW2 B2 A2 n2' hv2 U2=>?_
 have V2:=UE V1 G1 U2
 have G2:=FE V1 G1 hF2
 refine Ah n2' (x:=v2) rfl (hv2.Uy (Ac (λhe=>?_) λhe=>?_))
 ·have he:=of_decide_eq_true he
  exact fail W2 F2 _ _ v2 _ B2 A2 (by omega) hv2 n2' V2 G2 (by rw [hbs] at he hb0 ⊢;exact Bc3 hb0 he)
 have hf0:(Dy bs T (Cb D bs).1).2=0:=by have:=of_decide_eq_false he;omega
 refine B2.rd λw3 e3=>Cj4 (A2.ext e3) (by omega) λF3 w3' v3 hv3 A3 u3 hF3=>(B2.ext A2 e3).put (A2.ext e3) hv3 A3 u3 hF3 λW3 B3 A3 n3' hv3 U3=>?_
 have V2':=V2.trans (S:=λk=>F k\/(k=b2\/k=bt)) (Upd.Aj e3)
 have V3:=UE V2' G2 U3
 have G3:=FE V2' G2 hF3
 refine Ah n3' (x:=v3) rfl (hv3.Uy (Ac (λhe=>?_) λhe=>?_))
 ·have he:=of_decide_eq_true he
  exact fail W3 F3 _ _ v3 _ B3 A3 (by omega) hv3 n3' V3 G3 (by rw [hbs] at he hb0 hf0 ⊢;exact Bc2 hb0 hf0 he)
 have hs0:(Dc (Dy bs T (Cb D bs).1).1 bs).2.1=0:=by have:=of_decide_eq_false he;omega
 obtain ⟨D3,hD3⟩:∃D3,D3=(Dc (Dy bs T (Cb D bs).1).1 bs).1:=⟨_,rfl⟩
 rw [←hD3] at A3
 refine Ag (λs W=>∃bS F4 v4,s=(at0 bS,())/\W.heap[bS]?=some (.cells (Cells.vals c57 (stT (Ai D3 bs).2.2)).toArray 57 (0,0))/\Bd b1 b2 b3 f d sm bs bt ct tt mk p e lim na O M F4 W/\DS W d F4 (Ai D3 bs).1 (N+6+4000+2+2)/\W.heap[b2]?=some (.cells #[v4] 26 (0,0))/\Hu W v4 (Ai D3 bs).2.1/\Upd (λk=>F k\/(k=b2\/k=bt)) w4 W/\∀k,F4 k->F k\/w4.heap.size<=k) ?_ ?_
 ·refine B3.rd4 λw5' e5'=>?_
  have V3':=V3.trans (S:=λk=>F k\/(k=b2\/k=bt)) (Upd.Aj e5')
  have A5':=A3.ext e5'
  have B5':=B3.ext A3 e5'
  obtain ⟨csy,r1,r2,r3⟩:=B5'.nf
  have b2lt:b2<w5'.heap.size:=by obtain ⟨v0,h0⟩:=B5'.n2;exact lt_of_heap h0
  refine ⟨?_,?_⟩
  ·refine Aq λb51 w6 e6 n6 hb6 hz6=>Ar (cell_of (off:=0) (e6.ext_get B5'.n3) rfl) (Ar (cell_of (off:=0) (e6.ext_get r1) r2) (Ar (cell_of (off:=0) (e6.ext_get B5'.n1) rfl) ?_))
   refine N8 (A5'.ext e6) (by omega) λF7 w7 v7 hv7 A7 u7 hF7=>?_
   have hn51:¬F3 b51:=λhh=>by have:=A5'.lt _ hh;omega
   refine Fb (u7.get n6 hn51) rfl rfl (by decide) λw8 u8 n8 hz8=>?_
   have n8:w8.heap[b51]?=some (.cells (Cells.vals c57 (stT (Ai D3 bs).2.2)).toArray 57 (0,0)):=n8
   have hf7:¬F7 b51:=λhh=>(hF7 _ hh).elim hn51 λh'=>by omega
   have hz7:=u7.size
   exact B5'.Cf3 A5' (hv7.upd u8 (Cc.box (u7.get n6 hn51) (by decide))) (A7.frame u8 λk hk hh=>hf7 (hh▸hk)) (((Upd.Aj e6).trans u7).new u8 λk hk hh=>by omega) (λk hk=>(hF7 k hk).imp id λh'=>by omega) λW9 B9 A9 n9 hv9 U9 u9=>⟨b51,F7,v7,rfl,u9.Et n8 (by omega),B9,A9,n9,hv9,UE V3' G3 U9,FE V3' G3 λk hk=>(hF7 k hk).imp id λh'=>by omega⟩
  ·refine N8 A5' (by omega) λF7 w7 v7 hv7 A7 u7 hF7=>⟨?_,trivial⟩
   have hz7:=u7.size
   refine Aq λb51 w8 e8 n8 hb8 hz8=>Ar (cell_of (off:=0) (e8.ext_get (u7.get B5'.n3 B5'.x3)) rfl) (Ar (cell_of (off:=0) (e8.ext_get (u7.get r1 B5'.xf)) r2) (Ar (cell_of (off:=0) (e8.ext_get (u7.get B5'.n1 B5'.x1)) rfl) ?_))
   have hf7:¬F7 b51:=λhh=>by have:=A7.lt _ hh;omega
   refine Fb n8 rfl rfl (by decide) λw9 u9 n9 hz9=>?_
   have n9:w9.heap[b51]?=some (.cells (Cells.vals c57 (stT (Ai D3 bs).2.2)).toArray 57 (0,0)):=n9
   exact B5'.Cf3 A5' ((hv7.ext e8).upd u9 (Cc.box n8 (by decide))) ((A7.ext e8).frame u9 λk hk hh=>hf7 (hh▸hk)) ((u7.trans (Upd.Aj e8)).new u9 λk hk hh=>by omega) (λk hk=>(hF7 k hk).imp id λh'=>by omega) λW9 B9 A9 n9' hv9 U9 u9'=>⟨b51,F7,v7,rfl,u9'.Et n9 (by omega),B9,A9,n9',hv9,UE V3' G3 U9,FE V3' G3 λk hk=>(hF7 k hk).imp id λh'=>by omega⟩
 ·rintro _ W4 ⟨bS,F4,v4,rfl,nS,B4',A4',n4',hv4,V4,G4⟩
  refine Ah n4' (x:=v4) rfl (hv4.Uy (Ac (λhe=>?_) λhe=>?_))
  ·have he:=of_decide_eq_true he
   rw [hD3] at A4' hv4 he
   exact fail W4 F4 _ _ v4 _ B4' A4' (by omega) hv4 n4' V4 G4 (by rw [hbs] at he hb0 hf0 hs0 ⊢;exact Bc1 hb0 hf0 hs0 he)
  have hst0:(Ai D3 bs).2.1=0:=by have:=of_decide_eq_false he;omega
  refine Gi (x:=stT (Ai D3 bs).2.2) nS (λi v hv=>by rw [Nat.zero_add,←Array.getElem?_toList];exact hv) (Af (Fb B4'.nt rfl rfl hot λW5 u5 n5 hz5=>?_))
  have n5:W5.heap[bt]?=some (.cells (setRow ct ot (Cells.vals c57 (stT (Ai D3 bs).2.2))) tt (0,0)):=n5
  have B5:=B4'.tried u5 n5 (λhh=>by have:=hbtf hh;exact ⟨Gv _ _ _ _ (by omega),Gv _ _ _ _ (by omega)⟩) (by omega) (by omega) hbtO hbts hbt0 hbtn
  have A5:=A4'.frame u5 λk hk hh=>B4'.xt (hh▸hk)
  have V5:=V4.trans (S:=λk=>F k\/(k=b2\/k=bt)) (u5.mono λk _ hk=>.inr (.inr hk))
  have G4':∀k,F4 k->F k\/w4.heap.size<=k:=G4
  refine B5.rd λw6 e6=>Bw9 (A5.ext e6) (by omega) λF7 w7 v7 hv7 A7 u7 hF7=>(B5.ext A5 e6).put (A5.ext e6) hv7 A7 u7 hF7 λW8 B8 A8 n8 hv8 U8=>?_
  have V6:=V5.trans (S:=λk=>F k\/(k=b2\/k=bt)) (Upd.Aj e6)
  rw [hD3] at A8 hv8 hst0
  refine fin W8 F7 _ _ _ v7 _ (Ai D3 bs).2.2 B8 A8 (by omega) hv8 n8 (UE V6 G4 U8) (FE V6 G4 hF7) rfl ?_
  rw [hD3]
  rw [hbs] at hb0 hf0 hs0 hst0 ⊢
  exact Ai4 hb0 hf0 hs0 hst0
end
end Dq
end Go.Proofs.YtmooldhpiopcgaaGreatDoor
namespace Go.Proofs.YtmooldhpiopcgaaGreatDoor
namespace Dq
open Go Go.Vx Dsk Cdc Trx
abbrev Oo (d:Nat) (X:Fil) (sm:Sl):Array Value:=#[.pointer (some (at0 d)),.string X.name,.slice sm.a sm.len sm.cap,.int .i64 X.known.1,.int .i64 X.known.2.1,.int .i64 X.known.2.2,.int .i64 X.tried.1,.int .i64 X.tried.2.1,.int .i64 X.tried.2.2]
structure Nl (w:World) (f d:Nat) (X:Fil) (sm:Sl):Prop where
 box:w.heap[f]?=some (.cells (Oo d X sm) 110 (0,0))
 mkr:By w sm X.mark
section
variable {w w':World}{S F F':Nat->Prop}{d:Nat}{D:Dk}{N:Nat}{p:Nat}{e:Enc}{lim na:Nat}{O:Nat->Prop}{M:Parts}{f:Nat}{X:Fil}{sm:Sl}
theorem Nl.upd (h:Nl w f d X sm) (u:Upd S w w') (h1:¬S f) (h2:∀k,sm.blk k->¬S k):Nl w' f d X sm:=⟨u.get h.box h1,h.mkr.upd u h2⟩
theorem Nl.ext (h:Nl w f d X sm) (u:Ext w w'):Nl w' f d X sm:=h.upd u id λ_ _=>id
theorem Nl.Cg1 (h:Nl w f d X sm):¬sm.blk f:=λhh=>by
 obtain ⟨c,fr,hc⟩:=h.mkr.Bc hh
 rw [h.box] at hc;cases hc
theorem Nl.set (h:Nl w f d X sm) (u:Upd (λk=>k=f) w w'){Y:Fil}(hb:w'.heap[f]?=some (.cells (Oo d Y sm) 110 (0,0))) (hm:Y.mark=X.mark):Nl w' f d Y sm :=
 ⟨hb,by rw [hm];exact h.mkr.upd u λk hk hh=>h.Cg1 (hh▸hk)⟩
theorem Br5 (i:Nat) (v:Value) (h:(Cells.vals c57 (stT X.known))[i]?=some v):(Oo d X sm)[3+i]?=some v:=by
 match i,h with
 |0,h=>exact h
 |1,h=>exact h
 |2,h=>exact h
 |i+3,h=>cases h
theorem L8 (i:Nat) (v:Value) (h:(Cells.vals c57 (stT X.tried))[i]?=some v):(Oo d X sm)[6+i]?=some v:=by
 match i,h with
 |0,h=>exact h
 |1,h=>exact h
 |2,h=>exact h
 |i+3,h=>cases h
theorem L9 {s:Stm}(i:Nat) (v:Value) (h:(Cells.vals c57 (stT s))[i]?=some v):(Cells.vals c57 (stT s)).toArray[0+i]?=some v:=by rw [Nat.zero_add,←Array.getElem?_toList];exact h
theorem Bf9 (s:Stm):setRow (Oo d X sm) 6 (Cells.vals c57 (stT s))=Oo d { X with tried:=s } sm:=rfl
structure FS (w:World) (f d:Nat) (X:Fil) (sm:Sl) (F:Nat->Prop):Prop where
 at_:Nl w f d X sm
 nf:¬F f
 nm:∀k,sm.blk k->¬F k
 laid:Kw w
 small:X.mark.length<1024
 name:X.name.size<=2^40
 nz:f≠0
theorem FS.step (h:FS w f d X sm F) (A:DS w d F D N) (u:Upd F w w') (hF:∀k,F' k->F k\/w.heap.size<=k):FS w' f d X sm F' :=
 ⟨h.at_.upd u h.nf h.nm,λhh=>(hF _ hh).elim h.nf λhl=>by have:=lt_of_heap h.at_.box;omega,λk hk hh=>(hF _ hh).elim (h.nm k hk) λhl=>by have:=h.at_.mkr.Em hk;omega,h.laid.upd u A.no0,h.small,h.name,h.nz⟩
theorem FS.ext (h:FS w f d X sm F) (u:Ext w w'):FS w' f d X sm F:=⟨h.at_.ext u,h.nf,h.nm,h.laid.ext u,h.small,h.name,h.nz⟩
theorem FS.set (h:FS w f d X sm F) (u:Upd (λk=>k=f) w w'){Y:Fil}(hb:w'.heap[f]?=some (.cells (Oo d Y sm) 110 (0,0))) (hm:Y.mark=X.mark) (hn:Y.name=X.name):FS w' f d Y sm F :=
 ⟨h.at_.set u hb hm,h.nf,h.nm,h.laid.upd u λhh=>h.nz hh.symm,by rw [hm];exact h.small,by rw [hn];exact h.name,h.nz⟩
theorem Ar3 (A:DS w d F D N) (hN:N+6000<=2^30) (h:Txt w p e lim na O M) (hO:∀k,O k->¬F k/\k≠f) (hX:FS w f d X sm F){K:Value->Wp}
  (hK:∀F' w' v,let r:=Ey D X.name (X.mark++bOf M) X.tried X.known
   Hu w' v r.2.1->DS w' d F' r.1 (N+5002)->FS w' f d { X with tried:=r.2.2.1,known:=r.2.2.2 } sm F'->Upd (λk=>F k\/k=f) w w'->(∀k,F' k->F k\/w.heap.size<=k)->K v w') :
  Aa Tryz.prog 58 #[.pointer (some (at0 f)),.string X.name,.pointer (some (at0 p)),.pointer (some ⟨f,6,none⟩),.pointer (some ⟨f,3,none⟩)] (.one (.one .any)) K w:=by
 refine j58 ?_
 unfold F58
 refine Qs (t:=X.tried) A hN h (λk hk=>(hO k hk).1) hX.at_.box rfl rfl hX.nf hX.at_.mkr hX.nm hX.small hX.laid hX.at_.box (by show 6+3<=9;decide) (λ_=>by decide) hX.nf (λhh=>(hO f hh).2 rfl) hX.at_.Cg1 hX.nz (by decide) (λi v hv=>L8 i v hv) hX.name λF1 w1 v1 hv1 A1 u1 hF1 n1=>?_
 obtain ⟨r,hr⟩:∃r,r=Gs D X.name (X.mark++bOf M) X.tried:=⟨_,rfl⟩
 rw [←hr] at hv1 A1 n1
 rw [Bf9] at n1
 have hw:Ey D X.name (X.mark++bOf M) X.tried X.known=if r.2.1≠0 then (r.1,r.2.1,r.2.2,X.known) else ((Cm r.1).1,(Cm r.1).2.1,r.2.2,r.2.2):=by rw [hr];rfl
 have lf:=lt_of_heap hX.at_.box
 have X1:FS w1 f d { X with tried:=r.2.2 } sm F1:=by
  refine ⟨⟨n1,hX.at_.mkr.upd u1 λk hk hh=>hh.elim (hX.nm k hk) λh'=>hX.at_.Cg1 (h'▸hk)⟩,λhh=>(hF1 _ hh).elim hX.nf λhl=>by omega,λk hk hh=>(hF1 _ hh).elim (hX.nm k hk) λhl=>by have:=hX.at_.mkr.Em hk;omega,hX.laid.upd u1 λhh=>hh.elim A.no0 λh'=>hX.nz h'.symm,hX.small,hX.name,hX.nz⟩
 refine hv1.Uy (Ac (λhe=>?_) λhe=>?_)
 ·have he:=of_decide_eq_true he
  have hk:=hK F1 w1 v1
  rw [hw,if_pos he] at hk
  exact hk hv1 (A1.mono (by omega)) X1 u1 hF1
 ·have he:=of_decide_eq_false he
  rw [if_neg he] at hw
  have h0:r.2.1=0:=by omega
  refine Af (Gi (x:=stT r.2.2) X1.at_.box (λi v hv=>L8 (X:={ X with tried:=r.2.2 }) i v hv) (Af (Fb X1.at_.box rfl rfl (by show 3+3<=9;decide) λw2 u2 n2 hz2=>?_)))
  have n2:w2.heap[f]?=some (.cells (Oo d { X with tried:=r.2.2,known:=r.2.2 } sm) 110 (0,0)):=n2
  have X2:FS w2 f d { X with tried:=r.2.2,known:=r.2.2 } sm F1:=X1.set u2 n2 rfl rfl
  have A2:=A1.frame u2 λk hk hh=>X1.nf (hh▸hk)
  refine Af (Ah n2 (off:=0) (x:=some (at0 d)) rfl (Bm8 A2 (by omega) λF3 w3 v3 hv3 A3 u3 hF3=>?_))
  have hk:=hK F3 w3 v3
  rw [hw] at hk
  have z2:=u2.size
  have z1:=u1.size
  refine hk hv3 A3 (X2.step A2 u3 hF3) ?_ λk hk=>?_
  ·exact (u1.trans (u2.mono λk _ hk=>.inr hk)).new u3 λk hk hh=>by rcases hF1 k hh with h'|h';exact .inl h';omega
  ·rcases hF3 k hk with hh|hh
   ·exact hF1 k hh
   ·exact .inr (by omega)
end
end Dq
end Go.Proofs.YtmooldhpiopcgaaGreatDoor
namespace Go.Proofs.YtmooldhpiopcgaaGreatDoor
namespace Dq
open Go Go.Vx Dsk Cdc Trx
section
variable {w w':World}{S F F':Nat->Prop}{d:Nat}{D:Dk}{N:Nat}{p:Nat}{e:Enc}{lim na:Nat}{O:Nat->Prop}{M:Parts}{f:Nat}{X:Fil}{sm:Sl}
set_option maxHeartbeats 1000000 in
theorem Xq (A:DS w d F D N) (hN:N+6010<=2^30) (h:Txt w p e lim na O M) (hO:∀k,O k->¬F k/\k≠f) (hX:FS w f d X sm F){force:Bool}{K:Int->Wp}
  (hK:∀F' w',let r:=Eo D X (bOf M) force
   DS w' d F' r.1 (N+5004)->FS w' f d r.2.2 sm F'->Txt w' p e lim na O M->(∀k,O k->¬F' k/\k≠f)->Upd (λk=>F k\/k=f) w w'->(∀k,F' k->F k\/w.heap.size<=k)->K r.2.1 w') :
  Aa Tryz.prog 27 #[.pointer (some (at0 f)),.pointer (some (at0 p)),.bool force] rI K w:=by
 refine j27 ?_
 unfold F27
 obtain ⟨s,hs⟩:∃s,s=Ai D X.name:=⟨_,rfl⟩
 have hAlt:=A.lt
 have lf:=lt_of_heap hX.at_.box
 have hsv:Eo D X (bOf M) force=if s.2.1≠0/\s.2.1≠162 then (s.1,s.2.1,X) else
   if force=false/\s.2.2≠(if s.2.1=0/\s.2.2=X.tried then s.2.2 else X.known) then (s.1,170,{ X with known:=(if s.2.1=0/\s.2.2=X.tried then s.2.2 else X.known) }) else
   ((Ey s.1 X.name (X.mark++bOf M) X.tried (if s.2.1=0/\s.2.2=X.tried then s.2.2 else X.known)).1,(Ey s.1 X.name (X.mark++bOf M) X.tried (if s.2.1=0/\s.2.2=X.tried then s.2.2 else X.known)).2.1,{ X with tried:=(Ey s.1 X.name (X.mark++bOf M) X.tried (if s.2.1=0/\s.2.2=X.tried then s.2.2 else X.known)).2.2.1,known:=(Ey s.1 X.name (X.mark++bOf M) X.tried (if s.2.1=0/\s.2.2=X.tried then s.2.2 else X.known)).2.2.2 }):=by
  rw [hs];rfl
 obtain ⟨kn,hkn⟩:∃kn,kn=(if s.2.1=0/\s.2.2=X.tried then s.2.2 else X.known):=⟨_,rfl⟩
 rw [←hkn] at hsv
 have tx:∀{W:World} {F1:Nat->Prop},Upd (λk=>F k\/k=f) w W->(∀k,F1 k->F k\/w.heap.size<=k)->Txt W p e lim na O M/\∀k,O k->¬F1 k/\k≠f:=λ{W F1} u hF1 =>
  ⟨h.upd u (λk hk hh=>hh.elim (hO k hk).1 (hO k hk).2) (λk hk c fr hc=>by
   rcases hk with hk|hk
   ·exact A.no (λ_=>rfl) k hk c fr hc
   ·rw [hk,hX.at_.box] at hc;cases hc),λk hk=>⟨λhh=>(hF1 k hh).elim (hO k hk).1 λhl=>by have:=h.own k hk;omega,(hO k hk).2⟩⟩
 refine Ag (λx W=>∃bS F1 v,x=(at0 bS,v,())/\W.heap[bS]?=some (.cells (Cells.vals c57 (stT s.2.2)).toArray 57 (0,0))/\DS W d F1 s.1 (N+2)/\Hu W v s.2.1/\Upd F w W/\(∀k,F1 k->F k\/w.heap.size<=k)/\w.heap.size<=bS) ?_ ?_
 ·refine Dh λw1 e1 _=>Af (Ah (e1.ext_get hX.at_.box) (off:=0) (x:=some (at0 d)) rfl (Af ?_))
  rw [addr_add]
  refine Ah (e1.ext_get hX.at_.box) (off:=0+1) (x:=X.name) rfl ⟨?_,?_⟩
  ·refine Aq λb w2 e2 n2 hb2 hz2=>Ar (cell_of (off:=0+1) (e2.ext_get (e1.ext_get hX.at_.box)) rfl) (Ar (cell_of (off:=0) (e2.ext_get (e1.ext_get hX.at_.box)) rfl) ?_)
   have A2:=(A.ext e1).ext e2
   have z1:=e1.size
   refine N8 A2 (by omega) λF3 w3 v3 hv3 A3 u3 hF3=>?_
   rw [←hs] at hv3 A3 ⊢
   have hnb:¬F b:=λhh=>by have:=hAlt _ hh;omega
   have hnb3:¬F3 b:=λhh=>(hF3 _ hh).elim hnb λh'=>by omega
   refine Fb (u3.get n2 hnb) rfl rfl (by decide) λw4 u4 n4 _=>⟨b,F3,v3,rfl,n4,A3.frame u4 λk hk hh=>hnb3 (hh▸hk),hv3.upd u4 (Cc.box (u3.get n2 hnb) (by decide)),(((Upd.Aj (e1.trans e2)).trans u3).new u4 λk hk hh=>by omega),λk hk=>(hF3 k hk).imp id λh'=>by omega,by omega⟩
  ·refine N8 (A.ext e1) (by omega) λF3 w3 v3 hv3 A3 u3 hF3=>⟨?_,trivial⟩
   rw [←hs] at hv3 A3 ⊢
   have z1:=e1.size
   have z3:=u3.size
   refine Aq λb w4 e4 n4 hb4 hz4=>Ar (cell_of (off:=0+1) (e4.ext_get (u3.get (e1.ext_get hX.at_.box) hX.nf)) rfl) (Ar (cell_of (off:=0) (e4.ext_get (u3.get (e1.ext_get hX.at_.box) hX.nf)) rfl) ?_)
   have hnb3:¬F3 b:=λhh=>by have:=A3.lt _ hh;omega
   refine Fb n4 rfl rfl (by decide) λw5 u5 n5 _=>⟨b,F3,v3,rfl,n5,(A3.ext e4).frame u5 λk hk hh=>hnb3 (hh▸hk),(hv3.ext e4).upd u5 (Cc.box n4 (by decide)),((((Upd.Aj e1).trans u3).trans (Upd.Aj e4)).new u5 λk hk hh=>by omega),λk hk=>(hF3 k hk).imp id λh'=>by omega,by omega⟩
 rintro _ W1 ⟨bS,F1,v,rfl,nS,A1,hv,U1,G1,hbS⟩
 have X1:FS W1 f d X sm F1:=hX.step A U1 G1
 have U1':Upd (λk=>F k\/k=f) w W1:=U1.mono λk _ hk=>.inl hk
 have bSf:bS≠f:=by omega
 refine Bj (decide (s.2.1≠0/\s.2.1≠162),()) (hv.Uy (Ac (λhe=>Y1 hv (by decide) ⟨Dx ?_,rfl⟩) λhe=>⟨Dx ?_,rfl⟩)) (Ac (λhb=>?_) λhb=>?_)
 ·have he:=of_decide_eq_true he
  simp [he]
 ·have he:=of_decide_eq_false he
  simp only [decide_eq_true_eq]
  exact ⟨λhh=>(by cases hh),λhh=>absurd hh.1 he⟩
 ·have hb:=of_decide_eq_true hb
  refine Tf hv X1.laid λw2 e2=>?_
  have hk:=hK F1 w2
  rw [hsv,if_pos hb] at hk
  obtain ⟨t1,t2⟩:=tx (U1'.trans (Upd.Aj e2)) G1
  exact hk ((A1.ext e2).mono (by omega)) (X1.ext e2) t1 t2 (U1'.trans (Upd.Aj e2)) G1
 have hb:=of_decide_eq_false hb
 rw [if_neg hb] at hsv
 refine Ag (λ_ W=>W.heap[bS]?=some (.cells (Cells.vals c57 (stT s.2.2)).toArray 57 (0,0))/\DS W d F1 s.1 (N+2)/\FS W f d { X with known:=kn } sm F1/\Upd (λk=>F k\/k=f) w W) ?_ ?_
 ·refine Ag (λx W=>x=(decide (s.2.1=0/\s.2.2=X.tried),())/\Ext W1 W) ?_ ?_
  ·refine Dh λw2 e2 _=>(hv.ext e2).Bd4 (Ac (λhe=>?_) λhe=>?_)
   ·have he:=of_decide_eq_true he
    refine Gi (x:=stT s.2.2) (e2.ext_get nS) (λi v hv=>L9 i v hv) (Af ?_)
    rw [addr_add]
    refine Gi (x:=stT X.tried) (e2.ext_get X1.at_.box) (λi v hv=>by rw [Nat.zero_add];exact L8 i v hv) (Cd9 ⟨Dx ?_,e2⟩)
    simp [he]
   ·have he:=of_decide_eq_false he
    refine ⟨Dx ?_,e2⟩
    simp [he]
  ·rintro _ W2 ⟨rfl,e2⟩
   have U2:=U1'.trans (Upd.Aj e2)
   refine Ac (λhc=>?_) λhc=>?_
   ·have hc:=of_decide_eq_true hc
    rw [if_pos hc] at hkn
    refine Gi (x:=stT s.2.2) (e2.ext_get nS) (λi v hv=>L9 i v hv) (Af ?_)
    rw [addr_add]
    refine Fb (e2.ext_get X1.at_.box) rfl rfl (by show 0+3+3<=9;decide) λw3 u3 n3 _=>?_
    have n3:w3.heap[f]?=some (.cells (Oo d { X with known:=kn } sm) 110 (0,0)):=by rw [hkn];exact n3
    exact ⟨u3.Et (e2.ext_get nS) bSf,(A1.ext e2).frame u3 λk hk hh=>X1.nf (hh▸hk),(X1.ext e2).set u3 n3 rfl rfl,U2.trans (u3.mono λk _ hk=>.inr hk)⟩
   ·have hc:=of_decide_eq_false hc
    rw [if_neg hc] at hkn
    exact ⟨e2.ext_get nS,A1.ext e2,by rw [hkn];exact X1.ext e2,U2⟩
 rintro _ W3 ⟨nS3,A3,X3,U3⟩
 refine Ag (λx W=>x=(decide (force=false/\s.2.2≠kn),())/\Ext W3 W) ?_ ?_
 ·refine Dh λw4 e4 _=>Ac (λhf=>?_) λhf=>?_
  ·have hf:force=false:=by simpa using hf
   refine Gi (x:=stT s.2.2) (e4.ext_get nS3) (λi v hv=>L9 i v hv) (Af ?_)
   rw [addr_add]
   refine Gi (x:=stT kn) (e4.ext_get X3.at_.box) (λi v hv=>by rw [Nat.zero_add];exact Br5 (X:={ X with known:=kn }) i v hv) (Cd8 ⟨Dx ?_,e4⟩)
   simp [hf]
  ·have hf:force=true:=by simpa using hf
   refine ⟨Dx ?_,e4⟩
   simp [hf]
 rintro _ W4 ⟨rfl,e4⟩
 have U4:=U3.trans (Upd.Aj e4)
 refine Ac (λhc=>?_) λhc=>?_
 ·have hc:=of_decide_eq_true hc
  have hk:=hK F1 W4
  rw [hsv,if_pos hc] at hk
  obtain ⟨t1,t2⟩:=tx U4 G1
  exact hk ((A3.ext e4).mono (by omega)) (X3.ext e4) t1 t2 U4 G1
 ·have hc:=of_decide_eq_false hc
  rw [if_neg hc] at hsv
  refine Dh λw5 e5 _=>Af ?_
  have U5:=U4.trans (Upd.Aj e5)
  have X5:=(X3.ext e4).ext e5
  have A5:=(A3.ext e4).ext e5
  obtain ⟨t1,t2⟩:=tx U5 G1
  rw [addr_add]
  refine Ah X5.at_.box (off:=0+1) (x:=X.name) rfl (Af (Af ?_))
  rw [addr_add,addr_add]
  refine Ar3 (X:={ X with known:=kn }) A5 (by omega) t1 t2 X5 λF6 w6 v6 hv6 A6 X6 u6 hF6=>?_
  have z5:=U5.size
  refine Tf hv6 X6.laid λw7 e7=>?_
  have hk:=hK F6 w7
  rw [hsv] at hk
  have G6:∀k,F6 k->F k\/w.heap.size<=k:=λk hk=>(hF6 k hk).elim (G1 k) λhh=>.inr (by omega)
  have U7:Upd (λk=>F k\/k=f) w w7:=(U5.new u6 λk hk hh=>by
   rcases hh with hh|hh
   ·rcases G1 k hh with h'|h'
    ·exact .inl h'
    ·omega
   ·exact .inr hh).trans (Upd.Aj e7)
  obtain ⟨t3,t4⟩:=tx U7 G6
  exact hk ((A6.ext e7).mono (by omega)) (X6.ext e7) t3 t4 U7 G6
end
end Dq
end Go.Proofs.YtmooldhpiopcgaaGreatDoor
namespace Go.Proofs.YtmooldhpiopcgaaGreatDoor
namespace Dq
open Go Go.Vx Dsk Cdc Trx
def Gp (b:List UInt8):Int×Int :=
 if [239,187,191].isPrefixOf b then (1,3) else if [255,254].isPrefixOf b then (2,2) else if [254,255].isPrefixOf b then (3,2) else (0,0)
def X4 (enc:Int):List UInt8:=if enc=1 then [239,187,191] else if enc=2 then [255,254] else if enc=3 then [254,255] else []
def Il (g:List UInt8->Int) (enc:Int) (b:List UInt8):Int×Int :=
 if enc=0/\(Gp b).1≠0 then Gp b else if enc=0 then (g b,0) else if (X4 enc).isPrefixOf b then (enc,(X4 enc).length) else (enc,0)
structure Lod where
 enc:Int
 mark:Int
 data:List UInt8
 new:Bool
abbrev Ru:Lod:=⟨0,0,[],false⟩
def Na (g:List UInt8->Int) (D:Dk) (n:Nm) (enc limit:Int):Dk×Int×Option Fil×Lod :=
 if userName n=false then (D,164,none,Ru) else
 if enc<0\/enc>4 then (D,10,none,Ru) else
 if limit<0\/limit>65536 then (D,1,none,Ru) else
 let s:=Ai D n
 if s.2.1=162 then (s.1,0,some ⟨n,[],(0,0,0),(0,0,0)⟩,⟨if 1>enc then 1 else enc,0,[],true⟩) else
 if s.2.1≠0 then (s.1,s.2.1,none,Ru) else
 let r:=Bh s.1 n
 if r.2.1≠0 then (r.1,r.2.1,none,Ru) else
 let e:=Il g enc r.2.2
 if (r.2.2.length:Int)-e.2>limit then (r.1,50,none,Ru) else
 (r.1,0,some ⟨n,r.2.2.take e.2.toNat,s.2.2,(0,0,0)⟩,⟨e.1,e.2,r.2.2.drop e.2.toNat,false⟩)
section
variable {w w':World}{S F F':Nat->Prop}{d:Nat}{D:Dk}{N:Nat}
theorem byt {s:Sl}{l:List UInt8}{n:Int}{K:Addr->Int->Wp}(h:Bytes w s l) (h0:0<=n){x:UInt8}(hx:l[n.toNat]?=some x) (hK:∀p,K p (x.toNat:Int) w):ix s.a s.len n (λp=>ld (.int .u8) (p.add (scaled (Int.toNat n) 1)) (K p)) w :=
 Ay2 (c:=.int .u8) (xs:=l.map λb=>(b.toNat:Int)) (by rw [List.map_map];exact h) h0 (by rw [List.getElem?_map,hx];rfl) hK
theorem Ic {s:Sl}{l:List UInt8}(h:Bytes w s l):l.length=s.len:=by have:=h.len1;rwa [List.length_map] at this
theorem L6 (x:UInt8) (n:Nat) (hn:n<256):(((x.toNat:Nat):Int)==(n:Int))=(x==UInt8.ofNat n):=by
 rw [Bool.eq_iff_iff,beq_iff_eq,beq_iff_eq]
 constructor
 ·intro h
  have h:x.toNat=n:=by omega
  rw [←h];simp
 ·rintro rfl
  simp [Nat.mod_eq_of_lt hn]
theorem Cf4 (x y z:UInt8) (r:List UInt8):[239,187,191].isPrefixOf (x::y::z::r)=((x==239)&&((y==187)&&(z==191))):=by
 show ((239==x)&&((187==y)&&((191==z)&&true)))=_
 rw [BEq.comm (a:=(239:UInt8)),BEq.comm (a:=(187:UInt8)),BEq.comm (a:=(191:UInt8)),Bool.and_true]
theorem pre2 (a b x y:UInt8) (r:List UInt8):[a,b].isPrefixOf (x::y::r)=((x==a)&&(y==b)):=by
 show ((a==x)&&((b==y)&&true))=_
 rw [BEq.comm (a:=a),BEq.comm (a:=b),Bool.and_true]
theorem Zm {s:Sl}{l:List UInt8}(h:Bytes w s l){K:(Int×Int×Unit)->Wp}(hK:K ((Gp l).1,(Gp l).2,()) w):Aa Tryz.prog 24 #[s.v] (.tup [(.one (.int .i64)),(.one (.int .i64))]) K w:=by
 refine j24 (a0:=s) ?_
 unfold F24
 have hl:=Ic h
 have e239:∀x:UInt8,(((x.toNat:Nat):Int)==239)=(x==239):=λx=>L6 x 239 (by decide)
 have e187:∀x:UInt8,(((x.toNat:Nat):Int)==187)=(x==187):=λx=>L6 x 187 (by decide)
 have e191:∀x:UInt8,(((x.toNat:Nat):Int)==191)=(x==191):=λx=>L6 x 191 (by decide)
 have e255:∀x:UInt8,(((x.toNat:Nat):Int)==255)=(x==255):=λx=>L6 x 255 (by decide)
 have e254:∀x:UInt8,(((x.toNat:Nat):Int)==254)=(x==254):=λx=>L6 x 254 (by decide)
 refine Bj ([239,187,191].isPrefixOf l,()) (Ac (λh3=>?_) λh3=>?_) ?_
 ·have h3:=of_decide_eq_true h3
  obtain ⟨x,y,z,r,rfl⟩:∃x y z r,l=x::y::z::r:=by
   match l,hl with
   |[],hl=>simp at hl;omega
   |[_],hl=>simp at hl;omega
   |[_,_],hl=>simp at hl;omega
   |x::y::z::r,_=>exact ⟨x,y,z,r,rfl⟩
  refine byt h (by decide) (x:=x) rfl λ_=>Ac (λh1=>byt h (by decide) (x:=y) rfl λ_=>Ac (λh2=>byt h (by decide) (x:=z) rfl λ_=>⟨?_,rfl⟩) λh2=>⟨?_,rfl⟩) λh1=>⟨?_,rfl⟩
  all_goals (clear h hK hl h3;(first|rw [Cf4]|rw [pre2]);simp_all)
 ·have h3:=of_decide_eq_false h3
  refine ⟨?_,rfl⟩
  have:[239,187,191].isPrefixOf l=false:=by
   rw [Bool.eq_false_iff];intro hh
   have:=(List.isPrefixOf_iff_prefix.1 hh).length_le
   simp at this;omega
  rw [this]
 refine Ac (λhb=>?_) λhb=>?_
 ·have:Gp l=(1,3):=by unfold Gp;rw [if_pos hb]
  rw [this] at hK;exact hK
 have hb:[239,187,191].isPrefixOf l=false:=hb
 have hb:¬([239,187,191].isPrefixOf l=true):=by rw [hb];simp
 refine Bj ([255,254].isPrefixOf l,()) (Ac (λh3=>?_) λh3=>?_) ?_
 ·have h3:=of_decide_eq_true h3
  obtain ⟨x,y,r,rfl⟩:∃x y r,l=x::y::r:=by
   match l,hl with
   |[],hl=>simp at hl;omega
   |[_],hl=>simp at hl;omega
   |x::y::r,_=>exact ⟨x,y,r,rfl⟩
  refine byt h (by decide) (x:=x) rfl λ_=>Ac (λh1=>byt h (by decide) (x:=y) rfl λ_=>⟨?_,rfl⟩) λh1=>⟨?_,rfl⟩
  all_goals (clear h hK hl h3;(first|rw [Cf4]|rw [pre2]);simp_all)
 ·have h3:=of_decide_eq_false h3
  refine ⟨?_,rfl⟩
  have:[255,254].isPrefixOf l=false:=by
   rw [Bool.eq_false_iff];intro hh
   have:=(List.isPrefixOf_iff_prefix.1 hh).length_le
   simp at this;omega
  rw [this]
 refine Ac (λhb2=>?_) λhb2=>?_
 ·have:Gp l=(2,2):=by unfold Gp;rw [if_neg hb,if_pos hb2]
  rw [this] at hK;exact hK
 have hb2:[255,254].isPrefixOf l=false:=hb2
 have hb2:¬([255,254].isPrefixOf l=true):=by rw [hb2];simp
 refine Bj ([254,255].isPrefixOf l,()) (Ac (λh3=>?_) λh3=>?_) ?_
 ·have h3:=of_decide_eq_true h3
  obtain ⟨x,y,r,rfl⟩:∃x y r,l=x::y::r:=by
   match l,hl with
   |[],hl=>simp at hl;omega
   |[_],hl=>simp at hl;omega
   |x::y::r,_=>exact ⟨x,y,r,rfl⟩
  refine byt h (by decide) (x:=x) rfl λ_=>Ac (λh1=>byt h (by decide) (x:=y) rfl λ_=>⟨?_,rfl⟩) λh1=>⟨?_,rfl⟩
  all_goals (clear h hK hl h3;(first|rw [Cf4]|rw [pre2]);simp_all)
 ·have h3:=of_decide_eq_false h3
  refine ⟨?_,rfl⟩
  have:[254,255].isPrefixOf l=false:=by
   rw [Bool.eq_false_iff];intro hh
   have:=(List.isPrefixOf_iff_prefix.1 hh).length_le
   simp at this;omega
  rw [this]
 refine Ac (λhb3=>?_) λhb3=>?_
 ·have:Gp l=(3,2):=by unfold Gp;rw [if_neg hb,if_neg hb2,if_pos hb3]
  rw [this] at hK;exact hK
 ·have hb3:[254,255].isPrefixOf l=false:=hb3
  have:Gp l=(0,0):=by unfold Gp;rw [if_neg hb,if_neg hb2,if_neg (by rw [hb3];simp)]
  rw [this] at hK;exact hK
theorem X8 {enc:Int}{K:Sl->Wp}(hK:∀s w',En w' w.heap.size s (X4 enc)->Ext w w'->K s w'):Aa Tryz.prog 25 #[.int .i64 enc] rS K w:=by
 refine j25 ?_
 unfold F25
 have lit:∀(c:List UInt8) (b:Nat) (w1:World),w1.heap[b]?=some (.cells (bv c).toArray 5 (0,0))->b=w.heap.size->En w1 w.heap.size ⟨some (at0 b),c.length,c.length⟩ c:=λc b w1 h hb =>
  ⟨by simp,Nat.le_refl _,.inr ⟨b,0,(bv c).toArray,rfl,by omega,h,by simp,λj v hj=>by simpa using hj⟩⟩
 refine Ac (λh=>?_) λh=>Ac (λh2=>?_) λh2=>Ac (λh3=>?_) λh3=>?_
 ·have h:enc=1:=by simpa using h
  subst h
  exact Aq λb w1 e1 n1 hb hz=>hK _ w1 (lit [239,187,191] b w1 n1 hb) e1
 ·have h:enc=2:=by simpa using h2
  subst h
  exact Aq λb w1 e1 n1 hb hz=>hK _ w1 (lit [255,254] b w1 n1 hb) e1
 ·have h:enc=3:=by simpa using h3
  subst h
  exact Aq λb w1 e1 n1 hb hz=>hK _ w1 (lit [254,255] b w1 n1 hb) e1
 ·have h:enc≠1:=by simpa using h
  have h2:enc≠2:=by simpa using h2
  have h3:enc≠3:=by simpa using h3
  have:X4 enc=[]:=by unfold X4;rw [if_neg h,if_neg h2,if_neg h3]
  exact hK _ w (by rw [this];exact Au.nil _ _ _ _) (Ext.refl w)
theorem Y4 {s m:Sl}{l p:List UInt8}(h:Cj w s 5 1 (bv l)) (hp:Bytes w m p){K:Bool->Wp}(hK:K (p.isPrefixOf l) w):Aa Tryz.prog 56 #[s.v,m.v] rB K w:=by
 refine j56 (a0:=s) (a1:=m) ?_
 unfold F56
 have hl:=Ic h.x
 have hpl:=Ic hp
 have hcap:=h.le
 refine Ac (λhge=>?_) λhge=>?_
 ·have hge:=of_decide_eq_true hge
  refine Qa h (by omega) (by omega) (by omega) (by omega) (by omega) λx hx _ _ _=>?_
  have hbv:((bv l).drop (Int.toNat 0*1)).take ((Int.toNat ((m.len:Nat):Int)-Int.toNat 0)*1)=bv (l.take p.length):=by
   rw [Int.toNat_natCast,hpl];simp [List.map_take]
  rw [hbv] at hx
  refine j96 (a0:=x) (a1:=m) ?_
  unfold F96
  refine Rl uB ub us hx.x (Rl uB ub us hp ?_)
  have:(ByteArray.toList ⟨(l.take p.length).toArray⟩==ByteArray.toList ⟨p.toArray⟩)=p.isPrefixOf l:=by
   rw [bytes_eq,Bool.eq_iff_iff,decide_eq_true_eq,List.isPrefixOf_iff_prefix,List.prefix_iff_eq_take]
   constructor
   ·intro hh
    have:=congrArg (λb:ByteArray=>b.data.toList) hh
    simpa using this.symm
   ·intro hh
    rw [←hh]
  rw [this];exact hK
 ·have hge:=of_decide_eq_false hge
  have:p.isPrefixOf l=false:=by
   rw [Bool.eq_false_iff];intro hh
   have:=(List.isPrefixOf_iff_prefix.1 hh).length_le
   omega
  rw [this] at hK;exact hK
structure Co1 (w w':World) (d:Nat) (F:Nat->Prop) (N:Nat) (r:Dk×Int×Option Fil×Lod) (F':Nat->Prop) (fo:Option Addr) (sd:Sl):Prop where
 disk:DS w' d F' r.1 (N+4)
 upd:Upd F w w'
 new:∀k,F' k->F k\/w.heap.size<=k
 file:match r.2.2.1 with
  |some X=>∃f sm,fo=some (at0 f)/\FS w' f d X sm F'/\w.heap.size<=f/\∀k,sm.blk k->w.heap.size<=k
  |none=>fo=none
 data:En w' w.heap.size sd r.2.2.2.data
 apart:∀k,sd.blk k->¬F' k
 apartf:∀f,fo=some (at0 f)->¬sd.blk f
def Al9 (g:List UInt8->Int):Prop:=∀(l:List UInt8) (s:Sl) (w:World) (K:Int×Value×Unit->Wp),l.length<=1048576->Cj w s 5 1 (bv l)->(Gp l).1=0->(∀v w',Ext w w'->K (g l,v,()) w')->Aa Tryz.prog 55 #[s.v] (.tup [(.one (.int .i64)),(.one .any)]) K w
theorem Yf {g:List UInt8->Int}{enc:Int}{b:List UInt8}:0<=(Il g enc b).2/\(Il g enc b).2<=b.length/\(Il g enc b).2<=3:=by
 have pf:∀m:List UInt8,m.length<=3->m.isPrefixOf b=true->0<=(m.length:Int)/\(m.length:Int)<=b.length/\(m.length:Int)<=3:=λm hm h=>by
  have:=(List.isPrefixOf_iff_prefix.1 h).length_le
  omega
 have hd:0<=(Gp b).2/\(Gp b).2<=b.length/\(Gp b).2<=3:=by
  unfold Gp
  split
  ·rename_i h;exact pf [239,187,191] (by decide) h
  ·split
   ·rename_i h;exact pf [255,254] (by decide) h
   ·split
    ·rename_i h;exact pf [254,255] (by decide) h
    ·exact ⟨by decide,by show (0:Int)<=_;omega,by decide⟩
 unfold Il
 split
 ·exact hd
 ·split
  ·exact ⟨Int.le_refl _,by show (0:Int)<=_;omega,by show (0:Int)<=3;decide⟩
  ·split
   ·rename_i h;exact pf _ (by unfold X4;split;decide;split;decide;split;decide;decide) h
   ·exact ⟨Int.le_refl _,by show (0:Int)<=_;omega,by show (0:Int)<=3;decide⟩
end
end Dq
end Go.Proofs.YtmooldhpiopcgaaGreatDoor
namespace Go.Proofs.YtmooldhpiopcgaaGreatDoor
namespace Dq
open Go Go.Vx Dsk Cdc Trx
section
variable {w w':World}{S F F':Nat->Prop}{d:Nat}{D:Dk}{N:Nat}
abbrev Aj8 (a b:Int) (s:Sl) (n:Bool):Cells.T c32:=(a,b,s,n,())
theorem Vl {x:Cells.T c32}(i:Nat) (v:Value) (h:(Cells.vals c32 x)[i]?=some v):(Cells.vals c32 x).toArray[0+i]?=some v:=by rw [Nat.zero_add,←Array.getElem?_toList];exact h
theorem Ao9 (ok:Bl D N) (n:Nm):(Bh D n).2.2.length<=1048576:=by
 have key:∀D1:Dk,D1.files=D.files->(rdR n D1).2.2.length<=1048576:=by
  intro D1 h1
  unfold rdR
  split
  ·exact Nat.zero_le _
  ·rename_i i _ _
   show (fl D1 i).data.length<=_
   unfold fl
   rw [h1,List.getD_eq_getElem?_getD]
   cases hi:D.files[i]? with
   |none=>exact Nat.zero_le _
   |some f=>exact (ok.fil i f hi).1
 unfold Bh
 dsimp only
 split
 ·unfold Dsk.step
  split
  ·exact Nat.zero_le _
  ·split
   ·exact key _ rfl
   ·unfold Tq
    repeat' split
    all_goals first|exact Nat.zero_le _|exact key _ rfl
 ·exact Nat.zero_le _
set_option maxHeartbeats 1000000 in
theorem Qe {g:List UInt8->Int}{enc:Int}{n:Nm}(hG:userName n=true->Al9 g\/enc≠0\/(Ai D n).2.1=162) (A:DS w d F D N) (hN:N+10<=2^30) (hl:Kw w) (hn:n.size<2^62){limit:Int}{K:(Option Addr×(Int×Int×Sl×Bool×Unit)×Int×Unit)->Wp}
  (hK:∀F' w' fo sd,let r:=Na g D n enc limit
   Co1 w w' d F N r F' fo sd->K (fo,(r.2.2.2.enc,r.2.2.2.mark,sd,r.2.2.2.new,()),r.2.1,()) w') :
  Aa Tryz.prog 18 #[.pointer (some (at0 d)),.string n,.int .i64 enc,.int .i64 limit] (.tup [(.one .ptr),(.agg c32),(.one (.int .i64))]) K w:=by
 refine j18 ?_
 unfold F18
 have hAlt:=A.lt
 have hpos:=A.pos
 refine Aq λb1 w1 e1 n1 hb1 hz1=>Aq λb2 w2 e2 n2 hb2 hz2=>Bh7 hn λw3 e3=>?_
 have e03:=(e1.trans e2).trans e3
 have m1:=(e2.trans e3).ext_get n1
 have m2:=e3.ext_get n2
 have nF1:¬F b1:=λhh=>by have:=hAlt _ hh;omega
 have nF2:¬F b2:=λhh=>by have:=hAlt _ hh;omega
 have hz3:=e3.size
 clear n1 n2 e1 e2 e3
 have bad0:∀(W:World) (F1:Nat->Prop) (D1:Dk) (er:Int),DS W d F1 D1 (N+4)->W.heap[b1]?=some (.cells #[.int .i64 0,.int .i64 0,.slice none 0 0,.bool false] 32 (0,0))->¬F1 b1->Upd F w W->(∀k,F1 k->F k\/w.heap.size<=k) ->
   Na g D n enc limit=(D1,er,none,Ru)->(Ae (at0 b1) (.agg (Cells.vals c32 (Aj8 0 0 ⟨none,0,0⟩ false)).toArray) 4<|lds c32 (at0 b1) λy=>K (none,y,er,())) W:=by
  intro W F1 D1 er A1 h1 hb U hF he
  refine Fb h1 rfl rfl (by decide) λW3 u3 n3 _=>Gi (x:=Aj8 0 0 ⟨none,0,0⟩ false) n3 (λi v hv=>Vl i v hv) ?_
  have hk:=hK F1 W3 none ⟨none,0,0⟩
  rw [he] at hk
  exact hk ⟨A1.frame u3 λk hk hh=>hb (hh▸hk),U.new u3 λk hk hh=>by omega,hF,rfl,Au.nil _ _ _ _,λk hk=>Kt hk,λf hf=>by cases hf⟩
 have bad:∀(W:World) (F1:Nat->Prop) (D1:Dk) (er:Int),DS W d F1 D1 (N+4)->W.heap[b1]?=some (.cells #[.int .i64 0,.int .i64 0,.slice none 0 0,.bool false] 32 (0,0))->W.heap[b2]?=some (.cells #[.int .i64 0,.int .i64 0,.slice none 0 0,.bool false] 32 (0,0))->¬F1 b1->Upd F w W->(∀k,F1 k->F k\/w.heap.size<=k) ->
   Na g D n enc limit=(D1,er,none,Ru)->(drew<|lds c32 (at0 b2) λx=>Ae (at0 b1) (.agg (Cells.vals c32 x).toArray) 4<|lds c32 (at0 b1) λy=>K (none,y,er,())) W:=by
  intro W F1 D1 er A1 h1 h2 hb U hF he
  exact Dh λW2 e2 _=>Gi (x:=Aj8 0 0 ⟨none,0,0⟩ false) (e2.ext_get h2) (λi v hv=>Vl i v hv) (bad0 W2 F1 D1 er (A1.ext e2) (e2.ext_get h1) hb (U.trans (Upd.Aj e2)) hF he)
 have bad2:∀(W:World) (F1:Nat->Prop) (D1:Dk) (v:Value) (er:Int),Hu W v er->Kw W->DS W d F1 D1 (N+4)->W.heap[b1]?=some (.cells #[.int .i64 0,.int .i64 0,.slice none 0 0,.bool false] 32 (0,0))->W.heap[b2]?=some (.cells #[.int .i64 0,.int .i64 0,.slice none 0 0,.bool false] 32 (0,0))->¬F1 b1->Upd F w W->(∀k,F1 k->F k\/w.heap.size<=k) ->
   Na g D n enc limit=(D1,er,none,Ru)->(drew<|lds c32 (at0 b2) λx=>Aa Tryz.prog 54 #[v] rI λq=>keep (λw=>Aw w (at0 b2) 0 (Cells.vals c32 x))<|Ae (at0 b1) (.agg (Cells.vals c32 x).toArray) 4<|lds c32 (at0 b1) λy=>K (none,y,q,())) W:=by
  intro W F1 D1 v er hv hL A1 h1 h2 hb U hF he
  refine Dh λW2 e2 _=>Gi (x:=Aj8 0 0 ⟨none,0,0⟩ false) (e2.ext_get h2) (λi v hv=>Vl i v hv) (Tf (hv.ext e2) (hL.ext e2) λW3 e3=>Ar ?_ ?_)
  ·exact Fz (off:=0) _ 0 λj v hv=>by rw [Nat.zero_add];exact cell_of (e3.ext_get (e2.ext_get h2)) (Vl j v hv)
  ·exact bad0 W3 F1 D1 er ((A1.ext e2).ext e3) (e3.ext_get (e2.ext_get h1)) hb ((U.trans (Upd.Aj e2)).trans (Upd.Aj e3)) hF he
 have A3:=A.ext e03
 have U3:Upd F w w3:=Upd.Aj e03
 refine Ac (λhc=>?_) λhc=>?_
 ·have hc:userName n=false:=by simpa using hc
  exact bad w3 F D 164 (A3.mono (by omega)) m1 m2 nF1 U3 (λk hk=>.inl hk) (by unfold Na;rw [if_pos hc])
 have hc:userName n=true:=by simpa using hc
 have hnc:¬userName n=false:=by rw [hc];simp
 refine Bj (decide (enc<0\/enc>4),()) (Ac (λh=>⟨Dx ?_,rfl⟩) λh=>⟨Dx ?_,rfl⟩) (Ac (λh=>?_) λh=>?_)
 ·have h:=of_decide_eq_true h;simp [h]
 ·have h:=of_decide_eq_false h;simp only [decide_eq_true_eq];omega
 ·have h:=of_decide_eq_true h
  exact bad w3 F D 10 (A3.mono (by omega)) m1 m2 nF1 U3 (λk hk=>.inl hk) (by unfold Na;rw [if_neg hnc,if_pos h])
 have henc:=of_decide_eq_false h
 refine Bj (decide (limit<0\/limit>65536),()) (Ac (λh=>⟨Dx ?_,rfl⟩) λh=>⟨Dx ?_,rfl⟩) (Ac (λh=>?_) λh=>?_)
 ·have h:=of_decide_eq_true h;simp [h]
 ·have h:=of_decide_eq_false h;simp only [decide_eq_true_eq];omega
 ·have h:=of_decide_eq_true h
  exact bad w3 F D 1 (A3.mono (by omega)) m1 m2 nF1 U3 (λk hk=>.inl hk) (by unfold Na;rw [if_neg hnc,if_neg henc,if_pos h])
 have hlim:=of_decide_eq_false h
 refine N8 A3 (by omega) λF4 w4 v4 hv4 A4 u4 hF4=>?_
 obtain ⟨s,hs⟩:∃s,s=Ai D n:=⟨_,rfl⟩
 rw [←hs] at hv4 A4 ⊢
 have z4:=u4.size
 have U4:=U3.trans u4
 have G4:∀k,F4 k->F k\/w.heap.size<=k:=λk hk=>(hF4 k hk).imp id λhh=>by omega
 have nn4:∀b,¬F b->b<w3.heap.size->¬F4 b:=λb h1 h2 hh=>(hF4 _ hh).elim h1 λh'=>by omega
 refine Aq λb15 w5 e5 n5 hb5 hz5=>Fb n5 rfl rfl (by decide) λw6 u6 n6 hz6=>?_
 have n6:w6.heap[b15]?=some (.cells (Cells.vals c57 (stT s.2.2)).toArray 57 (0,0)):=n6
 have e46:Ext w4 w6:=e5.step u6 λk hk=>by omega
 have A6:=A4.ext e46
 have U6:=U4.trans (S:=F) (Upd.Aj e46)
 have m16:=e46.ext_get (u4.get m1 nF1)
 have m26:=e46.ext_get (u4.get m2 nF2)
 have hl6:=((hl.ext e03).upd u4 A3.no0).ext e46
 have nF41:=nn4 b1 nF1 (by have:=lt_of_heap m1;omega)
 have nF42:=nn4 b2 nF2 (by have:=lt_of_heap m2;omega)
 have hop:Na g D n enc limit=if s.2.1=162 then (s.1,0,some ⟨n,[],(0,0,0),(0,0,0)⟩,⟨if 1>enc then 1 else enc,0,[],true⟩) else
   if s.2.1≠0 then (s.1,s.2.1,none,Ru) else
   if (Bh s.1 n).2.1≠0 then ((Bh s.1 n).1,(Bh s.1 n).2.1,none,Ru) else
   if ((Bh s.1 n).2.2.length:Int)-(Il g enc (Bh s.1 n).2.2).2>limit then ((Bh s.1 n).1,50,none,Ru) else
   ((Bh s.1 n).1,0,some ⟨n,(Bh s.1 n).2.2.take (Il g enc (Bh s.1 n).2.2).2.toNat,s.2.2,(0,0,0)⟩,⟨(Il g enc (Bh s.1 n).2.2).1,(Il g enc (Bh s.1 n).2.2).2,(Bh s.1 n).2.2.drop (Il g enc (Bh s.1 n).2.2).2.toNat,false⟩):=by
  unfold Na
  rw [if_neg hnc,if_neg henc,if_neg hlim,hs]
 have hnl:n.size<32:=by
  unfold userName at hc
  simp only [Bool.and_eq_true,decide_eq_true_eq] at hc
  exact hc.1.2
 refine Y1 (hv4.ext e46) (by decide) (Ac (λh=>?_) λh=>?_)
 ·
  have h:=of_decide_eq_true h
  rw [if_pos h] at hop
  refine Aq λb17 w7 e7 n7 hb7 hz7=>Fb (e7.ext_get m16) rfl rfl (by decide) λw8 u8 n8 hz8=>Gi (x:=Aj8 (if 1>enc then 1 else enc) 0 ⟨none,0,0⟩ true) n8 (λi v hv=>Vl i v hv) ?_
  have l1:=lt_of_heap m16
  have z46:=e46.size
  have hk:=hK F4 w8 (some (at0 b17)) ⟨none,0,0⟩
  rw [hop] at hk
  have n7:w7.heap[b17]?=some (.cells (Oo d ⟨n,[],(0,0,0),(0,0,0)⟩ ⟨none,0,0⟩) 110 (0,0)):=n7
  have nF17:¬F4 b17:=λhh=>by have:=A6.lt _ hh;omega
  refine hk ⟨((A6.ext e7).frame u8 λk hk hh=>nF41 (hh▸hk)).mono (by omega),(U6.trans (Upd.Aj e7)).new u8 λk hk hh=>by omega,G4,⟨b17,⟨none,0,0⟩,rfl,⟨⟨u8.Et n7 (by omega),Cj.nil _ _ _⟩,nF17,λk hk=>Kt hk,(hl6.ext e7).upd u8 (by omega),(by show 0<1024;decide),by show n.size<=_;omega,by omega⟩,by omega,λk hk=>Kt hk⟩,Au.nil _ _ _ _,λk hk=>Kt hk,λf hf hh=>Kt hh⟩
 have h162:=of_decide_eq_false h
 rw [if_neg h162] at hop
 refine (hv4.ext e46).Uy (Ac (λh=>?_) λh=>?_)
 ·have h:=of_decide_eq_true h
  rw [if_pos h] at hop
  exact bad2 w6 F4 s.1 v4 s.2.1 (hv4.ext e46) hl6 (A6.mono (by omega)) m16 m26 nF41 U6 G4 hop
 have h0:=of_decide_eq_false h
 rw [if_neg h0] at hop
 refine Bo6 A6 (by omega) λF7 w7 sx v7 hv7 A7 u7 hF7 row7 ap7=>?_
 obtain ⟨r,hr⟩:∃r,r=Bh s.1 n:=⟨_,rfl⟩
 rw [←hr] at hv7 A7 row7 hop
 have z7:=u7.size
 have z46:=e46.size
 have U7:=U6.new u7 λk hk hh=>(G4 k hh).resolve_right (by omega)
 have G7:∀k,F7 k->F k\/w.heap.size<=k:=λk hk=>(hF7 k hk).elim (G4 k) λhh=>.inr (by omega)
 have m17:=u7.get m16 nF41
 have m27:=u7.get m26 nF42
 have l16:=lt_of_heap m16
 have l26:=lt_of_heap m26
 have nF71:¬F7 b1:=λhh=>(hF7 _ hh).elim nF41 λh'=>by omega
 have hl7:=hl6.upd u7 A6.no0
 refine hv7.Uy (Ac (λh=>?_) λh=>?_)
 ·have h:=of_decide_eq_true h
  rw [if_pos h] at hop
  exact bad2 w7 F7 r.1 v7 r.2.1 hv7 hl7 (A7.mono (by omega)) m17 m27 nF71 U7 G7 hop
 have h7:=of_decide_eq_false h
 rw [if_neg h7] at hop
 have hlen:=Ic row7.in.x
 have hmax:r.2.2.length<=1048576:=by rw [hr];exact Ao9 A6.ok n
 obtain ⟨b,hb⟩:∃b,b=r.2.2:=⟨_,rfl⟩
 rw [←hb] at row7 hlen hmax hop
 obtain ⟨q0,q1,q2⟩:=Yf (g:=g) (enc:=enc) (b:=b)
 refine Ag (λx W=>x=((Il g enc b).1,(Il g enc b).2,())/\Ext w7 W) ?_ ?_
 ·refine Zm row7.in.x (Bj (decide (enc=0/\(Gp b).1≠0),()) (Ac (λh=>⟨Dx ?_,rfl⟩) λh=>⟨Dx ?_,rfl⟩) (Ac (λh=>?_) λh=>?_))
  ·have h:enc=0:=by simpa using h
   simp [h]
  ·have h:enc≠0:=by simpa using h
   simp [h]
  ·have h:=of_decide_eq_true h
   refine ⟨?_,Ext.refl w7⟩
   unfold Il;rw [if_pos h]
  ·have h:=of_decide_eq_false h
   refine Ac (λh2=>?_) λh2=>?_
   ·have h2:enc=0:=by simpa using h2
    have hd:(Gp b).1=0:=Decidable.byContradiction λhh=>h ⟨h2,hh⟩
    have hG:Al9 g:=(hG hc).resolve_right λhh=>hh.elim (λhh=>hh h2) λhh=>by rw [←hs] at hh;exact h162 hh
    refine hG b sx w7 _ hmax row7.in hd λv w' e'=>⟨?_,e'⟩
    unfold Il;rw [if_neg h,if_pos h2]
   ·have h2:enc≠0:=by simpa using h2
    refine X8 λsm w8 rm e8=>Y4 (row7.in.ext e8) rm.in.x (Ac (λhp=>X8 λsm2 w9 rm2 e9=>⟨?_,e8.trans e9⟩) λhp=>⟨?_,e8⟩)
    ·have:=Ic rm2.in.x
     unfold Il;rw [if_neg h,if_neg h2,if_pos hp,this]
    ·have hp:¬(X4 enc).isPrefixOf b=true:=by rw [hp];simp
     unfold Il;rw [if_neg h,if_neg h2,if_neg hp]
 rintro _ w8 ⟨rfl,e8⟩
 have U8:=U7.trans (S:=F) (Upd.Aj e8)
 dsimp only
 rw [wrap64 (by omega) (by omega)]
 refine Ac (λh=>?_) λh=>?_
 ·have h:=of_decide_eq_true h
  rw [if_pos (by omega)] at hop
  exact bad w8 F7 r.1 50 ((A7.ext e8).mono (by omega)) (e8.ext_get m17) (e8.ext_get m27) nF71 U8 G7 hop
 have h:=of_decide_eq_false h
 rw [if_neg (by omega)] at hop
 have hcap:=row7.in.le
 obtain ⟨k,hk⟩:∃k:Nat,(Il g enc b).2=(k:Int):=⟨(Il g enc b).2.toNat,by omega⟩
 rw [hk] at q1 q2 hop h ⊢
 rw [Int.toNat_natCast] at hop
 have n67:=u7.get n6 λhh=>by have:=A4.lt _ hh;omega
 refine Dh λw9 e9 _=>Qa ((row7.in.ext e8).ext e9) (by omega) (by omega) (by omega) (by omega) (by omega) λx39 hx39 _ _ _=>?_
 have hbv39:((bv b).drop (Int.toNat 0*1)).take ((Int.toNat (k:Int)-Int.toNat 0)*1)=bv (b.take k):=by
  rw [Int.toNat_natCast];simp [List.map_take]
 rw [hbv39] at hx39
 have e79:=e8.trans e9
 refine Gi (x:=stT s.2.2) (e79.ext_get n67) (λi v hv=>L9 i v hv) (Pe hx39.x (by rw [List.length_take];omega) λsm w10 rm e10=>Ar ?_ (Aq λf w11 e11 n11 hf11 hz11=>?_))
 ·exact Fz (off:=0) _ 0 λj v hv=>by rw [Nat.zero_add];exact cell_of (e10.ext_get (e79.ext_get n67)) (L9 j v hv)
 have n11:w11.heap[f]?=some (.cells (Oo d ⟨n,b.take k,s.2.2,(0,0,0)⟩ sm) 110 (0,0)):=n11
 have e711:=(e79.trans e10).trans e11
 refine Qa (row7.in.ext e711) (by omega) (by omega) (by omega) (by omega) (by omega) λx43 hx43 _ _ _=>?_
 have hbv43:((bv b).drop (Int.toNat (k:Int)*1)).take ((Int.toNat ((sx.len:Nat):Int)-Int.toNat (k:Int))*1)=bv (b.drop k):=by
  rw [Int.toNat_natCast,Int.toNat_natCast,Nat.mul_one,Nat.mul_one,←List.map_drop,List.take_of_length_le]
  rw [List.length_map,List.length_drop];omega
 rw [hbv43] at hx43
 have z710:=(e79.trans e10).size
 have z79:=e79.size
 refine Pe hx43.x (by rw [List.length_drop];omega) λsd w12 rd e12=>?_
 have e712:=e711.trans e12
 refine Fb (e712.ext_get m17) rfl rfl (by decide) λw13 u13 n13 hz13=>Gi (x:=Aj8 (Il g enc b).1 (k:Int) sd false) n13 (λi v hv=>Vl i v hv) ?_
 have hk:=hK F7 w13 (some (at0 f)) sd
 rw [hop] at hk
 have U12:=U7.trans (S:=F) (Upd.Aj e712)
 have A12:=A7.ext e712
 have zw7:=U7.size
 have sdge:∀k,sd.blk k->w11.heap.size<=k:=λk hk=>rd.Ew hk
 have smge:∀k,sm.blk k->w9.heap.size<=k/\k<w10.heap.size:=λk hk=>⟨rm.Ew hk,rm.in.Em hk⟩
 have F7lt:∀k,F7 k->k<w7.heap.size:=A7.lt
 have rmb:=(rm.in.ext (e11.trans e12))
 refine hk ⟨(A12.frame u13 λk hk hh=>nF71 (hh▸hk)).mono (by omega),U12.new u13 λk hk hh=>by omega,G7,⟨f,sm,rfl,⟨⟨u13.Et (e12.ext_get n11) (by omega),rmb.upd u13 λk hk hh=>by have:=(smge k hk).1;omega⟩,λhh=>by have:=F7lt _ hh;omega,λk hk hh=>by have:=F7lt _ hh;have:=(smge k hk).1;omega,(hl7.ext e712).upd u13 (by omega),?_,by show n.size<=_;omega,by omega⟩,by omega,λk hk=>by have:=(smge k hk).1;omega⟩,?_,λk hk hh=>by have:=F7lt _ hh;have:=sdge k hk;omega,λf' hf' hh=>?_⟩
 ·show (b.take k).length<1024
  rw [List.length_take];omega
 ·refine Au.mono (rd.upd u13 λk _ hk hh=>?_) (by omega)
  have:=sdge k hk;omega
 ·have hff:f=f':=by simpa using hf'
  have:=sdge _ hh;omega
end
end Dq
end Go.Proofs.YtmooldhpiopcgaaGreatDoor
