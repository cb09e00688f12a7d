/- YtolhlldgnfbemaaGreatDoorXAl1: parts of the proof, put together by program. -/
import Derived.Test.YtolhlldgnfbemaaGreatDoorRows
import Derived.Laws.IdiomStrings
import Derived.LaidEql
import Derived.WalkKit
import Derived.OrdersIn
import Derived.RangeFuncIn
import Derived.RangeFuncRecord
import Derived.Scope
import Derived.Sort.LoopGhostIn
import Derived.Test.YtolhlldgnfbemaaGreatDoorProg
import Derived.KernelRfl
import Derived.ProofKit
import Derived.SizedLaws
import Derived.Carry
import Derived.JoinedCond
import Derived.Deep.CondSized
import Derived.Laws.RangeString
import Derived.Deep.DeepHandedRow
import Derived.Deep.DeepWitnessRowRef
import Derived.OpenShut
import Derived.MakeChecks
import Derived.Lib.LaidIn
import Derived.Test.YtolhlldgnfbemaaGreatDoorTie
import Derived.Test.YtolhlldgnfbemaaGreatDoorCards
import Derived.SevenTiedAt
set_option linter.unusedVariables false
set_option linter.defProp false
set_option linter.unusedSimpArgs false
set_option linter.unusedSectionVars false
noncomputable section
def aA:=@Go.Sem.run_bind
def aB:=@Go.Result.andThen_ok
def aC:=@Go.Sem.run_pure
def aF:=@if_pos
def aG:=@List.mem_cons
def aH:=@List.mem_cons_self
def aI:=@List.mem_cons_of_mem
def aJ:=@if_neg
def aK:=@Go.execOp_put
def aN:=@Go.wanted_put
def aP:=@if_true
def aQ:=@Go.wpOpIn_mono
def aS:=@List.all_eq_true
def aT:=@Array.getElem?_eq_some_iff
def aU:=@List.nil_append
def aV:=@Bool.and_eq_true
def aW:=@List.cons_append
def aX:=@List.all_append
def aY:=@List.all_cons
def aZ:=@Go.mem_ready
def bC:=@Bool.not_true
def bD:=@Bool.false_or
def bF:=@List.length_eq_zero_iff
def bG:=@List.append_of_mem
def bH:=@List.mem_range
def bI:=@Option.map_some
def bJ:=@Option.getD_some
def bK:=@List.any_eq_true
def bM:=@Bool.or_eq_true
def bP:=@Nat.eq_of_beq_eq_true
def bQ:=@List.mem_append_left
def bT:=@List.nodup_append
def bU:=@List.nodup_cons
def bV:=@List.mem_append
def bY:=@List.mem_append_right
def bZ:=@List.nodup_nil
def cO:=@of_decide_eq_true
def cZ:=@Go.run_underlying
def dA:=@Go.run_typeInfo
def dB:=@List.length_cons
def dD:=@Int.toNat_of_nonneg
def dF:=@Int.toNat_natCast
def dG:=@Int.le_refl
def dH:=@Array.ext'
def dI:=@List.foldl_cons
def dJ:=@Nat.le_of_ble_eq_true
def dK:=@List.mapM_cons
def dL:=@Array.toArray_toList
def dM:=@Array.getElem?_toList
def dN:=@Option.some.injEq
def dO:=@Bool.false_eq_true
def dP:=@if_false
def dQ:=@List.map_cons
def dR:=@List.length_nil
def dS:=@Nat.mul_one
def dU:=@Nat.zero_add
def dV:=@Go.World.alloc_eq
def dW:=@Bool.and_true
def dX:=@Bool.not_eq_true'
def dY:=@List.any_eq_false
def dZ:=@List.mem_of_mem_erase
def eF:=@Bool.or_eq_false_iff
def eG:=@List.append_assoc
def eH:=@List.length_erase_of_mem
def eP:=@Nat.beq_refl
def eX:=@Array.getElem?_setIfInBounds_ne
def eY:=@List.mem_of_getElem?
def fA:=@Nat.testBit_or
def fB:=@Bool.true_or
def fC:=@congrArg
def fD:=@Go.wpIn_mono
def fE:=@Array.length_toList
def fF:=@Go.run_endRound
def fG:=@List.getElem?_eq_some_iff
def fH:=@Array.getElem?_append_left
def fJ:=@Nat.le_refl
def fK:=@Nat.le_trans
def fM:=@Nat.lt_of_lt_of_le
def fO:=@Array.getElem?_modify
def fP:=@Array.getElem?_setIfInBounds
def fQ:=@Nat.zero_mul
def fU:=@Nat.add_mul
def fV:=@Nat.mul_le_mul_right
def fZ:=@List.getElem?_append_left
def gB:=@List.getElem?_append_right
def gG:=@Go.run_askRoom
def gI:=@List.length_take
def gJ:=@List.length_drop
def gK:=@Nat.min_eq_left
def gQ:=@List.getElem?_take
def gU:=@List.getElem?_drop
def gV:=@Bool.eq_iff_iff
def gW:=@List.length_map
def gX:=@List.getElem?_map
def gY:=@List.mem_map
def gZ:=@List.getElem?_of_mem
def iC:=@List.ext_getElem?
def iD:=@List.flatMap_cons
def iE:=@List.length_append
def iF:=@Nat.succ_mul
def iG:=@Nat.eq_of_mul_eq_mul_right
def iH:=@decide_eq_false_iff_not
def iI:=@decide_eq_true_eq
def iJ:=@Array.getElem?_eq_getElem
def iK:=@List.take_succ_cons
def iL:=@List.take_zero
def iM:=@List.take_take
def iO:=@List.length_pos_iff
def iP:=@List.drop_succ_cons
def iQ:=@List.drop_take
def iR:=@List.drop_drop
def iT:=@List.mem_singleton
def iU:=@List.mem_of_mem_take
def iV:=@List.mem_of_mem_drop
def iW:=@Nat.zero_le
def iY:=@List.drop_eq_nil_of_le
def iZ:=@List.drop_eq_getElem_cons
def jA:=@List.getElem_mem
def jC:=@List.getElem?_eq_getElem
def jD:=@List.take_append_drop
def jE:=@List.take_of_length_le
def jF:=@Int.pow_pos
def jG:=@Nat.pow_le_pow_right
def jH:=@Int.natCast_emod
def jJ:=@Int.natCast_mul
def jK:=@Nat.testBit_shiftLeft
def jL:=@List.map_map
def jM:=@beq_iff_eq
def jO:=@beq_eq_false_iff_ne
def jP:=@decide_eq_true
def jQ:=@decide_eq_false
def jR:=@List.take_length
def jT:=@ge_iff_le
def jV:=@List.drop_append_of_le_length
def jW:=@List.take_append_of_le_length
def jX:=@List.take_length_add_append
def jY:=@Nat.add_comm
def jZ:=@List.drop_length_add_append
def kC:=@List.drop_left
def kD:=@List.map_drop
def kE:=@List.map_take
def kF:=@Int.tdiv_eq_ediv_of_nonneg
def kG:=@gt_iff_lt
def kH:=@List.take_eq_take_iff
def kJ:=@Nat.add_sub_cancel_left
def kL:=@List.getElem?_eq_none
def kM:=@List.append_nil
def kN:=@UInt8.toNat_ofNat'
def kP:=@Int.fdiv_eq_ediv_of_nonneg
def kQ:=@Int.natCast_nonneg
def kR:=@Int.eq_ofNat_of_zero_le
def kS:=@Option.some.inj
def kT:=@List.take_add_one
def kU:=@List.mem_flatMap
def kV:=@List.getElem?_eq_none_iff
def kW:=@List.not_mem_nil
def kX:=@or_false
def kY:=@List.take_add
def kZ:=@List.head?_drop
def lC:=@Nat.eq_zero_or_pos
def lD:=@Bool.true_and
def lG:=@List.map_append
def lH:=@List.flatMap_nil
def lJ:=@Classical.byContradiction
def lK:=@Nat.le_of_eq
def lM:=@List.drop_zero
def lQ:=@true_iff
def lS:=@false_iff
def lT:=@Nat.lt_or_ge
def lU:=@Option.toList_some
def lV:=@List.getElem?_toArray
def lW:=@Bool.false_and
def lX:=@Bool.eq_false_iff
def lY:=@List.drop_length
def lZ:=@List.length_range
def mD:=@Option.bind_eq_some_iff
def mF:=@List.range_succ
def mG:=@List.flatten_append
def mJ:=@List.map_nil
def mM:=@List.flatten_cons
def mP:=@Option.map_eq_some_iff
def mQ:=@Go.DataW.weights_mem_each
def mV:=@Nat.div_one
def mW:=@Int.tmod_eq_emod_of_nonneg
def mX:=@Int.cast_ofNat_Int
def mY:=@bne_iff_ne
def mZ:=@bne_eq_false_iff_eq
def nC:=@List.getElem?_cons_zero
def nD:=@List.getElem?_cons_succ
def nG:=@Nat.ble_eq
def nH:=@List.filter_cons_of_pos
def nJ:=@List.filter_append
def nK:=@List.filter_cons_of_neg
def nM:=@List.mem_filter
def nN:=@List.pairwise_lt_range
def nO:=@List.length_filter_le
def nP:=@Bool.not_eq_false'
def nR:=@Nat.add_sub_cancel
def nS:=@List.findIdx_eq_length
def nT:=@List.findIdx_getElem
def nU:=@List.range_eq_range'
def nV:=@List.range'_succ
def nX:=@List.reverse_append
def nY:=@List.map_reverse
def nZ:=@List.mem_range'_1
def oC:=@List.mem_reverse
def oD:=@List.flatMap_append
def oG:=@List.reverse_reverse
def oH:=@Nat.min_eq_right
def oI:=@List.filter_eq_nil_iff
def oJ:=@List.filter_eq_self
def oK:=@Nat.le_of_lt
def oM:=@Nat.le_total
def oN:=@Nat.max_eq_left
def oO:=@List.mem_filterMap
def oP:=@List.pairwise_map
def oQ:=@List.Pairwise.imp_of_mem
def oU:=@List.pairwise_append
def oW:=@Bool.and_eq_false_iff
def oZ:=@List.getElem?_range
def pF:=@List.filterMap_append
def pG:=@List.filterMap_cons_some
def pI:=@List.filterMap_cons_none
def pJ:=@List.findIdx?_eq_none_iff
def pK:=@List.pairwise_cons
def pR:=@List.reverse_singleton
def pU:=@List.singleton_append
def pV:=@List.all_eq_false
def pW:=@of_decide_eq_false
def pX:=@Classical.choose_spec
def pY:=@List.length_reverse
def qA:=@List.getElem?_concat_length
def qB:=@List.eq_nil_or_concat
def qC:=@List.concat_eq_append
def qE:=@List.reverse_cons
def qF:=@Nat.lt_trichotomy
def qG:=@Go.MakeChecks.laidMetH_plain
def qH:=@true_and
def qI:=@beq_self_eq_true
namespace Go.Vx
open Go
abbrev W64 (n:Int):Int:=IntKind.wrap .i64 n
abbrev Wp:=World->Prop
def FW (r:Option Nat):Fence:={ Fence.wide with round:=r }
theorem Bs8 {r:Option Nat}{n:Nat}{P:Program}{f:FuncId}{args:Array Value}{w:World}{R:Ending->Wp}:CallsIn (FW r) n P f args w R↔Calls P f args w R:=callsIn_wide
theorem Di8 {r:Option Nat}{n:Nat}{P:Program}{row:String}{args:Array Value}{w:World}{R:Value->Wp}(h:Rows P row args w R):RowsIn (FW r) n P row args w R :=
 λc cs _=>let ⟨v,w',hr,s⟩:=h c cs;⟨v,w',hr,stepsIn_wide.2 s⟩
def Gt (P:Program) (o:Oper) (a:Act) (next:Act->Wp):Result Next->Prop
 |.ok (.value v) w'=>next (a.put o.dst v) w'
 |.ok .skip w'=>next (a.put o.dst undef) w'
 |.ok (.enter f args) w'=>Calls P f args w' λe w''=>∃v,e=.returned v/\next (a.put o.dst v) w''
 |.ok (.row row args) w'=>Rows P row args w' λv w''=>next (a.put o.dst v) w''
 |.ok (.round l f tmps assign body) w'=>RoundIn (FW none) 0 P l f tmps assign body w' λe w''=>∃v,e=.returned v/\next (a.put o.dst v) w''
 |_=>False
theorem Io {P:Program}{o:Oper}{a:Act}{N N':Act->Wp}{r:Result Next}(hN:∀a w,N a w->N' a w) (h:Gt P o a N r):Gt P o a N' r:=by
 cases r with
 | ok n w' =>
  cases n<;>simp only [Gt] at h ⊢ <;>
   first
    |exact hN _ _ h
    |exact Calls.mono h (λe w'' ⟨v,he,hv⟩=>⟨v,he,hN _ _ hv⟩)
    |exact Rows.mono h (λ_ _ he=>hN _ _ he)
    |exact RoundIn.mono h (λe w'' ⟨v,he,hv⟩=>⟨v,he,hN _ _ hv⟩)
 |halt x w'=>cases x<;>simp only [Gt] at h
theorem De6 {r:Option Nat}{n:Nat}{P:Program}{l:Nat}{f:FuncId}{tmps:Array Value}{assign body:Code}{w:World}{R:Ending->Wp}(h:RoundIn (FW none) 0 P l f tmps assign body w R):RoundIn (FW r) n P l f tmps assign body w R :=
 ⟨trivial,λc cs _=>h.2 c cs (λ_ h=>by simp [FW,Fence.wide] at h)⟩
theorem Be0 {P:Program}{o:Oper}{a:Act}{N:Act->Wp}{Q:Exit->Act->Wp}{r:Option Nat}{w:World}(h:Gt P o a N ((execOp a.eval o).run P w)):o.wpIn (FW r) 0 P a w N Q:=by
 refine ⟨λ_ _=>trivial,?_⟩;have e:(o.semAt (FW r).round a.eval)=execOp a.eval o:=by
  refine Oper.semAt_eq _ _ _ λc hc=>?_
  obtain ⟨dst,op,type,pos,after,guard⟩:=o
  simp only at hc
  subst hc
  simp only [execOp] at h
  revert h
  simp only [aA]
  cases (resolve a.eval c type).run P w with
  |ok d w'=>simp only [aB,aC,Gt];exact id
  |halt x w'=>simp only [Result.andThen,Gt];exact id
 rw [e];generalize (execOp a.eval o).run P w=res at h ⊢;cases res with
 |ok n w' =>
  cases n<;>simp only [Gt] at h<;>simp only [Oper.uponIn]
  case value v=>exact h
  case skip=>exact h
  case enter f args=>exact ⟨λh=>by simp [FW,Fence.wide] at h,Bs8.2 (Calls.mono h λe w'' ⟨v,he,hv⟩=>by subst he;exact hv)⟩
  case row row args=>exact ⟨λh=>by simp [FW,Fence.wide] at h,Di8 h⟩
  case round l f tmps assign body=>exact ⟨λh=>by simp [FW,Fence.wide] at h,De6 (RoundIn.mono h λe w'' ⟨v,he,hv⟩=>by subst he;exact hv)⟩
 |halt x w'=>simp only [Gt] at h
inductive Cl where
 |free|read|eff
abbrev Held:=List (Nat×Sem Next×Value)
def Us (P:Program) (un:Nat->Nat->Bool) (i:Nat) (H:Held) (w:World):Prop :=
 ∀x∈H,un x.1 i=true->x.2.1.run P w=.ok (.value x.2.2) w
def wpS (cls:Op->Cl) (P:Program) (ops:Array Oper) (un:Nat->Nat->Bool) (Q:Act->Wp):List Nat->Held->Act->World->Prop
 |[],_,a,w=>Q a w
 | i::r,H,a,w =>
  match ops[i]? with
  |none=>False
  | some o =>
   if Region.wanted o (yielded ops a.tmps)=true then
    match cls o.op with
    |.free=>∃v,(∀w',(execOp a.eval o).run P w'=.ok (.value v) w')/\wpS cls P ops un Q r H (a.put o.dst v) w
    |.read=>∃v,(execOp a.eval o).run P w=.ok (.value v) w/\wpS cls P ops un Q r ((i,execOp a.eval o,v)::H) (a.put o.dst v) w
    |.eff=>Gt P o a (λa' w'=>Us P un i H w'/\wpS cls P ops un Q r H a' w') ((execOp a.eval o).run P w)
   else wpS cls P ops un Q r H (a.put o.dst undef) w
section
variable {cls:Op->Cl}{P:Program}{ops:Array Oper}{un:Nat->Nat->Bool}{Q:Act->Wp}
theorem Uc {i:Nat}{H H':Held}{w:World}(hs:∀x∈H',x∈H) (h:Us P un i H w):Us P un i H' w :=
 λx hx hu=>h x (hs x hx) hu
theorem Bd5:∀(l:List Nat) (H H':Held) (a:Act) (w:World),(∀x∈H',x∈H)->wpS cls P ops un Q l H a w->wpS cls P ops un Q l H' a w:=by
 intro l;induction l with
 |nil=>intro H H' a w _ h;exact h
 |cons i r ih=>intro H H' a w hs h;simp only [wpS] at h ⊢;split at h;{exact h};{rename_i o ho;split at h;{rename_i hw;rw [aF hw];split at h;{obtain ⟨v,h1,h2⟩:=h;exact ⟨v,h1,ih _ _ _ _ hs h2⟩};{obtain ⟨v,h1,h2⟩:=h;refine ⟨v,h1,ih _ _ _ _ (λx hx=>?_) h2⟩;rcases aG.1 hx with rfl|hx;{exact aH};{exact aI _ (hs x hx)}};{exact Io (λa w ⟨h1,h2⟩=>⟨Uc hs h1,ih _ _ _ _ hs h2⟩) h}};{rename_i hw;rw [aJ hw];exact ih _ _ _ _ hs h}}
theorem Ck5 {l l':List Nat}(x:Nat) (h:∀H a w,wpS cls P ops un Q l H a w->wpS cls P ops un Q l' H a w) (H:Held) (a:Act) (w:World)
  (hh:wpS cls P ops un Q (x::l) H a w):wpS cls P ops un Q (x::l') H a w:=by simp only [wpS] at hh ⊢;split at hh;{exact hh};{split at hh;{rename_i hw;rw [aF hw];split at hh;{obtain ⟨v,h1,h2⟩:=hh;exact ⟨v,h1,h _ _ _ h2⟩};{obtain ⟨v,h1,h2⟩:=hh;exact ⟨v,h1,h _ _ _ h2⟩};{exact Io (λa w ⟨h1,h2⟩=>⟨h1,h _ _ _ h2⟩) hh}};{rename_i hw;rw [aJ hw];exact h _ _ _ hh}}
theorem Ck3 {x i:Nat}{ox oi:Oper}(hx:ops[x]?=some ox) (hi:ops[i]?=some oi) (hq:cls ox.op≠.eff) (hap:ox.apart ops oi=true) (hun:un x i=true)
  (hsx:∀cs b,ox.op≠.select cs b) (hsi:∀cs b,oi.op≠.select cs b) (r:List Nat) (H:Held) (a:Act) (w:World)
  (h:wpS cls P ops un Q (x::i::r) H a w):wpS cls P ops un Q (i::x::r) H a w:=by
 obtain ⟨h1,h2,h3⟩:=Oper.apart_spec hap
 have ei:∀(a:Act) v,execOp (a.put ox.dst v).eval oi=execOp a.eval oi:=λa v=>aK oi hsi a ox.dst v h1
 have wi:∀(a:Act) v,Region.wanted oi (yielded ops (a.put ox.dst v).tmps)=Region.wanted oi (yielded ops a.tmps):=λa v=>aN oi a ox.dst v h1
 have ex:∀(a:Act) v,execOp (a.put oi.dst v).eval ox=execOp a.eval ox:=λa v=>aK ox hsx a oi.dst v h3
 have wx:∀(a:Act) v,Region.wanted ox (yielded ops (a.put oi.dst v).tmps)=Region.wanted ox (yielded ops a.tmps):=λa v=>aN ox a oi.dst v h3
 have pc:∀(a:Act) v u,(a.put ox.dst v).put oi.dst u=(a.put oi.dst u).put ox.dst v:=λa v u=>(Act.put_comm a v u h2)
 rw [wpS,hx] at h
 rw [wpS,hi]
 simp only at h ⊢
 by_cases hwi:Region.wanted oi (yielded ops a.tmps)=true
 ·rw [aF hwi]
  by_cases hwx:Region.wanted ox (yielded ops a.tmps)=true
  ·rw [aF hwx] at h
   cases c0:cls ox.op with
   |eff=>exact absurd c0 hq
   | free =>
    simp only [c0] at h
    obtain ⟨v,hv,h⟩:=h
    rw [wpS,hi] at h
    simp only [wi,hwi,aP,ei] at h
    have back:∀(a':Act) (w':World) (H':Held),(execOp a'.eval ox=execOp a.eval ox)->(Region.wanted ox (yielded ops a'.tmps)=Region.wanted ox (yielded ops a.tmps)) ->
      wpS cls P ops un Q r H' (a'.put ox.dst v) w'->wpS cls P ops un Q (x::r) H' a' w':=by
     intro a' w' H' he hw' hh
     rw [wpS,hx]
     simp only [hw',hwx,aP,c0,he]
     exact ⟨v,hv,hh⟩
    split at h
    ·obtain ⟨u,hu,h⟩:=h
     exact ⟨u,hu,back _ _ _ (ex a u) (wx a u) (by rw [←pc];exact h)⟩
    ·obtain ⟨u,hu,h⟩:=h
     exact ⟨u,hu,back _ _ _ (ex a u) (wx a u) (by rw [←pc];exact h)⟩
    ·generalize (execOp a.eval oi).run P w=res at h ⊢
     cases res with
     |ok n w' =>
      cases n<;>simp only [Gt] at h ⊢
      case value u=>exact ⟨h.1,back _ _ _ (ex a u) (wx a u) (by rw [←pc];exact h.2)⟩
      case skip=>exact ⟨h.1,back _ _ _ (ex a _) (wx a _) (by rw [←pc];exact h.2)⟩
      case enter f args=>exact Calls.mono h λe w'' ⟨u,e1,he⟩=>⟨u,e1,he.1,back _ _ _ (ex a u) (wx a u) (by rw [←pc];exact he.2)⟩
      case round l f tmps assign body=>exact RoundIn.mono h λe w'' ⟨u,e1,he⟩=>⟨u,e1,he.1,back _ _ _ (ex a u) (wx a u) (by rw [←pc];exact he.2)⟩
      case row row args=>exact Rows.mono h λu w'' he=>⟨he.1,back _ _ _ (ex a u) (wx a u) (by rw [←pc];exact he.2)⟩
     |halt y w'=>simp only [Gt] at h
   | read =>
    have c1:=c0
    simp only [c1] at h
    obtain ⟨v,hv,h⟩:=h
    rw [wpS,hi] at h
    simp only [wi,hwi,aP,ei] at h
    have back:∀(a':Act) (w':World) (H':Held),(execOp a'.eval ox=execOp a.eval ox)->(Region.wanted ox (yielded ops a'.tmps)=Region.wanted ox (yielded ops a.tmps)) ->
      (execOp a.eval ox).run P w'=.ok (.value v) w' ->
      wpS cls P ops un Q r ((x,execOp a.eval ox,v)::H') (a'.put ox.dst v) w'->wpS cls P ops un Q (x::r) H' a' w':=by
     intro a' w' H' he hw' hr hh
     rw [wpS,hx]
     simp only [hw',hwx,aP,c1,he]
     exact ⟨v,hr,hh⟩
    have own:∀w',Us P un i ((x,execOp a.eval ox,v)::H) w'->(execOp a.eval ox).run P w'=.ok (.value v) w':=λw' hk=>hk _ aH hun
    have rest:∀w',Us P un i ((x,execOp a.eval ox,v)::H) w'->Us P un i H w':=λw' hk=>Uc (λy hy=>aI _ hy) hk
    split at h
    ·obtain ⟨u,hu,h⟩:=h
     exact ⟨u,hu,back _ _ _ (ex a u) (wx a u) hv (by rw [←pc];exact h)⟩
    ·obtain ⟨u,hu,h⟩:=h
     refine ⟨u,hu,back _ _ _ (ex a u) (wx a u) hv ?_⟩
     rw [←pc]
     exact Bd5 _ _ _ _ _ (λy hy=>by
      rcases aG.1 hy with rfl|hy
      ·exact aI _ aH
      ·rcases aG.1 hy with rfl|hy
       ·exact aH
       ·exact aI _ (aI _ hy)) h
    ·generalize (execOp a.eval oi).run P w=res at h ⊢
     cases res with
     |ok n w' =>
      cases n<;>simp only [Gt] at h ⊢
      case value u=>exact ⟨rest _ h.1,back _ _ _ (ex a u) (wx a u) (own _ h.1) (by rw [←pc];exact h.2)⟩
      case skip=>exact ⟨rest _ h.1,back _ _ _ (ex a _) (wx a _) (own _ h.1) (by rw [←pc];exact h.2)⟩
      case enter f args=>exact Calls.mono h λe w'' ⟨u,e1,he⟩=>⟨u,e1,rest _ he.1,back _ _ _ (ex a u) (wx a u) (own _ he.1) (by rw [←pc];exact he.2)⟩
      case round l f tmps assign body=>exact RoundIn.mono h λe w'' ⟨u,e1,he⟩=>⟨u,e1,rest _ he.1,back _ _ _ (ex a u) (wx a u) (own _ he.1) (by rw [←pc];exact he.2)⟩
      case row row args=>exact Rows.mono h λu w'' he=>⟨rest _ he.1,back _ _ _ (ex a u) (wx a u) (own _ he.1) (by rw [←pc];exact he.2)⟩
     |halt y w'=>simp only [Gt] at h
  ·
   rw [aJ hwx] at h
   rw [wpS,hi] at h
   simp only [wi,hwi,aP,ei] at h
   have back:∀(a':Act) (w':World) (H':Held),(Region.wanted ox (yielded ops a'.tmps)=Region.wanted ox (yielded ops a.tmps)) ->
     wpS cls P ops un Q r H' (a'.put ox.dst undef) w'->wpS cls P ops un Q (x::r) H' a' w':=by
    intro a' w' H' hw' hh
    rw [wpS,hx]
    simp only [hw',aJ hwx]
    exact hh
   split at h
   ·obtain ⟨u,hu,h⟩:=h
    exact ⟨u,hu,back _ _ _ (wx a u) (by rw [←pc];exact h)⟩
   ·obtain ⟨u,hu,h⟩:=h
    exact ⟨u,hu,back _ _ _ (wx a u) (by rw [←pc];exact h)⟩
   ·generalize (execOp a.eval oi).run P w=res at h ⊢
    cases res with
    |ok n w' =>
     cases n<;>simp only [Gt] at h ⊢
     case value u=>exact ⟨h.1,back _ _ _ (wx a u) (by rw [←pc];exact h.2)⟩
     case skip=>exact ⟨h.1,back _ _ _ (wx a _) (by rw [←pc];exact h.2)⟩
     case enter f args=>exact Calls.mono h λe w'' ⟨u,e1,he⟩=>⟨u,e1,he.1,back _ _ _ (wx a u) (by rw [←pc];exact he.2)⟩
     case round l f tmps assign body=>exact RoundIn.mono h λe w'' ⟨u,e1,he⟩=>⟨u,e1,he.1,back _ _ _ (wx a u) (by rw [←pc];exact he.2)⟩
     case row row args=>exact Rows.mono h λu w'' he=>⟨he.1,back _ _ _ (wx a u) (by rw [←pc];exact he.2)⟩
    |halt y w'=>simp only [Gt] at h
 ·
  rw [aJ hwi]
  by_cases hwx:Region.wanted ox (yielded ops a.tmps)=true
  ·rw [aF hwx] at h
   have hx':∀u,Region.wanted ox (yielded ops (a.put oi.dst u).tmps)=true:=λu=>by rw [wx];exact hwx
   rw [wpS,hx]
   simp only [hx',aP,ex]
   cases c0:cls ox.op with
   |eff=>exact absurd c0 hq
   |free =>
    simp only [c0] at h ⊢
    obtain ⟨v,hv,h⟩:=h
    rw [wpS,hi] at h
    simp only [wi,aJ hwi] at h
    exact ⟨v,hv,by rw [←pc];exact h⟩
   |read =>
    simp only [c0] at h ⊢
    obtain ⟨v,hv,h⟩:=h
    rw [wpS,hi] at h
    simp only [wi,aJ hwi] at h
    exact ⟨v,hv,by rw [←pc];exact h⟩
  ·rw [aJ hwx] at h
   rw [wpS,hi] at h
   simp only [wi,aJ hwi] at h
   rw [wpS,hx]
   simp only [wx,aJ hwx]
   rw [←pc]
   exact h
theorem Ca2 {i:Nat}{oi:Oper}(hi:ops[i]?=some oi) (hsi:∀cs b,oi.op≠.select cs b) (r:List Nat):∀(l:List Nat),
  (∀x∈l,un x i=true/\∃ox,ops[x]?=some ox/\cls ox.op≠.eff/\ox.apart ops oi=true/\∀cs b,ox.op≠.select cs b) ->
  ∀(H:Held) (a:Act) (w:World),wpS cls P ops un Q (l++i::r) H a w->wpS cls P ops un Q (i::(l++r)) H a w:=by
 intro l;induction l with
 |nil=>intro _ H a w h;exact h
 |cons x l ih=>intro hl H a w h;obtain ⟨hun,ox,hx,hq,hap,hsx⟩:=hl x aH;refine Ck3 hx hi hq hap hun hsx hsi _ H a w ?_;exact Ck5 x (ih λy hy=>hl y (aI _ hy)) H a w h
theorem Ad1 {rd:Option Nat}{Q':Exit->Act->Wp}{i:Nat}{r:List Nat}{H:Held}{a:Act}{w:World}(h:wpS cls P ops un Q (i::r) H a w) :
  wpOpIn (FW rd) 0 P ops Q' i (λa' w'=>∃H',wpS cls P ops un Q r H' a' w') a w:=by rw [wpS] at h;unfold wpOpIn;split at h;{exact h.elim};{rename_i o ho;simp only [ho];split at h;{rename_i hw;rw [aF hw];refine Be0 ?_;split at h;{obtain ⟨v,h1,h2⟩:=h;rw [h1];exact ⟨_,h2⟩};{obtain ⟨v,h1,h2⟩:=h;rw [h1];exact ⟨_,h2⟩};{exact Io (λa w ⟨_,h2⟩=>⟨_,h2⟩) h}};{rename_i hw;rw [aJ hw];exact ⟨λ_ _=>trivial,_,h⟩}}
theorem Ax4 {rd:Option Nat}{Q':Exit->Act->Wp}(hQ:∀a w,Q a w->Q' .normal a w):∀(l:List Nat) (H:Held) (a:Act) (w:World),wpS cls P ops un Q l H a w->wpOpsIn (FW rd) 0 P ops Q' l a w:=by
 intro l;induction l with
 |nil=>intro H a w h;exact hQ _ _ h
 |cons i r ih=>intro H a w h;rw [wpOpsIn_cons];exact aQ (λa w ⟨H',h⟩=>ih H' a w h) (Ad1 h)
end
def Vz (ops:Array Oper) (B:Nat->Nat):Bool :=
 (List.range ops.size).all λi=>(List.range ops.size).all λx=>!(B i).testBit x ||
  ((ops[i]?).map λo=>o.after.toList.any λe=>Region.binds .any e&&(Nat.beq e.on x||(B e.on).testBit x)).getD false
def Ah8 (ops:Array Oper):Bool :=
 ops.toList.all λo=>o.after.toList.all λe=>!Region.binds .any e||Nat.blt e.on ops.size
def Aa7 (cls:Op->Cl) (ops:Array Oper) (B:Nat->Nat) (x i:Nat):Bool :=
 match ops[x]?,ops[i]? with
 | some ox,some oi=>!Nat.beq x i&&(ox.after.toList.all λe=>!Region.binds .any e||(!Nat.beq e.on i&&!Nat.beq e.on x)) &&
   ((B i).testBit x||((match cls ox.op with | .eff=>false|_=>true)&&ox.apart ops oi))
 |_,_=>false
def Bn3 (ops:Array Oper) (x:Nat):Bool :=
 match ops[x]? with
 |some ox=>ox.after.toList.all λe=>!Region.binds .any e||!Nat.beq e.on x
 |none=>false
def Jz (cls:Op->Cl) (ops:Array Oper) (B:Nat->Nat):List Nat->Bool
 |[]=>true
 |x::r=>Bn3 ops x&&r.all (Aa7 cls ops B x)&&Jz cls ops B r
def Ba4 (n:Nat) (σ:List Nat):Bool:=Nat.beq σ.length n&&(σ.all λi=>Nat.blt i n)&&(List.range n).all λi=>σ.contains i
def Au8 (ops:Array Oper):Bool:=ops.toList.all λo=>match o.op with | .select ..=>false|_=>true
def U5 (cls:Op->Cl) (ops:Array Oper) (B:Nat->Nat) (σ:List Nat):Bool :=
 Vz ops B&&Ah8 ops&&Au8 ops&&Ba4 ops.size σ&&Jz cls ops B σ
section
variable {cls:Op->Cl}{P:Program}{ops:Array Oper}{B:Nat->Nat}{Q:Act->Wp}
structure Inv (cls:Op->Cl) (ops:Array Oper) (B:Nat->Nat) (listed:Array Bool) (ρ:List Nat):Prop where
 pairs:Jz cls ops B ρ=true
 here:∀i,i<ops.size->(listed.getD i false=true\/i∈ρ)
 not:∀i,i∈ρ->listed.getD i false=false/\i<ops.size
 nodup:ρ.Nodup
 size:listed.size=ops.size
 down:∀i x,listed.getD i false=true->(B i).testBit x=true->x<ops.size->listed.getD x false=true
theorem Ot (h:Au8 ops=true){i:Nat}{o:Oper}(ho:ops[i]?=some o) (cs:Array SelectCase) (b:Bool):o.op≠.select cs b:=by
 intro e;have:=aS.1 h o (by
  rw [aT] at ho
  obtain ⟨hlt,rfl⟩:=ho
  simp)
 rw [e] at this;exact absurd this (by simp)
theorem E5 {l:List Nat}{i:Nat}{r:List Nat}(h:Jz cls ops B (l++i::r)=true):(∀x∈l,Aa7 cls ops B x i=true)/\Jz cls ops B (l++r)=true/\Bn3 ops i=true:=by
 induction l with
 |nil=>simp only [aU,Jz,aV] at h;exact ⟨(λ_ h=>by cases h),h.2,h.1.1⟩
 |cons y l ih=>simp only [aW,Jz,aV,aX,aY] at h;obtain ⟨⟨h0,h1,h2,h3⟩,h4⟩:=h;obtain ⟨g1,g2,g3⟩:=ih h4;refine ⟨λx hx=>?_,?_,g3⟩;{rcases aG.1 hx with rfl|hx;{exact h2};{exact g1 x hx}};{simp only [aW,Jz,aV,aX];exact ⟨⟨h0,h1,h3⟩,g2⟩}
theorem Wh (hB:Vz ops B=true) (hE:Ah8 ops=true) (hN:Au8 ops=true){rd:Option Nat}{Q':Exit->Act->Wp}(hQ:∀a w,Q a w->Q' .normal a w) :
  ∀(fuel:Nat) (listed:Array Bool) (ρ:List Nat) (H:Held) (a:Act) (w:World),ρ.length=fuel->Inv cls ops B listed ρ ->
   wpS cls P ops (λx i=>!(B i).testBit x) Q ρ H a w->wpAnyIn (FW rd) 0 P .any ops Q' fuel listed a w:=by
 have ready:∀{listed:Array Bool} {ρ:List Nat} {i:Nat},Inv cls ops B listed ρ->i∈Region.ready .any ops listed->i∈ρ/\∃o,ops[i]?=some o/\∀e∈o.after,Region.binds .any e=true->listed.getD e.on false=true:=by
  intro listed ρ i inv h
  obtain ⟨h1,o,ho,h2⟩:=aZ.1 h
  have hi:i<ops.size:=(aT.1 ho).1
  refine ⟨(inv.here i hi).resolve_left λhh=>?_,o,ho,h2⟩
  have:i<listed.size:=by rw [inv.size];exact hi
  simp [Array.getD,this] at hh h1
  rw [hh] at h1;exact absurd h1 (by simp)
 have head:∀{listed:Array Bool} {x:Nat} {r:List Nat},Inv cls ops B listed (x::r)->x∈Region.ready .any ops listed:=by
  intro listed x r inv
  obtain ⟨hx1,hx2⟩:=inv.not x aH
  have hl:x<listed.size:=by rw [inv.size];exact hx2
  refine aZ.2 ⟨?_,ops[x],by simp [hx2],λe he hb=>?_⟩
  ·simpa [Array.getD,hl] using hx1
  ·have hp:=inv.pairs
   simp only [Jz,aV] at hp
   have hin:e.on<ops.size:=by
    have:=aS.1 hE ops[x] (by simp)
    have:=aS.1 this e (by simpa using he)
    simp only [hb,bC,bD] at this
    simpa using this
   refine (inv.here e.on hin).resolve_right λhm=>?_
   rcases aG.1 hm with hm|hm
   ·have:=hp.1.1
    simp only [Bn3,show ops[x]?=some ops[x] by simp [hx2]] at this
    have:=aS.1 this e (by simpa using he)
    simp [hb,hm] at this
   ·have:=aS.1 hp.1.2 e.on hm
    simp only [Aa7,show ops[x]?=some ops[x] by simp [hx2],show ops[e.on]?=some ops[e.on] by simp [hin],aV] at this
    have:=aS.1 this.1.2 e (by simpa using he)
    simp [hb] at this
 intro fuel;induction fuel with
 |zero =>
  intro listed ρ H a w hl inv h;obtain rfl:ρ=[]:=bF.1 hl;refine ⟨?_,hQ _ _ h⟩;cases hr:Region.ready .any ops listed with
  |nil=>rfl
  |cons i l=>exact absurd (ready inv (hr▸aH)).1 (by simp)
 | succ fuel ih =>
  intro listed ρ H a w hl inv h;refine ⟨λhr=>?_,λi hi=>?_⟩
  ·cases ρ with
   |nil=>simp at hl
   |cons x r=>exact absurd (head inv) (by rw [hr];simp)
  ·obtain ⟨him,o,ho,hpre⟩:=ready inv hi;obtain ⟨l,r,rfl⟩:=bG him;obtain ⟨hpi,hpr,_⟩:=E5 inv.pairs;have hbound:∀x,(B i).testBit x=true->x<ops.size->listed.getD x false=true:=by
    intro x hx hxs
    have hi':i<ops.size:=(aT.1 ho).1
    have:=aS.1 (aS.1 hB i (bH.2 hi')) x (bH.2 hxs)
    simp only [hx,bC,bD,ho,bI,bJ,bK,aV,bM] at this
    obtain ⟨e,he,hb,hc⟩:=this
    have hle:=hpre e (by simpa using he) hb
    rcases hc with hc|hc
    ·have:e.on=x:=bP hc
     rw [←this];exact hle
    ·exact inv.down e.on x hle hc hxs
   have hfront:=Ca2 (P:=P) (Q:=Q) (un:=λx i=>!(B i).testBit x) ho (Ot hN ho) r l (λx hx=>by
    have hxm:=inv.not x (bQ _ hx)
    have hp:=hpi x hx
    have hxo:ops[x]?=some ops[x]:=by simp [hxm.2]
    simp only [Aa7,hxo,ho,aV,bM] at hp
    have hnb:(B i).testBit x=false:=by
     cases hb:(B i).testBit x with
     |false=>rfl
     |true=>rw [hbound x hb hxm.2] at hxm;exact absurd hxm.1 (by simp)
    refine ⟨by simp [hnb],ops[x],hxo,?_,?_,Ot hN hxo⟩
    ·rcases hp.2 with h|h
     ·rw [hnb] at h;exact absurd h (by simp)
     ·intro hc;rw [hc] at h;simp at h
    ·rcases hp.2 with h|h
     ·rw [hnb] at h;exact absurd h (by simp)
     ·exact h.2) H a w h
   refine aQ (λa' w' ⟨H',hh⟩=>?_) (Ad1 hfront);have hi':i<ops.size:=(aT.1 ho).1;(have hil:i<listed.size:=by rw [inv.size];exact hi');have hset:∀j,(listed.setIfInBounds i true).getD j false=true↔(j=i\/listed.getD j false=true):=by
    intro j
    by_cases hj:i=j
    ·subst hj;simp [Array.getD,hil]
    ·rw [getD_set_ne false hj];simp [Ne.symm hj]
   have hnd:i∉l++r:=by
    have:=inv.nodup
    rw [bT] at this
    obtain ⟨h1,h2,h3⟩:=this
    rw [bU] at h2
    intro hm
    rcases bV.1 hm with hm|hm
    ·exact h3 i hm i aH rfl
    ·exact h2.1 hm
   refine ih _ (l++r) H' a' w' (by simp at hl ⊢;omega) ⟨hpr,?_,?_,?_,by simp [inv.size],?_⟩ hh;{intro j hj;rcases inv.here j hj with h|h;{exact .inl ((hset j).2 (.inr h))};{by_cases hji:j=i;{exact .inl ((hset j).2 (.inl hji))};{refine .inr ?_;rcases bV.1 h with h|h;{exact bQ _ h};{exact bY _ ((aG.1 h).resolve_left hji)}}}}
   ·intro j hj;have hji:j≠i:=λe=>hnd (e▸hj);have hjm:j∈l++i::r:=by
     rcases bV.1 hj with h|h
     ·exact bQ _ h
     ·exact bY _ (aI _ h)
    obtain ⟨h1,h2⟩:=inv.not j hjm;refine ⟨?_,h2⟩;cases hc:(listed.setIfInBounds i true).getD j false with
    |false=>rfl
    |true=>rcases (hset j).1 hc with h|h;{exact absurd h hji};{rw [h1] at h;exact absurd h (by simp)}
   {have:=inv.nodup;rw [bT] at this ⊢;obtain ⟨h1,h2,h3⟩:=this;rw [bU] at h2;exact ⟨h1,h2.2,λx hx y hy=>h3 x hx y (aI _ hy)⟩};{intro j x hj hx hxs;rcases (hset j).1 hj with h|h;{subst h;exact (hset x).2 (.inr (hbound x hx hxs))};{exact (hset x).2 (.inr (inv.down j x h hx hxs))}}
theorem D6 {id:Nat}{a:Act}{w:World}{σ:List Nat}(hm:P.follows .mixedOrders=true) (hok:U5 cls ops B σ=true){rd:Option Nat}{Q':Exit->Act->Wp}
  (hQ:∀a w,Q a w->Q' .normal a w) (h:wpS cls P ops (λx i=>!(B i).testBit x) Q σ [] a { w with drawn:=w.drawn+1 }):(Code.region id ops true).wpIn (FW rd) 0 P Q' a w:=by
 simp only [U5,aV] at hok;obtain ⟨⟨⟨⟨hB,hE⟩,hN⟩,hO⟩,hP⟩:=hok;simp only [Ba4,aV] at hO;have hlen:σ.length=ops.size:=bP hO.1.1;have hmem:∀i,i<ops.size->i∈σ:=λi hi=>(by simpa using aS.1 hO.2 i (bH.2 hi));have hlt:∀i∈σ,i<ops.size:=λi hi=>(by simpa using aS.1 hO.1.2 i hi);have hnd:∀l:List Nat,Jz cls ops B l=true->l.Nodup:=by
  intro l
  induction l with
  |nil=>intro _;exact bZ
  |cons x r ih=>intro h;simp only [Jz,aV] at h;refine bU.2 ⟨λhx=>?_,ih h.2⟩;have:=aS.1 h.1.2 x hx;unfold Aa7 at this;split at this;{simp at this};{simp at this}
 have hnd:=hnd σ hP;refine wpIn_region_any hm (Wh hB hE hN hQ ops.size _ σ [] a _ hlen ⟨hP,λi hi=>.inr (hmem i hi),λi hi=>⟨?_,hlt i hi⟩,hnd,by simp,?_⟩ h);{simp [Array.getD]};{intro i x hi;simp [Array.getD] at hi}
end
#print axioms D6
structure Sl where
 a:Option Addr
 len:Nat
 cap:Nat
def scaled (n s:Nat):Nat:=match s with|1=>n|_=>n*s
def Sl.cut (a:Option Addr) (l h m:Int) (sz:Nat):Sl:=⟨if m.toNat=l.toNat then a else a.map (·.add (scaled l.toNat sz)),h.toNat-l.toNat,m.toNat-l.toNat⟩
structure Clo where
 fn:Fn
 first:Array Value
 captured:Array Value
inductive Cell where
 |int (k:IntKind)|bool|str|ptr|sl|map|iface|fn|any|addr
@[reducible] def Cell.T:Cell->Type
 |.int _=>Int
 |.bool=>Bool
 |.str=>ByteArray
 |.ptr=>Option Addr
 |.sl=>Sl
 |.map=>Option Nat
 |.iface=>Option (TypeId×Value)
 |.fn=>Option Clo
 |.any=>Value
 |.addr=>Addr
def Cell.val:(c:Cell)->c.T->Value
 |.int k,n=>.int k n
 |.bool,b=>.bool b
 |.str,s=>.string s
 |.ptr,a=>.pointer a
 |.sl,s=>.slice s.a s.len s.cap
 |.map,m=>.map m
 |.iface,x=>match x with|none=>.nilIface|some x=>.iface x.1 x.2
 |.fn,x=>match x with|none=>.nilFunc|some c=>.func c.fn c.first c.captured
 |.any,v=>v
 |.addr,p=>.pointer (some p)
def Cell.of:(c:Cell)->Value->Option c.T
 |.int k,v=>match v with | .int k' n=>(match decide (k'=k) with|true=>some n|false=>none)|_=>none
 |.bool,v=>match v with | .bool b=>some b|_=>none
 |.str,v=>match v with | .string s=>some s|_=>none
 |.ptr,v=>match v with | .pointer a=>some a|_=>none
 |.sl,v=>match v with | .slice a l c=>some ⟨a,l,c⟩|_=>none
 |.map,v=>match v with | .map m=>some m|_=>none
 |.iface,v=>match v with | .nilIface=>some none | .iface t x=>some (some (t,x))|_=>none
 |.fn,v=>match v with | .nilFunc=>some none | .func f a b=>some (some ⟨f,a,b⟩)|_=>none
 |.any,v=>some v
 |.addr,v=>match v with | .pointer a=>a|_=>none
theorem Cell.Um {c:Cell}{v:Value}{x:c.T}(h:c.of v=some x):v=c.val x:=by cases c<;>cases v<;>simp only [Cell.of] at h<;>first|(cases h;done)|(cases h;rfl)|skip;{rename_i k k' n;split at h;{rename_i hk;obtain rfl:=cO hk;cases h;rfl};{cases h}}
@[reducible] def Cells.T:List Cell->Type
 |[]=>Unit
 |c::r=>c.T×Cells.T r
def Cells.vals:(cs:List Cell)->Cells.T cs->List Value
 |[],_=>[]
 |c::r,x=>c.val x.1::Cells.vals r x.2
def Cells.of:(cs:List Cell)->List Value->Option (Cells.T cs)
 |[],l=>match l with|[]=>some ()|_::_=>none
 | c::r,l=>match l with
  |[]=>none
  | v::l=>match c.of v with
   |none=>none
   |some x=>match Cells.of r l with
    |none=>none
    |some y=>some (x,y)
theorem Cells.U6:∀{cs:List Cell}{l:List Value}{x:Cells.T cs},Cells.of cs l=some x->l=Cells.vals cs x
 |[],l,x,h=>by cases l<;>simp [Cells.of,Cells.vals] at h ⊢
 | c :: r,l,x,h=>by
  cases l with
  |nil=>simp [Cells.of] at h
  | cons v l =>
   simp only [Cells.of] at h
   split at h
   ·cases h
   ·rename_i y hy
    split at h
    ·cases h
    ·rename_i z hz
     cases h
     rw [Cells.vals,←Cells.U6 hz,←Cell.Um hy]
theorem Cells.Af1:∀(cs:List Cell) (x:Cells.T cs),(Cells.vals cs x).length=cs.length
 |[],_=>rfl
 |c::r,x=>by simp [Cells.vals,Cells.Af1 r x.2]
inductive Ty where
 |one (x:Cell)
 |agg (cs:List Cell)
@[reducible] def Ty.T:Ty->Type
 |.one x=>x.T
 |.agg cs=>Cells.T cs
def Ty.val:(t:Ty)->t.T->Value
 |.one c,x=>c.val x
 |.agg cs,x=>.agg (Cells.vals cs x).toArray
def Ty.of:(t:Ty)->Value->Option t.T
 |.one c,v=>c.of v
 |.agg cs,v=>match v with | .agg l=>Cells.of cs l.toList|_=>none
theorem Ty.Um {t:Ty}{v:Value}{x:t.T}(h:t.of v=some x):v=t.val x:=by
 cases t with
 |one c=>exact Cell.Um h
 |agg cs=>cases v<;>simp only [Ty.of] at h<;>first|(cases h;done)|skip;rename_i l;have:=Cells.U6 h;simp only [Ty.val,←this]
@[reducible] def Tys.T:List Ty->Type
 |[]=>Unit
 |c::r=>c.T×Tys.T r
def Tys.vals:(cs:List Ty)->Tys.T cs->List Value
 |[],_=>[]
 |c::r,x=>c.val x.1::Tys.vals r x.2
def Tys.of:(cs:List Ty)->List Value->Option (Tys.T cs)
 |[],l=>match l with|[]=>some ()|_::_=>none
 | c::r,l=>match l with
  |[]=>none
  | v::l=>match c.of v with
   |none=>none
   |some x=>match Tys.of r l with
    |none=>none
    |some y=>some (x,y)
theorem Tys.U6:∀{cs:List Ty}{l:List Value}{x:Tys.T cs},Tys.of cs l=some x->l=Tys.vals cs x
 |[],l,x,h=>by cases l<;>simp [Tys.of,Tys.vals] at h ⊢
 | c :: r,l,x,h=>by
  cases l with
  |nil=>simp [Tys.of] at h
  | cons v l =>
   simp only [Tys.of] at h
   split at h
   ·cases h
   ·rename_i y hy
    split at h
    ·cases h
    ·rename_i z hz
     cases h
     rw [Tys.vals,←Tys.U6 hz,←Ty.Um hy]
inductive RTy where
 |one (t:Ty)
 |tup (ts:List Ty)
@[reducible] def RTy.T:RTy->Type
 |.one t=>t.T
 |.tup ts=>Tys.T ts
def RTy.val:(t:RTy)->t.T->Value
 |.one t,x=>t.val x
 |.tup ts,x=>.tuple (Tys.vals ts x).toArray
def RTy.of:(t:RTy)->Value->Option t.T
 |.one t,v=>t.of v
 |.tup ts,v=>match v with | .tuple l=>Tys.of ts l.toList|_=>none
theorem RTy.Um {t:RTy}{v:Value}{x:t.T}(h:t.of v=some x):v=t.val x:=by
 cases t with
 |one c=>exact Ty.Um h
 |tup cs=>cases v<;>simp only [RTy.of] at h<;>first|(cases h;done)|skip;rename_i l;have:=Tys.U6 h;simp only [RTy.val,←this]
structure Inf where
 desc:TypeDesc
 size:Nat
 bytes:Nat
 zero:Option Value
 ty:Ty
 rty:RTy
def An6:TypeDesc->Bool
 |.struct _ | .array _ _=>true
 |_=>false
def Inf.wf (i:Inf):Bool :=
 match i.ty with
 |.one _=>!An6 i.desc
 |.agg cs=>An6 i.desc&&Nat.beq cs.length i.size
structure Tab where
 types:List (TypeId×Inf)
 fns:List FuncId
def find? {α:Type}(t:Nat):List (Nat×α)->Option α
 |[]=>none
 |x::r=>match Nat.beq x.1 t with|true=>some x.2|false=>find? t r
def Tab.get (T:Tab) (t:TypeId):Option Inf:=find? t T.types
structure Bj (P:Program) (t:TypeId) (i:Inf):Prop where
 und:P.underlying t=some i.desc
 info:(P.info? t).map (λj=>(j.size,j.bytes,j.zero))=some (i.size,i.bytes,i.zero)
 wf:i.wf=true
def Bd4 (P:Program):List (TypeId×Inf)->Prop
 |[]=>True
 |x::r=>Bj P x.1 x.2/\Bd4 P r
def Bz5 (P:Program):List FuncId->Prop
 |[]=>True
 |f::r=>((P.funcs[f]?).map λfn=>(fn.body.isNone,fn.name == "runtime.NumGoroutine"))=some (false,false)/\Bz5 P r
structure Tab.Ok (T:Tab) (P:Program):Prop where
 types:Bd4 P T.types
 fns:Bz5 P T.fns
 mixed:P.follows .mixedOrders=true
theorem find_ok {P:Program}:∀{l:List (TypeId×Inf)}{t:TypeId}{i:Inf},Bd4 P l->find? t l=some i->Bj P t i
 |[],t,i,_,h=>by cases h
 | x::r,t,i,ok,h=>by
  simp only [find?] at h
  split at h
  ·rename_i e
   obtain rfl:=bP e
   cases h
   exact ok.1
  ·exact find_ok ok.2 h
theorem Tab.Ok.get {T:Tab}{P:Program}(ok:T.Ok P){t:TypeId}{i:Inf}(h:T.get t=some i):Bj P t i:=find_ok ok.types h
theorem Cr2 {P:Program}:∀{l:List FuncId}{f:FuncId},Bz5 P l->l.elem f=true->((P.funcs[f]?).map λfn=>(fn.body.isNone,fn.name == "runtime.NumGoroutine"))=some (false,false)
 |[],f,_,h=>by cases h
 | x::r,f,ok,h=>by
  rw [List.elem_cons] at h
  split at h
  ·rename_i e
   have:f=x:=by simpa using e
   rw [this];exact ok.1
  ·exact Cr2 ok.2 h
section infos
variable {P:Program}{t:TypeId}{i:Inf}(h:Bj P t i) (w:World)
include h
theorem Bj.Bx7:∃j,P.info? t=some j/\j.size=i.size/\j.bytes=i.bytes/\j.zero=i.zero:=by
 have:=h.info;cases hj:P.info? t with
 |none=>rw [hj] at this;cases this
 |some j=>rw [hj] at this;simp at this;exact ⟨j,rfl,this.1,this.2.1,this.2.2⟩
theorem Bj.Gz:(underlying t).run P w=.ok i.desc w:=cZ h.und w
theorem Bj.Gv:(sizeOf t).run P w=.ok i.size w:=by obtain ⟨j,hj,hs,_⟩:=h.Bx7;simp [sizeOf,dA w hj,hs]
theorem Bj.Rh {z:Value}(hz:i.zero=some z):(zeroValue t).run P w=.ok z w:=by obtain ⟨j,hj,_,_,hz'⟩:=h.Bx7;simp [zeroValue,dA w hj,hz',hz]
theorem Bj.Zi:(isAgg t).run P w=.ok (An6 i.desc) w:=by simp only [isAgg,aA,h.Gz,aB];cases i.desc<;>rfl
end infos
def cdE {X:Type}(c:X->Prop) (K:X->Wp):World->Prop:=λw=>∃x,c x/\K x w
def rdE {X:Type}(rd:X->Wp) (K:X->Wp):World->Prop:=λw=>∃x,rd x w/\K x w
def keep (p:World->Prop) (K:World->Prop):World->Prop:=λw=>p w/\K w
def sif (b:Bool) (A B:World->Prop):World->Prop:=λw=>(b=true->A w)/\(b=false->B w)
def Af (o:Obj) (K:Nat->Wp):World->Prop:=λw=>K w.heap.size (w.alloc o)
def stC (p:Addr) (v:Value) (K:World->Prop):World->Prop:=λw=>((∃u,w.cell? p=some u)/\w.frozen? p=false)/\K (w.setCell p v)
def Cl7 (p:Addr):Nat->List Value->(World->Prop)->World->Prop
 |_,[],K=>K
 |i,v::r,K=>stC (p.add i) v (Cl7 p (i+1) r K)
def Ap (w:World) (p:Addr):Nat->List Value->Prop
 |_,[]=>True
 |i,v::r=>w.cell? (p.add i)=some v/\Ap w p (i+1) r
def Du (P:Program) (t:RTy) (s:Sem Value) (K:t.T->Wp):World->Prop:=λw=>∃x w',s.run P w=.ok (t.val x) w'/\K x w'
def De7 (P:Program) (s:Sem Unit) (K:World->Prop):World->Prop:=λw=>∃w',s.run P w=.ok () w'/\K w'
def Aa (P:Program) (f:FuncId) (args:Array Value) (t:RTy) (K:t.T->Wp):World->Prop :=
 λw=>Calls P f args w λe w'=>∃x,e=.returned (t.val x)/\K x w'
def Cj (P:Program) (s:Sem Next) (t:RTy) (K:t.T->Wp):World->Prop :=
 λw=>(∃f args,s.run P w=.ok (.enter f args) w/\Aa P f args t K w)\/(∃x w',s.run P w=.ok (.value (t.val x)) w'/\K x w') \/
  ∃l f tmps assign body,s.run P w=.ok (.round l f tmps assign body) w/\RoundIn (FW none) 0 P l f tmps assign body w λe w'=>∃x,e=.returned (t.val x)/\K x w'
def Dj5 (P:Program) (s:Sem Value) (K:Bool->List Value->Wp):World->Prop:=λw =>
 ∃b rest w',s.run P w=.ok (.tuple (.bool b::rest).toArray) w'/\K b rest w'
def Dc6 (P:Program) (s:Sem Value) (K:Int->Int->Wp) (K0:World->Prop):World->Prop:=λw =>
 (∃p c w',s.run P w=.ok (.tuple #[.bool true,.int .i64 p,.int .i32 c]) w'/\K p c w')\/∃w',s.run P w=.ok (.tuple #[.bool false]) w'/\K0 w'
def Bp6 (P:Program) (v:Value) (m:String):Prop:=∃t u,v=.iface t u/\∀w,(nilAhead (P.types.size+Made.depth) t u m).run P w=.ok (some false) w
inductive QR where
 |no
 |val (v:Value)
 |cond {X:Type} (c:X->Prop) (val:X->Value)
 |read {X:Type} (rd:X->Wp) (val:X->Value)
abbrev Ev:=Operand->Option Value
def Dg3 (op:BinOp) (k:IntKind) (x y:Int):QR :=
 match op with
 |.add=>.val (.int k (k.wrap (x+y)))
 |.sub=>.val (.int k (k.wrap (x-y)))
 |.mul=>.val (.int k (k.wrap (x*y)))
 |.quo=>.cond (λ_:Unit=>y≠0) (λ_=>.int k (k.wrap (x.tdiv y)))
 |.rem=>.cond (λ_:Unit=>y≠0) (λ_=>.int k (x.tmod y))
 |.and=>.val (.int k (k.wrap (BitVec.ofInt k.bits x &&& BitVec.ofInt k.bits y).toNat))
 |.or=>.val (.int k (k.wrap (BitVec.ofInt k.bits x ||| BitVec.ofInt k.bits y).toNat))
 |.xor=>.val (.int k (k.wrap (BitVec.ofInt k.bits x ^^^ BitVec.ofInt k.bits y).toNat))
 |.andNot=>.val (.int k (k.wrap (BitVec.ofInt k.bits x &&& ~~~BitVec.ofInt k.bits y).toNat))
 |.eql=>.val (.bool (x==y))
 |.neq=>.val (.bool (x !=y))
 |.lss=>.val (.bool (x<y))
 |.leq=>.val (.bool (x<=y))
 |.gtr=>.val (.bool (x>y))
 |.geq=>.val (.bool (x>=y))
 |_=>.no
def Bq5 (op:BinOp) (k:IntKind) (x y:Int):QR :=
 match op with
 |.shl=>.cond (λ_:Unit=>0<=y) (λ_=>.int k (k.wrap (x*2^(min y.toNat k.bits))))
 |.shr=>.cond (λ_:Unit=>0<=y) (λ_=>.int k (x.fdiv (2^(min y.toNat k.bits))))
 |_=>.no
def De4 (op:BinOp) (x y:ByteArray):QR :=
 match op with
 |.add=>.cond (λ_:Unit=>((x.size+y.size:Nat):Int)<=IntKind.i64.max) (λ_=>.string (x++y))
 |.eql=>.val (.bool (x.toList==y.toList))
 |.neq=>.val (.bool !(x.toList==y.toList))
 |.lss=>.val (.bool (Op.bytesLess x.toList y.toList))
 |.leq=>.val (.bool (Op.bytesLess x.toList y.toList||x.toList==y.toList))
 |.gtr=>.val (.bool !(Op.bytesLess x.toList y.toList||x.toList==y.toList))
 |.geq=>.val (.bool !(Op.bytesLess x.toList y.toList))
 |_=>.no
def V6:BinOp->Bool
 |.shl | .shr=>true
 |_=>false
def Cq6:Operand->Bool
 |.const (.pointer none) | .const (.slice none 0 0) | .const (.map none) | .const .nilIface | .const .nilFunc=>true
 |_=>false
def Qn (d:TypeDesc) (x y:Value):Option Bool :=
 match d,x,y with
 |.pointer _,.pointer a,.pointer none=>some a.isNone
 |.slice _,.slice a _ _,.slice none _ _=>some a.isNone
 |.map _ _,.map m,.map none=>some m.isNone
 |_,_,_=>none
def Cu6 (T:Tab) (P:Program) (op:BinOp) (xType:TypeId) (x y:Operand) (a b:Value):QR :=
 match a,b with
 |.int k m,.int k' n=>match V6 op with
  |true=>Bq5 op k m n
  |false=>match decide (k'=k) with|true=>Dg3 op k m n|false=>.no
 |.string s,.string s'=>De4 op s s'
 | a,b =>
  match op with
  | .eql=>match Cq6 y,T.get xType with
   |true,some i=>match Qn i.desc a b with
    |some r=>.val (.bool r)
    |none=>.read (λ(r:Bool) w=>(do eqGuard op xType x y a b;binOp op xType a b:Sem Value).run P w=.ok (.bool r) w) (λr=>.bool r)
   |_,_=>.read (λ(r:Bool) w=>(do eqGuard op xType x y a b;binOp op xType a b:Sem Value).run P w=.ok (.bool r) w) (λr=>.bool r)
  | .neq=>match Cq6 y,T.get xType with
   |true,some i=>match Qn i.desc a b with
    |some r=>.val (.bool !r)
    |none=>.read (λ(r:Bool) w=>(do eqGuard op xType x y a b;binOp op xType a b:Sem Value).run P w=.ok (.bool r) w) (λr=>.bool r)
   |_,_=>.read (λ(r:Bool) w=>(do eqGuard op xType x y a b;binOp op xType a b:Sem Value).run P w=.ok (.bool r) w) (λr=>.bool r)
  |_=>.no
def Dk4:TypeDesc->Bool
 |.func _ _ _=>true
 |.interface _=>true
 |_=>false
def An5 (T:Tab) (t:TypeId):Bool:=match T.get t with|some i=>Dk4 i.desc|none=>false
def Dh3 (T:Tab) (P:Program) (op:BinOp) (xType:TypeId) (x y:Operand) (a b:Value):QR :=
 match An5 T xType with
 |true=>match op with
  |.eql=>.read (λ(r:Bool) w=>(do eqGuard op xType x y a b;binOp op xType a b:Sem Value).run P w=.ok (.bool r) w) (λr=>.bool r)
  |.neq=>.read (λ(r:Bool) w=>(do eqGuard op xType x y a b;binOp op xType a b:Sem Value).run P w=.ok (.bool r) w) (λr=>.bool r)
  |_=>.no
 |false=>Cu6 T P op xType x y a b
def Bh0 (T:Tab) (t:TypeId) (p:Addr):QR :=
 match T.get t with
 |some i=>match i.ty with
  |.one c=>.read (λ(x:c.T) w=>w.cell? p=some (c.val x)) (λx=>c.val x)
  |.agg cs=>.read (λ(x:Cells.T cs) w=>Ap w p 0 (Cells.vals cs x)) (λx=>.agg (Cells.vals cs x).toArray)
 |none=>.no
def bnd (v:Option Value) (d:Nat):Option (Int×Bool) :=
 match v with
 |none=>some (d,false)
 |some (.int _ n)=>some (n,true)
 |_=>none
def Bm9 (T:Tab) (t:TypeId) (x:Value) (lo hi mx:Option Value):QR :=
 match T.get t with
 | some i=>match i.desc,x with
  | .slice e,.slice a len cap=>match T.get e,bnd lo 0,bnd hi len,bnd mx cap with
   |some j,some l,some h,some m=>match hi,mx with
    |none,some _=>.no
    |_,_=>.cond (λ_:Unit=>0<=l.1/\l.1<=h.1/\h.1<=m.1/\m.1<=cap) (λ_=>.slice (Sl.cut a l.1 h.1 m.1 j.size).a (Sl.cut a l.1 h.1 m.1 j.size).len (Sl.cut a l.1 h.1 m.1 j.size).cap)
   |_,_,_,_=>.no
  |.string,.string s=>match bnd lo 0,bnd hi s.size,mx with
   |some l,some h,none=>.cond (λ_:Unit=>0<=l.1/\l.1<=h.1/\h.1<=s.size) (λ_=>.string (s.extract l.1.toNat h.1.toNat))
   |_,_,_=>.no
  | .array n e,.pointer (some a)=>match T.get e,bnd lo 0,bnd hi n,bnd mx n with
   |some j,some l,some h,some m=>match hi,mx with
    |none,some _=>.no
    |_,_=>.cond (λ_:Unit=>0<=l.1/\l.1<=h.1/\h.1<=m.1/\m.1<=n) (λ_=>.slice (Sl.cut (some a) l.1 h.1 m.1 j.size).a (Sl.cut (some a) l.1 h.1 m.1 j.size).len (Sl.cut (some a) l.1 h.1 m.1 j.size).cap)
   |_,_,_,_=>.no
  |_,_=>.no
 |none=>.no
def Co0 (T:Tab) (t:TypeId) (cs:List Value) (off:Nat):QR :=
 match T.get t with
 | some i=>match An6 i.desc with
  |true=>.val (.agg ((cs.drop off).take i.size).toArray)
  |false=>match cs[off]? with
   |some v=>.val v
   |none=>.no
 |none=>.no
def Al4:List Value->Nat->List Value->List Value
 |cs,_,[]=>cs
 |cs,off,v::r=>Al4 (cs.set off v) (off+1) r
def evs (ev:Ev):List Operand->Option (List Value)
 |[]=>some []
 |x::r=>match ev x,evs ev r with
  |some v,some l=>some (v::l)
  |_,_=>none
def G6 (place:Nat->Option (Nat×Nat)):List Value->List (Nat×Value)->Option (List Value)
 |cs,[]=>some cs
 | cs,p::r=>match place p.1 with
  |none=>none
  |some os=>match Nat.beq p.2.cells.toList.length os.2&&Nat.ble (os.1+p.2.cells.toList.length) cs.length with
   |true=>G6 place (Al4 cs os.1 p.2.cells.toList) r
   |false=>none
def Br8 (ev:Ev):List (Nat×Operand)->Option (List (Nat×Value))
 |[]=>some []
 |x::r=>match ev x.2,Br8 ev r with
  |some v,some l=>some ((x.1,v)::l)
  |_,_=>none
def Ah4 (T:Tab):List Field->Option (List (Nat×Nat))
 |[]=>some []
 |f::r=>match T.get f.type,Ah4 T r with
  |some j,some l=>some ((f.offset,j.size)::l)
  |_,_=>none
def Bt0 (T:Tab) (t:TypeId) (ps:List (Nat×Value)):QR :=
 match T.get t with
 | some i=>match i.desc,i.zero with
  | .struct fs,some z=>match Ah4 T fs.toList with
   |some pl=>match G6 (λk=>pl[k]?) z.cells.toList ps with
    |some cs=>.val (.agg cs.toArray)
    |none=>.no
   |none=>.no
  | .array _ e,some z=>match T.get e with
   |some j=>match G6 (λk=>some (k*j.size,j.size)) z.cells.toList ps with
    |some cs=>.val (.agg cs.toArray)
    |none=>.no
   |none=>.no
  |_,_=>.no
 |none=>.no
def Cy6 (isMax:Bool):List Value->QR
 |[.int k x,.int _ y]=>.val (.int k (match isMax with|true=>if y>x then y else x|false=>if y<x then y else x))
 |_=>.no
def quiet (T:Tab) (P:Program) (ev:Ev) (o:Oper):QR :=
 match o.op with
 |.move x | .assign x=>match ev x with|some v=>.val v|none=>.no
 |.pick c a b=>match ev c with
  |some (.bool true)=>(match ev a with|some v=>.val v|none=>.no)
  |some (.bool false)=>(match ev b with|some v=>.val v|none=>.no)
  |_=>.no
 | .nilCheck x=>match ev x with
  |some (.pointer p)=>.cond (λ(a:Addr)=>p=some a) (λa=>.pointer (some a))
  |some (.func (.func f) a b)=>.val (.func (.func f) a b)
  |some (.iface t v)=>.val (.iface t v)
  |some (.func (.method m) a b)=>(match a.toList with
   |v::_=>.cond (λ(_:Unit)=>Bp6 P v m) (λ_=>.func (.method m) a b)
   |[]=>.no)
  |_=>.no
 | .fieldAddr s x f=>match ev x,T.get s with
  | some (.pointer (some a)),some i=>match i.desc with
   | .struct fs=>match fs.toList[f]? with
    | some fd=>match T.get fd.type with
     |some j=>match Nat.beq j.size 0 with
      |false=>.val (.pointer (some (a.add fd.offset)))
      |true=>.no
     |none=>.no
    |none=>.no
   |_=>.no
  |_,_=>.no
 | .field s x f=>match ev x,T.get s with
  | some (.agg cs),some i=>match i.desc with
   |.struct fs=>match fs.toList[f]? with
    |some fd=>Co0 T fd.type cs.toList fd.offset
    |none=>.no
   |_=>.no
  |_,_=>.no
 | .indexAddr t x ix=>match ev x,ev ix,T.get t with
  | some (.slice a len _),some (.int _ n),some i=>match i.desc with
   |.slice e=>match T.get e with
    |some j=>.cond (λ(p:Addr)=>a=some p/\0<=n/\n<len) (λp=>.pointer (some (p.add (scaled n.toNat j.size))))
    |none=>.no
   |_=>.no
  | some (.pointer (some p)),some (.int _ n),some i=>match i.desc with
   |.array len e=>match T.get e with
    |some j=>.cond (λ(_:Unit)=>0<=n/\n<len) (λ_=>.pointer (some (p.add (scaled n.toNat j.size))))
    |none=>.no
   |_=>.no
  |_,_,_=>.no
 | .index t x ix=>match ev x,ev ix,T.get t with
  |some (.string s),some (.int _ n),some i=>match i.desc with
   |.string=>.cond (λ(b:UInt8)=>0<=n/\s[n.toNat]?=some b) (λb=>.int .u8 b.toNat)
   |_=>.no
  |_,_,_=>.no
 |.load t x=>match ev x with
  |some (.pointer (some p))=>Bh0 T t p
  |_=>.no
 |.binOp op t x y _=>match ev x,ev y with
  |some a,some b=>Dh3 T P op t x y a b
  |_,_=>.no
 |.unOp op _ x=>match op,ev x with
  |.not,some (.bool b)=>.val (.bool !b)
  |.neg,some (.int k n)=>.val (.int k (k.wrap (0-n)))
  |_,_=>.no
 | .convert src dst x=>match ev x,T.get src,T.get dst with
  |some (.int _ n),some i,some j=>match i.desc,j.desc with
   |.int _,.int k=>.val (.int k (k.wrap n))
   |_,_=>.no
  |_,_,_=>.no
 |.extract t ix=>match ev t with
  |some (.tuple vs)=>match vs.toList[ix]? with|some v=>.val v|none=>.no
  |_=>.no
 |.build t parts=>match Br8 ev parts.toList with
  |some ps=>Bt0 T t ps
  |none=>.no
 |.slice t x lo hi mx=>match ev x,(match lo with|none=>some none|some y=>(ev y).map some),(match hi with|none=>some none|some y=>(ev y).map some),(match mx with|none=>some none|some y=>(ev y).map some) with
  |some v,some l,some h,some m=>Bm9 T t v l h m
  |_,_,_,_=>.no
 | .makeInterface t x=>match ev x,T.get t with
  |some v,some i=>match i.desc with
   |.interface _=>.no
   |_=>.val (.iface t v)
  |_,_=>.no
 |.makeFunc fn first captured=>match evs ev first.toList,evs ev captured.toList with
  |some a,some b=>.val (.func fn a.toArray b.toArray)
  |_,_=>.no
 |.lookup t m k ok=>match ev m,ev k,T.get o.type with
  |some vm,some vk,some i=>.read (λ(x:i.rty.T) w=>(Instr.lookup t vm vk ok).run P w=.ok (i.rty.val x) w) (λx=>i.rty.val x)
  |_,_,_=>.no
 | .call c=>match c.callee with
  | .builtin b=>match evs ev c.args.toList,c.argTypes.toList with
   | some [x],[t]=>match b,x,T.get t with
    |.len,.slice _ n _,some i=>(match i.desc with | .slice _=>.val (.int .i64 n)|_=>.no)
    |.cap,.slice _ _ n,some i=>(match i.desc with | .slice _=>.val (.int .i64 n)|_=>.no)
    |.len,.string s,some i=>(match i.desc with | .string=>.val (.int .i64 s.size)|_=>.no)
    |.len,.map m,some i=>(match i.desc with
     |.map _ _=>.read (λ(n:Int) w=>(Builtin.len_ c.argTypes o.type #[.map m]).run P w=.ok (.int .i64 n) w) (λn=>.int .i64 n)
     |_=>.no)
    |_,_,_=>.no
   |some l,_=>match b with
    |.max=>Cy6 true l
    |.min=>Cy6 false l
    |_=>.no
   |none,_=>.no
  |_=>.no
 |_=>.no
def Tab.cls (T:Tab):Op->Cl
 |.move _ | .assign _ | .pick .. | .nilCheck _ | .fieldAddr .. | .field .. | .indexAddr .. | .index .. | .unOp .. | .extract .. | .build .. | .slice .. | .makeInterface .. | .makeFunc ..=>.free
 |.load .. | .lookup .. | .binOp ..=>.read
 |.convert src dst _=>match T.get src,T.get dst with
  |some i,some j=>(match i.desc,j.desc with | .int _,.int _=>.free|_,_=>.eff)
  |_,_=>.eff
 |.call c=>match c.callee with
  |.builtin .len | .builtin .cap | .builtin .max | .builtin .min=>.read
  |_=>.eff
 |_=>.eff
def Gn:Value->Bool
 |.agg _ | .tuple _=>false
 |_=>true
def Yi:List Value->Bool
 |[]=>true
 |v::r=>Gn v&&Yi r
def Bi5:List Value->List (Nat×Value)->Option (List Value)
 |cs,[]=>some cs
 |cs,p::r=>match Nat.blt p.1 cs.length with
  |true=>Bi5 (cs.set p.1 p.2) r
  |false=>none
def Ad (p:Addr) (v:Value) (n:Nat) (K:World->Prop):World->Prop :=
 match Nat.beq v.cells.toList.length n&&v.cells.toList.all Gn with
 |true=>Cl7 p 0 v.cells.toList K
 |false=>λ_=>False
def eff (T:Tab) (P:Program) (ev:Ev) (o:Oper) (rt:Option RTy) (K:Value->Wp):World->Prop :=
 match o.op with
 | .alloc t=>match T.get t with
  |some i=>match i.zero with
   |some z=>Af (.cells z.cells t) λb=>K (.pointer (some ⟨b,0,none⟩))
   |none=>λ_=>False
  |none=>λ_=>False
 | .box t x=>match ev x with
  |some v=>(match An5 T t with
   |true=>cdE (λ_:Unit=>Yi [v]=true) (λ_=>Af (.cells #[v] t) λb=>K (.pointer (some ⟨b,0,none⟩)))
   |false=>Af (.cells v.cells t) λb=>K (.pointer (some ⟨b,0,none⟩)))
  |none=>λ_=>False
 | .buildSlice t len parts=>match Br8 ev parts.toList,T.get t with
  | some ps,some i=>match i.desc with
   | .slice e=>match T.get e with
    | some j=>match j.zero,Nat.ble (len*j.size) (2^24)&&!Nat.beq j.size 0 with
     | some z,true=>(match An5 T e&&Nat.beq j.size 1 with
      |true=>cdE (λ_:Unit=>Yi (ps.map (·.2))=true) (λ_=>match Bi5 ((List.range (len*j.size)).map λk=>(z.cells.toList)[k%z.cells.toList.length]?.getD default) ps with
       |some cs=>Af (.cells cs.toArray e) λb=>K (.slice (some ⟨b,0,none⟩) len len)
       |none=>λ_=>False)
      |false=>match G6 (λk=>some (k*j.size,j.size)) ((List.range (len*j.size)).map λk=>(z.cells.toList)[k%z.cells.toList.length]?.getD default) ps with
       |some cs=>Af (.cells cs.toArray e) λb=>K (.slice (some ⟨b,0,none⟩) len len)
       |none=>λ_=>False)
     |_,_=>λ_=>False
    |none=>λ_=>False
   |_=>λ_=>False
  |_,_=>λ_=>False
 | .store t a x=>match ev a,ev x,T.get t with
  |some (.pointer (some p)),some v,some i=>match i.ty,Gn v with
   |.one .any,_=>(match Nat.beq i.size 1 with|true=>cdE (λ_:Unit=>Gn v=true) (λ_=>stC p v (K undef))|false=>λ_=>False)
   |.one _,true=>(match Nat.beq i.size 1 with|true=>stC p v (K undef)|false=>λ_=>False)
   |.agg _,_=>Ad p v i.size (K undef)
   |_,false=>λ_=>False
  |_,_,_=>λ_=>False
 |.makeMap _ none=>Af (.map #[] 0) λb=>K (.map (some b))
 |.makeSlice t l c=>match ev l,ev c,rt with
  |some vl,some vc,some i=>Du P i (Instr.makeSlice t vl vc) λx=>K (i.val x)
  |_,_,_=>λ_=>False
 |.convert s d x=>match ev x,rt with
  |some v,some i=>Du P i (convert s d v) λx=>K (i.val x)
  |_,_=>λ_=>False
 |.mapUpdate t m k x=>match ev m,ev k,ev x with
  |some vm,some vk,some vx=>De7 P (Instr.mapUpdate t vm vk vx) (K undef)
  |_,_,_=>λ_=>False
 |.insert t m k x=>match ev m,ev k,ev x with
  |some vm,some vk,some vx=>De7 P (Instr.mapUpdate t vm vk vx) (K undef)
  |_,_,_=>λ_=>False
 |.mapEntry t m k=>match ev m,ev k,rt with
  |some vm,some vk,some i=>Du P i (Instr.mapEntry t vm vk) λx=>K (i.val x)
  |_,_,_=>λ_=>False
 |.entryStore t m s x=>match ev m,ev s,ev x with
  |some vm,some vs,some vx=>De7 P (Instr.entryStore t vm vs vx) (K undef)
  |_,_,_=>λ_=>False
 |.range t x=>match ev x with
  |some v=>Du P (.one (.one .ptr)) (Instr.range t v) λx=>K (.pointer x)
  |none=>λ_=>False
 | .next it str=>match ev it with
  |some v=>match str with
   |false=>Dj5 P (Instr.next v str o.type) λb rest=>K (.tuple (.bool b::rest).toArray)
   |true=>Dc6 P (Instr.next v str o.type) (λp c=>K (.tuple #[.bool true,.int .i64 p,.int .i32 c])) (K (.tuple #[.bool false]))
  |none=>λ_=>False
 |.entry it=>match ev it,rt with
  |some v,some i=>Du P i (Instr.entry v) λx=>K (i.val x)
  |_,_=>λ_=>False
 |.typeAssert x xt as_ ok=>match ev x,rt with
  |some v,some i=>Du P i (Instr.typeAssert v xt as_ ok) λx=>K (i.val x)
  |_,_=>λ_=>False
 |.waits g=>match rt with
  |some i=>Du P i (Instr.waits g) λx=>K (i.val x)
  |_=>λ_=>False
 | .call c=>match evs ev c.args.toList,rt with
  | some args,some i=>match c.callee with
   |.builtin b=>match b with
    |.append=>Du P i (Builtin.append_ c.argTypes o.type args.toArray) λx=>K (i.val x)
    |.copy=>Du P i (Builtin.copy_ c.argTypes o.type args.toArray) λx=>K (i.val x)
    |.delete=>Du P i (Builtin.delete_ c.argTypes o.type args.toArray) λx=>K (i.val x)
    |.clear=>Du P i (Builtin.clear_ c.argTypes o.type args.toArray) λx=>K (i.val x)
    |_=>λ_=>False
   | .value f=>match f with
    |.func g=>match T.fns.elem g with
     |true=>Aa P g args.toArray i λx=>K (i.val x)
     |false=>Cj P (callFunc g args.toArray) i λx=>K (i.val x)
    |f=>match ev f with
     |some vf=>Cj P (do let d ←Deferred.ofValue vf args.toArray;invoke d.target d.args) i λx=>K (i.val x)
     |none=>λ_=>False
   |.invoke r name=>match ev r with
    |some vr=>Cj P (invoke (.fn (.method name) #[]) (#[vr]++args.toArray)) i λx=>K (i.val x)
    |none=>λ_=>False
  |_,_=>λ_=>False
 |_=>λ_=>False
def QR.holds (P:Program) (q:QR) (s:Sem Next):Prop :=
 match q with
 |.no=>True
 |.val v=>∀w,s.run P w=.ok (.value v) w
 |.cond c f=>∀x,c x->∀w,s.run P w=.ok (.value (f x)) w
 |.read rd f=>∀x w,rd x w->s.run P w=.ok (.value (f x)) w
section
variable {T:Tab}{P:Program}{ev:Ev}{ρ:Operand->Value}
theorem Ei (n s:Nat):scaled n s=n*s:=by unfold scaled;split;{simp};{rfl}
theorem Gg {v:Value}{s:Sem Value}(h:∀w,s.run P w=.ok v w):(QR.val v).holds P (do pure (.value (←s))):=by intro w;simp [h w]
theorem Iw {X:Type}{c:X->Prop}{val:X->Value}{s:Sem Value}(h:∀x,c x->∀w,s.run P w=.ok (val x) w):(QR.cond c val).holds P (do pure (.value (←s))):=by intro x hx w;simp [h x hx w]
theorem Pe {X:Type}{rd:X->Wp}{val:X->Value}{s:Sem Value}(h:∀x w,rd x w->s.run P w=.ok (val x) w):(QR.read rd val).holds P (do pure (.value (←s))):=by intro x w hx;simp [h x w hx]
theorem Cz3 (op:BinOp) (k:IntKind) (x y:Int) (xt:TypeId) (a b:Operand) (hs:V6 op=false):(Dg3 op k x y).holds P (do pure (.value (←(do eqGuard op xt a b (.int k x) (.int k y);binOp op xt (.int k x) (.int k y))))):=by
 cases op<;>simp only [V6] at hs<;>simp only [Dg3]<;>first
  |(refine Gg λw=>?_;simp [eqGuard,binOp,Op.intArith,Op.intBits,Op.intCmp];done)
  |(refine Iw λ_ hy w=>?_;simp [eqGuard,binOp,Op.intDiv,hy];done)
  |trivial
  |(exact absurd hs (by simp))
theorem Cf4 (op:BinOp) (k k':IntKind) (x y:Int) (xt:TypeId) (a b:Operand) (hs:V6 op=true):(Bq5 op k x y).holds P (do pure (.value (←(do eqGuard op xt a b (.int k x) (.int k' y);binOp op xt (.int k x) (.int k' y))))):=by
 cases op<;>simp only [V6] at hs<;>simp only [Bq5]<;>first
  |(refine Iw λ_ hy w=>?_;simp [eqGuard,binOp,Op.shift,Int.not_lt.2 hy];done)
  |(exact absurd hs (by simp))
theorem Cx3 (op:BinOp) (x y:ByteArray) (xt:TypeId) (a b:Operand):(De4 op x y).holds P (do pure (.value (←(do eqGuard op xt a b (.string x) (.string y);binOp op xt (.string x) (.string y))))):=by
  cases op<;>simp only [De4]<;>first
    |(refine Gg λw=>?_;simp [eqGuard,binOp,Op.stringOp];done)
    | (refine Iw λ_ hy w=>?_;have hn:¬(((x.size+y.size:Nat):Int)>IntKind.i64.max):=by omega
       have he:(eqGuard .add xt a b (.string x) (.string y)).run P w=.ok () w:=rfl
       have hb:(binOp .add xt (.string x) (.string y)).run P w=.ok (.string (x++y)) w:=by
         show (Op.stringOp .add x y).run P w=_
         unfold Op.stringOp;simp only [aJ hn];rfl
       simp only [aA,he,hb,aB])
    |trivial
theorem Bp3 {t:TypeId}{d:TypeDesc}{a b:Value}{r:Bool}(n:Nat) (hu:P.underlying t=some d) (h:Qn d a b=some r) (w:World):(Op.equalIn (n+1) t a b).run P w=.ok r w:=by unfold Qn at h;simp only [Op.equalIn,aA,cZ hu,aB];split at h;{rename_i e a;cases h;cases a<;>rfl};{rename_i e a n c m k;cases h;cases a<;>rfl};{rename_i k e m;cases h;cases m<;>rfl};{cases h}
theorem Bp4 {t:TypeId}{d:TypeDesc}{a b:Value}{r:Bool}(hu:P.underlying t=some d) (h:Qn d a b=some r) (w:World):(Op.equal t a b).run P w=.ok r w :=
 Bp3 9999 hu h w
theorem E8 {t:TypeId}{d:TypeDesc}{a b:Value}{r:Bool}(h:Qn d a b=some r) (op:BinOp) (x y:Operand) (w:World):(eqGuard op t x y a b).run P w=.ok () w:=by unfold Qn at h;split at h;{unfold eqGuard;split<;>rfl};{unfold eqGuard;split<;>rfl};{unfold eqGuard;split<;>rfl};{cases h}
theorem Ae7 {t:TypeId}{d:TypeDesc}{a b:Value}{r:Bool}(hu:P.underlying t=some d) (h:Qn d a b=some r) (w:World) :
  (binOp .eql t a b).run P w=.ok (.bool r) w/\(binOp .neq t a b).run P w=.ok (.bool !r) w:=by have he:=Bp4 hu h w;unfold Qn at h;split at h;{simp [binOp,he]};{simp [binOp,he]};{simp [binOp,he]};{cases h}
theorem Cu5 (ok:T.Ok P) (op:BinOp) (xt:TypeId) (x y:Operand) (a b:Value):(Cu6 T P op xt x y a b).holds P (do pure (.value (←(do eqGuard op xt x y a b;binOp op xt a b)))):=by
 unfold Cu6;split;{rename_i k m k' n;split;{rename_i hs;exact Cf4 op k k' m n xt x y hs};{rename_i hs;split;{rename_i hk;obtain rfl:=cO hk;exact Cz3 op _ m n xt x y hs};{trivial}}};{exact Cx3 op _ _ xt x y}
 ·have hread:∀o,(QR.read (λ(r:Bool) w=>(do eqGuard o xt x y a b;binOp o xt a b:Sem Value).run P w=.ok (.bool r) w) (λr=>.bool r)).holds P (do pure (.value (←(do eqGuard o xt x y a b;binOp o xt a b)))) :=
   λo=>Pe λx w h=>h
  split;{split;{rename_i i _ hi;split;{rename_i r hr;refine Gg λw=>?_;simp [E8 hr,(Ae7 (ok.get hi).und hr w).1]};{exact hread _}};{exact hread _}};{split;{rename_i i _ hi;split;{rename_i r hr;refine Gg λw=>?_;simp [E8 hr,(Ae7 (ok.get hi).und hr w).2]};{exact hread _}};{exact hread _}};{trivial}
theorem Db5 (ok:T.Ok P) (op:BinOp) (xt:TypeId) (x y:Operand) (a b:Value):(Dh3 T P op xt x y a b).holds P (do pure (.value (←(do eqGuard op xt x y a b;binOp op xt a b)))):=by unfold Dh3;split;{split;{exact Pe λx w h=>h};{exact Pe λx w h=>h};{trivial}};{exact Cu5 ok op xt x y a b}
theorem run_loadCells:∀(vs:List Value) (p:Addr) (i:Nat) (acc:Array Value) (w:World),Ap w p i vs->(loadCellsFrom p i vs.length acc).run P w=.ok (acc++vs.toArray) w
 |[],p,i,acc,w,_=>by simp [loadCellsFrom]
 |v::r,p,i,acc,w,h=>by
  simp only [dB,loadCellsFrom,load,aA,Sem.run,h.1,aB]
  rw [run_loadCells r p (i+1) (acc.push v) w h.2]
  simp
theorem Bg9 (ok:T.Ok P) (t:TypeId) (p:Addr):(Bh0 T t p).holds P (do pure (.value (←Instr.loadAt t (.pointer (some p))))):=by unfold Bh0;split;{rename_i i hi;have io:=ok.get hi;have hw:=io.wf;unfold Inf.wf at hw;split;{rename_i c hc;rw [hc] at hw;have hw:An6 i.desc=false:=(by simpa using hw);refine Pe λx w h=>?_;simp [Instr.loadAt,Instr.sureAddr,loadVar,io.Zi,hw,load,Sem.run,h]};{rename_i cs hc;rw [hc] at hw;simp only [aV] at hw;have hn:cs.length=i.size:=bP hw.2;refine Pe λx w h=>?_;have hl:=run_loadCells (P:=P) (Cells.vals cs x) p 0 #[] w h;rw [Cells.Af1,hn] at hl;simp [Instr.loadAt,Instr.sureAddr,loadVar,io.Zi,hw.1,io.Gv,loadCells,hl]}};{trivial}
theorem run_sliceBound {n:Int}{k:IntKind}{y:Nat}{c:BoundsCode}(h:0<=n/\n<=y) (w:World):(Instr.sliceBound (.int k n) y c).run P w=.ok n.toNat w:=by simp [Instr.sliceBound,asIntOf,h.1,h.2,Sem.run]
theorem Ru {v:Value}{d:Nat}{l:Int×Bool}(h:bnd (some v) d=some l):∃k,v=.int k l.1:=by cases v<;>simp only [bnd] at h<;>first|(cases h;done)|skip;cases h;exact ⟨_,rfl⟩
theorem Qd {isS:Bool}{len cap:Nat}{lo hi mx:Option Value}{l h m:Int×Bool}(hl:bnd lo 0=some l) (hh:bnd hi len=some h) (hm:bnd mx cap=some m) (hno:¬(hi=none/\mx≠none))
  (hc:0<=l.1/\l.1<=h.1/\h.1<=m.1/\m.1<=cap) (w:World):(Instr.sliceBounds isS len cap lo hi mx).run P w=.ok (l.1.toNat,h.1.toNat,m.1.toNat) w:=by
 obtain ⟨c1,c2,c3,c4⟩:=hc;have e1:((m.1.toNat:Nat):Int)=m.1:=dD (by omega);have e2:((h.1.toNat:Nat):Int)=h.1:=dD (by omega);have bl:∀(k:IntKind) (c:BoundsCode),(Instr.sliceBound (.int k l.1) h.1.toNat c).run P w=.ok l.1.toNat w:=λk c=>run_sliceBound ⟨c1,by omega⟩ w;have bh:∀(k:IntKind) (c:BoundsCode),(Instr.sliceBound (.int k h.1) m.1.toNat c).run P w=.ok h.1.toNat w:=λk c=>run_sliceBound ⟨by omega,by omega⟩ w;have bm:∀(k:IntKind) (c:BoundsCode),(Instr.sliceBound (.int k m.1) cap c).run P w=.ok m.1.toNat w:=λk c=>run_sliceBound ⟨by omega,by omega⟩ w;have lo':∀(c:BoundsCode),(match lo with|some v=>Instr.sliceBound v h.1.toNat c|none=>(pure 0:Sem Nat)).run P w=.ok l.1.toNat w:=by
  intro c
  cases lo with
  |none=>cases hl;rfl
  |some v=>obtain ⟨k,rfl⟩:=Ru hl;exact bl k c
 unfold Instr.sliceBounds;cases mx with
 | some v =>
  obtain ⟨k,rfl⟩:=Ru hm;cases hi with
  |none=>exact absurd ⟨rfl,by simp⟩ hno
  |some v =>
   obtain ⟨k2,rfl⟩:=Ru hh;simp only [aA,bm,bh,aB];cases lo with
   |none=>cases hl;rfl
   |some v=>obtain ⟨k,rfl⟩:=Ru hl;simp [bl]
 | none =>
  cases hm;cases hi with
  |none =>
   cases hh;simp only [aA,aC,aB];cases lo with
   |none=>cases hl;simp
   |some v=>obtain ⟨k,rfl⟩:=Ru hl;simp only [dF] at bl;simp [bl]
  |some v =>
   obtain ⟨k2,rfl⟩:=Ru hh;simp only [dF] at bh;simp only [aA,aC,bh,aB];cases lo with
   |none=>cases hl;simp
   |some v=>obtain ⟨k,rfl⟩:=Ru hl;simp [bl]
theorem Cb1 (ok:T.Ok P) (t:TypeId) (x:Value) (lo hi mx:Option Value):(Bm9 T t x lo hi mx).holds P (do pure (.value (←Instr.sliceAt t x lo hi mx))):=by unfold Bm9;split;{rename_i i hi';have io:=ok.get hi';split;{rename_i e a len cap hd;split;{rename_i j l h m hj hl hh hm;split;{trivial};{rename_i hno;refine Iw λ_ hc w=>?_;have hb:=Qd (P:=P) (isS:=true) hl hh hm (by rintro ⟨rfl,h2⟩;cases mx with|none=>exact h2 rfl|some v=>exact hno v rfl rfl) hc w;simp [Instr.sliceAt,io.Gz,hd,Instr.slice,hb,(ok.get hj).Gv,Sl.cut,Ei]}};{trivial}};{rename_i s hd;split;{rename_i l h hl hh;refine Iw λ_ hc w=>?_;have hb:=Qd (P:=P) (isS:=false) (cap:=s.size) (mx:=none) (m:=((s.size:Int),false)) hl hh rfl (by simp) ⟨hc.1,hc.2.1,hc.2.2,dG _⟩ w;simp [Instr.sliceAt,io.Gz,hd,Instr.slice,hb]};{trivial}};{rename_i n e a hd;split;{rename_i j l h m hj hl hh hm;split;{trivial};{rename_i hno;refine Iw λ_ hc w=>?_;have hb:=Qd (P:=P) (isS:=false) hl hh hm (by rintro ⟨rfl,h2⟩;cases mx with|none=>exact h2 rfl|some v=>exact hno v rfl rfl) hc w;simp [Instr.sliceAt,io.Gz,hd,Instr.sureAddr,hb,(ok.get hj).Gv,Sl.cut,Ei];split<;>rfl}};{trivial}};{trivial}};{trivial}
theorem Cn9 (ok:T.Ok P) (t:TypeId) (cs:Array Value) (off:Nat):(Co0 T t cs.toList off).holds P (do pure (.value (←part t cs off))):=by
 unfold Co0;split
 ·rename_i i hi;have io:=ok.get hi;split
  ·rename_i ha;refine Gg λw=>?_;have e:cs.extract off (off+i.size)=((cs.toList.drop off).take i.size).toArray:=by
    apply dH
    simp [List.extract_eq_take_drop]
   simp [part,io.Zi,ha,io.Gv,e]
  {rename_i ha;split;{rename_i v hv;refine Gg λw=>?_;(have hv':cs[off]?=some v:=by rw [←hv];simp);simp [part,io.Zi,ha,hv']};{trivial}}
 {trivial}
theorem Cr5 {ev:Ev}{ρ:Operand->Value}(hE:∀x v,ev x=some v->ρ x=v):∀{l:List Operand}{vs:List Value},evs ev l=some vs->l.map ρ=vs
 |[],vs,h=>by cases h;rfl
 | x::r,vs,h=>by
  simp only [evs] at h
  split at h
  ·rename_i v l hv hl
   cases h
   simp [hE _ _ hv,Cr5 hE hl]
  ·cases h
theorem X5 {ev:Ev}{ρ:Operand->Value}(hE:∀x v,ev x=some v->ρ x=v){l:Array Operand}{vs:List Value}(h:evs ev l.toList=some vs):l.map ρ=vs.toArray:=by rw [←Cr5 hE h];apply dH;simp
theorem Bx8 {ev:Ev}{ρ:Operand->Value}(hE:∀x v,ev x=some v->ρ x=v):∀{l:List (Nat×Operand)}{vs:List (Nat×Value)},Br8 ev l=some vs->(l.map λ(i,x)=>(i,ρ x))=vs
 |[],vs,h=>by cases h;rfl
 | x::r,vs,h=>by
  simp only [Br8] at h
  split at h
  ·rename_i v l hv hl
   cases h
   simp [hE _ _ hv,Bx8 hE hl]
  ·cases h
theorem Bi6 {ev:Ev}{ρ:Operand->Value}(hE:∀x v,ev x=some v->ρ x=v){l:Array (Nat×Operand)}{vs:List (Nat×Value)}(h:Br8 ev l.toList=some vs):(l.map λ(i,x)=>(i,ρ x))=vs.toArray:=by rw [←Bx8 hE h];apply dH;simp
theorem An9:∀(vs:List Value) (cs:List Value) (off k:Nat),((vs.zipIdx k).foldl (λ(a:Array Value) (x:Value×Nat)=>a.setIfInBounds (off+x.2) x.1) cs.toArray)=(Al4 cs (off+k) vs).toArray
 |[],cs,off,k=>by simp [Al4]
 |v::r,cs,off,k=>by
  simp only [List.zipIdx_cons,dI,Al4]
  have:(cs.toArray).setIfInBounds (off+k) v=(cs.set (off+k) v).toArray:=by simp
  rw [this,An9 r _ off (k+1)]
  rw [Nat.add_assoc]
theorem X4 {place:Nat->Option (Nat×Nat)}:∀{ps:List (Nat×Value)}{cs out:List Value},G6 place cs ps=some out->Instr.fill place cs.toArray ps=some out.toArray
 |[],cs,out,h=>by cases h;rfl
 | p :: r,cs,out,h=>by
  simp only [G6] at h
  split at h
  ·cases h
  ·rename_i os hos
   split at h
   ·rename_i hc
    simp only [aV] at hc
    have h1:p.2.cells.size=os.2:=by have:=bP hc.1;simpa using this
    have h2:os.1+p.2.cells.size<=cs.length:=by have:=dJ hc.2;simpa using this
    obtain ⟨k,v⟩:=p
    simp only at h1 h2 hos h
    simp only [Instr.fill,hos]
    rw [aJ (by simp [h1];omega)]
    have e:(v.cells.zipIdx.foldl (λcs (c,j)=>cs.setIfInBounds (os.1+j) c) cs.toArray)=(Al4 cs os.1 v.cells.toList).toArray:=by
     have:=An9 v.cells.toList cs os.1 0
     rw [Nat.add_zero] at this
     rw [←this,←Array.foldl_toList]
     simp
    rw [e]
    exact X4 h
   ·cases h
theorem Al7 (ok:T.Ok P):∀{fs:List Field}{pl:List (Nat×Nat)},Ah4 T fs=some pl->∀w,(fs.mapM (λf=>Prod.mk f.offset <$> sizeOf f.type:Field->Sem (Nat×Nat))).run P w=.ok pl w
 |[],pl,h,w=>by cases h;rfl
 | f::r,pl,h,w=>by
  simp only [Ah4] at h
  split at h
  ·rename_i j l hj hl
   cases h
   simp [dK,(ok.get hj).Gv,Al7 ok hl w]
  ·cases h
theorem Cj0 (ok:T.Ok P) (t:TypeId) (ps:List (Nat×Value)):(Bt0 T t ps).holds P (do pure (.value (←Instr.build t ps.toArray))):=by
 unfold Bt0;split
 ·rename_i i hi;have io:=ok.get hi;split
  ·rename_i fs z hd hz;split
   ·rename_i pl hpl;split
    ·rename_i cs hcs;refine Gg λw=>?_;have hm:(fs.mapM (λf=>Prod.mk f.offset <$> sizeOf f.type:Field->Sem (Nat×Nat))).run P w=.ok pl.toArray w:=by
      have:=Al7 ok hpl w
      obtain ⟨fl⟩:=fs
      simp [List.mapM_toArray,this]
     have hf:=X4 hcs;simp only [dL] at hf;simp [Instr.build,io.Rh _ hz,io.Gz,hd,hm,hf]
    {trivial}
   {trivial}
  {rename_i n e z hd hz;split;{rename_i j hj;split;{rename_i cs hcs;refine Gg λw=>?_;have hf:=X4 hcs;simp only [dL] at hf;simp [Instr.build,io.Rh _ hz,io.Gz,hd,(ok.get hj).Gv,hf]};{trivial}};{trivial}};{trivial}
 {trivial}
theorem Bw7 (b:Bool) (l:List Value) (ts:Array TypeId) (t:TypeId):(Cy6 b l).holds P (do pure (.value (←(match b with|true=>Builtin.max_ ts t l.toArray|false=>Builtin.min_ ts t l.toArray)))):=by unfold Cy6;split;{rename_i k x k' y;refine Gg λw=>?_;cases b;{simp [Builtin.min_,Builtin.min2]};{simp [Builtin.max_,Builtin.max2]}};{trivial}
set_option maxHeartbeats 1000000 in
theorem Ad9 (ok:T.Ok P) (hE:∀x v,ev x=some v->ρ x=v) (o:Oper):(quiet T P ev o).holds P (execOp ρ o):=by
 obtain ⟨dst,op,type,pos,after,guard⟩:=o
 cases op<;>simp only [quiet,execOp]<;>try trivial
 case move x =>
  split
  ·rename_i v hv;rw [hE _ _ hv];intro w;rfl
  ·trivial
 case assign x =>
  split
  ·rename_i v hv;rw [hE _ _ hv];intro w;rfl
  ·trivial
 case pick c a b =>
  split
  ·rename_i hc
   split
   ·rename_i v hv;intro w;simp [hE _ _ hc,hE _ _ hv,asBool]
   ·trivial
  ·rename_i hc
   split
   ·rename_i v hv;intro w;simp [hE _ _ hc,hE _ _ hv,asBool]
   ·trivial
  ·trivial
 case nilCheck x =>
  split
  ·rename_i p hp
   intro a ha w
   subst ha
   simp [hE _ _ hp]
  ·rename_i f a b hp;intro w;simp [hE _ _ hp]
  ·rename_i t v hp;intro w;simp [hE _ _ hp]
  ·rename_i m a b hp
   split
   ·rename_i v r hl
    rintro _ ⟨t,u,rfl,hn⟩ w
    have h0:a[0]?=some (.iface t u):=by rw [←dM,hl];rfl
    simp [hE _ _ hp,h0,aA,program,Sem.run,Result.andThen,hn w]
   ·trivial
  ·trivial
 case fieldAddr s x f =>
  split
  ·rename_i a i hx hi
   have io:=ok.get hi
   split
   ·rename_i fs hd
    split
    ·rename_i fd hf
     split
     ·rename_i j hj
      split
      ·rename_i hz
       have hf':fs[f]?=some fd:=by rw [←hf];simp
       have hz':¬j.size=0:=λh=>by rw [h] at hz;exact absurd hz (by decide)
       refine Gg λw=>?_
       simp [Instr.fieldAt,io.Gz,hd,hf',hE _ _ hx,Instr.sureAddr,fieldPlace,(ok.get hj).Gv,hz']
      ·trivial
     ·trivial
    ·trivial
   ·trivial
  ·trivial
 case field s x f =>
  split
  ·rename_i cs i hx hi
   have io:=ok.get hi
   split
   ·rename_i fs hd
    split
    ·rename_i fd hf
     have hf':fs[f]?=some fd:=by rw [←hf];simp
     have hp:=Cn9 ok fd.type cs fd.offset
     have hr:∀w,(Instr.field s (ρ x) f).run P w=(part fd.type cs fd.offset).run P w:=by
      intro w
      simp [Instr.field,io.Gz,hd,hf',hE _ _ hx,asAgg]
     unfold QR.holds at hp ⊢
     split
     ·trivial
     ·intro w
      rename_i v heq
      rw [heq] at hp
      have:=hp w
      simp only [aA,hr] at this ⊢
      exact this
     ·rename_i c f heq
      rw [heq] at hp
      intro x hx w
      have:=hp x hx w
      simp only [aA,hr] at this ⊢
      exact this
     ·rename_i c f heq
      rw [heq] at hp
      intro x w hx
      have:=hp x w hx
      simp only [aA,hr] at this ⊢
      exact this
    ·trivial
   ·trivial
  ·trivial
 case indexAddr t x ix =>
  split
  ·rename_i a len cap k n i hx hn hi
   have io:=ok.get hi
   split
   ·rename_i e hd
    split
    ·rename_i j hj
     refine Iw λp hc w=>?_
     obtain ⟨rfl,h0,h1⟩:=hc
     simp [Instr.indexAt,hE _ _ hx,hE _ _ hn,asIntOf,io.Gz,hd,h0,h1,(ok.get hj).Gv,Ei]
    ·trivial
   ·trivial
  ·rename_i p k n i hx hn hi
   have io:=ok.get hi
   split
   ·rename_i len e hd
    split
    ·rename_i j hj
     refine Iw λ_ hc w=>?_
     obtain ⟨h0,h1⟩:=hc
     simp [Instr.indexAt,hE _ _ hx,hE _ _ hn,asIntOf,io.Gz,hd,Instr.sureAddr,h0,h1,(ok.get hj).Gv,Ei]
    ·trivial
   ·trivial
  ·trivial
 case index t x ix =>
  split
  ·rename_i s k n i hx hn hi
   have io:=ok.get hi
   split
   ·rename_i hd
    refine Iw λb hc w=>?_
    obtain ⟨h0,h1⟩:=hc
    simp [Instr.index,hE _ _ hx,hE _ _ hn,asIntOf,io.Gz,hd,h0,h1]
   ·trivial
  ·trivial
 case load t x =>
  split
  ·rename_i p hp;rw [hE _ _ hp];exact Bg9 ok t p
  ·trivial
 case binOp op t x y yt =>
  split
  ·rename_i a b ha hb;rw [hE _ _ ha,hE _ _ hb];exact Db5 ok op t x y a b
  ·trivial
 case unOp op t x =>
  split
  ·rename_i b hb;rw [hE _ _ hb];intro w;rfl
  ·rename_i k n hb;rw [hE _ _ hb];intro w;rfl
  ·trivial
 case convert src dst x =>
  split
  ·rename_i k n i j hx hi hj
   split
   ·rename_i k1 k2 h1 h2
    refine Gg λw=>?_
    simp [convert,(ok.get hi).Gz,(ok.get hj).Gz,h1,h2,hE _ _ hx,Conv.intToInt]
   ·trivial
  ·trivial
 case extract t ix =>
  split
  ·rename_i vs hv
   split
   ·rename_i v hx
    have hx':vs[ix]?=some v:=by rw [←hx];simp
    refine Gg λw=>?_
    simp [Instr.extract,hE _ _ hv,hx']
   ·trivial
  ·trivial
 case build t parts =>
  split
  ·rename_i ps hps
   have:=Cj0 ok t ps
   rw [←Bi6 hE hps] at this
   exact this
  ·trivial
 case slice t x lo hi mx =>
  split
  ·rename_i v l h m hx hl hh hm
   have e1:lo.map ρ=l:=by
    cases lo with
    |none=>simpa using hl
    |some y =>
     simp only at hl
     cases hy:ev y with
     |none=>rw [hy] at hl;cases hl
     |some u=>rw [hy] at hl;cases hl;simp [hE _ _ hy]
   have e2:hi.map ρ=h:=by
    cases hi with
    |none=>simpa using hh
    |some y =>
     simp only at hh
     cases hy:ev y with
     |none=>rw [hy] at hh;cases hh
     |some u=>rw [hy] at hh;cases hh;simp [hE _ _ hy]
   have e3:mx.map ρ=m:=by
    cases mx with
    |none=>simpa using hm
    |some y =>
     simp only at hm
     cases hy:ev y with
     |none=>rw [hy] at hm;cases hm
     |some u=>rw [hy] at hm;cases hm;simp [hE _ _ hy]
   rw [e1,e2,e3,hE _ _ hx]
   exact Cb1 ok t v l h m
  ·trivial
 case makeInterface t x =>
  split
  ·rename_i v i hx hi
   have io:=ok.get hi
   split
   ·trivial
   ·rename_i hne
    refine Gg λw=>?_
    simp only [Instr.makeInterface,aA,io.Gz,aB,hE _ _ hx]
    first|rfl|(split;(rename_i ms hd;exact absurd hd (hne ms));rfl)
  ·trivial
 case makeFunc fn first captured =>
  split
  ·rename_i a b ha hb
   refine Gg λw=>?_
   rw [X5 hE ha,X5 hE hb]
   rfl
  ·trivial
 case lookup t m k b =>
  split
  ·rename_i vm vk i hm hk hi
   rw [hE _ _ hm,hE _ _ hk]
   exact Pe λx w h=>h
  ·trivial
 case call c =>
  obtain ⟨callee,args,argTypes⟩:=c
  cases callee with
  |value f=>trivial
  |invoke r n=>trivial
  | builtin b =>
   simp only
   split
   ·rename_i x t hargs hts
    have ha:args.map ρ=#[x]:=X5 hE hargs
    have ht:argTypes[0]?=some t:=by
     have:argTypes=#[t]:=by
      apply dH
      simpa using hts
     rw [this];rfl
    split
    ·rename_i a n cp i hi
     split
     ·rename_i e hd
      refine λw=>?_
      simp [resolve,ha,invoke,builtin,Builtin.len_,ht,(ok.get hi).Gz,hd,goInt]
     ·trivial
    ·rename_i a cp n i hi
     split
     ·rename_i e hd
      refine λw=>?_
      simp [resolve,ha,invoke,builtin,Builtin.cap_,ht,(ok.get hi).Gz,hd,goInt]
     ·trivial
    ·rename_i s i hi
     split
     ·rename_i hd
      refine λw=>?_
      simp [resolve,ha,invoke,builtin,Builtin.len_,ht,(ok.get hi).Gz,hd,goInt]
     ·trivial
    ·rename_i m i hi
     split
     ·rename_i k e hd
      refine λn w h=>?_
      simp [resolve,ha,invoke,builtin,h]
     ·trivial
    ·trivial
   ·rename_i l hargs hno
    have ha:args.map ρ=l.toArray:=X5 hE hargs
    split
    ·have:=Bw7 (P:=P) true l argTypes type
     simp only at this
     simp only [resolve,ha,invoke,builtin,pure_bind]
     exact this
    ·have:=Bw7 (P:=P) false l argTypes type
     simp only at this
     simp only [resolve,ha,invoke,builtin,pure_bind]
     exact this
    ·trivial
   ·trivial
end
section
variable {T:Tab}{P:Program}{ev:Ev}{ρ:Operand->Value}
theorem Ul {v u:Value}{p:Addr}{w:World}(hv:Gn v=true) (hu:w.cell? p=some u) (hf:w.frozen? p=false):(store p v).run P w=.ok () (w.setCell p v):=by
 cases v with
 |agg c=>cases hv
 |tuple c=>cases hv
 |_=>simp [store,Sem.run,hu,hf]
theorem Xy:∀(vs:List Value) (p:Addr) (i:Nat) (K:World->Prop) (w:World),(∀v∈vs,Gn v=true)->Cl7 p i vs K w ->
  ∃w',(storeCells p vs i).run P w=.ok () w'/\K w'
 |[],p,i,K,w,_,h=>⟨w,rfl,h⟩
 |v::r,p,i,K,w,ho,h=>by
  obtain ⟨⟨⟨u,hu⟩,hf⟩,h⟩:=h
  obtain ⟨w',hr,hK⟩:=Xy r p (i+1) K _ (λx hx=>ho x (aI _ hx)) h
  refine ⟨w',?_,hK⟩
  simp only [storeCells,aA,Ul (ho v aH) hu hf,aB]
  exact hr
theorem Ir {f:FuncId}{args:Array Value}(h:((P.funcs[f]?).map λfn=>(fn.body.isNone,fn.name == "runtime.NumGoroutine"))=some (false,false)) (w:World):(callFunc f args).run P w=.ok (.enter f args) w:=by
 cases hf:P.funcs[f]? with
 |none=>rw [hf] at h;cases h
 |some fn=>rw [hf] at h;simp only [bI,dN,Prod.mk.injEq] at h;unfold callFunc;simp only [aA,program,Sem.run,aB,hf,h.1,h.2,dO,dP];rfl
def Aq8 (o:Oper) (a:Act) (K:Value->Wp) (a':Act) (w':World):Prop:=∃v,a'=a.put o.dst v/\K v w'
theorem Fb {o:Oper}{a:Act}{K:Value->Wp}{s:Sem Value}{w w':World}{v:Value}(h:s.run P w=.ok v w') (hK:K v w') :
  Gt P o a (Aq8 o a K) ((do pure (.value (←s)):Sem Next).run P w):=by simp only [aA,h,aB];exact ⟨v,rfl,hK⟩
theorem N9 {o:Oper}{a:Act}{K:Value->Wp}{s:Sem Unit}{w w':World}(h:s.run P w=.ok () w') (hK:K undef w') :
  Gt P o a (Aq8 o a K) ((do s;pure .skip:Sem Next).run P w):=by simp only [aA,h,aB];exact ⟨undef,rfl,hK⟩
theorem Ag5 {o:Oper}{a:Act}{K:Value->Wp}{w:World}{f:FuncId}{args:Array Value}{t:RTy}(h:Aa P f args t (λx=>K (t.val x)) w) :
  Gt P o a (Aq8 o a K) (.ok (.enter f args) w):=by simp only [Gt];refine Calls.mono h λe w' he=>?_;obtain ⟨x,rfl,hK⟩:=he;exact ⟨_,rfl,_,rfl,hK⟩
theorem Dd4 {o:Oper}{a:Act}{K:Value->Wp}{s:Sem Next}{w:World}{t:RTy}(h:Cj P s t (λx=>K (t.val x)) w) :
  Gt P o a (Aq8 o a K) (s.run P w):=by rcases h with ⟨g,gargs,hr,hc⟩|⟨x,w',hr,hK⟩|⟨l,f,tmps,assign,body,hr,hc⟩;{rw [hr];exact Ag5 hc};{rw [hr];exact ⟨_,rfl,hK⟩};{rw [hr];simp only [Gt];refine RoundIn.mono hc λe w' he=>?_;obtain ⟨x,rfl,hK⟩:=he;exact ⟨_,rfl,_,rfl,hK⟩}
theorem cells_one {v:Value}(h:Gn v=true):v.cells=#[v]:=by cases v<;>first|rfl|cases h
theorem Af5:∀{ps:List (Nat×Value)}{cs out:List Value},Yi (ps.map (·.2))=true->Bi5 cs ps=some out->G6 (λk=>some (k*1,1)) cs ps=some out
 |[],cs,out,_,h=>h
 | p::r,cs,out,h1,h=>by
  simp only [dQ,Yi,aV] at h1
  simp only [Bi5] at h
  split at h
  ·rename_i hlt
   have hlt:p.1<cs.length:=by simpa using hlt
   have e:p.2.cells.toList=[p.2]:=by rw [cells_one h1.1]
   have hb:(Nat.beq 1 1&&Nat.ble (p.1+1) cs.length)=true:=by simp;omega
   simp only [G6,e,dB,dR,dS,dU,hb,Al4]
   have:=Af5 h1.2 h
   simpa only [dS] using this
  ·cases h
set_option maxHeartbeats 1000000 in
theorem Ac3 (ok:T.Ok P) (hE:∀x v,ev x=some v->ρ x=v) (o:Oper) (rt:Option RTy) (K:Value->Wp) (a:Act) (ha:a.eval=ρ) (w:World) (h:eff T P ev o rt K w) :
  Gt P o a (Aq8 o a K) ((execOp a.eval o).run P w):=by
 subst ha
 obtain ⟨dst,op,type,pos,after,guard⟩:=o
 cases op<;>simp only [eff] at h<;>simp only [execOp]
 all_goals try exact h.elim
 case alloc t =>
  cases hi:T.get t with
  |none=>simp only [hi] at h
  | some i =>
   simp only [hi] at h
   cases hz:i.zero with
   |none=>simp only [hz] at h
   |some z =>
    simp only [hz] at h
    refine Fb (w':=w.alloc (.cells z.cells t)) (v:=.pointer (some ⟨w.heap.size,0,none⟩)) ?_ h
    simp [Instr.alloc,(ok.get hi).Rh _ hz,newVar,newRow,newObj,Sem.run,dV]
 case box t x =>
  cases hv:ev x with
  |none=>simp only [hv] at h
  | some v =>
   simp only [hv] at h
   rw [hE _ _ hv]
   have h':Af (.cells v.cells t) (λb=>K (.pointer (some ⟨b,0,none⟩))) w:=by
    cases hop:An5 T t with
    |true =>
     simp only [hop] at h
     obtain ⟨_,h1,h2⟩:=h
     simp only [Yi,dW] at h1
     rw [cells_one h1];exact h2
    |false=>simp only [hop] at h;exact h
   refine Fb (w':=w.alloc (.cells v.cells t)) (v:=.pointer (some ⟨w.heap.size,0,none⟩)) ?_ h'
   simp [Instr.box,newVar,newRow,newObj,Sem.run,dV]
 case buildSlice t len parts =>
  cases hps:Br8 ev parts.toList with
  |none=>simp only [hps] at h
  |some ps =>
  cases hi:T.get t with
  |none=>simp only [hps,hi] at h
  |some i =>
  simp only [hps,hi] at h
  cases hd:i.desc with
  | slice e =>
   simp only [hd] at h
   cases hj:T.get e with
   |none=>simp only [hj] at h
   |some j =>
   simp only [hj] at h
   cases hz:j.zero with
   |none=>simp only [hz] at h
   |some z =>
   cases hle:(Nat.ble (len*j.size) (2^24)&&!Nat.beq j.size 0) with
   |false=>simp only [hz,hle] at h
   |true =>
   simp only [hz,hle] at h
   simp only [aV,dX] at hle
   have hle1:¬(len*j.size>2^24):=by have:=dJ hle.1;omega
   have h':∃cs,G6 (λk=>some (k*j.size,j.size)) ((List.range (len*j.size)).map λk=>(z.cells.toList)[k%z.cells.toList.length]?.getD default) ps=some cs/\Af (.cells cs.toArray e) (λb=>K (.slice (some ⟨b,0,none⟩) len len)) w:=by
    cases hop:(An5 T e&&Nat.beq j.size 1) with
    | true =>
     simp only [hop] at h
     simp only [aV] at hop
     have h1:j.size=1:=bP hop.2
     obtain ⟨_,h2,h3⟩:=h
     cases hcs:Bi5 ((List.range (len*j.size)).map λk=>(z.cells.toList)[k%z.cells.toList.length]?.getD default) ps with
     |some cs =>
      simp only [hcs] at h3
      refine ⟨cs,?_,h3⟩
      rw [h1] at hcs ⊢
      exact Af5 h2 hcs
     |none=>simp only [hcs] at h3
    |false =>
     simp only [hop] at h
     cases hcs:G6 (λk=>some (k*j.size,j.size)) ((List.range (len*j.size)).map λk=>(z.cells.toList)[k%z.cells.toList.length]?.getD default) ps with
     |some cs=>simp only [hcs] at h;exact ⟨cs,rfl,h⟩
     |none=>simp only [hcs] at h
   obtain ⟨cs,hcs,h⟩:=h'
   refine Fb (w':=w.alloc (.cells cs.toArray e)) (v:=.slice (some ⟨w.heap.size,0,none⟩) len len) ?_ h
   have hf:=X4 hcs
   have he:((List.range (len*j.size)).map λk=>(z.cells.toList)[k%z.cells.toList.length]?.getD default).toArray=(Array.range (len*j.size)).map (λk=>z.cells[k%z.cells.size]!):=by
    apply dH
    simp [getElem!_def]
    intro k hk
    cases z.cells[k%z.cells.size]?<;>rfl
   rw [he] at hf
   have hf2:len*j.size=0->Instr.fill (λk=>some (k*j.size,j.size)) ((Array.range (len*j.size)).map (λk=>(#[]:Array Value)[k%(#[]:Array Value).size]!)) ps=some cs.toArray:=by
    intro h0
    have h1:Array.range 0=#[]:=rfl
    rw [←hf];simp only [h0,h1,Array.map_empty]
   simp only [Instr.buildSlice,aA,(ok.get hi).Gz,hd,aB,(ok.get hj).Gv,aJ hle1,aC,Bi6 hE hps]
   by_cases h0:len*j.size=0
   ·simp only [aF h0,aA,aC,aB,hf2 h0]
    simp [newRow,newObj,Sem.run,dV]
   ·simp only [aJ h0,aA,aC,aB,(ok.get hj).Rh _ hz,hf]
    simp [newRow,newObj,Sem.run,dV]
  |_=>simp only [hd] at h
 case store t p x =>
  cases hp:ev p with
  |none=>simp only [hp] at h
  |some vp =>
  cases hv:ev x with
  |none=>cases vp with
   |pointer q=>cases q<;>simp only [hp,hv] at h
   |_=>simp only [hp,hv] at h
  |some v =>
  cases hi:T.get t with
  |none=>cases vp with
   |pointer q=>cases q<;>simp only [hp,hv,hi] at h
   |_=>simp only [hp,hv,hi] at h
  |some i =>
  cases vp with
  | pointer q =>
   cases q with
   |none=>simp only [hp,hv,hi] at h
   |some p' =>
   simp only [hp,hv,hi] at h
   have io:=ok.get hi
   have hw:=io.wf
   unfold Inf.wf at hw
   simp only [hE _ _ hp,hE _ _ hv]
   cases hc:i.ty with
   | one c =>
    have core:Gn v=true->Nat.beq i.size 1=true->stC p' v (K undef) w ->
      Gt P ⟨dst,.store t p x,type,pos,after,guard⟩ a (Aq8 ⟨dst,.store t p x,type,pos,after,guard⟩ a K) ((do Instr.storeAt t (.pointer (some p')) v;pure .skip:Sem Next).run P w):=by
     intro hone hs1 h
     have hsz:i.size=1:=bP hs1
     obtain ⟨⟨⟨u,hu⟩,hfr⟩,h⟩:=h
     have hcell:v.cells=#[v]:=by
      cases v with
      |agg c=>cases hone
      |_=>rfl
     refine N9 (w':=w.setCell p' v) ?_ h
     simp only [Instr.storeAt,Instr.sureAddr,storeVar,aA,aC,aB,io.Gv,hcell]
     simp [hsz,storeCells,Ul hone hu hfr,Addr.add]
    by_cases hany:c=.any
    ·subst hany
     have h':(match Nat.beq i.size 1 with|true=>cdE (λ_:Unit=>Gn v=true) (λ_=>stC p' v (K undef))|false=>λ_=>False) w:=by
      simp only [hc] at h;exact h
     cases hs1:Nat.beq i.size 1 with
     |false=>rw [hs1] at h';exact h'.elim
     |true =>
      rw [hs1] at h'
      obtain ⟨_,ho,h'⟩:=h'
      exact core ho hs1 h'
    ·have h':Gn v=true/\(match Nat.beq i.size 1 with|true=>stC p' v (K undef)|false=>λ_=>False) w:=by
      cases hone:Gn v with
      |false=>cases c<;>simp only [hc,hone] at h<;>first|exact absurd rfl hany|exact h.elim
      |true=>cases c<;>simp only [hc,hone] at h<;>first|exact absurd rfl hany|exact ⟨rfl,h⟩
     cases hs1:Nat.beq i.size 1 with
     |false=>rw [hs1] at h';exact h'.2.elim
     |true =>
      rw [hs1] at h'
      exact core h'.1 hs1 h'.2
   | agg cs =>
    have h':Ad p' v i.size (K undef) w:=by
     cases Gn v<;>simpa only [hc] using h
    unfold Ad at h'
    cases hc2:(Nat.beq v.cells.toList.length i.size&&v.cells.toList.all Gn) with
    |false=>simp only [hc2] at h'
    |true =>
    simp only [hc2] at h'
    simp only [aV] at hc2
    have hsz:v.cells.size=i.size:=by have:=bP hc2.1;simpa using this
    obtain ⟨w',hr,hK⟩:=Xy (P:=P) v.cells.toList p' 0 (K undef) w (λx hx=>aS.1 hc2.2 x hx) h'
    refine N9 (w':=w') ?_ hK
    simp [Instr.storeAt,Instr.sureAddr,storeVar,io.Gv,hsz,hr]
  |_=>simp only [hp,hv,hi] at h
 case makeMap t r =>
  cases r with
  |some r=>exact h.elim
  |none =>
   refine Fb (w':=w.alloc (.map #[] 0)) (v:=.map (some w.heap.size)) ?_ h
   simp [Instr.makeMap,newObj,Sem.run,dV]
 case makeSlice t l c =>
  cases hl:ev l<;>cases hc:ev c<;>cases hi:rt<;>simp only [hl,hc,hi] at h
  obtain ⟨x,w',hr,hK⟩:=h
  simp only [hE _ _ hl,hE _ _ hc]
  exact Fb hr hK
 case convert s d x =>
  cases hv:ev x<;>cases hi:rt<;>simp only [hv,hi] at h
  obtain ⟨x,w',hr,hK⟩:=h
  simp only [hE _ _ hv]
  exact Fb hr hK
 case mapUpdate t m k x =>
  cases hm:ev m<;>cases hk:ev k<;>cases hx:ev x<;>simp only [hm,hk,hx] at h
  obtain ⟨w',hr,hK⟩:=h
  simp only [hE _ _ hm,hE _ _ hk,hE _ _ hx]
  exact N9 hr hK
 case insert t m k x =>
  cases hm:ev m<;>cases hk:ev k<;>cases hx:ev x<;>simp only [hm,hk,hx] at h
  obtain ⟨w',hr,hK⟩:=h
  simp only [hE _ _ hm,hE _ _ hk,hE _ _ hx]
  exact N9 hr hK
 case mapEntry t m k =>
  cases hm:ev m<;>cases hk:ev k<;>cases hi:rt<;>simp only [hm,hk,hi] at h
  obtain ⟨x,w',hr,hK⟩:=h
  simp only [hE _ _ hm,hE _ _ hk]
  exact Fb hr hK
 case entryStore t m s x =>
  cases hm:ev m<;>cases hk:ev s<;>cases hx:ev x<;>simp only [hm,hk,hx] at h
  obtain ⟨w',hr,hK⟩:=h
  simp only [hE _ _ hm,hE _ _ hk,hE _ _ hx]
  exact N9 hr hK
 case range t x =>
  cases hv:ev x<;>simp only [hv] at h
  obtain ⟨x,w',hr,hK⟩:=h
  simp only [hE _ _ hv]
  exact Fb hr hK
 case next it str =>
  cases hv:ev it with
  |none=>simp only [hv] at h
  | some v =>
   cases str with
   |false =>
    simp only [hv] at h
    obtain ⟨b,rest,w',hr,hK⟩:=h
    simp only [hE _ _ hv]
    exact Fb hr hK
   |true =>
    simp only [hv] at h
    simp only [hE _ _ hv]
    rcases h with ⟨p,c,w',hr,hK⟩|⟨w',hr,hK⟩
    ·exact Fb hr hK
    ·exact Fb hr hK
 case entry it =>
  cases hv:ev it<;>cases hi:rt<;>simp only [hv,hi] at h
  obtain ⟨x,w',hr,hK⟩:=h
  simp only [hE _ _ hv]
  exact Fb hr hK
 case typeAssert x xt as_ ok' =>
  cases hv:ev x<;>cases hi:rt<;>simp only [hv,hi] at h
  obtain ⟨x,w',hr,hK⟩:=h
  simp only [hE _ _ hv]
  exact Fb hr hK
 case waits g =>
  cases hi:rt<;>simp only [hi] at h
  obtain ⟨x,w',hr,hK⟩:=h
  exact Fb hr hK
 case call c =>
  obtain ⟨callee,args,argTypes⟩:=c
  cases has:evs ev args.toList with
  |none=>simp only [has] at h
  |some as_ =>
  cases hi:rt with
  |none=>simp only [has,hi] at h
  |some i =>
  simp only [has,hi] at h
  have ha:args.map a.eval=as_.toArray:=X5 hE has
  cases callee with
  | builtin b =>
   simp only at h
   cases b<;>simp only at h
   case append =>
    obtain ⟨x,w',hr,hK⟩:=h
    simp only [resolve,ha,pure_bind,invoke,builtin]
    exact Fb hr hK
   case copy =>
    obtain ⟨x,w',hr,hK⟩:=h
    simp only [resolve,ha,pure_bind,invoke,builtin]
    exact Fb hr hK
   case delete =>
    obtain ⟨x,w',hr,hK⟩:=h
    simp only [resolve,ha,pure_bind,invoke,builtin]
    exact Fb hr hK
   case clear =>
    obtain ⟨x,w',hr,hK⟩:=h
    simp only [resolve,ha,pure_bind,invoke,builtin]
    exact Fb hr hK
  | value f =>
   have dyn:∀vf,a.eval f=vf->Cj P (do let d ←Deferred.ofValue vf as_.toArray;invoke d.target d.args) i (λx=>K (i.val x)) w ->
     Gt P ⟨dst,.call ⟨.value f,args,argTypes⟩,type,pos,after,guard⟩ a (Aq8 ⟨dst,.call ⟨.value f,args,argTypes⟩,type,pos,after,guard⟩ a K) ((do let d ←resolve a.eval ⟨.value f,args,argTypes⟩ type;invoke d.target d.args:Sem Next).run P w):=by
    intro vf hf h
    simp only [resolve,ha,hf]
    exact Dd4 h
   cases f with
   | func g =>
    simp only at h
    cases hg:T.fns.elem g with
    |false =>
     simp only [hg] at h
     simp only [resolve,ha,Act.eval,Deferred.ofValue,pure_bind,invoke]
     have e:(#[]++as_.toArray++#[]:Array Value)=as_.toArray:=by simp
     rw [e]
     exact Dd4 h
    |true =>
    simp only [hg] at h
    have:=Ir (P:=P) (f:=g) (args:=as_.toArray) (Cr2 ok.fns hg) w
    simp only [resolve,ha,Act.eval,Deferred.ofValue,pure_bind,invoke]
    have e:(#[]++as_.toArray++#[]:Array Value)=as_.toArray:=by simp
    rw [e,this]
    exact Ag5 h
   |tmp t =>
    cases hvf:ev (.tmp t)<;>simp only [hvf] at h
    exact dyn _ (hE _ _ hvf) h
   |const v =>
    cases hvf:ev (.const v)<;>simp only [hvf] at h
    exact dyn _ (hE _ _ hvf) h
   |global g =>
    cases hvf:ev (.global g)<;>simp only [hvf] at h
    exact dyn _ (hE _ _ hvf) h
  |invoke r name =>
   cases hvr:ev r<;>simp only [hvr] at h
   simp only [resolve,ha,hE _ _ hvr,pure_bind]
   exact Dd4 h
end
def stepS (cls:Op->Cl) (P:Program) (ops:Array Oper) (un:Nat->Nat->Bool) (i:Nat) (N:Held->Act->Wp) (H:Held) (a:Act) (w:World):Prop :=
 match ops[i]? with
 |none=>False
 | some o =>
  if Region.wanted o (yielded ops a.tmps)=true then
   match cls o.op with
   |.free=>∃v,(∀w',(execOp a.eval o).run P w'=.ok (.value v) w')/\N H (a.put o.dst v) w
   |.read=>∃v,(execOp a.eval o).run P w=.ok (.value v) w/\N ((i,execOp a.eval o,v)::H) (a.put o.dst v) w
   |.eff=>Gt P o a (λa' w'=>Us P un i H w'/\N H a' w') ((execOp a.eval o).run P w)
  else N H (a.put o.dst undef) w
section
variable {cls:Op->Cl}{P:Program}{ops:Array Oper}{un:Nat->Nat->Bool}{Q:Act->Wp}
theorem Ck4 {i:Nat}{r:List Nat}{H:Held}{a:Act}{w:World}:wpS cls P ops un Q (i::r) H a w=stepS cls P ops un i (wpS cls P ops un Q r) H a w:=by rw [wpS];rfl
theorem Zf {i:Nat}{N N':Held->Act->Wp}(h:∀H a w,N H a w->N' H a w){H:Held}{a:Act}{w:World}(hh:stepS cls P ops un i N H a w):stepS cls P ops un i N' H a w:=by unfold stepS at hh ⊢;split at hh;{exact hh};{split at hh;{rename_i hw;rw [aF hw];split at hh;{obtain ⟨v,h1,h2⟩:=hh;exact ⟨v,h1,h _ _ _ h2⟩};{obtain ⟨v,h1,h2⟩:=hh;exact ⟨v,h1,h _ _ _ h2⟩};{exact Io (λa w ⟨h1,h2⟩=>⟨h1,h _ _ _ h2⟩) hh}};{rename_i hw;rw [aJ hw];exact h _ _ _ hh}}
theorem H7 {i:Nat}{N:Held->Act->Wp}(hN:∀H H' a w,(∀y∈H',y∈H)->N H a w->N H' a w){H H':Held}{a:Act}{w:World}(hs:∀y∈H',y∈H) (h:stepS cls P ops un i N H a w):stepS cls P ops un i N H' a w:=by unfold stepS at h ⊢;split at h;{exact h};{split at h;{rename_i hw;rw [aF hw];split at h;{obtain ⟨v,h1,h2⟩:=h;exact ⟨v,h1,hN _ _ _ _ hs h2⟩};{obtain ⟨v,h1,h2⟩:=h;refine ⟨v,h1,hN _ _ _ _ (λx hx=>?_) h2⟩;rcases aG.1 hx with rfl|hx;{exact aH};{exact aI _ (hs x hx)}};{exact Io (λa w ⟨h1,h2⟩=>⟨Uc hs h1,hN _ _ _ _ hs h2⟩) h}};{rename_i hw;rw [aJ hw];exact hN _ _ _ _ hs h}}
theorem Aj3 {N:Held->Act->Wp}(hN:∀H H' a w,(∀y∈H',y∈H)->N H a w->N H' a w){x i:Nat}{ox oi:Oper}(hx:ops[x]?=some ox) (hi:ops[i]?=some oi) (hq:cls ox.op≠.eff) (hap:ox.apart ops oi=true) (hun:un x i=true)
  (hsx:∀cs b,ox.op≠.select cs b) (hsi:∀cs b,oi.op≠.select cs b) (H:Held) (a:Act) (w:World)
  (h:stepS cls P ops un x (stepS cls P ops un i N) H a w):stepS cls P ops un i (stepS cls P ops un x N) H a w:=by
 obtain ⟨h1,h2,h3⟩:=Oper.apart_spec hap
 have ei:∀(a:Act) v,execOp (a.put ox.dst v).eval oi=execOp a.eval oi:=λa v=>aK oi hsi a ox.dst v h1
 have wi:∀(a:Act) v,Region.wanted oi (yielded ops (a.put ox.dst v).tmps)=Region.wanted oi (yielded ops a.tmps):=λa v=>aN oi a ox.dst v h1
 have ex:∀(a:Act) v,execOp (a.put oi.dst v).eval ox=execOp a.eval ox:=λa v=>aK ox hsx a oi.dst v h3
 have wx:∀(a:Act) v,Region.wanted ox (yielded ops (a.put oi.dst v).tmps)=Region.wanted ox (yielded ops a.tmps):=λa v=>aN ox a oi.dst v h3
 have pc:∀(a:Act) v u,(a.put ox.dst v).put oi.dst u=(a.put oi.dst u).put ox.dst v:=λa v u=>(Act.put_comm a v u h2)
 rw [stepS,hx] at h
 rw [stepS,hi]
 simp only at h ⊢
 by_cases hwi:Region.wanted oi (yielded ops a.tmps)=true
 ·rw [aF hwi]
  by_cases hwx:Region.wanted ox (yielded ops a.tmps)=true
  ·rw [aF hwx] at h
   cases c0:cls ox.op with
   |eff=>exact absurd c0 hq
   | free =>
    simp only [c0] at h
    obtain ⟨v,hv,h⟩:=h
    rw [stepS,hi] at h
    simp only [wi,hwi,aP,ei] at h
    have back:∀(a':Act) (w':World) (H':Held),(execOp a'.eval ox=execOp a.eval ox)->(Region.wanted ox (yielded ops a'.tmps)=Region.wanted ox (yielded ops a.tmps)) ->
      N H' (a'.put ox.dst v) w'->stepS cls P ops un x N H' a' w':=by
     intro a' w' H' he hw' hh
     rw [stepS,hx]
     simp only [hw',hwx,aP,c0,he]
     exact ⟨v,hv,hh⟩
    split at h
    ·obtain ⟨u,hu,h⟩:=h
     exact ⟨u,hu,back _ _ _ (ex a u) (wx a u) (by rw [←pc];exact h)⟩
    ·obtain ⟨u,hu,h⟩:=h
     exact ⟨u,hu,back _ _ _ (ex a u) (wx a u) (by rw [←pc];exact h)⟩
    ·generalize (execOp a.eval oi).run P w=res at h ⊢
     cases res with
     |ok n w' =>
      cases n<;>simp only [Gt] at h ⊢
      case value u=>exact ⟨h.1,back _ _ _ (ex a u) (wx a u) (by rw [←pc];exact h.2)⟩
      case skip=>exact ⟨h.1,back _ _ _ (ex a _) (wx a _) (by rw [←pc];exact h.2)⟩
      case enter f args=>exact Calls.mono h λe w'' ⟨u,e1,he⟩=>⟨u,e1,he.1,back _ _ _ (ex a u) (wx a u) (by rw [←pc];exact he.2)⟩
      case round l f tmps assign body=>exact RoundIn.mono h λe w'' ⟨u,e1,he⟩=>⟨u,e1,he.1,back _ _ _ (ex a u) (wx a u) (by rw [←pc];exact he.2)⟩
      case row row args=>exact Rows.mono h λu w'' he=>⟨he.1,back _ _ _ (ex a u) (wx a u) (by rw [←pc];exact he.2)⟩
     |halt y w'=>simp only [Gt] at h
   | read =>
    have c1:=c0
    simp only [c1] at h
    obtain ⟨v,hv,h⟩:=h
    rw [stepS,hi] at h
    simp only [wi,hwi,aP,ei] at h
    have back:∀(a':Act) (w':World) (H':Held),(execOp a'.eval ox=execOp a.eval ox)->(Region.wanted ox (yielded ops a'.tmps)=Region.wanted ox (yielded ops a.tmps)) ->
      (execOp a.eval ox).run P w'=.ok (.value v) w' ->
      N ((x,execOp a.eval ox,v)::H') (a'.put ox.dst v) w'->stepS cls P ops un x N H' a' w':=by
     intro a' w' H' he hw' hr hh
     rw [stepS,hx]
     simp only [hw',hwx,aP,c1,he]
     exact ⟨v,hr,hh⟩
    have own:∀w',Us P un i ((x,execOp a.eval ox,v)::H) w'->(execOp a.eval ox).run P w'=.ok (.value v) w':=λw' hk=>hk _ aH hun
    have rest:∀w',Us P un i ((x,execOp a.eval ox,v)::H) w'->Us P un i H w':=λw' hk=>Uc (λy hy=>aI _ hy) hk
    split at h
    ·obtain ⟨u,hu,h⟩:=h
     exact ⟨u,hu,back _ _ _ (ex a u) (wx a u) hv (by rw [←pc];exact h)⟩
    ·obtain ⟨u,hu,h⟩:=h
     refine ⟨u,hu,back _ _ _ (ex a u) (wx a u) hv ?_⟩
     rw [←pc]
     exact hN _ _ _ _ (λy hy=>by
      rcases aG.1 hy with rfl|hy
      ·exact aI _ aH
      ·rcases aG.1 hy with rfl|hy
       ·exact aH
       ·exact aI _ (aI _ hy)) h
    ·generalize (execOp a.eval oi).run P w=res at h ⊢
     cases res with
     |ok n w' =>
      cases n<;>simp only [Gt] at h ⊢
      case value u=>exact ⟨rest _ h.1,back _ _ _ (ex a u) (wx a u) (own _ h.1) (by rw [←pc];exact h.2)⟩
      case skip=>exact ⟨rest _ h.1,back _ _ _ (ex a _) (wx a _) (own _ h.1) (by rw [←pc];exact h.2)⟩
      case enter f args=>exact Calls.mono h λe w'' ⟨u,e1,he⟩=>⟨u,e1,rest _ he.1,back _ _ _ (ex a u) (wx a u) (own _ he.1) (by rw [←pc];exact he.2)⟩
      case round l f tmps assign body=>exact RoundIn.mono h λe w'' ⟨u,e1,he⟩=>⟨u,e1,rest _ he.1,back _ _ _ (ex a u) (wx a u) (own _ he.1) (by rw [←pc];exact he.2)⟩
      case row row args=>exact Rows.mono h λu w'' he=>⟨rest _ he.1,back _ _ _ (ex a u) (wx a u) (own _ he.1) (by rw [←pc];exact he.2)⟩
     |halt y w'=>simp only [Gt] at h
  ·
   rw [aJ hwx] at h
   rw [stepS,hi] at h
   simp only [wi,hwi,aP,ei] at h
   have back:∀(a':Act) (w':World) (H':Held),(Region.wanted ox (yielded ops a'.tmps)=Region.wanted ox (yielded ops a.tmps)) ->
     N H' (a'.put ox.dst undef) w'->stepS cls P ops un x N H' a' w':=by
    intro a' w' H' hw' hh
    rw [stepS,hx]
    simp only [hw',aJ hwx]
    exact hh
   split at h
   ·obtain ⟨u,hu,h⟩:=h
    exact ⟨u,hu,back _ _ _ (wx a u) (by rw [←pc];exact h)⟩
   ·obtain ⟨u,hu,h⟩:=h
    exact ⟨u,hu,back _ _ _ (wx a u) (by rw [←pc];exact h)⟩
   ·generalize (execOp a.eval oi).run P w=res at h ⊢
    cases res with
    |ok n w' =>
     cases n<;>simp only [Gt] at h ⊢
     case value u=>exact ⟨h.1,back _ _ _ (wx a u) (by rw [←pc];exact h.2)⟩
     case skip=>exact ⟨h.1,back _ _ _ (wx a _) (by rw [←pc];exact h.2)⟩
     case enter f args=>exact Calls.mono h λe w'' ⟨u,e1,he⟩=>⟨u,e1,he.1,back _ _ _ (wx a u) (by rw [←pc];exact he.2)⟩
     case round l f tmps assign body=>exact RoundIn.mono h λe w'' ⟨u,e1,he⟩=>⟨u,e1,he.1,back _ _ _ (wx a u) (by rw [←pc];exact he.2)⟩
     case row row args=>exact Rows.mono h λu w'' he=>⟨he.1,back _ _ _ (wx a u) (by rw [←pc];exact he.2)⟩
    |halt y w'=>simp only [Gt] at h
 ·
  rw [aJ hwi]
  by_cases hwx:Region.wanted ox (yielded ops a.tmps)=true
  ·rw [aF hwx] at h
   have hx':∀u,Region.wanted ox (yielded ops (a.put oi.dst u).tmps)=true:=λu=>by rw [wx];exact hwx
   rw [stepS,hx]
   simp only [hx',aP,ex]
   cases c0:cls ox.op with
   |eff=>exact absurd c0 hq
   |free =>
    simp only [c0] at h ⊢
    obtain ⟨v,hv,h⟩:=h
    rw [stepS,hi] at h
    simp only [wi,aJ hwi] at h
    exact ⟨v,hv,by rw [←pc];exact h⟩
   |read =>
    simp only [c0] at h ⊢
    obtain ⟨v,hv,h⟩:=h
    rw [stepS,hi] at h
    simp only [wi,aJ hwi] at h
    exact ⟨v,hv,by rw [←pc];exact h⟩
  ·rw [aJ hwx] at h
   rw [stepS,hi] at h
   simp only [wi,aJ hwi] at h
   rw [stepS,hx]
   simp only [wx,aJ hwx]
   rw [←pc]
   exact h
theorem D7 {rd:Option Nat}{Q':Exit->Act->Wp}{N:Held->Act->Wp}{i:Nat}{H:Held}{a:Act}{w:World}(h:stepS cls P ops un i N H a w) :
  wpOpIn (FW rd) 0 P ops Q' i (λa' w'=>∃H',N H' a' w') a w:=by unfold stepS at h;unfold wpOpIn;split at h;{exact h.elim};{rename_i o ho;simp only [ho];split at h;{rename_i hw;rw [aF hw];refine Be0 ?_;split at h;{obtain ⟨v,h1,h2⟩:=h;rw [h1];exact ⟨_,h2⟩};{obtain ⟨v,h1,h2⟩:=h;rw [h1];exact ⟨_,h2⟩};{exact Io (λa w ⟨_,h2⟩=>⟨_,h2⟩) h}};{rename_i hw;rw [aJ hw];exact ⟨λ_ _=>trivial,_,h⟩}}
def Ol (cls:Op->Cl) (ops:Array Oper) (i:Nat):Bool :=
 match ops[i]? with
 |some o=>match cls o.op with | .eff=>true|_=>false
 |none=>true
theorem Cq7 {x:Nat}{ox:Oper}(hx:ops[x]?=some ox) (hq:cls ox.op≠.eff):Ol cls ops x=false:=by
 unfold Ol;cases hc:cls ox.op with
 |eff=>exact absurd hc hq
 |free=>simp only [hx,hc]
 |read=>simp only [hx,hc]
def held (bf:Nat->Nat->Bool) (fs:List Nat) (x:Nat):Bool:=fs.any λf=>bf f x
def due (cls:Op->Cl) (ops:Array Oper) (bf:Nat->Nat->Bool) (fs:List Nat):List Nat->Bool
 |[]=>true
 |i::_=>held bf fs i||Ol cls ops i
def wpI (cls:Op->Cl) (P:Program) (ops:Array Oper) (un:Nat->Nat->Bool) (bf:Nat->Nat->Bool) (nx:List Nat->List Nat->Held->Act->Wp) (fs:List Nat):List Nat->Held->Act->World->Prop
 |[],H,a,w=>∀f∈fs,stepS cls P ops un f (nx (fs.erase f) []) H a w
 |i::r,H,a,w=>(due cls ops bf fs (i::r)=true->∀f∈fs,stepS cls P ops un f (nx (fs.erase f) (i::r)) H a w)/\(held bf fs i=false->stepS cls P ops un i (wpI cls P ops un bf nx fs r) H a w)
def wpT (cls:Op->Cl) (P:Program) (ops:Array Oper) (un:Nat->Nat->Bool) (Q:Act->Wp) (bf:Nat->Nat->Bool):Nat->List Nat->List Nat->Held->Act->World->Prop
 |0,_,ρ=>wpS cls P ops un Q ρ
 |m+1,fs,ρ=>wpI cls P ops un bf (wpT cls P ops un Q bf m) fs ρ
variable {bf:Nat->Nat->Bool}
theorem Bd6 {nx:List Nat->List Nat->Held->Act->Wp}(hnx:∀fs ρ H H' a w,(∀x∈H',x∈H)->nx fs ρ H a w->nx fs ρ H' a w) (fs:List Nat):∀(l:List Nat) (H H':Held) (a:Act) (w:World),(∀x∈H',x∈H)->wpI cls P ops un bf nx fs l H a w->wpI cls P ops un bf nx fs l H' a w:=by
 intro l;induction l with
 |nil=>intro H H' a w hs h f hf;exact H7 (λH H' a w=>hnx _ _ H H' a w) hs (h f hf)
 |cons i r ih=>intro H H' a w hs h;exact ⟨λhd f hf=>H7 (λH H' a w=>hnx _ _ H H' a w) hs (h.1 hd f hf),λhb=>H7 ih hs (h.2 hb)⟩
theorem Ai5:∀(m:Nat) (fs ρ:List Nat) (H H':Held) (a:Act) (w:World),(∀x∈H',x∈H)->wpT cls P ops un Q bf m fs ρ H a w->wpT cls P ops un Q bf m fs ρ H' a w
 |0,_,ρ,H,H',a,w,hs,h=>Bd5 ρ H H' a w hs h
 |m+1,fs,ρ,H,H',a,w,hs,h=>Bd6 (Ai5 m) fs ρ H H' a w hs h
theorem Qv {fs:List Nat}{x:Nat}{r:List Nat}(hb:held bf fs x=false) (he:Ol cls ops x=false):¬due cls ops bf fs (x::r)=true:=by simp [due,hb,he]
theorem Ck2 {fs r:List Nat}{x:Nat}(hb:held bf fs x=false) (he:Ol cls ops x=false):∀{m:Nat}{H:Held}{a:Act}{w:World},stepS cls P ops un x (wpT cls P ops un Q bf m fs r) H a w->wpT cls P ops un Q bf m fs (x::r) H a w
 |0,H,a,w,h=>by show wpS cls P ops un Q (x::r) H a w;rw [Ck4];exact h
 |m+1,H,a,w,h=>⟨λhd=>absurd hd (Qv hb he),λ_=>h⟩
structure Floats (cls:Op->Cl) (ops:Array Oper) (un:Nat->Nat->Bool) (f x:Nat):Prop where
 un:un x f=true
 ap:∃ox of,ops[x]?=some ox/\ops[f]?=some of/\cls ox.op≠.eff/\ox.apart ops of=true/\(∀cs b,ox.op≠.select cs b)/\∀cs b,of.op≠.select cs b
theorem Bq7 {fs:List Nat}{f x:Nat}(h:held bf fs x=false):held bf (fs.erase f) x=false:=by unfold held at h ⊢;rw [dY] at h ⊢;exact λy hy=>h y (dZ hy)
theorem Cw5 {fs:List Nat}{f m:Nat}(hf:f∈fs):∀(l:List Nat),(∀x∈l,held bf fs x=false->Ol cls ops x=false->Floats cls ops un f x)->∀(H:Held) (a:Act) (w:World),
  wpI cls P ops un bf (wpT cls P ops un Q bf m) fs l H a w->stepS cls P ops un f (wpT cls P ops un Q bf m (fs.erase f) l) H a w:=by
 intro l;induction l with
 |nil=>intro _ H a w h;exact h f hf
 |cons x r ih =>
  intro hl H a w h;cases hd:due cls ops bf fs (x::r) with
  |true=>exact h.1 hd f hf
  |false=>simp only [due,eF] at hd;obtain ⟨hb,he⟩:=hd;obtain ⟨hun,ox,of,hox,hof,hq,hap,h1,h2⟩:=hl x aH hb he;have h3:=Zf (λH a w=>ih (λy hy=>hl y (aI _ hy)) H a w) (h.2 hb);have h4:=Aj3 (Ai5 m (fs.erase f) r) hox hof hq hap hun h1 h2 _ _ _ h3;exact Zf (λH a w h=>Ck2 (Bq7 hb) he h) h4
theorem Ca3 {nx:List Nat->List Nat->Held->Act->Wp}(hnx:∀fs ρ H H' a w,(∀x∈H',x∈H)->nx fs ρ H a w->nx fs ρ H' a w){fs:List Nat}{i:Nat}{oi:Oper}(hi:ops[i]?=some oi) (hsi:∀cs b,oi.op≠.select cs b) (hbi:held bf fs i=false) (r:List Nat):∀(l:List Nat),
  (∀x∈l,un x i=true/\held bf fs x=false/\∃ox,ops[x]?=some ox/\cls ox.op≠.eff/\ox.apart ops oi=true/\∀cs b,ox.op≠.select cs b) ->
  ∀(H:Held) (a:Act) (w:World),wpI cls P ops un bf nx fs (l++i::r) H a w->stepS cls P ops un i (wpI cls P ops un bf nx fs (l++r)) H a w:=by
 intro l;induction l with
 |nil=>intro _ H a w h;exact h.2 hbi
 |cons x l ih=>intro hl H a w h;obtain ⟨hun,hbx,ox,hx,hq,hap,hsx⟩:=hl x aH;have hex:Ol cls ops x=false:=Cq7 hx hq;have h1:=Zf (λH a w=>ih (λy hy=>hl y (aI _ hy)) H a w) (h.2 hbx);have h2:=Aj3 (Bd6 hnx fs (l++r)) hx hi hq hap hun hsx hsi _ _ _ h1;exact Zf (λH a w h=>⟨λhd=>absurd hd (Qv hbx hex),λ_=>h⟩) h2
end
def Po (cls:Op->Cl) (ops:Array Oper) (B:Nat->Nat) (f:Nat):List Nat->Bool
 |[]=>true
 | x::r=>(match (B x).testBit f with
   |true=>r.all λy=>(B y).testBit f
   |false=>(B f).testBit x||match Ol cls ops x with
    |true=>true
    |false=>match ops[x]?,ops[f]? with|some ox,some of=>ox.apart ops of|_,_=>false)&&Po cls ops B f r
section
variable {cls:Op->Cl}{P:Program}{ops:Array Oper}{B:Nat->Nat}{Q:Act->Wp}{f:Nat}
theorem Af4 (hN:Au8 ops=true){of:Oper}(hof:ops[f]?=some of):∀{l:List Nat},Po cls ops B f l=true->∀x∈l,(B f).testBit x=false->(B x).testBit f=false->Ol cls ops x=false->Floats cls ops (λx i=>!(B i).testBit x) f x
 | y::r,h,x,hx,hfx,hb,he=>by
  simp only [Po,aV] at h;rcases aG.1 hx with rfl|hx
  ·obtain ⟨h2,_⟩:=h;simp only [hb,he,hfx,bD] at h2;(have h1:(!(B f).testBit x)=true:=by rw [hfx];rfl);cases hox:ops[x]? with
   |none=>simp only [hox] at h2;exact absurd h2 (by simp)
   |some ox=>simp only [hox,hof] at h2;refine ⟨h1,ox,of,hox,hof,λhc=>?_,h2,Ot hN hox,Ot hN hof⟩;unfold Ol at he;simp only [hox,hc] at he;exact absurd he (by simp)
  {exact Af4 hN hof h.2 x hx hfx hb he}
theorem G5 {l:List Nat}{i:Nat}{r:List Nat}(h:Po cls ops B f (l++i::r)=true):((B i).testBit f=false->∀x∈l,(B x).testBit f=false)/\Po cls ops B f (l++r)=true:=by
 induction l with
 |nil=>simp only [aU,Po,aV] at h;exact ⟨(λ_ _ h=>by cases h),h.2⟩
 | cons y l ih =>
  simp only [aW,Po,aV] at h;obtain ⟨h2,h3⟩:=h;obtain ⟨g1,g2⟩:=ih h3;refine ⟨λhi x hx=>?_,?_⟩
  ·have hy:(B y).testBit f=false:=by
    cases hy:(B y).testBit f with
    |false=>rfl
    |true=>simp only [hy] at h2;have:=aS.1 h2 i (bY _ aH);rw [hi] at this;exact absurd this (by simp)
   rcases aG.1 hx with rfl|hx;{exact hy};{exact g1 hi x hx}
  ·simp only [aW,Po,aV];refine ⟨?_,g2⟩;cases hy:(B y).testBit f with
   |false=>simp only [hy] at h2 ⊢;exact h2
   |true=>simp only [hy] at h2 ⊢;rw [aS] at h2 ⊢;intro x hx;rcases bV.1 hx with hx|hx;{exact h2 x (bQ _ hx)};{exact h2 x (bY _ (aI _ hx))}
structure As3 (ops:Array Oper) (B:Nat->Nat) (listed:Array Bool) (ρ:List Nat):Prop where
 here:∀i,i<ops.size->(listed.getD i false=true\/i∈ρ)
 not:∀i,i∈ρ->listed.getD i false=false/\i<ops.size
 nodup:ρ.Nodup
 size:listed.size=ops.size
 down:∀i x,listed.getD i false=true->(B i).testBit x=true->x<ops.size->listed.getD x false=true
theorem Cm7 {listed:Array Bool}{ρ:List Nat}{i:Nat}(inv:As3 ops B listed ρ) (h:i∈Region.ready .any ops listed):i∈ρ/\∃o,ops[i]?=some o/\∀e∈o.after,Region.binds .any e=true->listed.getD e.on false=true:=by obtain ⟨h1,o,ho,h2⟩:=aZ.1 h;have hi:i<ops.size:=(aT.1 ho).1;refine ⟨(inv.here i hi).resolve_left λhh=>?_,o,ho,h2⟩;(have:i<listed.size:=by rw [inv.size];exact hi);simp [Array.getD,this] at hh h1;rw [hh] at h1;exact absurd h1 (by simp)
theorem Y5 (hB:Vz ops B=true){listed:Array Bool}{ρ:List Nat}(inv:As3 ops B listed ρ){i:Nat}{o:Oper}(ho:ops[i]?=some o) (hpre:∀e∈o.after,Region.binds .any e=true->listed.getD e.on false=true) :
  ∀x,(B i).testBit x=true->x<ops.size->listed.getD x false=true:=by intro x hx hxs;have hi':i<ops.size:=(aT.1 ho).1;have:=aS.1 (aS.1 hB i (bH.2 hi')) x (bH.2 hxs);simp only [hx,bC,bD,ho,bI,bJ,bK,aV,bM] at this;obtain ⟨e,he,hb,hc⟩:=this;have hle:=hpre e (by simpa using he) hb;rcases hc with hc|hc;{have:e.on=x:=bP hc;rw [←this];exact hle};{exact inv.down e.on x hle hc hxs}
theorem As3.put (hB:Vz ops B=true){listed:Array Bool}{l r:List Nat}{i:Nat}{o:Oper}(inv:As3 ops B listed (l++i::r)) (ho:ops[i]?=some o) (hpre:∀e∈o.after,Region.binds .any e=true->listed.getD e.on false=true) :
  As3 ops B (listed.setIfInBounds i true) (l++r):=by
 have hbound:=Y5 hB inv ho hpre;have hi':i<ops.size:=(aT.1 ho).1;(have hil:i<listed.size:=by rw [inv.size];exact hi');have hset:∀j,(listed.setIfInBounds i true).getD j false=true↔(j=i\/listed.getD j false=true):=by
  intro j
  by_cases hj:i=j
  ·subst hj;simp [Array.getD,hil]
  ·rw [getD_set_ne false hj];simp [Ne.symm hj]
 have hnd:i∉l++r:=by
  have:=inv.nodup
  rw [bT] at this
  obtain ⟨h1,h2,h3⟩:=this
  rw [bU] at h2
  intro hm
  rcases bV.1 hm with hm|hm
  ·exact h3 i hm i aH rfl
  ·exact h2.1 hm
 refine ⟨?_,?_,?_,by simp [inv.size],?_⟩;{intro j hj;rcases inv.here j hj with h|h;{exact .inl ((hset j).2 (.inr h))};{by_cases hji:j=i;{exact .inl ((hset j).2 (.inl hji))};{refine .inr ?_;rcases bV.1 h with h|h;{exact bQ _ h};{exact bY _ ((aG.1 h).resolve_left hji)}}}}
 ·intro j hj;have hji:j≠i:=λe=>hnd (e▸hj);have hjm:j∈l++i::r:=by
   rcases bV.1 hj with h|h
   ·exact bQ _ h
   ·exact bY _ (aI _ h)
  obtain ⟨h1,h2⟩:=inv.not j hjm;refine ⟨?_,h2⟩;cases hc:(listed.setIfInBounds i true).getD j false with
  |false=>rfl
  |true=>rcases (hset j).1 hc with h|h;{exact absurd h hji};{rw [h1] at h;exact absurd h (by simp)}
 {have:=inv.nodup;rw [bT] at this ⊢;obtain ⟨h1,h2,h3⟩:=this;rw [bU] at h2;exact ⟨h1,h2.2,λx hx y hy=>h3 x hx y (aI _ hy)⟩};{intro j x hj hx hxs;rcases (hset j).1 hj with h|h;{subst h;exact (hset x).2 (.inr (hbound x hx hxs))};{exact (hset x).2 (.inr (inv.down j x h hx hxs))}}
def Cu8 (ops:Array Oper) (f:Nat):Bool:=match ops[f]? with|some o=>o.after.toList.all (λe=>!Region.binds .any e)|none=>false
def Bt4 (ops:Array Oper) (f:Nat):Bool:=match ops[f]? with|some o=>o.after.toList.all (λe=>!Region.binds .any e||Cu8 ops e.on)|none=>false
theorem Bk9 {ops:Array Oper}{listed:Array Bool}{x:Nat}(hx:Cu8 ops x=true) (hl:listed.getD x false=false) (hs:listed.size=ops.size):x∈Region.ready .any ops listed:=by
 unfold Cu8 at hx;cases ho:ops[x]? with
 |none=>rw [ho] at hx;exact absurd hx (by simp)
 | some o =>
  rw [ho] at hx;(have hxs:x<listed.size:=by rw [hs];exact (aT.1 ho).1);exact aZ.2 ⟨by simpa [Array.getD,hxs] using hl,o,ho,λe he hb=>by
   have:=aS.1 hx e (by simpa using he)
   rw [hb] at this;exact absurd this (by simp)⟩
theorem Ax5 (hB:Vz ops B=true) (hE:Ah8 ops=true) (hN:Au8 ops=true){rd:Option Nat}{Q':Exit->Act->Wp}(hQ:∀a w,Q a w->Q' .normal a w) :
  ∀(fuel m:Nat) (fs:List Nat) (listed:Array Bool) (ρ:List Nat) (H:Held) (a:Act) (w:World),fs.length=m->fs.length+ρ.length=fuel->As3 ops B listed (fs++ρ)->Jz cls ops B ρ=true->(∀f∈fs,Po cls ops B f ρ=true/\Bt4 ops f=true) ->
   wpT cls P ops (λx i=>!(B i).testBit x) Q (λf i=>(B i).testBit f) m fs ρ H a w->wpAnyIn (FW rd) 0 P .any ops Q' fuel listed a w:=by
 intro fuel;induction fuel with
 |zero=>intro m fs listed ρ H a w hm hl inv hpairs hfl h;obtain rfl:fs=[]:=bF.1 (by omega);obtain rfl:m=0:=hm.symm;exact Wh hB hE hN hQ 0 listed ρ H a w (by simpa using hl) ⟨hpairs,inv.here,inv.not,inv.nodup,inv.size,inv.down⟩ h
 | succ fuel ih =>
  intro m fs listed ρ H a w hm hl inv hpairs hfl h;cases m with
  |zero=>obtain rfl:fs=[]:=bF.1 hm;exact Wh hB hE hN hQ (fuel+1) listed ρ H a w (by simpa using hl) ⟨hpairs,inv.here,inv.not,inv.nodup,inv.size,inv.down⟩ h
  |succ m =>
  refine ⟨λhr=>?_,λi hi=>?_⟩
  ·obtain ⟨f,hf⟩:∃f,f∈fs:=List.exists_mem_of_length_pos (by omega);obtain ⟨_,hbare⟩:=hfl f hf;have hfs:=inv.not f (bQ _ hf);(have hfl':f<listed.size:=by rw [inv.size];exact hfs.2);have hof:ops[f]?=some ops[f]:=(by simp [hfs.2]);unfold Bt4 at hbare;rw [hof] at hbare;by_cases hp:∃e∈ops[f].after,Region.binds .any e=true/\listed.getD e.on false=false;{obtain ⟨e,he,hb,hl'⟩:=hp;have h1:=aS.1 hbare e (by simpa using he);rw [hb] at h1;have:=Bk9 (by simpa using h1) hl' inv.size;rw [hr] at this;exact absurd this (by simp)}
   ·have:f∈Region.ready .any ops listed:=aZ.2 ⟨by simpa [Array.getD,hfl'] using hfs.1,ops[f],hof,λe he hb=>by
     cases hc:listed.getD e.on false with
     |true=>rfl
     |false=>exact absurd ⟨e,he,hb,hc⟩ hp⟩
    rw [hr] at this;exact absurd this (by simp)
  obtain ⟨him,o,ho,hpre⟩:=Cm7 inv hi;by_cases hif:i∈fs
  ·have hbx:=Y5 hB inv ho hpre;have now:=Cw5 hif ρ (λx hx hb he=>Af4 hN ho (hfl i hif).1 x hx (by
    have hxs:=inv.not x (bY _ hx)
    cases hc:(B i).testBit x with
    |false=>rfl
    |true=>rw [hbx x hc hxs.2] at hxs;exact absurd hxs.1 (by simp)) (by
    unfold held at hb
    rw [dY] at hb
    simpa using hb i hif) he) H a w h
   obtain ⟨l1,l2,hl12⟩:=bG hif;have hnd:i∉l1:=by
    have:=inv.nodup
    rw [hl12,eG,bT] at this
    intro hc
    exact this.2.2 i hc i (by simp) rfl
   have he:fs.erase i=l1++l2:=by
    rw [hl12,List.erase_append_right _ hnd,List.erase_cons_head]
   have inv':As3 ops B (listed.setIfInBounds i true) (l1++(l2++ρ)):=As3.put (l:=l1) (r:=l2++ρ) hB (by rw [hl12] at inv;simpa using inv) ho hpre;refine aQ (λa' w' ⟨H',hh⟩=>?_) (D7 now);(have hlen:(fs.erase i).length=m:=by rw [eH hif];omega);exact ih m (fs.erase i) _ ρ H' a' w' hlen (by omega) (by rw [he,eG];exact inv') hpairs (λf hf=>hfl f (dZ hf)) hh
  have him:i∈ρ:=(bV.1 him).resolve_left hif;obtain ⟨l,r,rfl⟩:=bG him;have hnot:∀f∈fs,(B i).testBit f=false:=λf hf=>by
   have hfs:=inv.not f (bQ _ hf)
   cases hb:(B i).testBit f with
   |false=>rfl
   |true=>rw [Y5 hB inv ho hpre f hb hfs.2] at hfs;exact absurd hfs.1 (by simp)
  have hbi:held (λf i=>(B i).testBit f) fs i=false:=by
   unfold held
   rw [dY]
   intro f hf
   simpa using hnot f hf
  (have inv':As3 ops B listed ((fs++l)++i::r):=by rw [eG];exact inv);obtain ⟨hpi,hpr,_⟩:=E5 hpairs;have hbound:=Y5 hB inv ho hpre;have hall:∀x∈l,(λx i=>!(B i).testBit x) x i=true/\held (λf i=>(B i).testBit f) fs x=false/\∃ox,ops[x]?=some ox/\cls ox.op≠.eff/\ox.apart ops o=true/\∀cs b,ox.op≠.select cs b:=λx hx=>by
   have hxm:=inv'.not x (bQ _ (bY _ hx))
   have hp:=hpi x hx
   have hxo:ops[x]?=some ops[x]:=by simp [hxm.2]
   simp only [Aa7,hxo,ho,aV,bM] at hp
   have hnb:(B i).testBit x=false:=by
    cases hb:(B i).testBit x with
    |false=>rfl
    |true=>rw [hbound x hb hxm.2] at hxm;exact absurd hxm.1 (by simp)
   refine ⟨by simp [hnb],?_,ops[x],hxo,?_,?_,Ot hN hxo⟩
   ·unfold held
    rw [dY]
    intro f hf
    have:=(G5 (hfl f hf).1).1 (hnot f hf) x hx
    simpa using this
   ·rcases hp.2 with h|h
    ·rw [hnb] at h;exact absurd h (by simp)
    ·intro hc;rw [hc] at h;simp at h
   ·rcases hp.2 with h|h
    ·rw [hnb] at h;exact absurd h (by simp)
    ·exact h.2
  have hstep:=Ca3 (P:=P) (Ai5 m) ho (Ot hN ho) hbi r l hall H a w h;refine aQ (λa' w' ⟨H',hh⟩=>?_) (D7 hstep);exact ih (m+1) fs _ (l++r) H' a' w' hm (by simp at hl ⊢;omega) (by rw [←eG];exact As3.put (l:=fs++l) hB inv' ho hpre) hpr (λf hf=>⟨(G5 (hfl f hf).1).2,(hfl f hf).2⟩) hh
def distinct:List Nat->Bool
 |[]=>true
 |x::r=>!r.contains x&&distinct r
theorem Yr:∀{l:List Nat},distinct l=true->l.Nodup
 |[],_=>bZ
 |x::r,h=>by
  simp only [distinct,aV,dX] at h
  refine bU.2 ⟨λhc=>?_,Yr h.2⟩
  rw [List.contains_iff_mem.2 hc] at h
  exact absurd h.1 (by simp)
def Ba3 (cls:Op->Cl) (ops:Array Oper) (B:Nat->Nat) (fs ρ:List Nat):Bool :=
 Vz ops B&&Ah8 ops&&Au8 ops&&Ba4 ops.size (fs++ρ)&&Jz cls ops B ρ&&(fs.all λf=>Po cls ops B f ρ&&Bt4 ops f)&&distinct (fs++ρ)
theorem Xo {id:Nat}{a:Act}{w:World}{fs ρ:List Nat}(hm:P.follows .mixedOrders=true) (hok:Ba3 cls ops B fs ρ=true){rd:Option Nat}{Q':Exit->Act->Wp}
  (hQ:∀a w,Q a w->Q' .normal a w) (h:wpT cls P ops (λx i=>!(B i).testBit x) Q (λf i=>(B i).testBit f) fs.length fs ρ [] a { w with drawn:=w.drawn+1 }):(Code.region id ops true).wpIn (FW rd) 0 P Q' a w:=by
 simp only [Ba3,aV] at hok;obtain ⟨⟨⟨⟨⟨⟨hB,hE⟩,hN⟩,hO⟩,hP⟩,hfl⟩,hnd⟩:=hok;simp only [Ba4,aV] at hO;have hlen:(fs++ρ).length=ops.size:=bP hO.1.1;have hmem:∀i,i<ops.size->i∈fs++ρ:=λi hi=>(by simpa using aS.1 hO.2 i (bH.2 hi));have hlt:∀i∈fs++ρ,i<ops.size:=λi hi=>(by simpa using aS.1 hO.1.2 i hi);refine wpIn_region_any hm (Ax5 hB hE hN hQ ops.size _ fs _ ρ [] a _ rfl (by simpa using hlen) ⟨λi hi=>.inr (hmem i hi),λi hi=>⟨?_,hlt i hi⟩,Yr hnd,by simp,?_⟩ hP (λf hf=>by
  have:=aS.1 hfl f hf
  simpa using this) h)
 {simp [Array.getD]};{intro i x hi;simp [Array.getD] at hi}
end
#print axioms Xo
structure Fr where
 tm:Nat->Option Value
 ds:List Nat
instance:CoeFun Fr λ_=>Nat->Option Value:=⟨Fr.tm⟩
def Fr.set (φ:Fr) (d:Nat) (v:Value):Fr:=⟨λi=>match Nat.beq i d with|true=>some v|false=>φ i,φ.ds⟩
def Fr.mark (φ:Fr) (D:Nat):Fr:=⟨φ.tm,D::φ.ds⟩
def Fr.bare (φ:Fr):Fr:=⟨φ.tm,[]⟩
def marks (ds:List Nat):List Deferred:=ds.map λD=>{ target:=.collected D,args:=#[] }
def Fr.put (φ:Fr) (dst:Option Nat) (v:Value):Fr:=match dst with|some d=>φ.set d v|none=>φ
def Fr.ev (φ:Fr):Ev
 |.tmp t=>φ t
 |.const v=>some v
 |.global g=>some (.pointer (some ⟨g,0,none⟩))
 |.func f=>some (.func (.func f) #[] #[])
structure Fits (n:Nat) (φ:Fr) (a:Act):Prop where
 size:a.tmps.size=n
 defers:a.defers=marks φ.ds
 at_:∀i v,φ i=some v->a.tmps[i]?=some v
inductive RS where
 |done
 |op (rt:Option RTy) (r:RS)
 |skip (r:RS)
 |split (d:Nat) (t e:RS)
 |float (fs:List Nat) (r:RS)
 |plain (r:RS)
 |alt (rt:Option RTy) (a r:RS)
 |stop
abbrev HV:=List (Nat×(World->Prop))
def pend (un:Nat->Nat->Bool) (i:Nat):HV->(World->Prop)->World->Prop
 |[],K=>K
 |x::r,K=>match un x.1 i with|true=>keep x.2 (pend un i r K)|false=>pend un i r K
def gIs (ops:List Oper) (φ:Fr) (o:Oper):Option Bool :=
 match o.guard with
 |none=>some true
 | some g=>match ops[g.1]? with
  |none=>none
  | some og=>match og.dst with
   |none=>none
   | some d=>match φ d with
    |some (.bool b)=>match b,g.2 with
     |true,true=>some true
     |false,false=>some true
     |_,_=>some false
    |some (.tuple _)=>some false
    |_=>none
def dOk (n:Nat) (o:Oper):Bool:=match o.dst with|some d=>Nat.blt d n|none=>true
def Cb6 (T:Tab) (o:Oper):Option RTy->Option RTy
 |some t=>some t
 |none=>match T.get o.type with|some i=>some i.rty|none=>none
def Xt (T:Tab) (P:Program) (n:Nat) (ops:List Oper) (un:Nat->Nat->Bool):RS->List Nat->Fr->HV->(Fr->Wp)->World->Prop
 |.done,σ,φ,_,K=>match σ with|[]=>K φ|_::_=>λ_=>False
 | .op rt r,σ,φ,H,K=>match σ with
  |[]=>λ_=>False
  | i :: σ=>match ops[i]? with
   |none=>λ_=>False
   | some o=>match gIs ops φ o,dOk n o with
    | some true,true=>match T.cls o.op with
     |.free=>match quiet T P φ.ev o with
      |.val v=>Xt T P n ops un r σ (φ.put o.dst v) H K
      |.cond c f=>cdE c λx=>Xt T P n ops un r σ (φ.put o.dst (f x)) H K
      |_=>λ_=>False
     |.read=>match quiet T P φ.ev o with
      |.val v=>Xt T P n ops un r σ (φ.put o.dst v) H K
      |.cond c f=>cdE c λx=>Xt T P n ops un r σ (φ.put o.dst (f x)) H K
      |.read rd f=>rdE rd λx=>Xt T P n ops un r σ (φ.put o.dst (f x)) ((i,rd x)::H) K
      |.no=>λ_=>False
     |.eff=>eff T P φ.ev o (Cb6 T o rt) λv=>pend un i H (Xt T P n ops un r σ (φ.put o.dst v) H K)
    |_,_=>λ_=>False
 | .skip r,σ,φ,H,K=>match σ with
  |[]=>λ_=>False
  | i::σ=>match ops[i]? with
   |none=>λ_=>False
   |some o=>match gIs ops φ o,dOk n o with
    |some false,true=>Xt T P n ops un r σ (φ.put o.dst undef) H K
    |_,_=>λ_=>False
 |.split d t e,σ,φ,H,K=>match φ d with
  |some (.bool b)=>sif b (Xt T P n ops un t σ (φ.set d (.bool true)) H K) (Xt T P n ops un e σ (φ.set d (.bool false)) H K)
  |_=>λ_=>False
 |.float _ _,_,_,_,_=>λ_=>False
 |.plain _,_,_,_,_=>λ_=>False
 |.alt _ _ _,_,_,_,_=>λ_=>False
 |.stop,_,_,_,_=>λ_=>False
def both (A B:World->Prop):World->Prop:=λw=>A w/\B w
def nothing:World->Prop:=λ_=>True
def Nj (T:Tab) (P:Program) (n:Nat) (ops:List Oper) (un:Nat->Nat->Bool) (bf:Nat->Nat->Bool):RS->List Nat->List Nat->List Nat->Fr->HV->(Fr->Wp)->World->Prop
 |.plain r,fs,_,σ,φ,H,K=>match fs with
  |[]=>Xt T P n ops un r σ φ H K
  |_::_=>λ_=>False
 | .alt rt a r,fs,alts,σ,φ,H,K=>match alts with
  |[]=>λ_=>False
  | f::alts=>match ops[f]? with
   |none=>λ_=>False
   |some o=>match gIs ops φ o,dOk n o,T.cls o.op with
    |some true,true,.eff=>both (eff T P φ.ev o (Cb6 T o rt) λv=>pend un f H (Nj T P n ops un bf a (fs.erase f) (fs.erase f) σ (φ.put o.dst v) H K)) (Nj T P n ops un bf r fs alts σ φ H K)
    |_,_,_=>λ_=>False
 | .stop,fs,alts,σ,_,_,_=>match fs,alts with
  | _::_,[]=>(match σ with
   |[]=>nothing
   |i::_=>match held bf fs i with
    |true=>nothing
    |false=>λ_=>False)
  |_,_=>λ_=>False
 | .op rt r,fs,alts,σ,φ,H,K=>match fs,σ with
  | _ :: _,i::σ=>match ops[i]? with
   |none=>λ_=>False
   | some o=>match held bf fs i,gIs ops φ o,dOk n o with
    | false,some true,true=>match T.cls o.op with
     |.free=>match quiet T P φ.ev o with
      |.val v=>Nj T P n ops un bf r fs fs σ (φ.put o.dst v) H K
      |.cond c g=>cdE c λx=>Nj T P n ops un bf r fs fs σ (φ.put o.dst (g x)) H K
      |_=>λ_=>False
     |.read=>match quiet T P φ.ev o with
      |.val v=>Nj T P n ops un bf r fs fs σ (φ.put o.dst v) H K
      |.cond c g=>cdE c λx=>Nj T P n ops un bf r fs fs σ (φ.put o.dst (g x)) H K
      |.read rd g=>rdE rd λx=>Nj T P n ops un bf r fs fs σ (φ.put o.dst (g x)) ((i,rd x)::H) K
      |.no=>λ_=>False
     |.eff=>match alts with
      |[]=>eff T P φ.ev o (Cb6 T o rt) λv=>pend un i H (Nj T P n ops un bf r fs fs σ (φ.put o.dst v) H K)
      |_::_=>λ_=>False
    |_,_,_=>λ_=>False
  |_,_=>λ_=>False
 | .skip r,fs,alts,σ,φ,H,K=>match fs,σ with
  | _::_,i::σ=>match ops[i]? with
   |none=>λ_=>False
   | some o=>match held bf fs i,gIs ops φ o,dOk n o with
    |false,some false,true=>match T.cls o.op,alts with
     |.eff,_::_=>λ_=>False
     |_,_=>Nj T P n ops un bf r fs fs σ (φ.put o.dst undef) H K
    |_,_,_=>λ_=>False
  |_,_=>λ_=>False
 |.split d t e,fs,alts,σ,φ,H,K=>match φ d with
  |some (.bool b)=>sif b (Nj T P n ops un bf t fs alts σ (φ.set d (.bool true)) H K) (Nj T P n ops un bf e fs alts σ (φ.set d (.bool false)) H K)
  |_=>λ_=>False
 |.done,_,_,_,_,_,_=>λ_=>False
 |.float _ _,_,_,_,_,_,_=>λ_=>False
structure Agree (m:Nat) (s:Bool) (a a':Act):Prop where
 at_:∀i,m.testBit i=false->a'.tmps[i]?=a.tmps[i]?
 defers:s=true->a'.defers=a.defers
theorem Agree.refl (m:Nat) (s:Bool) (a:Act):Agree m s a a:=⟨λ_ _=>rfl,λ_=>rfl⟩
theorem Agree.trans {m:Nat}{s:Bool}{a b c:Act}(h:Agree m s a b) (h':Agree m s b c):Agree m s a c:=⟨λi hi=>(h'.at_ i hi).trans (h.at_ i hi),λe=>(h'.defers e).trans (h.defers e)⟩
theorem Agree.mono {m m':Nat}{s s':Bool}{a b:Act}(h:Agree m s a b) (hs:∀i,m.testBit i=true->m'.testBit i=true) (hd:s'=true->s=true):Agree m' s' a b:=⟨λi hi=>h.at_ i (by
 cases hm:m.testBit i with
 |false=>rfl
 |true=>rw [hs i hm] at hi;cases hi),λe=>h.defers (hd e)⟩
theorem Fits.ev {n:Nat}{φ:Fr}{a:Act}(h:Fits n φ a):∀x v,φ.ev x=some v->a.eval x=v:=by
 intro x v hx;cases x with
 |tmp t=>simp only [Fr.ev] at hx;have:=h.at_ t v hx;simp [Act.eval,Array.getD_eq_getD_getElem?,this]
 |const u=>cases hx;rfl
 |global g=>cases hx;rfl
 |func f=>cases hx;rfl
theorem Fits.put {n:Nat}{φ:Fr}{a:Act}(h:Fits n φ a){o:Oper}(hd:dOk n o=true) (v:Value):Fits n (φ.put o.dst v) (a.put o.dst v):=by
 unfold dOk at hd;cases ho:o.dst with
 |none=>exact h
 |some d=>rw [ho] at hd;have hd:d<n:=(by simpa using hd);refine ⟨by simp [Act.put,h.size],h.defers,λi u hi=>?_⟩;simp only [Fr.put,Fr.set] at hi;split at hi;{rename_i e;obtain rfl:=bP e;cases hi;simp [Act.put,h.size,hd]};{rename_i e;(have hne:d≠i:=λhh=>by rw [hh,eP] at e;cases e);simp only [Act.put];rw [eX hne];exact h.at_ i u hi}
theorem Fits.set {n:Nat}{φ:Fr}{a:Act}(h:Fits n φ a){d:Nat}{v:Value}(hv:a.tmps[d]?=some v):Fits n (φ.set d v) a:=by refine ⟨h.size,h.defers,λi u hi=>?_⟩;simp only [Fr.set] at hi;split at hi;{rename_i e;obtain rfl:=bP e;cases hi;exact hv};{exact h.at_ i u hi}
theorem Agree.put {m:Nat}{a:Act}{o:Oper}(hm:∀d,o.dst=some d->m.testBit d=true) (v:Value):Agree m true a (a.put o.dst v):=by
 refine ⟨λi hi=>?_,λ_=>by cases o.dst<;>rfl⟩;cases ho:o.dst with
 |none=>rfl
 |some d=>(have hne:d≠i:=λhh=>by have:=hm d ho;rw [hh,hi] at this;cases this);simp only [Act.put];rw [eX hne]
theorem Nc {n:Nat}{ops:Array Oper}{φ:Fr}{a:Act}(h:Fits n φ a){o:Oper}{r:Bool}(hg:gIs ops.toList φ o=some r):Region.wanted o (yielded ops a.tmps)=r:=by
 unfold gIs at hg;unfold Region.wanted;split at hg;{rename_i e;cases hg;rw [e]}
 ·rename_i g e;rw [e];obtain ⟨j,want⟩:=g;simp only at hg ⊢;split at hg;{cases hg}
  ·rename_i og hog;(have hog':ops[j]?=some og:=by rw [←hog];simp);split at hg;{cases hg}
   ·rename_i d hd;split at hg
    ·rename_i b hb;have ht:=h.at_ d _ hb;have hy:yielded ops a.tmps j=some b:=by
      unfold yielded
      simp [hog',hd,ht]
     rw [hy];cases b<;>cases want<;>simp only at hg<;>cases hg<;>rfl
    ·rename_i vs hb;have ht:=h.at_ d _ hb;have hy:yielded ops a.tmps j=none:=by
      unfold yielded
      simp [hog',hd,ht]
     rw [hy];cases hg;rfl
    {cases hg}
theorem Ye {un:Nat->Nat->Bool}{i:Nat}{K:World->Prop}:∀{H:HV}{w:World},pend un i H K w->(∀x∈H,un x.1 i=true->x.2 w)/\K w
 |[],w,h=>⟨λ_ hx=>(by cases hx),h⟩
 | x::r,w,h=>by
  simp only [pend] at h
  cases hu:un x.1 i with
  |true =>
   simp only [hu] at h
   obtain ⟨h1,h2⟩:=h
   obtain ⟨h3,h4⟩:=Ye h2
   refine ⟨λy hy hyu=>?_,h4⟩
   rcases aG.1 hy with rfl|hy
   ·exact h1
   ·exact h3 y hy hyu
  |false =>
   simp only [hu] at h
   obtain ⟨h3,h4⟩:=Ye h
   refine ⟨λy hy hyu=>?_,h4⟩
   rcases aG.1 hy with rfl|hy
   ·rw [hu] at hyu;cases hyu
   ·exact h3 y hy hyu
def Dc0 (P:Program) (Hs:Held) (H:HV):Prop :=
 ∀x∈Hs,(∀w',x.2.1.run P w'=.ok (.value x.2.2) w')\/∃p,(x.1,p)∈H/\∀w',p w'->x.2.1.run P w'=.ok (.value x.2.2) w'
theorem G9 {T:Tab}{P:Program}(ok:T.Ok P){n:Nat}{ops:Array Oper}{un:Nat->Nat->Bool}{m:Nat}(hm:∀o∈ops.toList,∀d,o.dst=some d->m.testBit d=true){K:Fr->Wp}{a0:Act} :
  ∀(rs:RS) (σ:List Nat) (φ:Fr) (H:HV) (Hs:Held) (a:Act) (w:World),Fits n φ a->Dc0 P Hs H->Agree m true a0 a->Xt T P n ops.toList un rs σ φ H K w ->
   wpS T.cls P ops un (λa' w'=>∃φ',Fits n φ' a'/\Agree m true a0 a'/\K φ' w') σ Hs a w:=by
 intro rs;induction rs with
 |done =>
  intro σ φ H Hs a w hF hH hA h;cases σ with
  |nil=>exact ⟨φ,hF,hA,h⟩
  |cons i σ=>exact h.elim
 | op rt r ih =>
  intro σ φ H Hs a w hF hH hA h;cases σ with
  |nil=>exact h.elim
  | cons i σ =>
   simp only [Xt] at h;cases ho:ops.toList[i]? with
   |none=>simp only [ho] at h
   | some o =>
    simp only [ho] at h;(have ho':ops[i]?=some o:=by rw [←ho];simp);have hmo:=hm o (eY ho);cases hg:gIs ops.toList φ o with
    |none=>simp only [hg] at h
    |some b =>
    cases b with
    |false=>simp only [hg] at h
    |true =>
    cases hd:dOk n o with
    |false=>simp only [hg,hd] at h
    |true =>
    simp only [hg,hd] at h;rw [wpS];simp only [ho',Nc hF hg,aP];have hq:=Ad9 ok hF.ev o;have step:∀v H' Hs' w',Dc0 P Hs' H'->Xt T P n ops.toList un r σ (φ.put o.dst v) H' K w' ->
      wpS T.cls P ops un (λa' w'=>∃φ',Fits n φ' a'/\Agree m true a0 a'/\K φ' w') σ Hs' (a.put o.dst v) w' :=
     λv H' Hs' w' hr hh=>ih σ _ H' Hs' _ w' (hF.put hd v) hr (hA.trans (Agree.put hmo v)) hh
    cases hc:T.cls o.op with
    |free =>
     simp only [hc] at h ⊢;cases hqq:quiet T P φ.ev o with
     |no=>simp only [hqq] at h
     |val v=>simp only [hqq] at h hq;exact ⟨v,hq,step v H Hs w hH h⟩
     |cond c f=>simp only [hqq] at h hq;obtain ⟨x,hx,h⟩:=h;exact ⟨f x,hq x hx,step _ H Hs w hH h⟩
     |read rd f=>simp only [hqq] at h
    |read =>
     simp only [hc] at h ⊢;cases hqq:quiet T P φ.ev o with
     |no=>simp only [hqq] at h
     |val v=>simp only [hqq] at h hq;refine ⟨v,hq w,step v H _ w (λx hx=>?_) h⟩;rcases aG.1 hx with rfl|hx;{exact .inl hq};{exact hH x hx}
     |cond c f=>simp only [hqq] at h hq;obtain ⟨x,hx,h⟩:=h;refine ⟨f x,hq x hx w,step _ H _ w (λy hy=>?_) h⟩;rcases aG.1 hy with rfl|hy;{exact .inl (hq x hx)};{exact hH y hy}
     |read rd f=>simp only [hqq] at h hq;obtain ⟨x,hx,h⟩:=h;refine ⟨f x,hq x w hx,step _ _ _ w (λy hy=>?_) h⟩;rcases aG.1 hy with rfl|hy;{exact .inr ⟨rd x,aH,λw' hw'=>hq x w' hw'⟩};{rcases hH y hy with h|⟨p,hp,hpw⟩;{exact .inl h};{exact .inr ⟨p,aI _ hp,hpw⟩}}
    |eff=>simp only [hc] at h ⊢;have he:=Ac3 ok hF.ev o (Cb6 T o rt) _ a rfl w h;refine Io (λa' w' hl=>?_) he;obtain ⟨v,rfl,hp⟩:=hl;obtain ⟨h1,h2⟩:=Ye hp;refine ⟨λx hx hu=>?_,step v H Hs w' hH h2⟩;rcases hH x hx with h|⟨p,hp,hpw⟩;{exact h w'};{exact hpw w' (h1 _ hp hu)}
 | skip r ih =>
  intro σ φ H Hs a w hF hH hA h;cases σ with
  |nil=>exact h.elim
  | cons i σ =>
   simp only [Xt] at h;cases ho:ops.toList[i]? with
   |none=>simp only [ho] at h
   |some o =>
    simp only [ho] at h;(have ho':ops[i]?=some o:=by rw [←ho];simp);have hmo:=hm o (eY ho);cases hg:gIs ops.toList φ o with
    |none=>simp only [hg] at h
    |some b =>
    cases b with
    |true=>simp only [hg] at h
    |false =>
    cases hd:dOk n o with
    |false=>simp only [hg,hd] at h
    |true =>
    simp only [hg,hd] at h;rw [wpS];simp only [ho',Nc hF hg,dO,dP];exact ih σ _ H Hs _ w (hF.put hd undef) hH (hA.trans (Agree.put hmo undef)) h
 | split d t e iht ihe =>
  intro σ φ H Hs a w hF hH hA h;simp only [Xt] at h;cases hd:φ d with
  |none=>simp only [hd] at h
  | some v =>
   cases v with
   |bool b =>
    simp only [hd] at h;have hv:=hF.at_ d _ hd;cases b with
    |true=>exact iht σ _ H Hs a w (hF.set hv) hH hA (h.1 rfl)
    |false=>exact ihe σ _ H Hs a w (hF.set hv) hH hA (h.2 rfl)
   |_=>simp only [hd] at h
 |float f r _=>intro σ φ H Hs a w hF hH hA h;exact h.elim
 |plain r _=>intro σ φ H Hs a w hF hH hA h;exact h.elim
 |alt rt a r _ _=>intro σ φ H Hs a w hF hH hA h;exact h.elim
 |stop=>intro σ φ H Hs a w hF hH hA h;exact h.elim
def Rst (cls:Op->Cl) (P:Program) (ops:Array Oper) (un:Nat->Nat->Bool) (Q:Act->Wp) (bf:Nat->Nat->Bool) (m:Nat) (fs alts σ:List Nat) (H:Held) (a:Act) (w:World):Prop :=
  match m with
  |0=>wpS cls P ops un Q σ H a w
  | m + 1=>(due cls ops bf fs σ=true->∀f∈alts,stepS cls P ops un f (wpT cls P ops un Q bf m (fs.erase f) σ) H a w) /\
      (match σ with
       |[]=>True
       |i::r=>held bf fs i=false->stepS cls P ops un i (wpI cls P ops un bf (wpT cls P ops un Q bf m) fs r) H a w)
theorem Rst.full {cls:Op->Cl}{P:Program}{ops:Array Oper}{un:Nat->Nat->Bool}{Q:Act->Wp}{bf:Nat->Nat->Bool}{m:Nat}{fs σ:List Nat}{H:Held}{a:Act}{w:World}(h:Rst cls P ops un Q bf m fs fs σ H a w):wpT cls P ops un Q bf m fs σ H a w:=by
 cases m with
 |zero=>exact h
 |succ m =>
  cases σ with
  |nil=>exact h.1 rfl
  |cons i r=>exact h
theorem Bd9 {T:Tab}{P:Program}(ok:T.Ok P){n:Nat}{ops:Array Oper}{un:Nat->Nat->Bool}{bf:Nat->Nat->Bool}{m0:Nat}(hm:∀o∈ops.toList,∀d,o.dst=some d->m0.testBit d=true){K:Fr->Wp}{a0:Act} :
  ∀(rs:RS) (m:Nat) (fs alts σ:List Nat) (φ:Fr) (H:HV) (Hs:Held) (a:Act) (w:World),fs.length=m->(∀f∈alts,f∈fs)->Fits n φ a->Dc0 P Hs H->Agree m0 true a0 a->Nj T P n ops.toList un bf rs fs alts σ φ H K w ->
   Rst T.cls P ops un (λa' w'=>∃φ',Fits n φ' a'/\Agree m0 true a0 a'/\K φ' w') bf m fs alts σ Hs a w:=by
 intro rs;induction rs with
 |done=>intro m fs alts σ φ H Hs a w hl hs hF hH hA h;exact h.elim
 |float f r _=>intro m fs alts σ φ H Hs a w hl hs hF hH hA h;exact h.elim
 |plain r _ =>
  intro m fs alts σ φ H Hs a w hl hs hF hH hA h;cases fs with
  |nil=>subst hl;exact G9 ok hm r σ φ H Hs a w hF hH hA h
  |cons f fs=>exact h.elim
 | stop =>
  intro m fs alts σ φ H Hs a w hl hs hF hH hA h;cases fs with
  |nil=>exact h.elim
  | cons f fs =>
   cases alts with
   |cons f' alts=>exact h.elim
   | nil =>
    subst hl;refine ⟨λ_ f hf=>(by cases hf),?_⟩;cases σ with
    |nil=>trivial
    |cons i r =>
     intro hb;simp only [Nj] at h;cases hb':held bf (f::fs) i with
     |true=>rw [hb] at hb';cases hb'
     |false=>simp only [hb'] at h
 | alt rt x r ihx ihr =>
  intro m fs alts σ φ H Hs a w hl hs hF hH hA h;cases alts with
  |nil=>exact h.elim
  | cons f alts =>
   simp only [Nj] at h;cases ho:ops.toList[f]? with
   |none=>simp only [ho] at h
   | some o =>
    simp only [ho] at h;(have ho':ops[f]?=some o:=by rw [←ho];simp);have hmo:=hm o (eY ho);cases hg:gIs ops.toList φ o with
    |none=>simp only [hg] at h
    |some b =>
    cases b with
    |false=>simp only [hg] at h
    |true =>
    cases hd:dOk n o with
    |false=>simp only [hg,hd] at h
    |true =>
    cases hc:T.cls o.op with
    |free=>simp only [hg,hd,hc] at h
    |read=>simp only [hg,hd,hc] at h
    |eff =>
     simp only [hg,hd,hc] at h;obtain ⟨h1,h2⟩:=h;have hff:=hs f aH;have hr:=ihr m fs alts σ φ H Hs a w hl (λg hg=>hs g (aI _ hg)) hF hH hA h2;cases m with
     |zero=>rw [bF.1 hl] at hff;cases hff
     |succ m=>refine ⟨λhdue g hgm=>?_,hr.2⟩;rcases aG.1 hgm with rfl|hgm;{unfold stepS;simp only [ho',Nc hF hg,aP,hc];have he:=Ac3 ok hF.ev o (Cb6 T o rt) _ a rfl w h1;refine Io (λa' w' hl'=>?_) he;obtain ⟨v,rfl,hp⟩:=hl';obtain ⟨g1,g2⟩:=Ye hp;refine ⟨λy hy hu=>?_,(ihx m (fs.erase g) (fs.erase g) σ _ H Hs _ w' (by rw [eH hff];omega) (λ_ h=>h) (hF.put hd v) hH (hA.trans (Agree.put hmo v)) g2).full⟩;rcases hH y hy with h|⟨p,hp,hpw⟩;{exact h w'};{exact hpw w' (g1 _ hp hu)}};{exact hr.1 hdue g hgm}
 | op rt r ih =>
  intro m fs alts σ φ H Hs a w hl hs hF hH hA h;cases fs with
  |nil=>exact h.elim
  |cons f0 fs =>
  cases σ with
  |nil=>exact h.elim
  | cons i σ =>
   obtain rfl:m=fs.length+1:=(by simpa using hl.symm);simp only [Nj] at h;cases ho:ops.toList[i]? with
   |none=>simp only [ho] at h
   | some o =>
    simp only [ho] at h;(have ho':ops[i]?=some o:=by rw [←ho];simp);have hmo:=hm o (eY ho);cases hb:held bf (f0::fs) i with
    |true=>simp only [hb] at h
    |false =>
    cases hg:gIs ops.toList φ o with
    |none=>simp only [hb,hg] at h
    |some b =>
    cases b with
    |false=>simp only [hb,hg] at h
    |true =>
    cases hd:dOk n o with
    |false=>simp only [hb,hg,hd] at h
    |true =>
    simp only [hb,hg,hd] at h;have hq:=Ad9 ok hF.ev o;have step:∀v H' Hs' w',Dc0 P Hs' H'->Nj T P n ops.toList un bf r (f0::fs) (f0::fs) σ (φ.put o.dst v) H' K w' ->
      wpI T.cls P ops un bf (wpT T.cls P ops un (λa' w'=>∃φ',Fits n φ' a'/\Agree m0 true a0 a'/\K φ' w') bf fs.length) (f0::fs) σ Hs' (a.put o.dst v) w' :=
     λv H' Hs' w' hr hh=>(ih (fs.length+1) (f0::fs) (f0::fs) σ _ H' Hs' _ w' rfl (λ_ h=>h) (hF.put hd v) hr (hA.trans (Agree.put hmo v)) hh).full
    cases hc:T.cls o.op with
    |free =>
     (have he:Ol T.cls ops i=false:=by unfold Ol;simp only [ho',hc]);refine ⟨λhdue=>absurd hdue (Qv hb he),λ_=>?_⟩;unfold stepS;simp only [ho',Nc hF hg,aP,hc] at h ⊢;cases hqq:quiet T P φ.ev o with
     |no=>simp only [hqq] at h
     |val v=>simp only [hqq] at h hq;exact ⟨v,hq,step v H Hs w hH h⟩
     |cond c f=>simp only [hqq] at h hq;obtain ⟨x,hx,h⟩:=h;exact ⟨f x,hq x hx,step _ H Hs w hH h⟩
     |read rd f=>simp only [hqq] at h
    |read =>
     (have he:Ol T.cls ops i=false:=by unfold Ol;simp only [ho',hc]);refine ⟨λhdue=>absurd hdue (Qv hb he),λ_=>?_⟩;unfold stepS;simp only [ho',Nc hF hg,aP,hc] at h ⊢;cases hqq:quiet T P φ.ev o with
     |no=>simp only [hqq] at h
     |val v=>simp only [hqq] at h hq;refine ⟨v,hq w,step v H _ w (λx hx=>?_) h⟩;rcases aG.1 hx with rfl|hx;{exact .inl hq};{exact hH x hx}
     |cond c f=>simp only [hqq] at h hq;obtain ⟨x,hx,h⟩:=h;refine ⟨f x,hq x hx w,step _ H _ w (λy hy=>?_) h⟩;rcases aG.1 hy with rfl|hy;{exact .inl (hq x hx)};{exact hH y hy}
     |read rd f=>simp only [hqq] at h hq;obtain ⟨x,hx,h⟩:=h;refine ⟨f x,hq x w hx,step _ _ _ w (λy hy=>?_) h⟩;rcases aG.1 hy with rfl|hy;{exact .inr ⟨rd x,aH,λw' hw'=>hq x w' hw'⟩};{rcases hH y hy with h|⟨p,hp,hpw⟩;{exact .inl h};{exact .inr ⟨p,aI _ hp,hpw⟩}}
    |eff =>
     simp only [hc] at h;cases alts with
     |cons f' alts=>exact h.elim
     |nil=>refine ⟨λ_ f hf=>(by cases hf),λ_=>?_⟩;unfold stepS;simp only [ho',Nc hF hg,aP,hc];have he:=Ac3 ok hF.ev o (Cb6 T o rt) _ a rfl w h;refine Io (λa' w' hl'=>?_) he;obtain ⟨v,rfl,hp⟩:=hl';obtain ⟨g1,g2⟩:=Ye hp;refine ⟨λy hy hu=>?_,step v H Hs w' hH g2⟩;rcases hH y hy with h|⟨p,hp,hpw⟩;{exact h w'};{exact hpw w' (g1 _ hp hu)}
 | skip r ih =>
  intro m fs alts σ φ H Hs a w hl hs hF hH hA h;cases fs with
  |nil=>exact h.elim
  |cons f0 fs =>
  cases σ with
  |nil=>exact h.elim
  | cons i σ =>
   obtain rfl:m=fs.length+1:=(by simpa using hl.symm);simp only [Nj] at h;cases ho:ops.toList[i]? with
   |none=>simp only [ho] at h
   | some o =>
    simp only [ho] at h;(have ho':ops[i]?=some o:=by rw [←ho];simp);have hmo:=hm o (eY ho);cases hb:held bf (f0::fs) i with
    |true=>simp only [hb] at h
    |false =>
    cases hg:gIs ops.toList φ o with
    |none=>simp only [hb,hg] at h
    |some b =>
    cases b with
    |true=>simp only [hb,hg] at h
    |false =>
    cases hd:dOk n o with
    |false=>simp only [hb,hg,hd] at h
    |true =>
    simp only [hb,hg,hd] at h;have go:Nj T P n ops.toList un bf r (f0::fs) (f0::fs) σ (φ.put o.dst undef) H K w->stepS T.cls P ops un i (wpI T.cls P ops un bf (wpT T.cls P ops un (λa' w'=>∃φ',Fits n φ' a'/\Agree m0 true a0 a'/\K φ' w') bf fs.length) (f0::fs) σ) Hs a w:=λh=>by
     unfold stepS
     simp only [ho',Nc hF hg,dO,dP]
     exact (ih (fs.length+1) (f0::fs) (f0::fs) σ _ H Hs _ w rfl (λ_ h=>h) (hF.put hd undef) hH (hA.trans (Agree.put hmo undef)) h).full
    cases hc:T.cls o.op with
    |eff =>
     simp only [hc] at h;cases alts with
     |cons f' alts=>exact h.elim
     |nil=>exact ⟨λ_ f hf=>(by cases hf),λ_=>go h⟩
    |free=>simp only [hc] at h;(have he:Ol T.cls ops i=false:=by unfold Ol;simp only [ho',hc]);exact ⟨λhdue=>absurd hdue (Qv hb he),λ_=>go h⟩
    |read=>simp only [hc] at h;(have he:Ol T.cls ops i=false:=by unfold Ol;simp only [ho',hc]);exact ⟨λhdue=>absurd hdue (Qv hb he),λ_=>go h⟩
 | split d t e iht ihe =>
  intro m fs alts σ φ H Hs a w hl hs hF hH hA h;simp only [Nj] at h;cases hd:φ d with
  |none=>simp only [hd] at h
  | some v =>
   cases v with
   |bool b =>
    simp only [hd] at h;have hv:=hF.at_ d _ hd;cases b with
    |true=>exact iht m fs alts σ _ H Hs a w hl hs (hF.set hv) hH hA (h.1 rfl)
    |false=>exact ihe m fs alts σ _ H Hs a w hl hs (hF.set hv) hH hA (h.2 rfl)
   |_=>simp only [hd] at h
@[reducible] def Slots.T:List (Nat×Ty)->Type
 |[]=>Unit
 |x::r=>x.2.T×Slots.T r
def Slots.vals:(tys:List (Nat×Ty))->Slots.T tys->List Value
 |[],_=>[]
 |x::r,s=>x.2.val s.1::Slots.vals r s.2
def Au0:(tys:List (Nat×Ty))->Fr->(Slots.T tys->Wp)->World->Prop
 |[],_,K=>K ()
 | x::r,φ,K=>match φ x.1 with
  |none=>λ_=>False
  |some v=>match x.2.of v with
   |none=>λ_=>False
   |some y=>Au0 r φ λs=>K (y,s)
def Fr.kill (φ:Fr) (kill:Nat):Fr:=⟨λi=>match kill.testBit i with|true=>none|false=>φ i,φ.ds⟩
def Fr.cut (φ:Fr) (kill:Nat):(tys:List (Nat×Ty))->Slots.T tys->Fr
 |[],_=>φ.kill kill
 |x::r,s=>(Fr.cut φ kill r s.2).set x.1 (x.2.val s.1)
def Fr.Df0 (φ:Fr):(tys:List (Nat×Ty))->Slots.T tys->Fr
 |[],_=>φ
 |x::r,s=>(φ.set x.1 (x.2.val s.1)).Df0 r s.2
def join {S:Type}(body:(S->Wp)->Wp) (rest:S->Wp):World->Prop :=
 λw=>∃J:S->World->Prop,body J w/\∀s w',J s w'->rest s w'
def Hr {S:Type}(body:S->(S->Wp)->Wp) (s0:S):World->Prop :=
 λw=>∃(I:S->Wp) (μ:S->World->Nat),I s0 w/\∀s w',I s w'->body s (λs' w''=>I s' w''/\μ s' w''<μ s w') w'
def drew (K:World->Prop):World->Prop:=λw=>K w.drew
def Bl5 (P:Program) (l:Nat) (vs:List Value) (R:Bool->Wp):World->Prop:=λw =>
 ∃f tmps assign body,(Instr.yield l vs.toArray).run P w=.ok (.round l f tmps assign body) w/\RoundIn (FW none) 0 P l f tmps assign body w λe w'=>∃b,e=.returned (.bool b)/\R b w'
def Dh4 (l:Nat) (rc:LoopState->Option Code->Loop) (K:World->Prop):World->Prop:=λW=>W.heap[l]?=some (.loop (rc .ready none))/\K (W.putObj l (.loop (rc .busy none)))
def Cg7 (l:Nat) (rc:LoopState->Option Code->Loop) (j:Option Code) (R:Bool->Wp):World->Prop:=λW =>
 (∃st pe,W.heap[l]?=some (.loop (rc st pe)))/\R j.isNone (W.putObj l (.loop (rc (if j.isNone then .ready else .done) j)))
def Az8 {S:Type}(P:Program) (vals:S->List Value) (v:Value) (body:Nat->(LoopState->Option Code->Loop)->(Bool->Wp)->S->Wp) (aft:Nat->Option Code->Wp):World->Prop:=λw =>
 ∀ rc:LoopState->Option Code->Loop,(∀R s W,W.heap[w.heap.size+1]?=some (.loop (rc .ready none))->body (w.heap.size+1) rc R s W->Bl5 P (w.heap.size+1) (vals s) R W) ->
  ∃gf args,(do let d ←Deferred.ofValue v #[.func (.yield (w.heap.size+1)) #[] #[]];invoke d.target d.args:Sem Next).run P ((w.alloc (.deferred (some []))).alloc (.loop (rc .ready none)))=.ok (.enter gf args) ((w.alloc (.deferred (some []))).alloc (.loop (rc .ready none))) /\
   Aa P gf args (.tup []) (λ_ W=>∃st pe,W.heap[w.heap.size+1]?=some (.loop (rc st pe))/\st≠.busy/\aft w.heap.size pe (W.putObj (w.heap.size+1) (.loop (rc .exhausted pe)))) ((w.alloc (.deferred (some []))).alloc (.loop (rc .ready none)))
inductive Hint where
 |leaf
 |seq (cut:Option (Nat×List (Nat×Ty))) (a b:Hint)
 |cond (k:Option Bool) (a b:Hint)
 |block (a:Hint)
 |loop (kill:Nat) (tys:List (Nat×Ty)) (a:Hint)
 |region (σ:List Nat) (rs:RS)
 |scope (a:Hint)
 |range (tys:List (Nat×Ty)) (a b:Hint)
structure Ks where
 normal:Fr->World->Prop
 exit:Nat->Fr->World->Prop
 ret:Fr->World->Prop
def Qq:List Oper->Nat
 |[]=>0
 |o::r=>match o.dst with|some d=>(1 <<< d) ||| Qq r|none=>Qq r
def Gu:Code->Nat
 |.region _ ops _=>Qq ops.toList
 |.seq a b=>Gu a ||| Gu b
 |.cond _ a b=>Gu a ||| Gu b
 |.block _ a=>Gu a
 |.loop a=>Gu a
 |.scope a=>Gu a
 |_=>0
def Kq:Code->Bool
 |.seq a b=>match Kq a with|true=>Kq b|false=>false
 |.cond _ a b=>match Kq a with|true=>Kq b|false=>false
 |.block _ a=>Kq a
 |.loop a=>Kq a
 |.scope a=>Kq a
 |.rangeFunc ..=>false
 |_=>true
def bef:List Oper->List Nat->List Nat
 |[],acc=>acc
 | o::r,acc=>bef r (acc++[o.after.toList.foldl (λs e=>match Region.binds .any e with
   |true=>s ||| (1 <<< e.on) ||| (match acc[e.on]? with|some x=>x|none=>0)
   |false=>s) 0])
def Xr (l:List Nat) (i:Nat):Nat:=match l[i]? with|some x=>x|none=>0
def covers (kill m:Nat):Bool:=Nat.beq (m &&& kill) m
def Zu (kill:Nat) (c:Code):Bool:=match covers kill (Gu c) with|true=>Kq c|false=>false
def Bo3 (n:Nat):List Nat->List (Nat×Ty)->Bool
 |[],[]=>true
 |p::ps,x::r=>match Nat.beq p x.1,Nat.blt p n with
  |true,true=>Bo3 n ps r
  |_,_=>false
 |_,_=>false
def aft (N:World->Prop) (E:Nat->Wp) (R:World->Prop):Option Code->World->Prop
 |none=>N
 |some .ret=>R
 |some (.exit i)=>E i
 |_=>λ_=>False
def onE (i id:Nat) (A B:World->Prop):World->Prop:=match Nat.beq i id with|true=>A|false=>B
def vcg (T:Tab) (P:Program) (n:Nat):Bool->Code->Hint->Fr->Ks->World->Prop
 |_,.skip,_,φ,k=>k.normal φ
 |_,.label _,_,φ,k=>k.normal φ
 | _,.region _ ops draw,h,φ,k=>match h with
  | .region σ rs=>match draw with
   |false=>Xt T P n ops.toList (λ_ _=>false) rs (List.range ops.size) φ [] k.normal
   | true=>match rs with
    |.float fs r=>(match Ba3 T.cls ops (Xr (bef ops.toList [])) fs σ with
     |true=>drew (Nj T P n ops.toList (λx i=>!(Xr (bef ops.toList []) i).testBit x) (λf i=>(Xr (bef ops.toList []) i).testBit f) r fs fs σ φ [] k.normal)
     |false=>λ_=>False)
    |rs=>match U5 T.cls ops (Xr (bef ops.toList [])) σ with
     |true=>drew (Xt T P n ops.toList (λx i=>!(Xr (bef ops.toList []) i).testBit x) rs σ φ [] k.normal)
     |false=>λ_=>False
  |_=>λ_=>False
 | top,.seq a b,h,φ,k=>match h with
  | .seq cut ha hb=>match cut with
   |none=>vcg T P n top a ha φ ⟨λφ'=>vcg T P n top b hb φ' k,k.exit,k.ret⟩
   |some c=>match Zu c.1 a with
    |true=>join (λJ=>vcg T P n top a ha φ ⟨λφ'=>Au0 c.2 φ' J,k.exit,k.ret⟩) (λs=>vcg T P n top b hb (φ.cut c.1 c.2 s) k)
    |false=>λ_=>False
  |_=>λ_=>False
 | top,.cond c a b,h,φ,k=>match h with
  | .cond q ha hb=>match φ.ev c with
   |some (.bool t)=>match q with
    |none=>sif t (vcg T P n top a ha φ k) (vcg T P n top b hb φ k)
    |some true=>(match t with|true=>vcg T P n top a ha φ k|false=>λ_=>False)
    |some false=>(match t with|false=>vcg T P n top b hb φ k|true=>λ_=>False)
   |_=>λ_=>False
  |_=>λ_=>False
 |top,.block id a,h,φ,k=>match h with
  |.block ha=>vcg T P n top a ha φ ⟨k.normal,λi φ'=>match Nat.beq i id with|true=>k.normal φ'|false=>k.exit i φ',k.ret⟩
  |_=>λ_=>False
 | top,.loop a,h,φ,k=>match h with
  |.loop kill tys ha=>match Zu kill a with
   |true=>Au0 tys φ (Hr λs again=>vcg T P n top a ha (φ.cut kill tys s) ⟨λφ'=>Au0 tys φ' again,k.exit,k.ret⟩)
   |false=>λ_=>False
  |_=>λ_=>False
 |top,.scope a,h,φ,k=>match h with
  |.scope ha=>vcg T P n top a ha φ k
  |_=>λ_=>False
 | top,.rangeFunc g ps assign body,h,φ,k=>match h with
  |.range tys ha hb=>match top,φ.ev g,Bo3 n ps.toList tys with
   | true,some v,true=>Az8 P (Slots.vals tys) v
     (λl rc R s=>vcg T P n false assign ha (φ.bare.Df0 tys s) ⟨λφ'=>Dh4 l rc (vcg T P n false body hb φ' ⟨λ_=>Cg7 l rc none R,λi _=>Cg7 l rc (some (.exit i)) R,λ_=>Cg7 l rc (some .ret) R⟩),λ_ _ _=>False,λ_ _=>False⟩)
     (λD=>aft (k.normal (φ.mark D)) (λi=>k.exit i (φ.mark D)) (k.ret (φ.mark D)))
   |_,_,_=>λ_=>False
  |_=>λ_=>False
 |_,.exit i,_,φ,k=>k.exit i φ
 |_,.ret,_,φ,k=>k.ret φ
 |_,_,_,_,_=>λ_=>False
def Ks.post (k:Ks) (n m:Nat) (s:Bool) (a0:Act):Exit->Act->World->Prop
 |.normal,a,w=>∃φ,Fits n φ a/\Agree m s a0 a/\k.normal φ w
 |.exit i,a,w=>∃φ,Fits n φ a/\Agree m s a0 a/\k.exit i φ w
 |.ret,a,w=>∃φ,Fits n φ a/\k.ret φ w
 |_,_,_=>False
theorem Ks.Ba1 {k:Ks}{n m m':Nat}{s s':Bool}{a a1:Act}(hA:Agree m' s' a a1) (hm:∀i,m.testBit i=true->m'.testBit i=true) (hs:s'=true->s=true){e:Exit}{a':Act}{w':World}(h:k.post n m s a1 e a' w'):k.post n m' s' a e a' w':=by
 cases e with
 |normal=>obtain ⟨φ',h1,h2,h3⟩:=h;exact ⟨φ',h1,hA.trans (h2.mono hm hs),h3⟩
 |exit i=>obtain ⟨φ',h1,h2,h3⟩:=h;exact ⟨φ',h1,hA.trans (h2.mono hm hs),h3⟩
 |ret=>exact h
 |_=>exact h.elim
theorem Be3 (d i:Nat):(1 <<< d).testBit i=decide (d=i):=by rw [Nat.one_shiftLeft];exact Nat.testBit_two_pow
theorem L6 (l:List Oper):∀{o:Oper},o∈l->∀d,o.dst=some d->(Qq l).testBit d=true:=by
 induction l with
 |nil=>intro o h;cases h
 | cons x r ih =>
  intro o h d hd;rcases aG.1 h with rfl|h;{simp only [Qq,hd,fA,Be3,decide_true,fB]}
  ·have:=ih h d hd;simp only [Qq];cases x.dst with
   |none=>exact this
   |some e=>simp only [fA,this,Bool.or_true]
theorem Ch9 {kill m i:Nat}(h:covers kill m=true) (hi:m.testBit i=true):kill.testBit i=true:=by have e:m &&& kill=m:=bP h;have:(m &&& kill).testBit i=(m.testBit i&&kill.testBit i):=Nat.testBit_and m kill i;rw [e,hi] at this;simpa using this.symm
theorem Af7 {kill:Nat}{c:Code}(h:Zu kill c=true):covers kill (Gu c)=true/\Kq c=true:=by
 unfold Zu at h;cases hc:covers kill (Gu c) with
 |true=>rw [hc] at h;exact ⟨rfl,h⟩
 |false=>rw [hc] at h;cases h
theorem Fits.kill {n:Nat}{φ:Fr}{a a':Act}{kill m:Nat}(h:Fits n φ a) (hs:a'.tmps.size=n) (hA:Agree m true a a') (hc:covers kill m=true):Fits n (φ.kill kill) a':=by
 refine ⟨hs,(hA.defers rfl).trans h.defers,λi v hi=>?_⟩;simp only [Fr.kill] at hi;split at hi;{cases hi}
 ·rename_i hki;have hm:m.testBit i=false:=by
   cases hm:m.testBit i with
   |false=>rfl
   |true=>rw [Ch9 hc hm] at hki;cases hki
  rw [hA.at_ i hm];exact h.at_ i v hi
theorem Zj:∀{tys:List (Nat×Ty)}{φ:Fr}{K:Slots.T tys->Wp}{w:World},Au0 tys φ K w ->
  ∃s,K s w/\∀{n:Nat} {ψ:Fr} {a:Act} {kill:Nat},Fits n φ a->Fits n (ψ.kill kill) a->Fits n (ψ.cut kill tys s) a
 |[],φ,K,w,h=>⟨(),h,λ_ h=>h⟩
 | x::r,φ,K,w,h=>by
  simp only [Au0] at h
  cases hx:φ x.1 with
  |none=>simp only [hx] at h
  | some v =>
   simp only [hx] at h
   cases hy:x.2.of v with
   |none=>simp only [hy] at h
   |some y =>
    simp only [hy] at h
    obtain ⟨s,hs,hf⟩:=Zj h
    refine ⟨(y,s),hs,λhF hψ=>?_⟩
    refine (hf hF hψ).set ?_
    rw [hF.at_ _ _ hx,Ty.Um hy]
theorem vals_length:∀(tys:List (Nat×Ty)) (s:Slots.T tys),(Slots.vals tys s).length=tys.length
 |[],_=>rfl
 |_::r,s=>fC (·+1) (vals_length r s.2)
theorem Ae1 {n:Nat}:∀{ps:List Nat}{tys:List (Nat×Ty)},Bo3 n ps tys=true->ps.length=tys.length
 |[],[],_=>rfl
 |[],_::_,h=>by cases h
 |_::_,[],h=>by cases h
 |p::ps,x::r,h=>by
  simp only [Bo3] at h
  split at h
  ·exact fC (·+1) (Ae1 h)
  ·cases h
theorem Au1 {n:Nat}:∀{ps:List Nat}{tys:List (Nat×Ty)}{s:Slots.T tys}{φ:Fr}{tmps:Array Value},Bo3 n ps tys=true->Fits n φ ⟨tmps,[]⟩ ->
  Fits n (φ.Df0 tys s) ⟨(ps.zip (Slots.vals tys s)).foldl (λtmps x=>tmps.setIfInBounds x.1 x.2) tmps,[]⟩
 |[],[],_,_,_,_,h=>h
 |[],_::_,_,_,_,h,_=>by cases h
 |_::_,[],_,_,_,h,_=>by cases h
 | p :: ps,x::r,s,φ,tmps,h,hF=>by
  simp only [Bo3] at h
  split at h
  ·rename_i e1 e2
   have ep:p=x.1:=bP e1
   have hp:p<n:=by simpa using e2
   have hsz:tmps.size=n:=hF.size
   have h1:Fits n (φ.set x.1 (x.2.val s.1)) ⟨tmps.setIfInBounds p (x.2.val s.1),[]⟩:=by
    refine ⟨by simp [hsz],hF.defers,λi u hi=>?_⟩
    simp only [Fr.set] at hi
    split at hi
    ·rename_i e
     have:=bP e
     cases hi
     subst this
     rw [←ep]
     simp [hsz,hp]
    ·rename_i e
     have hne:p≠i:=λhh=>by rw [←hh,ep,eP] at e;cases e
     show (tmps.setIfInBounds p (x.2.val s.1))[i]?=some u
     rw [eX hne]
     exact hF.at_ i u hi
   exact Au1 (s:=s.2) h h1
  ·cases h
theorem Z4 {F:Fence}{r:Nat}{P:Program}{Q:Exit->Act->Wp}{c:Code}{S:Type}(R:S->Act->Wp) (μ:S->World->Nat){s:S}{a:Act}{w:World}(h₀:R s a w)
  (round:∀s a w,R s a w->c.wpIn F r P (Exit.then (λa' w'=>∃s',R s' a' w'/\μ s' w'<μ s w) Q) a w):(Code.loop c).wpIn F r P Q a w:=by
 refine wpIn_loop_ghost (λj a w=>∃s,R s a w/\μ s w=j) (μ s w) ⟨s,h₀,rfl⟩ λj a w hj=>?_;obtain ⟨s,hs,rfl⟩:=hj;refine fD (round s a w hs) λe a' w' hq=>?_;cases e with
 |normal=>obtain ⟨s',h1,h2⟩:=hq;exact ⟨μ s' w',h2,s',h1,rfl⟩
 |_=>exact hq
theorem Nk {P:Program}{b:Frame}{a:Act}{k:List Item}{cs:List Frame}{w:World}{c:Code}:step P (lone (b.atR a (.code (.scope c)::k)) cs w)=.next (lone (b.atR a (.code c::.inScope c::k)) cs w) :=
 step_lone_go (by simp [stepG,stepG.exec,Frame.atR])
theorem Ar2 {P:Program}{b:Frame}{a:Act}{k:List Item}{cs:List Frame}{w:World}{c:Code}:step P (lone (b.atR a (.inScope c::k)) cs w)=.next (lone (b.atR a k) cs w) :=
 step_lone_go (by simp [stepG,stepG.exec,Frame.atR])
theorem Zz {F:Fence}{n:Nat}{P:Program}{Q:Exit->Act->Wp}{a:Act}{w:World}{c:Code}(h:c.wpIn F n P (Exit.noGoto Q) a w):(Code.scope c).wpIn F n P Q a w:=by
 intro b k cs hro hb hr;have h0:(lone (b.atR a (.code (.scope c)::k)) cs w).fenced P F:=fenced_calm hb hr rfl;obtain ⟨e,a₁,w₁,hq,harr⟩:=h b (.inScope c::k) cs hro hb hr;cases e with
 |normal=>exact ⟨.normal,a₁,w₁,hq,.head h0 Nk (StepsIn.trans harr (.one (fenced_calm hb hr rfl) Ar2))⟩
 | exit id =>
  have hx:exitTo id (.inScope c::k)=exitTo id k:=(by simp [exitTo]);exact ⟨.exit id,a₁,w₁,hq,λk' hk=>.head h0 Nk (harr.1 k' (by rw [hx];exact hk)),
   λhr' hk=>let ⟨k₁,h1,h2⟩:=harr.2 hr' (by rw [hx];exact hk);⟨k₁,h1,.head h0 Nk h2⟩⟩
 |goto l=>exact hq.elim
 |ret=>exact ⟨_,a₁,w₁,hq,.of_steps (.one h0 Nk) harr⟩
 |panic ch=>exact ⟨_,a₁,w₁,hq,.of_steps (.one h0 Nk) harr⟩
 |outgrown=>exact ⟨_,a₁,w₁,hq,.of_steps (.one h0 Nk) harr⟩
theorem run_bind_ok {α β:Type}{P:Program}{s:Sem α}{f:α->Sem β}{w w':World}{y:β}(h:(s >>= f).run P w=.ok y w'):∃x w1,s.run P w=.ok x w1/\(f x).run P w1=.ok y w':=by
 rw [aA] at h;cases hs:s.run P w with
 |ok x w1=>rw [hs] at h;exact ⟨x,w1,rfl,h⟩
 |halt x w1=>rw [hs] at h;cases h
theorem Ca6 {T:Tab} {P:Program} (ok:T.Ok P) {n:Nat}:∀(c:Code) (top:Bool) (rd:Option Nat) (h:Hint) (φ:Fr) (k:Ks) (a:Act) (w:World),(top=true->rd=none)->Fits n φ a->vcg T P n top c h φ k w->c.wpIn (FW rd) 0 P (k.post n (Gu c) (Kq c) a) a w:=by
  intro c;induction c with
  |skip=>intro top rd h φ k a w hrd hF hv;exact wpIn_skip ⟨φ,hF,Agree.refl _ _ _,hv⟩
  |label l=>intro top rd h φ k a w hrd hF hv;exact wpIn_label ⟨φ,hF,Agree.refl _ _ _,hv⟩
  |exit i=>intro top rd h φ k a w hrd hF hv;exact wpIn_exit ⟨φ,hF,Agree.refl _ _ _,hv⟩
  |ret=>intro top rd h φ k a w hrd hF hv;exact wpIn_ret ⟨φ,hF,hv⟩
  | region id ops draw =>
    intro top rd h φ k a w hrd hF hv;cases h with
    | region σ rs =>
      simp only [vcg] at hv;cases draw with
      |false=>simp only at hv;have:=G9 ok (un:=λ_ _=>false) (m:=Qq ops.toList) (a0:=a) (λo ho d hd=>L6 _ ho d hd) rs _ φ [] [] a w hF (λx hx=>by cases hx) (Agree.refl _ _ _) hv;exact wpIn_region (Ax4 (λa' w' hq=>hq) _ _ _ _ this)
      | true =>
        have plain:(match U5 T.cls ops (Xr (bef ops.toList [])) σ with
          |true=>drew (Xt T P n ops.toList (λx i=>!(Xr (bef ops.toList []) i).testBit x) rs σ φ [] k.normal)
          |false=>λ_=>False) w->(Code.region id ops true).wpIn (FW rd) 0 P (k.post n (Gu (.region id ops true)) (Kq (.region id ops true)) a) a w:=λhv=>by
         cases ho:U5 T.cls ops (Xr (bef ops.toList [])) σ with
         |false=>simp only [ho] at hv
         |true=>simp only [ho] at hv;have:=G9 ok (un:=λx i=>!(Xr (bef ops.toList []) i).testBit x) (m:=Qq ops.toList) (a0:=a) (λo ho d hd=>L6 _ ho d hd) rs σ φ [] [] a w.drew hF (λx hx=>by cases hx) (Agree.refl _ _ _) hv;exact D6 ok.mixed ho (λa' w' hq=>hq) this
        cases rs with
        | float fs r =>
          simp only at hv;cases ho:Ba3 T.cls ops (Xr (bef ops.toList [])) fs σ with
          |false=>simp only [ho] at hv
          |true=>simp only [ho] at hv;have:=Bd9 ok (un:=λx i=>!(Xr (bef ops.toList []) i).testBit x) (bf:=λf i=>(Xr (bef ops.toList []) i).testBit f) (m0:=Qq ops.toList) (a0:=a) (λo ho d hd=>L6 _ ho d hd) r fs.length fs fs σ φ [] [] a w.drew rfl (λ_ h=>h) hF (λx hx=>by cases hx) (Agree.refl _ _ _) hv;exact Xo ok.mixed ho (λa' w' hq=>hq) this.full
        |done=>exact plain hv
        |op rt r=>exact plain hv
        |skip r=>exact plain hv
        |split d t e=>exact plain hv
        |plain r=>exact plain hv
        |alt rt x r=>exact plain hv
        |stop=>exact plain hv
    |_=>exact False.elim hv
  | seq x y ihx ihy =>
    intro top rd h φ k a w hrd hF hv;cases h with
    | seq cut ha hb =>
      simp only [vcg] at hv;have ml:∀i,(Gu x).testBit i=true->(Gu (.seq x y)).testBit i=true:=λi hi=>(by simp [Gu,fA,hi]);have mr:∀i,(Gu y).testBit i=true->(Gu (.seq x y)).testBit i=true:=λi hi=>(by simp [Gu,fA,hi]);have sl:Kq (.seq x y)=true->Kq x=true:=λe=>by
        simp only [Kq] at e
        cases hx:Kq x with
        |true=>rfl
        |false=>rw [hx] at e;cases e
      have sr:Kq (.seq x y)=true->Kq y=true:=λe=>by
        have:=sl e
        simp only [Kq,this] at e
        exact e
      have rest:∀(a':Act) (w':World),Agree (Gu x) (Kq x) a a'->y.wpIn (FW rd) 0 P (k.post n (Gu y) (Kq y) a') a' w'->y.wpIn (FW rd) 0 P (k.post n (Gu (.seq x y)) (Kq (.seq x y)) a) a' w' :=
        λa' w' hA hw=>fD hw λe a'' w'' hq=>Ks.Ba1 (hA.mono ml sl) mr sr hq
      cases cut with
      | none =>
        simp only at hv;refine wpIn_seq (fD (ihx top rd ha φ _ a w hrd hF hv) λe a' w' hq=>?_);cases e with
        |normal=>obtain ⟨φ',h1,h2,h3⟩:=hq;exact rest a' w' h2 (ihy top rd hb φ' k a' w' hrd h1 h3)
        |exit i=>obtain ⟨φ',h1,h2,h3⟩:=hq;exact ⟨φ',h1,h2.mono ml sl,h3⟩
        |ret=>exact hq
        |_=>exact hq.elim
      | some c =>
        simp only at hv;cases hc:Zu c.1 x with
        |false=>simp only [hc] at hv
        | true =>
          simp only [hc] at hv;obtain ⟨hc1,hc2⟩:=Af7 hc;obtain ⟨J,hv,hJ⟩:=hv;refine wpIn_seq (fD (ihx top rd ha φ _ a w hrd hF hv) λe a' w' hq=>?_);cases e with
          |normal=>obtain ⟨φ',h1,h2,h3⟩:=hq;obtain ⟨s,hs,hf⟩:=Zj h3;exact rest a' w' h2 (ihy top rd hb _ k a' w' hrd (hf (ψ:=φ) (kill:=c.1) h1 (hF.kill h1.size (hc2▸h2) hc1)) (hJ s w' hs))
          |exit i=>obtain ⟨φ',h1,h2,h3⟩:=hq;exact ⟨φ',h1,h2.mono ml sl,h3⟩
          |ret=>exact hq
          |_=>exact hq.elim
    |_=>exact False.elim hv
  | cond c x y ihx ihy =>
    intro top rd h φ k a w hrd hF hv;cases h with
    | cond q ha hb =>
      simp only [vcg] at hv;have ml:∀i,(Gu x).testBit i=true->(Gu (.cond c x y)).testBit i=true:=λi hi=>(by simp [Gu,fA,hi]);have mr:∀i,(Gu y).testBit i=true->(Gu (.cond c x y)).testBit i=true:=λi hi=>(by simp [Gu,fA,hi]);have sl:Kq (.cond c x y)=true->Kq x=true:=λe=>by
        simp only [Kq] at e
        cases hx:Kq x with
        |true=>rfl
        |false=>rw [hx] at e;cases e
      have sr:Kq (.cond c x y)=true->Kq y=true:=λe=>by
        have:=sl e
        simp only [Kq,this] at e
        exact e
      cases he:φ.ev c with
      |none=>simp only [he] at hv
      | some v =>
        cases v with
        | bool t =>
          simp only [he] at hv;have hev:=hF.ev c _ he;have X:vcg T P n top x ha φ k w->x.wpIn (FW rd) 0 P (k.post n (Gu (.cond c x y)) (Kq (.cond c x y)) a) a w:=λhv=>fD (ihx top rd ha φ k a w hrd hF hv) λe a' w' hq=>Ks.Ba1 (Agree.refl _ _ _) ml sl hq;have Y:vcg T P n top y hb φ k w->y.wpIn (FW rd) 0 P (k.post n (Gu (.cond c x y)) (Kq (.cond c x y)) a) a w:=λhv=>fD (ihy top rd hb φ k a w hrd hF hv) λe a' w' hq=>Ks.Ba1 (Agree.refl _ _ _) mr sr hq;refine wpIn_cond (t:=t) hev ?_;cases q with
          | none =>
            cases t with
            |true=>exact X (hv.1 rfl)
            |false=>exact Y (hv.2 rfl)
          | some q =>
            cases q with
            | true =>
              cases t with
              |true=>exact X hv
              |false=>exact hv.elim
            | false =>
              cases t with
              |false=>exact Y hv
              |true=>exact hv.elim
        |_=>simp only [he] at hv
    |_=>exact False.elim hv
  | block id x ih =>
    intro top rd h φ k a w hrd hF hv;cases h with
    | block ha =>
      simp only [vcg] at hv;refine wpIn_block (fD (ih top rd ha φ _ a w hrd hF hv) λe a' w' hq=>?_);cases e with
      |normal=>exact hq
      | exit i =>
        obtain ⟨φ',h1,h2,h3⟩:=hq
        by_cases hi:i=id
        · subst hi
          simp only [eP] at h3
          simp only [Exit.inBlock,aP]
          exact ⟨φ',h1,h2,h3⟩
        · have hb:Nat.beq i id=false:=by
            cases hb:Nat.beq i id with
            |false=>rfl
            |true=>exact absurd (bP hb) hi
          simp only [hb] at h3
          simp only [Exit.inBlock,aJ hi]
          exact ⟨φ',h1,h2,h3⟩
      |ret=>exact hq
      |_=>exact hq.elim
    |_=>exact False.elim hv
  | loop x ih =>
    intro top rd h φ k a w hrd hF hv;cases h with
    | loop kill tys ha =>
      simp only [vcg] at hv;cases hc:Zu kill x with
      |false=>simp only [hc] at hv
      | true =>
        simp only [hc] at hv;obtain ⟨hc1,hc2⟩:=Af7 hc;have sl:Kq (.loop x)=true:=hc2;obtain ⟨s0,⟨I,μ,h0,hround⟩,hf⟩:=Zj hv;have out:∀{a':Act},Agree (Gu x) (Kq x) a a'->(a'.tmps.size=n)->Fits n (φ.kill kill) a':=λhA hs=>hF.kill hs (hc2▸hA) hc1;refine Z4 (S:=Slots.T tys) (λs a' w'=>Fits n (φ.cut kill tys s) a'/\Agree (Gu x) (Kq x) a a'/\I s w') μ (s:=s0) ⟨hf hF (out (Agree.refl _ _ _) hF.size),Agree.refl _ _ _,h0⟩ ?_;rintro s a' w' ⟨hF',hA',hI⟩;refine fD (ih top rd ha _ _ a' w' hrd hF' (hround s w' hI)) λe a'' w'' hq=>?_;cases e with
        |normal=>obtain ⟨φ',h1,h2,h3⟩:=hq;obtain ⟨s',⟨hs1,hs2⟩,hf'⟩:=Zj h3;exact ⟨s',⟨hf' h1 (out (hA'.trans h2) h1.size),hA'.trans h2,hs1⟩,hs2⟩
        |exit i=>obtain ⟨φ',h1,h2,h3⟩:=hq;exact ⟨φ',h1,hA'.trans h2,h3⟩
        |ret=>exact hq
        |_=>exact hq.elim
    |_=>exact False.elim hv
  | rangeFunc g ps assign body iha ihb =>
    intro top rd h φ k a w hrd hF hv;cases h with
    | range tys ha hb =>
      simp only [vcg] at hv
      cases top with
      |false=>exact hv.elim
      |true =>
      obtain rfl:=hrd rfl
      cases he:φ.ev g with
      |none=>simp only [he] at hv
      |some v =>
      cases hp:Bo3 n ps.toList tys with
      |false=>simp only [he,hp] at hv
      |true =>
      simp only [he,hp] at hv
      have hev:=hF.ev g _ he
      refine wpIn_rangeFunc λfn _=>?_
      have hlen:(ps.size)=tys.length:=by rw [←Ae1 hp,fE]
      obtain ⟨gf,args,hinv,hcall⟩:=hv (λst pe=>{ state:=st,pending:=pe,fn,tmps:=a.tmps,params:=ps,assign,body,defers:=w.heap.size }) (by
        intro R s W hW hbd
        refine ⟨fn,_,assign,body,run_yield hW (by simp [vals_length,hlen]),?_⟩
        have hzip:((ps.zip (Slots.vals tys s).toArray).foldl (λtmps (x:Nat×Value)=>tmps.setIfInBounds x.1 x.2) a.tmps)=(ps.toList.zip (Slots.vals tys s)).foldl (λtmps x=>tmps.setIfInBounds x.1 x.2) a.tmps:=by
          rw [←Array.foldl_toList,Array.toList_zip]
        refine roundIn_of_wpIn trivial ?_
        have hF0:Fits n φ.bare ⟨a.tmps,[]⟩:=⟨hF.size,rfl,hF.at_⟩
        have hF1:=Au1 (s:=s) hp hF0
        rw [←hzip] at hF1
        refine fD (iha false (some (w.heap.size+1)) ha _ _ _ W (λh=>by cases h) hF1 hbd) λe a1 w1 hq=>?_
        cases e with
        | normal =>
          obtain ⟨φ',h1,h2,h3⟩:=hq
          obtain ⟨h3,h4⟩:=h3
          refine ⟨_,run_beginRound h3 rfl,?_⟩
          refine fD (ihb false (some (w.heap.size+1)) hb φ' _ a1 _ (λh=>by cases h) h1 h4) λe a2 w2 hq=>?_
          cases e with
          | normal =>
            obtain ⟨_,_,_,⟨st,pe,hh⟩,hR⟩:=hq
            exact ⟨_,_,fF none hh,true,rfl,hR⟩
          | ret =>
            obtain ⟨_,_,⟨st,pe,hh⟩,hR⟩:=hq
            exact ⟨_,_,fF (some .ret) hh,false,rfl,hR⟩
          | exit i =>
            obtain ⟨_,_,_,⟨st,pe,hh⟩,hR⟩:=hq
            exact ⟨_,_,fF (some (.exit i)) hh,false,rfl,hR⟩
          |_=>exact hq.elim
        |exit i=>obtain ⟨_,_,_,h⟩:=hq;exact h.elim
        |ret=>obtain ⟨_,_,h⟩:=hq;exact h.elim
        |_=>exact hq.elim)
      obtain ⟨d,w1,hd,hi⟩:=run_bind_ok hinv
      refine ⟨w.heap.size+1,_,_,d,w1,gf,args,_,run_enterLoop_outer fn a.tmps ps assign body,?_,λ_ _=>trivial,hi,(λh=>by simp [FW,Fence.wide] at h),?_⟩
      · show (resolve a.eval ⟨.value g,_,_⟩ 0).run P _=_
        have em:Array.map a.eval #[.const (.func (.yield (w.heap.size+1)) #[] #[])]=#[.func (.yield (w.heap.size+1)) #[] #[]]:=by simp [Act.eval]
        simp only [resolve,hev,em]
        exact hd
      · refine Bs8.2 (Calls.mono hcall λe w' he=>?_)
        obtain ⟨x,rfl,st,pe,hh,hst,haft⟩:=he
        refine ⟨_,_,run_endLoop hh hst,?_⟩
        have hF':Fits n (φ.mark w.heap.size) { a with defers:=[{ target:=.collected w.heap.size,args:=#[] }]++a.defers }:=⟨hF.size,by simp only [hF.defers];rfl,hF.at_⟩
        have hA':Agree (Gu (.rangeFunc g ps assign body)) (Kq (.rangeFunc g ps assign body)) a { a with defers:=[{ target:=.collected w.heap.size,args:=#[] }]++a.defers }:=⟨λ_ _=>rfl,λh=>by cases h⟩
        cases pe with
        |none=>exact ⟨_,hF',hA',haft⟩
        | some c =>
          cases c with
          |ret=>exact wpIn_ret ⟨_,hF',haft⟩
          |exit i=>exact wpIn_exit ⟨_,hF',hA',haft⟩
          |_=>exact haft.elim
    |_=>exact False.elim hv
  | scope x ih =>
    intro top rd h φ k a w hrd hF hv;cases h with
    | scope ha =>
      simp only [vcg] at hv;refine Zz (fD (ih top rd ha φ k a w hrd hF hv) λe a' w' hq=>?_);cases e with
      |goto l=>exact hq.elim
      |_=>exact hq
    |_=>exact False.elim hv
  |goto=>intro top rd h φ k a w hrd hF hv;exact False.elim hv
  |refuse=>intro top rd h φ k a w hrd hF hv;exact False.elim hv
def Ax7 (T:Tab):List ResultVar->Fr->(List Value->Wp)->World->Prop
 |[],_,K=>K []
 |.tmp t::r,φ,K=>match φ t with
  |some v=>Ax7 T r φ λl=>K (v::l)
  |none=>λ_=>False
 | .cell a t::r,φ,K=>match φ a with
  |some (.pointer (some p))=>match Bh0 T t p with
   |.read rd f=>rdE rd λx=>Ax7 T r φ λl=>K (f x::l)
   |_=>λ_=>False
  |_=>λ_=>False
def Cl0 (t:RTy) (K:t.T->Wp) (l:List Value):World->Prop :=
 match (match l with|[v]=>t.of v|l=>t.of (.tuple l.toArray)) with
 |some x=>K x
 |none=>λ_=>False
def Bs0 (D:Nat) (K:World->Prop):World->Prop:=λw=>w.heap[D]?=some (.deferred (some []))/\K (w.putObj D (.deferred none))
def Cr8:List Nat->(World->Prop)->World->Prop
 |[],K=>K
 |D::r,K=>Bs0 D (Cr8 r K)
def Fr.init (args:List Value):Fr:=⟨λi=>args[i]?,[]⟩
def Ax8 (T:Tab) (P:Program) (fn:Func) (h:Hint) (args:List Value) (t:RTy) (K:t.T->Wp):World->Prop :=
 match fn.body,Nat.ble args.length fn.ntmps with
 |some c,true=>vcg T P fn.ntmps true c h (Fr.init args) ⟨λφ=>Cr8 φ.ds (Ax7 T fn.results.toList φ (Cl0 t K)),λ_ _ _=>False,λφ=>Cr8 φ.ds (Ax7 T fn.results.toList φ (Cl0 t K))⟩
 |_,_=>λ_=>False
theorem Ai6 {T:Tab}{P:Program}(ok:T.Ok P){n:Nat}{φ:Fr}{a:Act}(hF:Fits n φ a):∀{rs:List ResultVar}{K:List Value->Wp}{w:World},Ax7 T rs φ K w ->
  ∃l,K l w/\l.length=rs.length/\(rs.mapM (λ| .tmp t=>pure (a.tmps.getD t undef) | .cell x t=>do loadVar t (←asAddr (a.tmps.getD x undef)):ResultVar->Sem Value)).run P w=.ok l w
 |[],K,w,h=>⟨[],h,rfl,rfl⟩
 | .tmp t::r,K,w,h=>by
  simp only [Ax7] at h
  cases hv:φ t with
  |none=>simp only [hv] at h
  |some v =>
   simp only [hv] at h
   obtain ⟨l,hl,hn,hr⟩:=Ai6 ok hF h
   have:=hF.ev (.tmp t) v hv
   simp only [Act.eval] at this
   refine ⟨v::l,hl,by simp [hn],?_⟩
   rw [dK]
   simp only [aA,aC,aB,this,hr]
 | .cell x t::r,K,w,h=>by
  simp only [Ax7] at h
  cases hv:φ x with
  |none=>simp only [hv] at h
  | some v =>
   cases v with
   | pointer p =>
    cases p with
    |none=>simp only [hv] at h
    | some p =>
     simp only [hv] at h
     have hq:=Bg9 ok t p
     cases hl:Bh0 T t p with
     | read rd f =>
      simp only [hl] at h hq
      obtain ⟨y,hy,h⟩:=h
      obtain ⟨l,hl,hn,hr⟩:=Ai6 ok hF h
      have:=hF.ev (.tmp x) _ hv
      simp only [Act.eval] at this
      have hq':=hq y w hy
      have hld:(loadVar t p).run P w=.ok (f y) w:=by
       cases hlr:(loadVar t p).run P w with
       |ok v' w'=>simp [Instr.loadAt,Instr.sureAddr,hlr] at hq';simp [hq']
       |halt x w'=>simp [Instr.loadAt,Instr.sureAddr,hlr] at hq'
      refine ⟨f y::l,hl,by simp [hn],?_⟩
      rw [dK]
      have hA:(asAddr (.pointer (some p))).run P w=.ok p w:=rfl
      simp only [aA,aC,aB,this,hA,hld,hr]
     |_=>simp only [hl] at h
   |_=>simp only [hv] at h
theorem V4 {P:Program}{fn:Func}{tmps:Array Value}{R:Ending->Wp}{K:World->Prop}(hK:∀w,K w->∃v,(results fn tmps).run P w=.ok v w/\R (.returned v) w):∀(ds:List Nat) (w:World),Cr8 ds K w->LeavesInM (FW none) 0 P fn tmps R (marks ds) .returning w
 |[],w,h=>hK w h
 |D::r,w,h=>⟨by simp,.inl ⟨D,_,rfl,run_takeDeferred h.1,V4 hK r _ h.2⟩⟩
theorem Jh {T:Tab}{P:Program}(ok:T.Ok P){f:FuncId}{fn:Func}(hf:P.funcs[f]?=some fn) (h:Hint) (args:List Value) (t:RTy) (K:t.T->Wp) (w:World)
  (hv:Ax8 T P fn h args t K w):Aa P f args.toArray t K w:=by
 unfold Ax8 at hv;cases hb:fn.body with
 |none=>simp only [hb] at hv
 |some c =>
 cases hs:Nat.ble args.length fn.ntmps with
 |false=>simp only [hb,hs] at hv
 |true =>
 simp only [hb,hs] at hv;have hs':=dJ hs;have fin0:∀(φ:Fr) (a:Act),Fits fn.ntmps φ a->∀w',Ax7 T fn.results.toList φ (Cl0 t K) w' ->
   ∃v,(results fn a.tmps).run P w'=.ok v w'/\∃x,Ending.returned v=.returned (t.val x)/\K x w':=by
  intro φ a hF w' hr
  obtain ⟨l,hl,hn,hm⟩:=Ai6 ok hF hr
  have hres:(results fn a.tmps).run P w'=.ok (match l with|[v]=>v|l=>.tuple l.toArray) w':=by
   unfold results
   have hm2:(fn.results.mapM (λ| .tmp t=>pure (a.tmps.getD t undef) | .cell x t=>do loadVar t (←asAddr (a.tmps.getD x undef)):ResultVar->Sem Value)).run P w'=.ok l.toArray w':=by
    have e:fn.results=fn.results.toList.toArray:=by simp
    rw [e,List.mapM_toArray,Sem.run_map,hm];rfl
   refine (aA P w' _ _).trans ?_
   refine (fC (λr=>Result.andThen r _) hm2).trans ?_
   simp only [aB]
   match l with
   |[]=>rfl
   |[v]=>rfl
   |v::u::r=>rfl
  refine ⟨_,hres,?_⟩
  unfold Cl0 at hl
  match l with
  |[] =>
   simp only at hl ⊢;cases hx:t.of (.tuple ([]:List Value).toArray) with
   |none=>simp only [hx] at hl
   |some x=>simp only [hx] at hl;exact ⟨x,by rw [RTy.Um hx],hl⟩
  |[v] =>
   simp only at hl ⊢;cases hx:t.of v with
   |none=>simp only [hx] at hl
   |some x=>simp only [hx] at hl;exact ⟨x,by rw [RTy.Um hx],hl⟩
  |v::u::r =>
   simp only at hl ⊢;cases hx:t.of (.tuple (v::u::r).toArray) with
   |none=>simp only [hx] at hl
   |some x=>simp only [hx] at hl;exact ⟨x,by rw [RTy.Um hx],hl⟩
 have fin:∀(φ:Fr) (a:Act) (w':World),Fits fn.ntmps φ a->Cr8 φ.ds (Ax7 T fn.results.toList φ (Cl0 t K)) w' ->
   LeavesInM (FW none) 0 P fn a.tmps (λe w'=>∃x,e=.returned (t.val x)/\K x w') a.defers .returning w':=by
  intro φ a w' hF hr
  rw [hF.defers]
  exact V4 (fin0 φ a hF) _ _ hr
 unfold Aa;refine (Bs8 (r:=none) (n:=0)).1 (callsIn_of_wp_marks hf hb trivial (fD (Ca6 ok c true none h _ _ _ w (λ_=>rfl) ⟨?_,rfl,λi v hi=>?_⟩ hv) λe a' w' hq=>?_));{simp;omega};{simp only [Fr.init] at hi;have hlt:i<args.length:=(fG.1 hi).1;rw [fH (by simpa using hlt)];simpa using hi}
 ·cases e with
  |normal=>obtain ⟨φ,h1,h2,h3⟩:=hq;exact fin φ a' w' h1 h3
  |exit i=>obtain ⟨φ,h1,h2,h3⟩:=hq;exact h3.elim
  |ret=>obtain ⟨φ,h1,h3⟩:=hq;exact fin φ a' w' h1 h3
  |_=>exact hq.elim
#print axioms Jh
abbrev at0 (b:Nat):Addr:=⟨b,0,none⟩
def nn (p:Option Addr) (K:Addr->Wp):World->Prop:=cdE (λa=>p=some a) K
def ix (a:Option Addr) (len:Nat) (n:Int) (K:Addr->Wp):World->Prop:=cdE (λp=>a=some p/\0<=n/\n<len) K
def chk (c:Prop) (K:World->Prop):World->Prop:=cdE (λ_:Unit=>c) (λ_=>K)
def Dn1 (s:ByteArray) (n:Int) (K:UInt8->Wp):World->Prop:=cdE (λb=>0<=n/\s[n.toNat]?=some b) K
def slc (a:Option Addr) (l h m:Int) (cap sz:Nat) (K:Sl->Wp):World->Prop:=chk (0<=l/\l<=h/\h<=m/\m<=cap) (K (Sl.cut a l h m sz))
def ld (c:Cell) (p:Addr) (K:c.T->Wp):World->Prop:=rdE (λ(x:c.T) w=>w.cell? p=some (c.val x)) K
def lds (cs:List Cell) (p:Addr) (K:Cells.T cs->Wp):World->Prop:=rdE (λ(x:Cells.T cs) w=>Ap w p 0 (Cells.vals cs x)) K
def rdB (P:Program) (s:Sem Value) (K:Bool->Wp):World->Prop:=rdE (λ(r:Bool) w=>s.run P w=.ok (.bool r) w) K
def RS.ops:Nat->RS->RS
 |0,r=>r
 |n+1,r=>.op none (RS.ops n r)
def RS.skips:Nat->RS->RS
 |0,r=>r
 |n+1,r=>.skip (RS.skips n r)
section
variable {w:World}
theorem Am {a:Addr}{K:Addr->Wp}(h:K a w):nn (some a) K w:=⟨a,rfl,h⟩
theorem Ae6 {a:Addr}{K:Addr->Wp}:nn (some a) K w↔K a w :=
 ⟨(λ⟨_,e,h⟩=>by cases e;exact h),Am⟩
theorem Bh {A B:World->Prop}(h:A w):sif true A B w:=⟨λ_=>h,(λe=>by cases e)⟩
theorem Ah {A B:World->Prop}(h:B w):sif false A B w:=⟨(λe=>by cases e),λ_=>h⟩
theorem F5 {c:Cell}{p:Addr}{K:c.T->Wp}{x:c.T}(h:w.cell? p=some (c.val x)) (hK:K x w):ld c p K w:=⟨x,h,hK⟩
end
structure Upd (S:Nat->Prop) (w w':World):Prop where
 os:w'.os=w.os
 tape:w'.tape=w.tape
 output:w'.output=w.output
 size:w.heap.size<=w'.heap.size
 at_:∀k,k<w.heap.size->¬S k->w'.heap[k]?=w.heap[k]?
abbrev Ext (w w':World):Prop:=Upd (λ_=>False) w w'
theorem lt_of_heap {w:World}{k:Nat}{o:Obj}(h:w.heap[k]?=some o):k<w.heap.size:=(aT.1 h).1
section
variable {S S':Nat->Prop}{w w' w'':World}
theorem Upd.refl (S:Nat->Prop) (w:World):Upd S w w:=⟨rfl,rfl,rfl,fJ _,λ_ _ _=>rfl⟩
theorem Ext.refl (w:World):Ext w w:=Upd.refl _ w
theorem Upd.get (h:Upd S w w'){k:Nat}{o:Obj}(hk:w.heap[k]?=some o) (hS:¬S k):w'.heap[k]?=some o:=by rw [h.at_ k (lt_of_heap hk) hS];exact hk
theorem Upd.ext_get (h:Ext w w'){k:Nat}{o:Obj}(hk:w.heap[k]?=some o):w'.heap[k]?=some o:=h.get hk id
theorem Upd.mono (h:Upd S w w') (hs:∀k,k<w.heap.size->S k->S' k):Upd S' w w':=⟨h.os,h.tape,h.output,h.size,λk hk hn=>h.at_ k hk λhS=>hn (hs k hk hS)⟩
theorem Upd.trans (h:Upd S w w') (h':Upd S w' w''):Upd S w w'' :=
 ⟨h'.os.trans h.os,h'.tape.trans h.tape,h'.output.trans h.output,fK h.size h'.size,λk hk hn=>(h'.at_ k (fM hk h.size) hn).trans (h.at_ k hk hn)⟩
theorem Upd.Ed (h:Ext w w'):Upd S w w':=h.mono λ_ _ h=>h.elim
theorem Upd.new (h:Upd S w w') (h':Upd S' w' w'') (hs:∀k,k<w.heap.size->S' k->S k):Upd S w w'' :=
 ⟨h'.os.trans h.os,h'.tape.trans h.tape,h'.output.trans h.output,fK h.size h'.size,λk hk hn=>(h'.at_ k (fM hk h.size) λhS=>hn (hs k hk hS)).trans (h.at_ k hk hn)⟩
theorem Ext.trans (h:Ext w w') (h':Ext w' w''):Ext w w'':=Upd.trans h h'
theorem Ext.step (h:Ext w w') (h':Upd S' w' w'') (hs:∀k,S' k->w.heap.size<=k):Ext w w'':=Upd.new h h' λk hk hS=>absurd (hs k hS) (by omega)
theorem Ext.alloc (w:World) (o:Obj):Ext w (w.alloc o) :=
 ⟨rfl,rfl,rfl,by simp,λk hk _=>by show (w.heap.push o)[k]?=_;rw [Array.getElem?_push,aJ (by omega)]⟩
theorem heap_alloc (w:World) (o:Obj):(w.alloc o).heap[w.heap.size]?=some o:=by show (w.heap.push o)[w.heap.size]?=_;simp
theorem Ext.drew (w:World):Ext w w.drew:=⟨rfl,rfl,rfl,fJ _,λ_ _ _=>rfl⟩
theorem cell_of {b off:Nat}{c:Array Value}{t:TypeId}{fr:Nat×Nat}{v:Value}(hb:w.heap[b]?=some (.cells c t fr)) (hc:c[off]?=some v):w.cell? ⟨b,off,none⟩=some v:=by simp [World.cell?,hb,hc]
theorem Ad5 {b off:Nat}{c:Array Value}{t:TypeId}{fr:Nat×Nat}(v:Value) (hb:w.heap[b]?=some (.cells c t fr)) :
  Upd (λk=>k=b) w (w.setCell ⟨b,off,none⟩ v)/\(w.setCell ⟨b,off,none⟩ v).heap[b]?=some (.cells (c.setIfInBounds off v) t fr):=by refine ⟨⟨rfl,rfl,rfl,by simp [World.setCell],λk hk hn=>?_⟩,?_⟩;{simp only [World.setCell,fO];rw [aJ (λh=>hn h.symm)]};{simp [World.setCell,fO,hb]}
theorem Cm {o:Obj}{K:Nat->Wp}(h:∀b w1,Ext w w1->w1.heap[b]?=some o->b=w.heap.size->w1.heap.size=w.heap.size+1->K b w1):Af o K w :=
 h _ _ (Ext.alloc w o) (heap_alloc w o) rfl (by simp)
theorem Ci {K:World->Prop}(h:∀w1,Ext w w1->w1.heap=w.heap->K w1):drew K w:=h _ (Ext.drew w) rfl
theorem Ce {c:Cell}{b off:Nat}{K:c.T->Wp}{x:c.T}{cs:Array Value}{t:TypeId}{fr:Nat×Nat}(hb:w.heap[b]?=some (.cells cs t fr)) (hc:cs[off]?=some (c.val x)) (h:K x w) :
  ld c ⟨b,off,none⟩ K w:=⟨x,cell_of hb hc,h⟩
theorem Qh {cs:List Cell}{b off:Nat}{K:Cells.T cs->Wp}{x:Cells.T cs}{c:Array Value}{t:TypeId}{fr:Nat×Nat}(hb:w.heap[b]?=some (.cells c t fr))
  (hc:∀i v,(Cells.vals cs x)[i]?=some v->c[off+i]?=some v) (h:K x w):lds cs ⟨b,off,none⟩ K w:=by
 refine ⟨x,?_,h⟩;have key:∀(l:List Value) (j:Nat),(∀i v,l[i]?=some v->c[off+(j+i)]?=some v)->Ap w ⟨b,off,none⟩ j l:=by
  intro l
  induction l with
  |nil=>intro _ _;trivial
  |cons v r ih=>intro j hj;refine ⟨?_,ih (j+1) λi u hu=>?_⟩;{have:=cell_of hb (hj 0 v rfl);(have e:(⟨b,off,none⟩:Addr).add j=⟨b,off+j,none⟩:=by unfold Addr.add;split<;>simp_all);rw [e];simpa using this};{have:=hj (i+1) u (by simpa using hu);rw [show off+(j+1+i)=off+(j+(i+1)) by omega];exact this}
 exact key _ 0 (by simpa using hc)
theorem Jm {b off:Nat}{v:Value}{K:World->Prop}{c:Array Value}{t:TypeId}(hb:w.heap[b]?=some (.cells c t (0,0))) (ho:off<c.size)
  (h:∀w1,Upd (λk=>k=b) w w1->w1.heap[b]?=some (.cells (c.setIfInBounds off v) t (0,0))->w1.heap.size=w.heap.size->K w1):stC ⟨b,off,none⟩ v K w:=by obtain ⟨h1,h2⟩:=Ad5 (off:=off) v hb;refine ⟨⟨⟨c[off],cell_of hb (by simp [ho])⟩,?_⟩,h _ h1 h2 (by simp [World.setCell])⟩;simp [World.frozen?,hb]
theorem addr_add (b o n:Nat):(⟨b,o,none⟩:Addr).add n=⟨b,o+n,none⟩:=by unfold Addr.add;split<;>simp_all
def setRow (c:Array Value):Nat->List Value->Array Value
 |_,[]=>c
 |off,v::r=>setRow (c.setIfInBounds off v) (off+1) r
theorem size_setRow:∀(vs:List Value) (c:Array Value) (off:Nat),(setRow c off vs).size=c.size
 |[],_,_=>rfl
 |v::r,c,off=>by rw [setRow,size_setRow r];simp
theorem Jc:∀(vs:List Value) (c:Array Value) (off i:Nat),i<off->(setRow c off vs)[i]?=c[i]?
 |[],_,_,_,_=>rfl
 |v::r,c,off,i,h=>by rw [setRow,Jc r _ _ _ (by omega)];simp [fP,Nat.ne_of_gt h]
theorem F8:∀(vs:List Value) (c:Array Value) (off i:Nat),off+vs.length<=i->(setRow c off vs)[i]?=c[i]?
 |[],_,_,_,_=>rfl
 |v::r,c,off,i,h=>by
  simp only [dB] at h
  rw [setRow,F8 r _ _ _ (by omega),fP,aJ (by omega)]
theorem Rt:∀(vs:List Value) (c:Array Value) (off i:Nat),off+vs.length<=c.size->i<vs.length->(setRow c off vs)[off+i]?=vs[i]?
 |v::r,c,off,0,h,_=>by
  simp only [dB] at h
  rw [setRow,Nat.add_zero,Jc r _ _ _ (by omega),fP]
  simp;omega
 |v::r,c,off,i+1,h,hi=>by
  simp only [dB] at h hi
  rw [setRow,show off+(i+1)=off+1+i by omega,Rt r _ _ _ (by simp;omega) (by omega)]
  simp
theorem Nv (P:Program):∀(vs:List Value) (b off i:Nat) (c:Array Value) (t:TypeId) (w:World),(∀v∈vs,Gn v=true)->w.heap[b]?=some (.cells c t (0,0))->off+i+vs.length<=c.size ->
  ∃w1,(storeCells ⟨b,off,none⟩ vs i).run P w=.ok () w1/\Upd (λk=>k=b) w w1/\w1.heap[b]?=some (.cells (setRow c (off+i) vs) t (0,0))/\w1.heap.size=w.heap.size
 |[],b,off,i,c,t,w,_,hb,_=>⟨w,rfl,Upd.refl _ _,hb,rfl⟩
 |v::r,b,off,i,c,t,w,hv,hb,hs=>by
  simp only [dB] at hs
  obtain ⟨h1,h2⟩:=Ad5 (off:=off+i) v hb
  have hsz:(w.setCell ⟨b,off+i,none⟩ v).heap.size=w.heap.size:=by simp [World.setCell]
  obtain ⟨w1,hr,hu,hb1,hz⟩:=Nv P r b off (i+1) _ t _ (λx hx=>hv x (aI _ hx)) h2 (by simp;omega)
  refine ⟨w1,?_,h1.trans hu,hb1,hz.trans hsz⟩
  have hst:=Ul (P:=P) (p:=⟨b,off+i,none⟩) (hv v aH) (cell_of hb (v:=c[off+i]'(by omega)) (by simp)) (by simp [World.frozen?,hb])
  simp only [storeCells,addr_add,aA,hst,aB]
  exact hr
theorem Zy {b off n:Nat}{vs:Array Value}{K:World->Prop}{c:Array Value}{t:TypeId}(hb:w.heap[b]?=some (.cells c t (0,0))) (hn:vs.size=n) (h1:vs.toList.all Gn=true) (ho:off+n<=c.size)
  (h:∀w1,Upd (λk=>k=b) w w1->w1.heap[b]?=some (.cells (setRow c off vs.toList) t (0,0))->w1.heap.size=w.heap.size->K w1):Ad ⟨b,off,none⟩ (.agg vs) n K w:=by
 have key:∀(l:List Value) (i:Nat) (c:Array Value) (w:World),w.heap[b]?=some (.cells c t (0,0))->off+i+l.length<=c.size ->
   (∀w1,Upd (λk=>k=b) w w1->w1.heap[b]?=some (.cells (setRow c (off+i) l) t (0,0))->w1.heap.size=w.heap.size->K w1)->Cl7 ⟨b,off,none⟩ i l K w:=by
  intro l
  induction l with
  |nil=>intro i c w hb _ h;exact h w (Upd.refl _ _) hb rfl
  |cons v r ih=>intro i c w hb hs h;simp only [dB] at hs;rw [Cl7,addr_add];exact Jm hb (by omega) λw1 u1 hb1 z1=>ih (i+1) _ w1 hb1 (by simp;omega) λw2 u2 hb2 hz=>h w2 (u1.trans u2) hb2 (hz.trans z1)
 unfold Ad;have e:(Nat.beq (Value.agg vs).cells.toList.length n&&(Value.agg vs).cells.toList.all Gn)=true:=by
  rw [aV]
  refine ⟨?_,h1⟩
  show Nat.beq vs.toList.length n=true
  rw [fE,hn];exact eP n
 rw [e];exact key _ 0 c w hb (by show off+0+vs.toList.length<=_;rw [fE,hn];omega) h
structure Bl (w:World) (s:Sl) (t:TypeId) (sz:Nat) (vs:List Value):Prop where
 len:vs.length=s.len*sz
 le:s.len<=s.cap
 at_:(s.a=none/\s.cap=0)\/∃b off c fr,s.a=some ⟨b,off,none⟩/\w.heap[b]?=some (.cells c t fr)/\off+s.cap*sz<=c.size/\∀i v,vs[i]?=some v->c[off+i]?=some v
structure Ar (w:World) (B:Nat) (s:Sl) (t:TypeId) (sz:Nat) (vs:List Value):Prop where
 len:vs.length=s.len*sz
 le:s.len<=s.cap
 at_:(s.a=none/\s.cap=0)\/∃b off c,s.a=some ⟨b,off,none⟩/\B<=b/\w.heap[b]?=some (.cells c t (0,0))/\off+s.cap*sz<=c.size/\∀i v,vs[i]?=some v->c[off+i]?=some v
def Sl.blk (s:Sl) (k:Nat):Prop:=∃p,s.a=some p/\p.block=k
theorem Ar.in {B:Nat}{s:Sl}{t:TypeId}{sz:Nat}{vs:List Value}(h:Ar w B s t sz vs):Bl w s t sz vs :=
 ⟨h.len,h.le,h.at_.imp id λ⟨b,off,c,h1,_,h2,h3,h4⟩=>⟨b,off,c,_,h1,h2,h3,h4⟩⟩
theorem Bl.upd {s:Sl}{t:TypeId}{sz:Nat}{vs:List Value}(h:Bl w s t sz vs) (hu:Upd S w w') (hS:∀k,s.blk k->¬S k):Bl w' s t sz vs :=
 ⟨h.len,h.le,h.at_.imp id λ⟨b,off,c,fr,h1,h2,h3,h4⟩=>⟨b,off,c,fr,h1,hu.get h2 (hS b ⟨_,h1,rfl⟩),h3,h4⟩⟩
theorem Bl.ext {s:Sl}{t:TypeId}{sz:Nat}{vs:List Value}(h:Bl w s t sz vs) (hu:Ext w w'):Bl w' s t sz vs:=h.upd hu λ_ _=>id
theorem Ar.upd {B:Nat}{s:Sl}{t:TypeId}{sz:Nat}{vs:List Value}(h:Ar w B s t sz vs) (hu:Upd S w w') (hS:∀k,B<=k->s.blk k->¬S k):Ar w' B s t sz vs :=
 ⟨h.len,h.le,h.at_.imp id λ⟨b,off,c,h1,hB,h2,h3,h4⟩=>⟨b,off,c,h1,hB,hu.get h2 (hS b hB ⟨_,h1,rfl⟩),h3,h4⟩⟩
theorem Ar.ext {B:Nat}{s:Sl}{t:TypeId}{sz:Nat}{vs:List Value}(h:Ar w B s t sz vs) (hu:Ext w w'):Ar w' B s t sz vs:=h.upd hu λ_ _ _=>id
theorem Ar.mono {B B':Nat}{s:Sl}{t:TypeId}{sz:Nat}{vs:List Value}(h:Ar w B s t sz vs) (hB:B'<=B):Ar w B' s t sz vs :=
 ⟨h.len,h.le,h.at_.imp id λ⟨b,off,c,h1,hb,h2⟩=>⟨b,off,c,h1,fK hB hb,h2⟩⟩
theorem Ar.nil (w:World) (B:Nat) (t:TypeId) (sz:Nat):Ar w B ⟨none,0,0⟩ t sz []:=⟨by simp,fJ _,.inl ⟨rfl,rfl⟩⟩
theorem Bl.Ph {s:Sl}{t:TypeId}{sz:Nat}{vs:List Value}(h:Bl w s t sz vs){k:Nat}(hk:s.blk k):k<w.heap.size:=by obtain ⟨p,hp,rfl⟩:=hk;rcases h.at_ with ⟨hn,_⟩|⟨b,off,c,fr,h1,h2,_⟩;{rw [hn] at hp;cases hp};{rw [h1] at hp;cases hp;exact lt_of_heap h2}
theorem Ar.Fq {B:Nat}{s:Sl}{t:TypeId}{sz:Nat}{vs:List Value}(h:Ar w B s t sz vs){k:Nat}(hk:s.blk k):B<=k:=by obtain ⟨p,hp,rfl⟩:=hk;rcases h.at_ with ⟨hn,_⟩|⟨b,off,c,h1,hB,_⟩;{rw [hn] at hp;cases hp};{rw [h1] at hp;cases hp;exact hB}
theorem Bl.ix {s:Sl}{t:TypeId}{sz:Nat}{vs:List Value}(h:Bl w s t sz vs){n:Int}(h0:0<=n) (h1:n<s.len) (hz:0<sz){K:Addr->Wp}
  (hK:∀b off,s.a=some ⟨b,off,none⟩->(∀j v,vs[n.toNat*sz+j]?=some v->w.cell? ⟨b,off+n.toNat*sz+j,none⟩=some v)->K ⟨b,off,none⟩ w):ix s.a s.len n K w:=by rcases h.at_ with ⟨_,hc⟩|⟨b,off,c,fr,ha,hb,_,hv⟩;{have:=h.le;omega};{exact ⟨_,⟨ha,h0,h1⟩,hK b off ha λj v hj=>by rw [Nat.add_assoc];exact cell_of hb (hv _ _ hj)⟩}
theorem Gj {b off:Nat}:∀(l:List Value) (i:Nat),(∀j v,l[j]?=some v->w.cell? ⟨b,off+(i+j),none⟩=some v)->Ap w ⟨b,off,none⟩ i l
 |[],_,_=>trivial
 |v::r,i,h=>⟨by rw [addr_add];exact h 0 v rfl,Gj r (i+1) λj u hj=>by rw [show off+(i+1+j)=off+(i+(j+1)) by omega];exact h (j+1) u (by simpa using hj)⟩
theorem Bf1 (P:Program){b off n:Nat}{c:Array Value}{t:TypeId}{fr:Nat×Nat}{vs:List Value}(hb:w.heap[b]?=some (.cells c t fr)) (hv:∀i v,vs[i]?=some v->c[off+i]?=some v) (hn:vs.length=n) :
  (loadCells ⟨b,off,none⟩ n).run P w=.ok vs.toArray w:=by have:=run_loadCells (P:=P) vs ⟨b,off,none⟩ 0 #[] w (Gj vs 0 λj v hj=>by rw [dU];exact cell_of hb (hv j v hj));rw [hn] at this;simpa [loadCells] using this
theorem Gw (P:Program){s:Sl}{t:TypeId}{sz:Nat}{vs:List Value}(h:Bl w s t sz vs):(Builtin.firstCells sz s.len (.slice s.a s.len s.cap)).run P w=.ok vs.toArray w:=by rcases h.at_ with ⟨ha,hc⟩|⟨b,off,c,fr,ha,hb,_,hv⟩;{(have hl:s.len=0:=by have:=h.le;omega);(have:vs=[]:=by have:=h.len;rw [hl,fQ] at this;exact bF.1 this);rw [ha,this];rfl};{rw [ha];exact Bf1 P hb hv h.len}
structure SlX (w:World) (s:Sl) (sz:Nat) (vs:List Value):Prop where
 at_:(s.len=0/\vs=[])\/∃t,Bl w s t sz vs
theorem Bl.x {s:Sl}{t:TypeId}{sz:Nat}{vs:List Value}(h:Bl w s t sz vs):SlX w s sz vs:=⟨.inr ⟨t,h⟩⟩
theorem SlX.len {s:Sl}{sz:Nat}{vs:List Value}(h:SlX w s sz vs):vs.length=s.len*sz:=by rcases h.at_ with ⟨h1,h2⟩|⟨t,h⟩;{rw [h1,h2];simp};{exact h.len}
theorem SlX.ext {s:Sl}{sz:Nat}{vs:List Value}(h:SlX w s sz vs) (hu:Ext w w'):SlX w' s sz vs:=⟨h.at_.imp id λ⟨t,h⟩=>⟨t,h.ext hu⟩⟩
theorem Gh (P:Program){s:Sl}{sz:Nat}{vs:List Value}(h:SlX w s sz vs):(Builtin.firstCells sz s.len (.slice s.a s.len s.cap)).run P w=.ok vs.toArray w:=by
 rcases h.at_ with ⟨h1,h2⟩|⟨t,h⟩
 ·rw [h1,h2];cases s.a with
  |none=>rfl
  |some a=>show (loadCells a (0*sz)).run P w=_;rw [fQ];rfl
 {exact Gw P h}
theorem Av7 (need:Nat):∀(n c:Nat),c<=need+need/4+192->Builtin.growBy need n c<=need+need/4+192
 |0,c,h=>h
 |n+1,c,h=>by
  rw [Builtin.growBy]
  split
  ·exact h
  ·exact Av7 need n _ (by omega)
theorem nextslicecap_le {need old:Nat}(h:old<need):Builtin.nextslicecap need old<=need+need/4+512:=by unfold Builtin.nextslicecap;split;{omega};{split;{omega};{have:=Av7 need 4 old (by omega);omega}}
theorem Bt8 (P:Program){ts xt rt:TypeId}{e xe:TypeId}{i:TypeInfo}{z:Value}(hts:P.underlying ts=some (.slice e)) (hxt:P.underlying xt=some (.slice xe)) (hi:P.info? e=some i) (hz:i.zero=some z)
  {B:Nat} {s x:Sl} {vs us:List Value} (hs:Ar w B s e i.size vs) (hx:SlX w x i.size us) (h1:∀v∈us,Gn v=true) (hzl:z.cells.size=i.size)
  (hroom:(s.len+x.len+(s.len+x.len)/4+512)*i.bytes<=2^48) (hb0:0<i.bytes) (hB:B<=w.heap.size) :
  ∃s' w',(Builtin.append_ #[ts,xt] rt #[.slice s.a s.len s.cap,.slice x.a x.len x.cap]).run P w=.ok (.slice s'.a s'.len s'.cap) w'/\Ar w' B s' e i.size (vs++us)/\s'.len=s.len+x.len /\
   Upd (λk=>s.blk k) w w'/\(∀k,s'.blk k->s.blk k\/w.heap.size<=k):=by
 have hfx:=Gh P hx
 have hfs:=Gw P hs.in
 have hu1:=λW=>cZ hts W
 have hu2:=λW=>cZ hxt W
 have hsz:∀W,(sizeOf e).run P W=.ok i.size W:=λW=>by simp [sizeOf,dA W hi]
 have hti:∀W,(typeInfo e).run P W=.ok i W:=λW=>dA W hi
 have hzv:∀W,(zeroValue e).run P W=.ok z W:=λW=>by simp [zeroValue,dA W hi,hz]
 have hlen:=hs.len
 have hxlen:=hx.len
 by_cases hneed:s.len+x.len<=s.cap
 ·
  rcases hs.at_ with ⟨ha,hc⟩|⟨b,off,c,ha,hB',hb,hcap,hv⟩
  ·have hl0:x.len=0:=by omega
   have hsl:s.len=0:=by omega
   have hus:us=[]:=by rw [hl0,fQ] at hxlen;exact bF.1 hxlen
   refine ⟨⟨none,0,s.cap⟩,w,?_,⟨by simp [hus,hlen,hsl],by simp,.inl ⟨rfl,hc⟩⟩,by simp [hl0,hsl],Upd.refl _ _,λk hk=>by obtain ⟨p,hp,_⟩:=hk;cases hp⟩
   have hfx':(Builtin.firstCells i.size 0 (.slice x.a 0 x.cap)).run P w=.ok #[] w:=by rw [hl0,hus] at hfx;exact hfx
   simp [Builtin.append_,hu1,hu2,hsz,Builtin.lenOf,hl0,hsl,ha,hfx',hc]
  ·have hfit:s.len*i.size+us.length<=s.cap*i.size:=by
    rw [hxlen,←fU];exact fV _ hneed
   obtain ⟨w1,hr,hu,hb1,_⟩:=Nv P us b (off+s.len*i.size) 0 c e w h1 hb (by omega)
   refine ⟨⟨s.a,s.len+x.len,s.cap⟩,w1,?_,⟨by simp [hlen,hxlen,fU],hneed,.inr ⟨b,off,setRow c (off+s.len*i.size+0) us,ha,hB',hb1,by rw [size_setRow];exact hcap,?_⟩⟩,rfl,hu.mono λk _ hk=>⟨_,ha,hk.symm⟩,λk hk=>.inl hk⟩
   ·simp [Builtin.append_,hu1,hu2,hsz,Builtin.lenOf,hneed,hfx,ha,addr_add,hr]
   ·intro j v hj
    rw [Nat.add_zero]
    by_cases hjl:j<vs.length
    ·rw [fZ hjl] at hj
     rw [Jc _ _ _ _ (by omega)];exact hv j v hj
    ·rw [gB (by omega)] at hj
     have hlt:=(fG.1 hj).1
     rw [show off+j=off+s.len*i.size+(j-vs.length) by omega,Rt _ _ _ _ (by omega) hlt]
     exact hj
 ·
  have hle:=nextslicecap_le (need:=s.len+x.len) (old:=s.cap) (by omega)
  have hroom':¬(Builtin.nextslicecap (s.len+x.len) s.cap*i.bytes>2^48):=by
   have:=fV i.bytes hle
   omega
  obtain ⟨nc,hnc,hncl⟩:∃nc,(Question.appendCap (s.len+x.len) s.cap e).cut (w.tape w.drawn (Question.appendCap (s.len+x.len) s.cap e))=nc/\s.len+x.len<=nc:=⟨_,rfl,by simp only [Question.cut];omega⟩
  have hfx':(Builtin.firstCells i.size x.len (.slice x.a x.len x.cap)).run P w.drew=.ok us.toArray w.drew:=Gh P (hx.ext (Ext.drew w))
  have hfs':(Builtin.firstCells i.size s.len (.slice s.a s.len s.cap)).run P w.drew=.ok vs.toArray w.drew:=Gw P (hs.in.ext (Ext.drew w))
  let row:=vs.toArray++us.toArray++Builtin.zeroCells z.cells (nc-(s.len+x.len))
  have hrow:row.size=nc*i.size:=by
   simp only [row,Array.size_append,List.size_toArray,Builtin.zeroCells,Array.size_map,Array.size_range,hzl,hlen,hxlen]
   rw [←fU,←fU]
   congr 1;omega
  refine ⟨⟨some ⟨w.heap.size,0,none⟩,s.len+x.len,nc⟩,w.drew.alloc (.cells row e),?_,⟨by simp [hlen,hxlen,fU],hncl,.inr ⟨w.heap.size,0,row,rfl,hB,heap_alloc w.drew _,by rw [hrow];simp,?_⟩⟩,rfl,
   (Upd.Ed ((Ext.drew w).trans (Ext.alloc w.drew _))),λk hk=>.inr (by obtain ⟨p,hp,rfl⟩:=hk;cases hp;exact fJ _)⟩
  ·have hb0':¬i.bytes=0:=by omega
   simp [Builtin.append_,hu1,hu2,hsz,Builtin.lenOf,hneed,hti,hb0',hroom',gG,hfs',hfx',hzv,newRow,newObj,Sem.run,Question.forced,hnc,row]
  ·intro j v hj
   rw [dU]
   have hlt:=(fG.1 hj).1
   have:row[j]?=(vs++us)[j]?:=by
    simp only [row]
    rw [fH (by simpa using hlt)]
    simp
   rw [this];exact hj
end
structure Je (P:Program) (ts e:TypeId) (sz bytes:Nat):Prop where
 ts_:P.underlying ts=some (.slice e)
 e_:∃i z,P.info? e=some i/\i.size=sz/\i.bytes=bytes/\i.zero=some z/\z.cells.size=sz
 pos:0<bytes
theorem Je.of {P:Program}{ts e:TypeId}{it ie:Inf}(h:Bj P ts it) (he:Bj P e ie) (hd:it.desc=.slice e){z:Value}(hz:ie.zero=some z) (hzs:z.cells.size=ie.size) (hb:0<ie.bytes):Je P ts e ie.size ie.bytes:=by obtain ⟨j,hj,h1,h2,h3⟩:=he.Bx7;exact ⟨by rw [h.und,hd],⟨j,z,hj,h1,h2,h3.trans hz,hzs⟩,hb⟩
section
variable {S:Nat->Prop}{w w':World}{P:Program}
theorem En {ts xt rt e xe:TypeId}{sz bytes:Nat}(E:Je P ts e sz bytes) (hxt:P.underlying xt=some (.slice xe)){B:Nat}{s x:Sl}{vs us:List Value}{K:Sl->Wp}
  (hs:Ar w B s e sz vs) (hx:SlX w x sz us) (h1:∀v∈us,Gn v=true) (hroom:(s.len+x.len+(s.len+x.len)/4+512)*bytes<=2^48) (hB:B<=w.heap.size)
  (h:∀s' w',Ar w' B s' e sz (vs++us)->s'.len=s.len+x.len->Upd s.blk w w'->(∀k,s'.blk k->s.blk k\/w.heap.size<=k)->K s' w') :
  Du P (.one (.one .sl)) (Builtin.append_ #[ts,xt] rt #[.slice s.a s.len s.cap,.slice x.a x.len x.cap]) K w:=by obtain ⟨i,z,hi,rfl,rfl,hz,hzs⟩:=E.e_;obtain ⟨s',w',hr,ho,hl,hu,hb⟩:=Bt8 (rt:=rt) P E.ts_ hxt hi hz hs hx h1 hzs hroom E.pos hB;exact ⟨s',w',hr,h s' w' ho hl hu hb⟩
theorem Bl2 {ts xt rt e xe:TypeId}{sz bytes:Nat}(E:Je P ts e sz bytes) (hxt:P.underlying xt=some (.slice xe)){B:Nat}{s x:Sl}{t':TypeId}{vs us:List Value}{K:Sl->Wp}
  (hs:Ar w B s e sz vs) (hx:Bl w x t' sz us) (h1:∀v∈us,Gn v=true) (hroom:(s.len+x.len+(s.len+x.len)/4+512)*bytes<=2^48) (hB:B<=w.heap.size)
  (h:∀s' w',Ar w' B s' e sz (vs++us)->s'.len=s.len+x.len->Upd s.blk w w'->(∀k,s'.blk k->s.blk k\/w.heap.size<=k)->K s' w') :
  Du P (.one (.one .sl)) (Builtin.append_ #[ts,xt] rt #[.slice s.a s.len s.cap,.slice x.a x.len x.cap]) K w:=by exact En E hxt hs hx.x h1 hroom hB h
theorem Be8 {s:Sl}{t:TypeId}{sz:Nat}{vs:List Value}{l h m:Int}{K:Sl->Wp}(hs:Bl w s t sz vs) (h0:0<=l) (h1:l<=h) (h2:h<=s.len) (h3:h<=m) (h4:m<=s.cap)
  (hK:∀s',Bl w s' t sz ((vs.drop (l.toNat*sz)).take ((h.toNat-l.toNat)*sz))->s'.len=h.toNat-l.toNat->(s'.a=none↔s.a=none)->(∀k,s'.blk k->s.blk k)->K s' w):slc s.a l h m s.cap sz K w:=by
 refine ⟨(),⟨h0,h1,h3,h4⟩,hK _ ⟨?_,?_,?_⟩ rfl ?_ ?_⟩;{show ((vs.drop (l.toNat*sz)).take ((h.toNat-l.toNat)*sz)).length=(h.toNat-l.toNat)*sz;rw [gI,gJ,hs.len,←Nat.sub_mul];exact gK (fV _ (by omega))};{show h.toNat-l.toNat<=m.toNat-l.toNat;omega}
 ·rcases hs.at_ with ⟨ha,hc⟩|⟨b,off,c,fr,ha,hb,hcap,hv⟩;{refine .inl ⟨?_,?_⟩;{show (if m.toNat=l.toNat then s.a else s.a.map _)=none;rw [ha];split<;>rfl};{show m.toNat-l.toNat=0;omega}}
  ·have hin:∀j v,((vs.drop (l.toNat*sz)).take ((h.toNat-l.toNat)*sz))[j]?=some v->c[off+l.toNat*sz+j]?=some v:=by
    intro j v hj
    rw [gQ] at hj
    split at hj
    ·rw [gU] at hj
     rw [Nat.add_assoc];exact hv _ _ hj
    ·cases hj
   by_cases hml:m.toNat=l.toNat;{refine .inr ⟨b,off,c,fr,?_,hb,?_,?_⟩;{show (if m.toNat=l.toNat then s.a else s.a.map _)=_;rw [aF hml,ha]};{show off+(m.toNat-l.toNat)*sz<=c.size;rw [hml,Nat.sub_self,fQ];omega};{intro j v hj;have:h.toNat-l.toNat=0:=(by omega);rw [this,fQ] at hj;cases hj}};{refine .inr ⟨b,off+l.toNat*sz,c,fr,?_,hb,?_,hin⟩;{show (if m.toNat=l.toNat then s.a else s.a.map _)=_;rw [aJ hml,ha,Ei];simp [addr_add]};{show off+l.toNat*sz+(m.toNat-l.toNat)*sz<=c.size;(have:l.toNat*sz+(m.toNat-l.toNat)*sz=m.toNat*sz:=by rw [←fU];congr 1;omega);have h5:m.toNat*sz<=s.cap*sz:=fV _ (by omega);omega}}
 {show (if m.toNat=l.toNat then s.a else s.a.map _)=none↔_;split<;>simp}
 ·rintro k ⟨p,hp,rfl⟩;have hp:(if m.toNat=l.toNat then s.a else s.a.map (·.add (scaled l.toNat sz)))=some p:=hp;split at hp;{exact ⟨p,hp,rfl⟩}
  ·cases ha:s.a with
   |none=>rw [ha] at hp;cases hp
   |some q=>rw [ha] at hp;cases hp;exact ⟨q,ha,by unfold Addr.add;split<;>rfl⟩
structure Dd2 (P:Program) (t:TypeId) (z:Value):Prop where
 ok:∃kt et,P.underlying t=some (.map kt et)/\P.underlying kt=some (.int .i64)/\∀w,(zeroValue et).run P w=.ok z w
theorem Dd2.of {t kt et:TypeId}{i ik ie:Inf}(h:Bj P t i) (hk:Bj P kt ik) (he:Bj P et ie) (hd:i.desc=.map kt et) (hkd:ik.desc=.int .i64){z:Value}(hz:ie.zero=some z):Dd2 P t z :=
 ⟨kt,et,by rw [h.und,hd],by rw [hk.und,hkd],λw=>he.Rh w hz⟩
theorem Bm3 {m:Nat}{o o':Obj}(hm:w.heap[m]?=some o):Upd (λk=>k=m) w { w with heap:=w.heap.setIfInBounds m o' }/\(w.heap.setIfInBounds m o')[m]?=some o':=by have hlt:=lt_of_heap hm;refine ⟨⟨rfl,rfl,rfl,by simp,λk hk hn=>?_⟩,by simp [hlt]⟩;simp only;rw [eX (λh=>hn h.symm)]
theorem Ac {b:Bool}{A B:World->Prop}(h1:b=true->A w) (h2:b=false->B w):sif b A B w:=⟨h1,h2⟩
theorem Ae {T:Type}{body:(T->Wp)->Wp}{rest:T->Wp}(J:T->Wp) (hb:body J w) (hr:∀s w',J s w'->rest s w'):join body rest w:=⟨J,hb,hr⟩
theorem Ba {T:Type}{body:T->(T->Wp)->Wp}{s0:T}(I:T->Wp) (μ:T->World->Nat) (h0:I s0 w)
  (hr:∀s w',I s w'->body s (λs' w''=>I s' w''/\μ s' w''<μ s w') w'):Hr body s0 w:=⟨I,μ,h0,hr⟩
theorem Bg {p K:World->Prop}(h1:p w) (h2:K w):keep p K w:=⟨h1,h2⟩
theorem Dc {c:Prop}{K:World->Prop}(h1:c) (h2:K w):chk c K w:=⟨(),h1,h2⟩
theorem Az {a b:Bool}(h:a=true↔b=true):(a,())=(b,()):=by rw [gV.2 h]
theorem Ew {c:Cell}{s:Sl}{t:TypeId}{xs:List c.T}{n:Int}{K:Addr->c.T->Wp}(h:Bl w s t 1 (xs.map c.val)) (h0:0<=n){x:c.T}(hx:xs[n.toNat]?=some x) (hK:∀p,K p x w) :
  ix s.a s.len n (λp=>ld c (p.add (scaled (Int.toNat n) 1)) (K p)) w:=by have hlt:=(fG.1 hx).1;have hl:=h.len;rw [gW,dS] at hl;refine h.ix h0 (by omega) (by omega) λb off ha hv=>?_;rw [addr_add];refine F5 (x:=x) ?_ (hK _);have:=hv 0 (c.val x) (by rw [dS,Nat.add_zero,gX,hx];rfl);simpa [scaled] using this
theorem Bl.len1 {s:Sl}{t:TypeId}{vs:List Value}(h:Bl w s t 1 vs):vs.length=s.len:=by have:=h.len;omega
theorem Ar.len1 {B:Nat}{s:Sl}{t:TypeId}{vs:List Value}(h:Ar w B s t 1 vs):vs.length=s.len:=by have:=h.len;omega
end
structure St (M:Nat->Prop) (w0 w:World) (ls:List (Nat×Obj)):Prop where
 upd:Upd M w0 w
 old:∀k,M k->k<w0.heap.size
 loc:∀x∈ls,w.heap[x.1]?=some x.2/\w0.heap.size<=x.1
 nd:(ls.map (·.1)).Nodup
section
variable {M:Nat->Prop}{w0 w:World}{ls:List (Nat×Obj)}
theorem St.start (w:World):St (λ_=>False) w w []:=⟨Upd.refl _ _,λ_ h=>h.elim,(λ_ h=>by cases h),bZ⟩
theorem St.Cl6 (M:Nat->Prop) (w:World) (h:∀k,M k->k<w.heap.size):St M w w []:=⟨Upd.refl _ _,h,(λ_ h=>by cases h),bZ⟩
theorem St.at_ (S:St M w0 w ls) (i:Nat){b:Nat}{o:Obj}(h:ls[i]?=some (b,o)):w.heap[b]?=some o:=(S.loc _ (eY h)).1
theorem St.ge (S:St M w0 w ls) (i:Nat){b:Nat}{o:Obj}(h:ls[i]?=some (b,o)):w0.heap.size<=b:=(S.loc _ (eY h)).2
theorem St.step (S:St M w0 w ls){M':Nat->Prop}{w':World}(u:Upd M' w w') (hM:∀k,M' k->M k):St M w0 w' ls :=
 ⟨S.upd.new u λk _ h=>hM k h,S.old,λx hx=>⟨u.get (S.loc x hx).1 λh=>by have:=S.old _ (hM _ h);have:=(S.loc x hx).2;omega,(S.loc x hx).2⟩,S.nd⟩
theorem St.ext (S:St M w0 w ls){w':World}(u:Ext w w'):St M w0 w' ls:=S.step u λ_ h=>h.elim
theorem St.fresh (S:St M w0 w ls){M':Nat->Prop}{w':World}(u:Upd M' w w') (hM:∀k,M' k->M k\/w0.heap.size<=k) (hb:∀x∈ls,¬M' x.1):St M w0 w' ls :=
 ⟨S.upd.new u λk hk h=>(hM k h).resolve_right (by omega),S.old,λx hx=>⟨u.get (S.loc x hx).1 (hb x hx),(S.loc x hx).2⟩,S.nd⟩
theorem St.tail {x:Nat×Obj}(S:St M w0 w (x::ls)):St M w0 w ls:=⟨S.upd,S.old,λy hy=>S.loc y (aI _ hy),(bU.1 S.nd).2⟩
theorem St.Am1 (S:St M w0 w ls){o:Obj}{K:Nat->Wp}(h:∀b w1,St M w0 w1 ((b,o)::ls)->Ext w w1->b=w.heap.size->K b w1):Go.Vx.Af o K w:=by refine Cm λb w1 e n hb _=>h b w1 ⟨S.upd.new e λ_ _ h=>h.elim,S.old,λx hx=>?_,?_⟩ e hb;{rcases aG.1 hx with rfl|hx;{exact ⟨n,by rw [hb];exact S.upd.size⟩};{exact ⟨e.ext_get (S.loc x hx).1,(S.loc x hx).2⟩}};{refine bU.2 ⟨λhm=>?_,S.nd⟩;obtain ⟨x,hx,he⟩:=gY.1 hm;have:=lt_of_heap (S.loc x hx).1;simp only at he;omega}
theorem St.Af (S:St M w0 w ls){o:Obj}{K:Nat->Wp}(h:∀b w1,St M w0 w1 ((b,o)::ls)->Ext w w1->K b w1):Go.Vx.Af o K w:=S.Am1 λb w1 S e _=>h b w1 S e
theorem St.drew (S:St M w0 w ls){K:World->Prop}(h:∀w1,St M w0 w1 ls->Ext w w1->w1.heap=w.heap->K w1):Go.Vx.drew K w:=Ci λw1 e he=>h w1 (S.ext e) e he
theorem St.ld (S:St M w0 w ls) (i:Nat){c:Cell}{b off:Nat}{K:c.T->Wp}{x:c.T}{cs:Array Value}{t:TypeId}{fr:Nat×Nat}(hi:ls[i]?=some (b,.cells cs t fr)) (hc:cs[off]?=some (c.val x)) (h:K x w) :
  Go.Vx.ld c ⟨b,off,none⟩ K w:=Ce (S.at_ i hi) hc h
theorem St.lds (S:St M w0 w ls) (i:Nat){cs:List Cell}{b:Nat}{K:Cells.T cs->Wp}(x:Cells.T cs){t:TypeId}{fr:Nat×Nat}(hi:ls[i]?=some (b,.cells (Cells.vals cs x).toArray t fr)) (h:K x w) :
  Go.Vx.lds cs ⟨b,0,none⟩ K w:=Qh (S.at_ i hi) (λj v hv=>by rw [dU];simpa using hv) h
theorem P7 (vs:List Value) (c:Array Value) (h:c.size=vs.length):setRow c 0 vs=vs.toArray:=by apply Array.ext_getElem?;intro i;by_cases hi:i<vs.length;{have:=Rt vs c 0 i (by omega) hi;rw [dU] at this;rw [this];simp};{rw [F8 _ _ _ _ (by omega)];simp [Array.getElem?_eq_none,h,Nat.le_of_not_lt hi]}
theorem Ah2 {i b:Nat}{o o':Obj}{w1:World}(S:St M w0 w ls) (hi:ls[i]?=some (b,o)) (u:Upd (λk=>k=b) w w1) (hb:w1.heap[b]?=some o'):St M w0 w1 (ls.set i (b,o')):=by
 have hge:=S.ge i hi;refine ⟨S.upd.new u λk hk h=>by omega,S.old,λx hx=>?_,?_⟩;{obtain ⟨j,hj⟩:=gZ hx;rw [List.getElem?_set] at hj;split at hj;{split at hj;{cases hj;exact ⟨hb,hge⟩};{cases hj}};{rename_i hne;have hm:=eY hj;refine ⟨u.get (S.loc x hm).1 λe=>?_,(S.loc x hm).2⟩;have hnd:=S.nd;(have h1:(ls.map (·.1))[i]?=some b:=by rw [gX,hi];rfl);(have h2:(ls.map (·.1))[j]?=some b:=by rw [gX,hj,←e];rfl);have hil:=(fG.1 h1).1;exact hne ((List.getElem?_inj hil hnd).1 (h1.trans h2.symm))}}
 ·rw [List.map_set];(have h1:(ls.map (·.1))[i]?=some b:=by rw [gX,hi];rfl);have e:(ls.map (·.1)).set i b=ls.map (·.1):=by
   apply iC
   intro j
   rw [List.getElem?_set]
   split
   ·rename_i hij
    subst hij
    rw [h1]
    split
    ·rfl
    ·rename_i hn;exact absurd (fG.1 h1).1 hn
   ·rfl
  simp only;rw [e];exact S.nd
theorem St.Ad (S:St M w0 w ls) (i:Nat){b n:Nat}{vs:Array Value}{K:World->Prop}{c:Array Value}{t:TypeId}(hi:ls[i]?=some (b,.cells c t (0,0))) (hn:vs.size=n) (hc:c.size=n) (h1:vs.toList.all Gn=true)
  (h:∀w1,St M w0 w1 (ls.set i (b,.cells vs t (0,0)))->Upd (λk=>k=b) w w1->K w1):Go.Vx.Ad ⟨b,0,none⟩ (.agg vs) n K w:=by refine Zy (S.at_ i hi) hn h1 (by omega) λw1 u hb _=>h w1 ?_ u;rw [P7 vs.toList c (by simp;omega)] at hb;exact Ah2 S hi u (by simpa using hb)
theorem St.stC (S:St M w0 w ls) (i:Nat){b off:Nat}{v:Value}{K:World->Prop}{c:Array Value}{t:TypeId}(hi:ls[i]?=some (b,.cells c t (0,0))) (ho:off<c.size)
  (h:∀w1,St M w0 w1 (ls.set i (b,.cells (c.setIfInBounds off v) t (0,0)))->Upd (λk=>k=b) w w1->K w1):Go.Vx.stC ⟨b,off,none⟩ v K w :=
 Jm (S.at_ i hi) ho λw1 u hb _=>h w1 (Ah2 S hi u hb) u
theorem St.Fp (S:St M w0 w ls){n:Nat}{t:TypeId}{vs c:Array Value}{K:Nat->Wp}(hn:vs.size=n) (hc:c.size=n) (h1:vs.toList.all Gn=true)
  (h:∀b w1,St M w0 w1 ((b,.cells vs t (0,0))::ls)->Ext w w1->K b w1):Go.Vx.Af (.cells c t) (λb=>Go.Vx.Ad (at0 b) (.agg vs) n (K b)) w:=by refine S.Am1 λb w1 S1 e1 hb=>S1.Ad 0 rfl hn hc h1 λw2 S2 u2=>h b w2 S2 (e1.step u2 ?_);rintro k rfl;omega
theorem Bl.box {s:Sl}{t t':TypeId}{sz:Nat}{vs:List Value}{b:Nat}{c:Array Value}{fr:Nat×Nat}{w1:World}(h:Bl w s t sz vs) (hb:w.heap[b]?=some (.cells c t' fr)) (ht:t≠t') (u:Upd (λk=>k=b) w w1):Bl w1 s t sz vs:=by refine h.upd u λk hk e=>?_;obtain ⟨p,hp,rfl⟩:=hk;rcases h.at_ with ⟨hn,_⟩|⟨b',off,c',fr',ha,hb',_⟩;{rw [hn] at hp;cases hp};{rw [ha] at hp;cases hp;simp only at e;rw [e,hb] at hb';cases hb';exact ht rfl}
theorem Ar.box {B:Nat}{s:Sl}{t t':TypeId}{sz:Nat}{vs:List Value}{b:Nat}{c:Array Value}{fr:Nat×Nat}{w1:World}(h:Ar w B s t sz vs) (hb:w.heap[b]?=some (.cells c t' fr)) (ht:t≠t') (u:Upd (λk=>k=b) w w1):Ar w1 B s t sz vs:=by refine h.upd u λk _ hk e=>?_;obtain ⟨p,hp,rfl⟩:=hk;rcases h.at_ with ⟨hn,_⟩|⟨b',off,c',ha,_,hb',_⟩;{rw [hn] at hp;cases hp};{rw [ha] at hp;cases hp;simp only at e;rw [e,hb] at hb';cases hb';exact ht rfl}
theorem Bl.Jp {b n sz:Nat}{c:Array Value}{t:TypeId}{fr:Nat×Nat}(hb:w.heap[b]?=some (.cells c t fr)) (h:c.size=n*sz):Bl w ⟨some (at0 b),n,n⟩ t sz c.toList :=
 ⟨by simpa using h,fJ _,.inr ⟨b,0,c,fr,rfl,hb,by simp only;omega,λi v hv=>by rw [dU];simpa using hv⟩⟩
theorem St.keep (S:St M w0 w ls) (i:Nat){b off:Nat}{v:Value}{cs:Array Value}{t:TypeId}{fr:Nat×Nat}{K:World->Prop}(hi:ls[i]?=some (b,.cells cs t fr)) (hc:cs[off]?=some v) (h:K w) :
  Go.Vx.keep (λw=>w.cell? ⟨b,off,none⟩=some v) K w:=⟨cell_of (S.at_ i hi) hc,h⟩
theorem St.keeps (S:St M w0 w ls) (i:Nat){b:Nat}{cs:List Cell}{x:Cells.T cs}{t:TypeId}{fr:Nat×Nat}{K:World->Prop}(hi:ls[i]?=some (b,.cells (Cells.vals cs x).toArray t fr)) (h:K w) :
  Go.Vx.keep (λw=>Ap w ⟨b,0,none⟩ 0 (Cells.vals cs x)) K w :=
 ⟨Gj _ 0 λj v hj=>by rw [dU,dU];exact cell_of (S.at_ i hi) (by simpa using hj),h⟩
end
theorem Gm:∀(cs:List Cell) (x:Cells.T cs),(Cells.vals cs x).length=cs.length
 |[],_=>rfl
 |c::r,x=>by simp [Cells.vals,Gm r x.2]
def flat (cs:List Cell) (xs:List (Cells.T cs)):List Value:=xs.flatMap (Cells.vals cs)
theorem Nu (cs:List Cell) (xs ys:List (Cells.T cs)):flat cs (xs++ys)=flat cs xs++flat cs ys:=by simp [flat]
theorem V9 (cs:List Cell) (x:Cells.T cs):flat cs [x]=Cells.vals cs x:=by simp [flat]
theorem Ao1 (cs:List Cell):∀xs:List (Cells.T cs),(flat cs xs).length=xs.length*cs.length
 |[]=>by simp [flat]
 |x::r=>by
  have:=Ao1 cs r
  simp only [flat] at this ⊢
  rw [iD,iE,Gm,this,dB,iF]
  omega
theorem flat_get (cs:List Cell):∀(xs:List (Cells.T cs)) (n j:Nat) (x:Cells.T cs),xs[n]?=some x->j<cs.length->(flat cs xs)[n*cs.length+j]?=(Cells.vals cs x)[j]?
 |[],n,j,x,h,_=>by simp at h
 |y::r,0,j,x,h,hj=>by
  simp at h
  subst h
  simp only [flat,iD,fQ,dU]
  rw [fZ (by rw [Gm];exact hj)]
 |y::r,n+1,j,x,h,hj=>by
  have ih:=flat_get cs r n j x (by simpa using h) hj
  simp only [flat,iD] at ih ⊢
  rw [gB (by rw [Gm,iF];omega),Gm,←ih]
  congr 1
  rw [iF];omega
section
variable {w:World}
theorem Bl.Na {s:Sl}{t:TypeId}{cs:List Cell}{xs:List (Cells.T cs)}(h:Bl w s t cs.length (flat cs xs)) (hc:0<cs.length):xs.length=s.len:=by have:=h.len;rw [Ao1] at this;exact iG hc this
theorem Ar.Na {B:Nat}{s:Sl}{t:TypeId}{cs:List Cell}{xs:List (Cells.T cs)}(h:Ar w B s t cs.length (flat cs xs)) (hc:0<cs.length):xs.length=s.len:=h.in.Na hc
theorem Xe {cs:List Cell}{s:Sl}{t:TypeId}{xs:List (Cells.T cs)}{n:Int}{K:Addr->Cells.T cs->Wp}(h:Bl w s t cs.length (flat cs xs)) (hc:0<cs.length) (h0:0<=n){x:Cells.T cs}(hx:xs[n.toNat]?=some x) (hK:∀p,K p x w) :
  ix s.a s.len n (λp=>lds cs (p.add (scaled (Int.toNat n) cs.length)) (K p)) w:=by
 have hlt:=(fG.1 hx).1;have hl:=h.Na hc;refine h.ix h0 (by omega) hc λb off ha hv=>?_;rw [addr_add];refine ⟨x,Gj _ 0 λj v hj=>?_,hK _⟩;have hjl:j<cs.length:=by
  have:=(fG.1 hj).1
  rwa [Gm] at this
 have:=hv j v (by rw [flat_get cs xs _ j x hx hjl];exact hj);simpa [Ei] using this
theorem An4 {c:Cell}{cs:List Cell}{s:Sl}{t:TypeId}{xs:List (Cells.T cs)}{n:Int}{j:Nat}{K:Addr->c.T->Wp}(h:Bl w s t cs.length (flat cs xs)) (h0:0<=n){x:Cells.T cs}{y:c.T}(hx:xs[n.toNat]?=some x) (hy:(Cells.vals cs x)[j]?=some (c.val y)) (hK:∀p,K p y w) :
  ix s.a s.len n (λp=>ld c ((p.add (scaled (Int.toNat n) cs.length)).add j) (K p)) w:=by
 have hlt:=(fG.1 hx).1;have hjl:j<cs.length:=by
  have:=(fG.1 hy).1
  rwa [Gm] at this
 have hl:=h.Na (by omega);refine h.ix h0 (by omega) (by omega) λb off ha hv=>?_;rw [addr_add,addr_add];refine F5 (x:=y) ?_ (hK _);have:=hv j (c.val y) (by rw [flat_get cs xs _ j x hx hjl];exact hy);simpa [Ei] using this
theorem Bx6 {c:Cell}{cs:List Cell}{s:Sl}{t:TypeId}{xs:List (Cells.T cs)}{n:Int}{K:Addr->c.T->Wp}(h:Bl w s t cs.length (flat cs xs)) (h0:0<=n){x:Cells.T cs}{y:c.T}(hx:xs[n.toNat]?=some x) (hy:(Cells.vals cs x)[0]?=some (c.val y)) (hK:∀p,K p y w) :
  ix s.a s.len n (λp=>ld c (p.add (scaled (Int.toNat n) cs.length)) (K p)) w:=by
 have hlt:=(fG.1 hx).1;have hjl:0<cs.length:=by
  have:=(fG.1 hy).1
  rwa [Gm] at this
 have hl:=h.Na (by omega);refine h.ix h0 (by omega) (by omega) λb off ha hv=>?_;rw [addr_add];refine F5 (x:=y) ?_ (hK _);have:=hv 0 (c.val y) (by rw [flat_get cs xs _ 0 x hx hjl];exact hy);simpa [Ei] using this
theorem SlX.Av6 {s:Sl}{sz:Nat}{vs:List Value}(h:SlX w s sz vs) (hl:0<s.len):∃t,Bl w s t sz vs:=by rcases h.at_ with ⟨h1,_⟩|h;{omega};{exact h}
theorem SlX.len1 {s:Sl}{vs:List Value}(h:SlX w s 1 vs):vs.length=s.len:=by have:=h.len;omega
theorem SlX.Na {s:Sl}{cs:List Cell}{xs:List (Cells.T cs)}(h:SlX w s cs.length (flat cs xs)) (hc:0<cs.length):xs.length=s.len:=by have:=h.len;rw [Ao1] at this;exact iG hc this
theorem Bb4 {c:Cell}{s:Sl}{xs:List c.T}{n:Int}{K:Addr->c.T->Wp}(h:SlX w s 1 (xs.map c.val)) (h0:0<=n){x:c.T}(hx:xs[n.toNat]?=some x) (hK:∀p,K p x w) :
  ix s.a s.len n (λp=>ld c (p.add (scaled (Int.toNat n) 1)) (K p)) w:=by have hlt:=(fG.1 hx).1;have hl:=h.len1;rw [gW] at hl;obtain ⟨t,h⟩:=h.Av6 (by omega);exact Ew h h0 hx hK
theorem Bx5 {cs:List Cell}{s:Sl}{xs:List (Cells.T cs)}{n:Int}{K:Addr->Cells.T cs->Wp}(h:SlX w s cs.length (flat cs xs)) (hc:0<cs.length) (h0:0<=n){x:Cells.T cs}(hx:xs[n.toNat]?=some x) (hK:∀p,K p x w) :
  ix s.a s.len n (λp=>lds cs (p.add (scaled (Int.toNat n) cs.length)) (K p)) w:=by have hlt:=(fG.1 hx).1;have hl:=h.Na hc;obtain ⟨t,h⟩:=h.Av6 (by omega);exact Xe h hc h0 hx hK
end
section
variable {S:Nat->Prop}{w w':World}
theorem Bl.Fv {s:Sl}{t:TypeId}{sz:Nat}{vs:List Value}(h:Bl w s t sz vs){k:Nat}(hk:s.blk k):∃c fr,w.heap[k]?=some (.cells c t fr):=by obtain ⟨p,hp,rfl⟩:=hk;rcases h.at_ with ⟨hn,_⟩|⟨b,off,c,fr,h1,h2,_⟩;{rw [hn] at hp;cases hp};{rw [h1] at hp;cases hp;exact ⟨c,fr,h2⟩}
def Gs (w:World) (S:Nat->Prop) (t:TypeId):Prop:=∀k,S k->∀c fr,w.heap[k]?≠some (.cells c t fr)
theorem Bl.ty {s:Sl}{t:TypeId}{sz:Nat}{vs:List Value}(h:Bl w s t sz vs) (u:Upd S w w') (hS:Gs w S t):Bl w' s t sz vs :=
 h.upd u λk hk hSk=>by obtain ⟨c,fr,hc⟩:=h.Fv hk;exact hS k hSk c fr hc
theorem Ar.ty {B:Nat}{s:Sl}{t:TypeId}{sz:Nat}{vs:List Value}(h:Ar w B s t sz vs) (u:Upd S w w') (hS:Gs w S t):Ar w' B s t sz vs :=
 h.upd u λk _ hk hSk=>by obtain ⟨c,fr,hc⟩:=h.in.Fv hk;exact hS k hSk c fr hc
theorem Gs.blk {s:Sl}{t t':TypeId}{sz:Nat}{vs:List Value}(h:Bl w s t sz vs) (ht:t≠t'):Gs w s.blk t':=by intro k hk c fr hc;obtain ⟨c',fr',hc'⟩:=h.Fv hk;rw [hc] at hc';cases hc';exact ht rfl
theorem Gs.box {b:Nat}{t t':TypeId}{c:Array Value}{fr:Nat×Nat}(h:w.heap[b]?=some (.cells c t fr)) (ht:t≠t'):Gs w (λk=>k=b) t':=by rintro k rfl c' fr' hc;rw [hc] at h;cases h;exact ht rfl
end
section
variable {w w':World}{P:Program}
theorem Af0 {ts e:TypeId}{ie:Inf}{z:Value}(hts:P.underlying ts=some (.slice e)) (he:Bj P e ie) (hz:ie.zero=some z) (hzs:z.cells.size=ie.size){n:Int}{K:Sl->Wp}(h0:0<=n) (hn:n*ie.bytes<=2^48) (hn2:n<=9223372036854775807)
  (hK:∀b w' c,w'.heap[b]?=some (.cells c e (0,0))->c.size=n.toNat*ie.size->(∀i,i<c.size->c[i]?=z.cells[i%ie.size]?)->Ext w w'->b=w.heap.size->K ⟨some (at0 b),n.toNat,n.toNat⟩ w') :
  Du P (.one (.one .sl)) (Instr.makeSlice ts (.int .i64 n) (.int .i64 n)) K w:=by
 obtain ⟨j,hj,hs,hb,hz'⟩:=he.Bx7;have hw:IntKind.i64.wrap n=n:=IntWalk.i64_in _ ⟨by omega,hn2⟩;have hu:=λW=>cZ hts W;have hti:∀W,(typeInfo e).run P W=.ok j W:=λW=>dA W hj;have hsz:∀W,(sizeOf e).run P W=.ok ie.size W:=λW=>he.Gv W;have hzv:∀W,(zeroValue e).run P W=.ok z W:=λW=>he.Rh W hz;have hlarge:(decide (n<0)||decide ((j.bytes:Int)*n>2^48))=false:=by
  rw [hb,Int.mul_comm]
  simp only [eF,iH]
  omega
 obtain ⟨c,hc⟩:∃c:Array Value,c=(Array.range (n.toNat*ie.size)).map (λk=>(if n.toNat*ie.size=0 then (#[]:Array Value) else z.cells)[k%(if n.toNat*ie.size=0 then (#[]:Array Value) else z.cells).size]!):=⟨_,rfl⟩;refine ⟨⟨some (at0 w.heap.size),n.toNat,n.toNat⟩,w.alloc (.cells c e),?_,hK _ _ c (heap_alloc w _) (by rw [hc];simp) (λi hi=>?_) (Ext.alloc w _) rfl⟩;{have hlt:¬n<0:=(by omega);(have hgt:¬((j.bytes:Int)*n>2^48):=by rw [hb,Int.mul_comm];omega);have hgt2:¬(281474976710656<(j.bytes:Int)*n):=(by omega);by_cases hz0:n.toNat*ie.size=0;{simp only [hz0,aP] at hc;simp only [Instr.makeSlice,aA,hu,aB,asInt,asIntOf,aC,hti,hw,hlarge,bD,iI,hlt,hsz];simp [hgt2,gG,hsz,hz0,newRow,newObj,Sem.run,dV,hc,RTy.val,Ty.val,Cell.val]};{simp only [hz0,dP] at hc;simp only [Instr.makeSlice,aA,hu,aB,asInt,asIntOf,aC,hti,hw,hlarge,bD,iI,hlt,hsz];simp [hgt2,gG,hsz,hz0,hzv,newRow,newObj,Sem.run,dV,hc,RTy.val,Ty.val,Cell.val]}};{rw [hc] at hi ⊢;have hi:i<n.toNat*ie.size:=(by simpa using hi);have hz0:¬n.toNat*ie.size=0:=(by omega);have hpos:0<ie.size:=Nat.pos_of_ne_zero λh=>hz0 (by rw [h];simp);(have hm:i%ie.size<z.cells.size:=by rw [hzs];exact Nat.mod_lt _ hpos);simp only [aJ hz0];have hg:z.cells[i%ie.size]! = z.cells[i%ie.size]:=getElem!_pos z.cells _ hm;rw [Array.getElem?_map,iJ (by simpa using hi),iJ hm];simp only [bI,Array.getElem_range,hzs,hg]}
theorem Cs3 {ts xt rt e:TypeId}{sz:Nat}(hts:P.underlying ts=some (.slice e)) (hsz:∀w,(sizeOf e).run P w=.ok sz w){b off dl dc:Nat}{c:Array Value}{t:TypeId}{x:Sl}{us:List Value}{K:Int->Wp}
  (hb:w.heap[b]?=some (.cells c t (0,0))) (hfit:off+us.length<=c.size) (hx:SlX w x sz us) (hle:x.len<=dl) (h1:∀v∈us,Gn v=true)
  (hK:∀w',w'.heap[b]?=some (.cells (setRow c off us) t (0,0))->Upd (λk=>k=b) w w'->w'.heap.size=w.heap.size->K x.len w') :
  Du P (.one (.one (.int .i64))) (Builtin.copy_ #[ts,xt] rt #[.slice (some ⟨b,off,none⟩) dl dc,.slice x.a x.len x.cap]) K w:=by obtain ⟨w1,hr,hu,hb1,hz⟩:=Nv P us b off 0 c t w h1 hb (by omega);refine ⟨x.len,w1,?_,hK w1 (by simpa using hb1) hu hz⟩;have hmin:Nat.min x.len dl=x.len:=gK hle;have hfx:=Gh P hx;simp [Builtin.copy_,cZ hts,Builtin.lenOf,hsz,hmin,hfx,hr,goInt,RTy.val,Ty.val,Cell.val]
end
section
variable {w w':World}{P:Program}
theorem Bl1 (P:Program){ts xt rt:TypeId}{e xe:TypeId}{i:TypeInfo}{z:Value}(hts:P.underlying ts=some (.slice e)) (hxt:P.underlying xt=some (.slice xe)) (hi:P.info? e=some i) (hz:i.zero=some z)
  {B:Nat} {s x:Sl} {vs us:List Value} (hs:Ar w B s e i.size vs) (hx:SlX w x i.size us) (h1:∀v∈us,Gn v=true) (hzl:z.cells.size=i.size)
  (hroom:(s.len+x.len+(s.len+x.len)/4+512)*i.bytes<=2^48) (hb0:0<i.bytes) (hB:B<=w.heap.size) :
  ∃s' w',(Builtin.append_ #[ts,xt] rt #[.slice s.a s.len s.cap,.slice x.a x.len x.cap]).run P w=.ok (.slice s'.a s'.len s'.cap) w'/\Ar w' B s' e i.size (vs++us)/\s'.len=s.len+x.len /\
   Upd (λk=>s.blk k) w w'/\(∀k,s'.blk k->s.blk k\/w.heap.size<=k)/\(Ext w w'\/∃b off c,s.a=some ⟨b,off,none⟩/\w.heap[b]?=some (.cells c e (0,0))/\w'.heap[b]?=some (.cells (setRow c (off+s.len*i.size) us) e (0,0))):=by
 have hfx:=Gh P hx
 have hfs:=Gw P hs.in
 have hu1:=λW=>cZ hts W
 have hu2:=λW=>cZ hxt W
 have hsz:∀W,(sizeOf e).run P W=.ok i.size W:=λW=>by simp [sizeOf,dA W hi]
 have hti:∀W,(typeInfo e).run P W=.ok i W:=λW=>dA W hi
 have hzv:∀W,(zeroValue e).run P W=.ok z W:=λW=>by simp [zeroValue,dA W hi,hz]
 have hlen:=hs.len
 have hxlen:=hx.len
 by_cases hneed:s.len+x.len<=s.cap
 ·
  rcases hs.at_ with ⟨ha,hc⟩|⟨b,off,c,ha,hB',hb,hcap,hv⟩
  ·have hl0:x.len=0:=by omega
   have hsl:s.len=0:=by omega
   have hus:us=[]:=by rw [hl0,fQ] at hxlen;exact bF.1 hxlen
   refine ⟨⟨none,0,s.cap⟩,w,?_,⟨by simp [hus,hlen,hsl],by simp,.inl ⟨rfl,hc⟩⟩,by simp [hl0,hsl],Upd.refl _ _,(λk hk=>by obtain ⟨p,hp,_⟩:=hk;cases hp),.inl (Ext.refl w)⟩
   have hfx':(Builtin.firstCells i.size 0 (.slice x.a 0 x.cap)).run P w=.ok #[] w:=by rw [hl0,hus] at hfx;exact hfx
   simp [Builtin.append_,hu1,hu2,hsz,Builtin.lenOf,hl0,hsl,ha,hfx',hc]
  ·have hfit:s.len*i.size+us.length<=s.cap*i.size:=by
    rw [hxlen,←fU];exact fV _ hneed
   obtain ⟨w1,hr,hu,hb1,_⟩:=Nv P us b (off+s.len*i.size) 0 c e w h1 hb (by omega)
   refine ⟨⟨s.a,s.len+x.len,s.cap⟩,w1,?_,⟨by simp [hlen,hxlen,fU],hneed,.inr ⟨b,off,setRow c (off+s.len*i.size+0) us,ha,hB',hb1,by rw [size_setRow];exact hcap,?_⟩⟩,rfl,hu.mono λk _ hk=>⟨_,ha,hk.symm⟩,λk hk=>.inl hk,.inr ⟨b,off,c,ha,hb,hb1⟩⟩
   ·simp [Builtin.append_,hu1,hu2,hsz,Builtin.lenOf,hneed,hfx,ha,addr_add,hr]
   ·intro j v hj
    rw [Nat.add_zero]
    by_cases hjl:j<vs.length
    ·rw [fZ hjl] at hj
     rw [Jc _ _ _ _ (by omega)];exact hv j v hj
    ·rw [gB (by omega)] at hj
     have hlt:=(fG.1 hj).1
     rw [show off+j=off+s.len*i.size+(j-vs.length) by omega,Rt _ _ _ _ (by omega) hlt]
     exact hj
 ·
  have hle:=nextslicecap_le (need:=s.len+x.len) (old:=s.cap) (by omega)
  have hroom':¬(Builtin.nextslicecap (s.len+x.len) s.cap*i.bytes>2^48):=by
   have:=fV i.bytes hle
   omega
  obtain ⟨nc,hnc,hncl⟩:∃nc,(Question.appendCap (s.len+x.len) s.cap e).cut (w.tape w.drawn (Question.appendCap (s.len+x.len) s.cap e))=nc/\s.len+x.len<=nc:=⟨_,rfl,by simp only [Question.cut];omega⟩
  have hfx':(Builtin.firstCells i.size x.len (.slice x.a x.len x.cap)).run P w.drew=.ok us.toArray w.drew:=Gh P (hx.ext (Ext.drew w))
  have hfs':(Builtin.firstCells i.size s.len (.slice s.a s.len s.cap)).run P w.drew=.ok vs.toArray w.drew:=Gw P (hs.in.ext (Ext.drew w))
  let row:=vs.toArray++us.toArray++Builtin.zeroCells z.cells (nc-(s.len+x.len))
  have hrow:row.size=nc*i.size:=by
   simp only [row,Array.size_append,List.size_toArray,Builtin.zeroCells,Array.size_map,Array.size_range,hzl,hlen,hxlen]
   rw [←fU,←fU]
   congr 1;omega
  have hext:Ext w (w.drew.alloc (.cells row e)):=(Ext.drew w).trans (Ext.alloc w.drew _)
  refine ⟨⟨some ⟨w.heap.size,0,none⟩,s.len+x.len,nc⟩,w.drew.alloc (.cells row e),?_,⟨by simp [hlen,hxlen,fU],hncl,.inr ⟨w.heap.size,0,row,rfl,hB,heap_alloc w.drew _,by rw [hrow];simp,?_⟩⟩,rfl,
   (Upd.Ed hext),(λk hk=>.inr (by obtain ⟨p,hp,rfl⟩:=hk;cases hp;exact fJ _)),.inl hext⟩
  ·have hb0':¬i.bytes=0:=by omega
   simp [Builtin.append_,hu1,hu2,hsz,Builtin.lenOf,hneed,hti,hb0',hroom',gG,hfs',hfx',hzv,newRow,newObj,Sem.run,Question.forced,hnc,row]
  ·intro j v hj
   rw [dU]
   have hlt:=(fG.1 hj).1
   have:row[j]?=(vs++us)[j]?:=by
    simp only [row]
    rw [fH (by simpa using hlt)]
    simp
   rw [this];exact hj
end
structure Key (κ:Type) [BEq κ] [LawfulBEq κ] where
 kv:κ->Value
 desc:TypeDesc
 same:∀a b:κ,Instr.sameNow desc (kv a) (kv b)=some (a==b)
 check:∀(P:Program) (kt:TypeId) (b:Bool) (n:Nat) (a:κ) (w:World),P.underlying kt=some desc->(Instr.checkKey b (n+1) kt (kv a)).run P w=.ok () w
 bits:∀n a,Instr.sameBits n (kv a) (kv a)=true
instance Dc7:LawfulBEq ByteArray where
 eq_of_beq {a b} h:=by
  cases a;cases b
  have h:ByteArray.beq _ _=true:=h
  simp only [ByteArray.beq] at h
  simpa using h
 rfl {a}:=by
  cases a
  show ByteArray.beq _ _=true
  simp [ByteArray.beq]
section
variable {S S':Nat->Prop}{w w':World}{P:Program}{κ:Type} [BEq κ] [LawfulBEq κ] [DecidableEq κ] {k_:Key κ}
structure Cv8 (k_:Key κ) (P:Program) (t:TypeId) (z:Value):Prop where
 ok:∃kt et,P.underlying t=some (.map kt et)/\P.underlying kt=some k_.desc/\∀w,(zeroValue et).run P w=.ok z w
theorem Cv8.of {t kt et:TypeId}{i ik ie:Inf}(h:Bj P t i) (hk:Bj P kt ik) (he:Bj P et ie) (hd:i.desc=.map kt et) (hkd:ik.desc=k_.desc){z:Value}(hz:ie.zero=some z):Cv8 k_ P t z :=
 have _d:=(inferInstance:DecidableEq κ)
 ⟨kt,et,by rw [h.und,hd],by rw [hk.und,hkd],λw=>he.Rh w hz⟩
end
abbrev bv (l:List UInt8):List Value:=l.map λb=>.int .u8 (b.toNat:Int)
theorem Ct4 (l:List UInt8):∀v∈bv l,Gn v=true:=by intro v hv;obtain ⟨x,_,rfl⟩:=gY.1 hv;rfl
section
variable {S S':Nat->Prop}{w w':World}{P:Program}
theorem Bs9 {ts tb e:TypeId}(hs:P.underlying tb=some (.slice e)) (he:P.underlying e=some (.int .u8)) (hd:P.underlying ts=some .string){s:Sl}{l:List UInt8}{K:ByteArray->Wp}(h:SlX w s 1 (bv l))
  (hK:K ⟨l.toArray⟩ w):Du P (.one (.one .str)) (convert tb ts (.slice s.a s.len s.cap)) K w:=by
 (have hl:l.length=s.len:=by have:=h.len;simp at this;omega);rcases h.at_ with ⟨h1,h2⟩|⟨t,h⟩
 ·have hl0:l=[]:=bF.1 (by omega);subst hl0;refine ⟨⟨#[]⟩,w,?_,hK⟩;rw [h1];cases ha:s.a with
  |none=>rw [run_convert_bytes_string w tb ts e none 0 s.cap hs he hd];rfl
  |some a=>have:=run_convert_bytes_back (P:=P) w tb ts e a s.cap [] hs he hd (λj hj=>by simp at hj);exact this
 {rcases h.at_ with ⟨ha,hc⟩|⟨b,off,c,fr,ha,hb,hcap,hv⟩;{(have h0:s.len=0:=by have:=h.le;omega);have hl0:l=[]:=bF.1 (by omega);subst hl0;refine ⟨⟨#[]⟩,w,?_,hK⟩;rw [h0,ha,run_convert_bytes_string w tb ts e none 0 s.cap hs he hd];rfl};{refine ⟨⟨l.toArray⟩,w,?_,hK⟩;rw [ha,←hl];refine run_convert_bytes_back w tb ts e _ s.cap l hs he hd λj hj=>?_;rw [addr_add];exact cell_of hb (hv j _ (by simp [hj]))}}
theorem Bi8 {t:TypeId}{ms:Array (String×TypeId)}(hi:P.underlying t=some (.interface ms)) (n:Nat) (d:TypeId) (v:Value) (w:World):(Op.equalIn (n+1) t (.iface d v) .nilIface).run P w=.ok false w:=by simp [Op.equalIn,cZ hi]
theorem Cg6 {t:TypeId}{ms:Array (String×TypeId)}(hi:P.underlying t=some (.interface ms)) (d:TypeId) (v:Value) (w:World):(Op.equalIn Op.maxDepth t (.iface d v) .nilIface).run P w=.ok false w:=Bi8 hi _ d v w
theorem Az6 {t:TypeId}{o1:Operand}{d:TypeId}{v:Value}{K:Bool->Wp}(h:K false w) (hi:∃ms,P.underlying t=some (.interface ms)):rdB P (do eqGuard .eql t o1 (.const .nilIface) (.iface d v) .nilIface;binOp .eql t (.iface d v) .nilIface:Sem Value) K w:=by obtain ⟨ms,hi⟩:=hi;refine ⟨false,?_,h⟩;simp [eqGuard,binOp,cZ hi,Op.equal,Cg6 hi]
theorem Br9 {t:TypeId}{ps rs:Array TypeId}{vr:Bool}(hu:P.underlying t=some (.func ps rs vr)) (g:Fn) (a b:Array Value) (n:Nat):(Op.equalIn (n+1) t (.func g a b) .nilFunc).run P w=.ok false w:=by simp [Op.equalIn,cZ hu]
theorem Bi7 {t:TypeId}{ps rs:Array TypeId}{vr:Bool}(hu:P.underlying t=some (.func ps rs vr)) (n:Nat):(Op.equalIn (n+1) t .nilFunc .nilFunc).run P w=.ok true w:=by simp [Op.equalIn,cZ hu]
end
end Go.Vx
namespace Go.Proofs.YtolhlldgnfbemaaGreatDoor
section
namespace Cdc
abbrev Bs:=List UInt8
inductive Enc where
 |u8|le|be|l1
 deriving DecidableEq
def Enc.num:Enc->Int
 |.u8=>1
 |.le=>2
 |.be=>3
 |.l1=>4
def Fz (c:Nat):Nat×Nat×Nat :=
 if c<128 then (1,0,0) else if c<194 then (0,0,0) else if c<224 then (2,128,191) else if c=224 then (3,160,191) else if c=237 then (3,128,159)
 else if c<240 then (3,128,191) else if c=240 then (4,144,191) else if c<244 then (4,128,191) else if c=244 then (4,128,143) else (0,0,0)
def cont (c:UInt8):Bool:=c.toNat/64==2
def more:Nat->Bs->Nat
 |n+1,b::r=>if cont b then more n r+1 else 0
 |_,_=>0
def rowOf:Bs->Nat×Nat
 |[]=>(0,0)
 |b::r=>if (Fz b.toNat).1<2 then ((Fz b.toNat).1,(Fz b.toNat).1) else
  match r with
  |[]=>(1,(Fz b.toNat).1)
  |c::r'=>if c.toNat<(Fz b.toNat).2.1\/(Fz b.toNat).2.2<c.toNat then (1,(Fz b.toNat).1) else (2+more ((Fz b.toNat).1-2) r',(Fz b.toNat).1)
def lead (n c:Nat):Nat:=if n=2 then c%32 else if n=3 then c%16 else if n=4 then c%8 else c
def rest (a:Nat) (l:Bs):Nat:=l.foldl (λa c=>a*64+c.toNat%64) a
def nx8:Bs->Int×Nat
 |[]=>(0,0)
 |b::r=>if (rowOf (b::r)).2=0\/(rowOf (b::r)).1<(rowOf (b::r)).2 then (-1-(b.toNat:Int),1)
  else ((rest (lead (rowOf (b::r)).2 b.toNat) (r.take ((rowOf (b::r)).2-1)):Nat),(rowOf (b::r)).2)
def un (be:Bool) (a b:UInt8):Nat:=if be then b.toNat+a.toNat*256 else a.toNat+b.toNat*256
def Jq (be:Bool):Bs->Int×Nat
 |[]=>(0,0)
 |[b]=>(-1-(b.toNat:Int),1)
 | a::b::r=>if un be a b/1024=54 then
   match r with
   |c::d::_=>if un be c d/1024=55 then (65536+((un be a b%1024*1024+un be c d%1024:Nat):Int),4) else ((un be a b:Nat),2)
   |_=>((un be a b:Nat),2)
  else ((un be a b:Nat),2)
def nx1:Bs->Int×Nat
 |[]=>(0,0)
 |b::_=>((b.toNat:Int),1)
def nx:Enc->Bs->Int×Nat
 |.u8,l=>nx8 l
 |.le,l=>Jq false l
 |.be,l=>Jq true l
 |.l1,l=>nx1 l
theorem Bc8 (c:Nat):(Fz c).1<=4:=by (unfold Fz;repeat' split);all_goals simp
theorem Ba8:∀(n:Nat) (l:Bs),more n l<=n/\more n l<=l.length
 |0,l=>by cases l<;>simp [more]
 |n+1,[]=>by simp [more]
 |n+1,b::r=>by
  have:=Ba8 n r
  simp only [more]
  split<;>simp<;>omega
theorem Av0:∀(n:Nat) (l:Bs) (k:Nat),more n (l.take k)=min k (more n l)
 |0,l,k=>by cases l<;>cases k<;>simp [more]
 |n+1,[],k=>by simp [more]
 |n+1,b::r,0=>by simp [more]
 |n+1,b::r,k+1=>by
  simp only [iK,more]
  split
  ·rw [Av0 n r k];omega
  ·simp
theorem Oo (b:UInt8) (r:Bs):(rowOf (b::r)).2=(Fz b.toNat).1:=by simp only [rowOf];(repeat' split);all_goals rfl
theorem Ak8 (b:UInt8) (r:Bs):(rowOf (b::r)).1<=(b::r).length/\(rowOf (b::r)).1<=max 1 (rowOf (b::r)).2:=by simp only [rowOf];split;{simp;omega};{split;{simp;omega};{rename_i c r';split;{simp;omega};{have:=Ba8 ((Fz b.toNat).1-2) r';simp;omega}}}
theorem Bn7 (b:UInt8) (r:Bs) (k:Nat):(rowOf (b::r.take k)).1<=(rowOf (b::r)).1/\((rowOf (b::r)).1<=k+1->(rowOf (b::r.take k)).1=(rowOf (b::r)).1):=by
 simp only [rowOf];split;{simp}
 ·rename_i h2;cases r with
  |nil=>simp
  |cons c r' =>
   cases k with
   |zero=>simp only [iL];split;{simp};{simp;omega}
   |succ k=>simp only [iK];split;{simp};{simp only [Av0];omega}
theorem Am0 (b:UInt8) (r:Bs):1<=(nx8 (b::r)).2/\(nx8 (b::r)).2<=(b::r).length/\(nx8 (b::r)).2<=4:=by have h1:=Ak8 b r;have h2:=Oo b r;have h3:=Bc8 b.toNat;simp only [nx8];split;{simp};{simp only;omega}
theorem Co6 (b:UInt8) (r:Bs) (k:Nat) (h:(nx8 (b::r)).2<=k+1):nx8 (b::r.take k)=nx8 (b::r):=by have h1:=Bn7 b r k;have h2:=Oo b r;have h3:=Oo b (r.take k);have h4:=Ak8 b r;simp only [nx8] at h ⊢;rw [h3,←h2];split at h;{rename_i hc;have:(rowOf (b::r)).2=0\/(rowOf (b::List.take k r)).1<(rowOf (b::r)).2:=(by omega);rw [aF this,aF hc]};{rename_i hc;simp only at h;rw [aJ hc,aJ (by omega),iM,gK (by omega)]}
theorem Au5 (be:Bool) (b:UInt8) (r:Bs):1<=(Jq be (b::r)).2/\(Jq be (b::r)).2<=(b::r).length/\(Jq be (b::r)).2<=4:=by
 cases r with
 |nil=>simp [Jq]
 |cons c r=>simp only [Jq];split;{split;{split<;>simp};{simp}};{simp}
theorem Au4 (be:Bool) (b:UInt8) (r:Bs) (k:Nat) (h:(Jq be (b::r)).2<=k+1):Jq be (b::r.take k)=Jq be (b::r):=by
 cases r with
 |nil=>simp [Jq]
 | cons c r =>
  have hs:1<(Jq be (b::c::r)).2:=by
   simp only [Jq]
   split
   ·split
    ·split<;>simp
    ·simp
   ·simp
  obtain ⟨k,rfl⟩:∃k',k=k'+1:=⟨k-1,by omega⟩
  simp only [iK,Jq] at h ⊢
  split
  ·rename_i hu
   rw [aF hu] at h
   match r,k with
   |[],k=>simp
   |[_],0=>simp
   |[_],k+1=>simp
   |c::d::r,0 =>
    simp only at h ⊢
    split at h
    ·simp at h
    ·rename_i h55;simp [h55]
   |c::d::r,1 =>
    simp only at h ⊢
    split at h
    ·simp at h
    ·rename_i h55;simp [h55]
   |c::d::r,k+2=>simp
  ·rfl
theorem Xd (e:Enc){l:Bs}(h:l≠[]):1<=(nx e l).2/\(nx e l).2<=l.length/\(nx e l).2<=4:=by
 cases l with
 |nil=>exact absurd rfl h
 |cons b r =>
  cases e with
  |u8=>exact Am0 b r
  |le=>exact Au5 _ b r
  |be=>exact Au5 _ b r
  |l1=>simp [nx,nx1]
theorem Cy2 (e:Enc){l:Bs}{k:Nat}(h:l≠[]) (hk:(nx e l).2<=k):nx e (l.take k)=nx e l:=by
 cases l with
 |nil=>exact absurd rfl h
 |cons b r =>
  have hs:=(Xd e h).1;obtain ⟨k,rfl⟩:∃k',k=k'+1:=⟨k-1,by omega⟩;rw [iK];cases e with
  |u8=>exact Co6 b r k hk
  |le=>exact Au4 _ b r k hk
  |be=>exact Au4 _ b r k hk
  |l1=>rfl
def ats (e:Enc) (l:Bs):List (Int×Nat) :=
 if h:l=[] then [] else nx e l::ats e (l.drop (nx e l).2)
termination_by l.length
decreasing_by
  have h1:=Xd e h
  have:0<l.length:=iO.2 h
  simp only [gJ];omega
theorem Kv (e:Enc):ats e []=[]:=by rw [ats];simp
theorem Og (e:Enc){l:Bs}(h:l≠[]):ats e l=nx e l::ats e (l.drop (nx e l).2):=by rw [ats];simp [h]
def szs (l:List (Int×Nat)):Nat:=(l.map (·.2)).sum
theorem Ag8:szs []=0:=rfl
theorem Jl (x:Int×Nat) (l:List (Int×Nat)):szs (x::l)=x.2+szs l:=by simp [szs]
theorem Bq (l m:List (Int×Nat)):szs (l++m)=szs l+szs m:=by simp [szs]
theorem Cw8 (e:Enc):∀(n:Nat) (l:Bs),l.length<=n->szs (ats e l)=l.length:=by
 intro n;induction n with
 |zero=>intro l h;obtain rfl:l=[]:=bF.1 (by omega);simp [Kv,szs]
 |succ n ih=>intro l h;by_cases hl:l=[];{subst hl;simp [Kv,szs]};{have h1:=Xd e hl;have:0<l.length:=iO.2 hl;rw [Og e hl,Jl,ih _ (by simp only [gJ];omega),gJ];omega}
theorem Hz (e:Enc) (l:Bs):szs (ats e l)=l.length:=Cw8 e _ l (fJ _)
theorem Xm (e:Enc):∀(j:Nat) (l:Bs),ats e (l.take (szs ((ats e l).take j)))=(ats e l).take j/\ats e (l.drop (szs ((ats e l).take j)))=(ats e l).drop j:=by
 intro j;induction j with
 |zero=>intro l;simp [szs,Kv]
 | succ j ih =>
  intro l;by_cases hl:l=[];{subst hl;simp [Kv]}
  ·have h1:=Xd e hl;obtain ⟨g1,g2⟩:=ih (l.drop (nx e l).2);rw [Og e hl];simp only [iK,iP,Jl];generalize hm:szs ((ats e (l.drop (nx e l).2)).take j)=m at g1 g2 ⊢;have hne:l.take ((nx e l).2+m)≠[]:=by
    have:0<l.length:=iO.2 hl
    intro hc
    have:=fC List.length hc
    rw [gI,dR] at this;omega
   constructor;{rw [Og e hne,Cy2 e hl (by omega),iQ];have:(nx e l).2+m-(nx e l).2=m:=(by omega);rw [this,g1]};{rw [←iR,g2]}
theorem Bz3 (e:Enc):∀(n:Nat) (l:Bs),l.length<=n->∀x∈ats e l,1<=x.2/\x.2<=4:=by
 intro n;induction n with
 |zero=>intro l h x hx;obtain rfl:l=[]:=bF.1 (by omega);rw [Kv] at hx;cases hx
 |succ n ih=>intro l h x hx;by_cases hl:l=[];{subst hl;rw [Kv] at hx;cases hx};{have h1:=Xd e hl;have:0<l.length:=iO.2 hl;rw [Og e hl] at hx;rcases aG.1 hx with rfl|hx;{exact ⟨h1.1,h1.2.2⟩};{exact ih _ (by simp only [gJ];omega) x hx}}
end Cdc
end
end Go.Proofs.YtolhlldgnfbemaaGreatDoor
