/- YtmooldhpiopcgaaGreatDoorSOp1: parts of the proof, put together by program. -/
import Derived.Laws.IdiomStrings
import Derived.LaidEql
import Derived.WalkKit
import Derived.OrdersIn
import Derived.RangeFuncIn
import Derived.RangeFuncRecord
import Derived.Scope
import Derived.Sort.LoopGhostIn
import Derived.Laws.FloatArith
import Derived.Test.YtmooldhpiopcgaaGreatDoorProg
import Derived.KernelRfl
import Derived.Shelf.Small.Utf8
import Derived.Shelf.Small.Strs
import Derived.Shelf.Strings.Search1
import Derived.Shelf.Sort.Plain
import Derived.Shelf.Strings.Runes
import Derived.Shelf.Slices.In.SortNone
import Derived.Stop.Asserts
import Derived.Laws.Externs
import Derived.ChangeKeysEq
import Derived.Laws.StructEq
import Derived.Sort.Walk0
import Derived.ProofKit
import Derived.SizedLaws
import Derived.Carry
import Derived.Test.YtmooldhpiopcgaaGreatDoorRows
import Derived.JoinedCond
import Derived.Deep.CondSized
import Derived.Deep.DeepHandedRow
import Derived.Deep.DeepWitnessRowRef
import Derived.OpenShut
import Derived.ChangeMaps5
import Derived.LaidHandle
import Derived.Test.YtmooldhpiopcgaaGreatDoorTie
import Derived.Test.YtmooldhpiopcgaaGreatDoorCards
import Derived.SevenTiedAt
set_option linter.unusedVariables false
set_option linter.defProp false
set_option linter.unusedSimpArgs false
set_option linter.unusedSectionVars false
noncomputable section
set_option maxHeartbeats 2000000
def iH:=@Go.Sem.run_bind
def iI:=@Go.Result.andThen_ok
def iJ:=@Go.Sem.run_pure
def iK:=@if_pos
def iL:=@List.mem_cons
def iM:=@List.mem_cons_self
def iO:=@List.mem_cons_of_mem
def iP:=@if_neg
def iQ:=@Go.execOp_put
def iR:=@Go.wanted_put
def iT:=@if_true
def iU:=@Go.wpOpsIn_cons
def iV:=@Go.wpOpIn_mono
def iW:=@List.all_eq_true
def iY:=@Array.getElem?_eq_some_iff
def iZ:=@List.nil_append
def jA:=@Bool.and_eq_true
def jC:=@List.cons_append
def jD:=@List.all_append
def jE:=@Go.mem_ready
def jF:=@Bool.not_true
def jG:=@Bool.false_or
def jH:=@List.length_eq_zero_iff
def jJ:=@List.append_of_mem
def jK:=@List.mem_range
def jL:=@Option.map_some
def jM:=@Option.getD_some
def jO:=@Bool.or_eq_true
def jP:=@Nat.eq_of_beq_eq_true
def jQ:=@List.mem_append_left
def jR:=@List.nodup_append
def jT:=@List.nodup_cons
def jV:=@List.mem_append
def jW:=@List.mem_append_right
def jX:=@List.nodup_nil
def jY:=@of_decide_eq_true
def jZ:=@Go.run_underlying
def kC:=@Go.run_typeInfo
def kD:=@Int.not_lt
def kE:=@List.length_cons
def kG:=@Int.toNat_of_nonneg
def kH:=@Int.toNat_natCast
def kJ:=@Int.le_refl
def kK:=@Array.ext'
def kL:=@List.extract_eq_take_drop
def kM:=@Nat.le_of_ble_eq_true
def kN:=@List.mapM_cons
def kP:=@Array.toArray_toList
def kQ:=@Array.getElem?_toList
def kS:=@Prod.mk.injEq
def kT:=@Bool.false_eq_true
def kU:=@if_false
def kV:=@List.map_cons
def kW:=@List.length_nil
def kX:=@Nat.mul_one
def kY:=@Nat.zero_add
def kZ:=@Go.World.alloc_eq
def lC:=@Bool.and_true
def lG:=@Bool.not_eq_true'
def lH:=@List.any_eq_false
def lJ:=@List.mem_of_mem_erase
def lK:=@Bool.or_eq_false_iff
def lM:=@List.append_assoc
def lQ:=@List.length_erase_of_mem
def lS:=@Nat.beq_refl
def lT:=@Array.getElem?_setIfInBounds_ne
def lU:=@List.mem_of_getElem?
def lV:=@Nat.testBit_or
def lW:=@congrArg
def lX:=@Go.wpIn_mono
def lY:=@List.getElem?_eq_some_iff
def lZ:=@List.range_succ
def mD:=@Array.length_toList
def mF:=@Go.run_endRound
def mG:=@Array.getElem?_append_left
def mJ:=@Nat.le_refl
def mM:=@Nat.le_trans
def mP:=@Nat.lt_of_lt_of_le
def mQ:=@Array.getElem?_modify
def mV:=@Array.getElem?_setIfInBounds
def mW:=@Nat.zero_mul
def mX:=@Nat.add_mul
def mY:=@Nat.mul_le_mul_right
def mZ:=@List.getElem?_append_left
def nC:=@List.getElem?_append_right
def nD:=@Go.run_askRoom
def nG:=@List.length_take
def nH:=@List.length_drop
def nI:=@Nat.min_eq_left
def nJ:=@List.getElem?_take
def nK:=@List.getElem?_drop
def nM:=@Nat.sub_self
def nN:=@Bool.eq_iff_iff
def nO:=@List.length_map
def nP:=@List.getElem?_map
def nT:=@List.mem_map
def nU:=@Array.getElem?_eq_none
def nV:=@List.getElem?_of_mem
def nX:=@List.getElem?_set
def nY:=@List.ext_getElem?
def nZ:=@List.flatMap_cons
def oC:=@List.length_append
def oD:=@Nat.succ_mul
def oG:=@Nat.eq_of_mul_eq_mul_right
def oH:=@List.pairwise_map
def oI:=@Nat.mod_lt
def oJ:=@List.mem_filter
def oK:=@decide_eq_false_iff_not
def oL:=@Array.toList_filter
def oM:=@List.filter_eq_self
def oN:=@List.perm_ext_iff_of_nodup
def oO:=@List.getElem_mem
def oP:=@List.getElem?_eq_getElem
def oQ:=@List.map_append
def oU:=@List.map_nil
def oV:=@List.find?_eq_none
def oZ:=@List.mem_of_find?_eq_some
def pF:=@decide_eq_true_eq
def pG:=@getElem!_pos
def pI:=@Array.getElem?_eq_getElem
def pJ:=@List.findIdx?_cons
def pK:=@List.find?_cons
def pO:=@List.findIdx?_eq_none_iff
def pR:=@List.findIdx?_eq_some_iff_getElem
def pU:=@List.getElem?_modify
def pV:=@List.mem_map_of_mem
def pW:=@List.eraseIdx_sublist
def pX:=@beq_iff_eq
def pY:=@Go.ByteArray.toList_eq
def qA:=@Go.run_convert_bytes_string
def qB:=@Go.run_convert_bytes_back
def qC:=@List.take_succ_cons
def qE:=@List.take_zero
def qF:=@List.length_pos_iff
def qG:=@List.drop_succ_cons
def qH:=@List.drop_drop
def qI:=@Nat.zero_le
def qJ:=@Nat.mod_eq_of_lt
def qK:=@Nat.div_eq_of_lt
def qL:=@Nat.div_one
def qM:=@Nat.shiftLeft_eq
def qN:=@Int.eq_ofNat_of_zero_le
def qO:=@decide_eq_false
def qP:=@List.filter_append
def qQ:=@List.filter_cons
def qR:=@List.length_filter_le
def qU:=@Decidable.byContradiction
def qV:=@Int.natCast_nonneg
def qW:=@List.mem_iff_getElem
def qX:=@List.pairwise_mergeSort
def qY:=@List.mergeSort_perm
def qZ:=@List.map_map
def rC:=@List.map_id
def rD:=@List.map_congr_left
def rE:=@Int.natCast_add
def rF:=@beq_eq_false_iff_ne
def rG:=@Option.map_eq_some_iff
def rH:=@List.take_length
def rJ:=@List.getD_eq_getElem?_getD
def rM:=@Int.mul_le_mul_of_nonneg_right
def rO:=@Int.pow_pos
def rQ:=@Nat.pow_le_pow_right
def rU:=@BitVec.toNat_and
def rV:=@Int.natCast_emod
def rW:=@Nat.testBit_shiftLeft
def rX:=@Bool.not_eq_true
def rY:=@false_iff
def rZ:=@iff_false
def sD:=@true_iff
def sF:=@iff_true
def sG:=@ge_iff_le
def sH:=@gt_iff_lt
def sJ:=@Int.not_le
def sK:=@of_decide_eq_false
def sO:=@List.take_add_one
def sQ:=@List.take_of_length_le
def sV:=@Option.isSome_iff_exists
def sW:=@Option.some.inj
def sZ:=@List.Nodup.length_le_of_subset
def tC:=@List.length_set
def tH:=@List.getElem_inj
def tJ:=@List.mem_or_eq_of_mem_set
def tK:=@List.map_take
def tN:=@List.getElem?_eq_none
def tV:=@List.drop_eq_getElem_cons
def tX:=@Nat.le_succ
def tY:=@List.filter_sublist
def tZ:=@List.take_append_of_le_length
def uG:=@List.take_nil
def uH:=@List.getElem?_toArray
def uJ:=@decide_eq_decide
def uK:=@Go.run_typeAssert_lacksB
def uM:=@Go.run_equalIn_int
def uN:=@UInt8.toNat_ofNat'
def uO:=@ByteArray.data_extract
def uP:=@List.mem_of_mem_drop
def uQ:=@List.mem_of_mem_take
def uT:=@getElem?_pos
def uU:=@List.mem_iff_getElem?
def uV:=@Array.back?_eq_getElem?
def uX:=@decide_eq_true
def uY:=@not_or
def uZ:=@List.mem_singleton
def vC:=@List.not_mem_nil
def vF:=@List.drop_eq_nil_of_le
def vG:=@List.take_append_drop
def vH:=@Nat.mul_comm
def vJ:=@Nat.add_comm
def vK:=@List.take_length_add_append
def vM:=@List.map_drop
def vN:=@Int.tdiv_eq_ediv_of_nonneg
def vO:=@List.take_eq_take_iff
def vP:=@List.append_nil
def vS:=@List.drop_append_of_le_length
def vT:=@Nat.add_sub_cancel_left
def vU:=@or_false
def vV:=@List.take_add
def vW:=@Option.toList_some
def vX:=@List.prefix_append_right_inj
def vY:=@not_true_eq_false
def vZ:=@BEq.comm
def wB:=@Bool.eq_false_iff
def wC:=@List.isPrefixOf_iff_prefix
def wE:=@List.prefix_iff_eq_take
def wG:=@List.filter_cons_of_pos
def wH:=@List.filter_cons_of_neg
def wI:=@bne_iff_ne
def wJ:=@UInt8.toNat_inj
def wK:=@List.le_iff_lt_or_eq
def wL:=@List.lt_irrefl
def wM:=@List.pairwise_cons
def wO:=@List.getElem?_set_self
def wP:=@Nat.le_add_right
def wQ:=@List.getElem?_zipWith
def wS:=@List.length_zipWith
def wU:=@Array.size_setIfInBounds
def wV:=@List.find?_cons_of_neg
def wW:=@List.getElem?_set_ne
def wX:=@List.set_set
def wY:=@List.toList_toArray
def wZ:=@List.set_append_right
def xA:=@Int.tmod_eq_emod_of_nonneg
def xB:=@Int.cast_ofNat_Int
def xC:=@List.getElem?_cons_zero
def xE:=@Nat.mod_two_eq_zero_or_one
def xG:=@List.length_replicate
def xH:=@List.replicate_succ'
def xI:=@Option.bind_eq_some_iff
def xJ:=@List.flatten_append
def xK:=@List.flatten_cons
def iG {t:Sort _}{a:t}:∃b,a=b:=⟨_,rfl⟩
namespace Go.Vx
open Go
abbrev W64 (n:Int):Int:=IntKind.wrap .i64 n
abbrev Wp:=World->Prop
def FW (r:Option Nat):Fence:={ Fence.wide with round:=r }
def Bh5 {r:Option Nat}{n:Nat}{P:Program}{f:FuncId}{args:Array Value}{w:World}{R:Ending->Wp}:CallsIn (FW r) n P f args w R↔Calls P f args w R:=callsIn_wide
def Cw7 {r:Option Nat}{n:Nat}{P:Program}{row:String}{args:Array Value}{w:World}{R:Value->Wp}(h:Rows P row args w R):RowsIn (FW r) n P row args w R :=
 λc cs _=>let ⟨v,w',hr,s⟩:=h c cs;⟨v,w',hr,stepsIn_wide.2 s⟩
def Gs (P:Program) (o:Oper) (a:Act) (next:Act->Wp):Result Next->Prop
 |.ok (.value v) w'=>next (a.put o.dst v) w'
 |.ok .skip w'=>next (a.put o.dst undef) w'
 |.ok (.enter f args) w'=>Calls P f args w' λe w''=>∃v,e=.returned v/\next (a.put o.dst v) w''
 |.ok (.row row args) w'=>Rows P row args w' λv w''=>next (a.put o.dst v) w''
 |.ok (.round l f tmps assign body) w'=>RoundIn (FW none) 0 P l f tmps assign body w' λe w''=>∃v,e=.returned v/\next (a.put o.dst v) w''
 |_=>False
def Ik {P:Program}{o:Oper}{a:Act}{N N':Act->Wp}{r:Result Next}(hN:∀a w,N a w->N' a w) (h:Gs P o a N r):Gs P o a N' r:=by
 cases r with
 | ok n w' =>
  cases n<;>simp only [Gs] at h ⊢ <;>
   first
    |exact hN _ _ h
    |exact Calls.mono h (λe w'' ⟨v,he,hv⟩=>⟨v,he,hN _ _ hv⟩)
    |exact Rows.mono h (λ_ _ he=>hN _ _ he)
    |exact RoundIn.mono h (λe w'' ⟨v,he,hv⟩=>⟨v,he,hN _ _ hv⟩)
 |halt x w'=>cases x<;>simp only [Gs] at h
def Cr9 {r:Option Nat}{n:Nat}{P:Program}{l:Nat}{f:FuncId}{tmps:Array Value}{assign body:Code}{w:World}{R:Ending->Wp}(h:RoundIn (FW none) 0 P l f tmps assign body w R):RoundIn (FW r) n P l f tmps assign body w R :=
 ⟨trivial,λc cs _=>h.2 c cs (λ_ h=>by simp [FW,Fence.wide] at h)⟩
def At8 {P:Program}{o:Oper}{a:Act}{N:Act->Wp}{Q:Exit->Act->Wp}{r:Option Nat}{w:World}(h:Gs P o a N ((execOp a.eval o).run P w)):o.wpIn (FW r) 0 P a w N Q:=by
 refine ⟨λ_ _=>trivial,?_⟩;have e:(o.semAt (FW r).round a.eval)=execOp a.eval o:=by
  refine Oper.semAt_eq _ _ _ λc hc=>?_
  obtain ⟨dst,op,type,pos,after,guard⟩:=o
  simp only at hc
  subst hc
  simp only [execOp] at h
  revert h
  simp only [iH]
  cases (resolve a.eval c type).run P w with
  |ok d w'=>simp only [iI,iJ,Gs];exact id
  |halt x w'=>simp only [Result.andThen,Gs];exact id
 rw [e];generalize (execOp a.eval o).run P w=res at h ⊢;cases res with
 |ok n w' =>
  cases n<;>simp only [Gs] at h<;>simp only [Oper.uponIn]
  case value v=>exact h
  case skip=>exact h
  case enter f args=>exact ⟨λh=>by simp [FW,Fence.wide] at h,Bh5.2 (Calls.mono h λe w'' ⟨v,he,hv⟩=>by subst he;exact hv)⟩
  case row row args=>exact ⟨λh=>by simp [FW,Fence.wide] at h,Cw7 h⟩
  case round l f tmps assign body=>exact ⟨λh=>by simp [FW,Fence.wide] at h,Cr9 (RoundIn.mono h λe w'' ⟨v,he,hv⟩=>by subst he;exact hv)⟩
 |halt x w'=>simp only [Gs] at h
inductive Cl where
 |free|read|eff
abbrev Held:=List (Nat×Sem Next×Value)
def Ry (P:Program) (un:Nat->Nat->Bool) (i:Nat) (H:Held) (w:World):Prop :=
 ∀x∈H,un x.1 i=true->x.2.1.run P w=.ok (.value x.2.2) w
def wpS (cls:Op->Cl) (P:Program) (ops:Array Oper) (un:Nat->Nat->Bool) (Q:Act->Wp):List Nat->Held->Act->World->Prop
 |[],_,a,w=>Q a w
 | i::r,H,a,w =>
  match ops[i]? with
  |none=>False
  | some o =>
   if Region.wanted o (yielded ops a.tmps)=true then
    match cls o.op with
    |.free=>∃v,(∀w',(execOp a.eval o).run P w'=.ok (.value v) w')/\wpS cls P ops un Q r H (a.put o.dst v) w
    |.read=>∃v,(execOp a.eval o).run P w=.ok (.value v) w/\wpS cls P ops un Q r ((i,execOp a.eval o,v)::H) (a.put o.dst v) w
    |.eff=>Gs P o a (λa' w'=>Ry P un i H w'/\wpS cls P ops un Q r H a' w') ((execOp a.eval o).run P w)
   else wpS cls P ops un Q r H (a.put o.dst undef) w
section
variable {cls:Op->Cl}{P:Program}{ops:Array Oper}{un:Nat->Nat->Bool}{Q:Act->Wp}
def Rl {i:Nat}{H H':Held}{w:World}(hs:∀x∈H',x∈H) (h:Ry P un i H w):Ry P un i H' w :=
 λx hx hu=>h x (hs x hx) hu
def As9:∀(l:List Nat) (H H':Held) (a:Act) (w:World),(∀x∈H',x∈H)->wpS cls P ops un Q l H a w->wpS cls P ops un Q l H' a w:=by
 intro l;induction l with
 |nil=>intro H H' a w _ h;exact h
 |cons i r ih=>intro H H' a w hs h;simp only [wpS] at h ⊢;split at h;{exact h};{rename_i o ho;split at h;{rename_i hw;rw [iK hw];split at h;{obtain ⟨v,h1,h2⟩:=h;exact ⟨v,h1,ih _ _ _ _ hs h2⟩};{obtain ⟨v,h1,h2⟩:=h;refine ⟨v,h1,ih _ _ _ _ (λx hx=>?_) h2⟩;rcases iL.1 hx with rfl|hx;{exact iM};{exact iO _ (hs x hx)}};{exact Ik (λa w ⟨h1,h2⟩=>⟨Rl hs h1,ih _ _ _ _ hs h2⟩) h}};{rename_i hw;rw [iP hw];exact ih _ _ _ _ hs h}}
def Bv1 {l l':List Nat}(x:Nat) (h:∀H a w,wpS cls P ops un Q l H a w->wpS cls P ops un Q l' H a w) (H:Held) (a:Act) (w:World)
  (hh:wpS cls P ops un Q (x::l) H a w):wpS cls P ops un Q (x::l') H a w:=by simp only [wpS] at hh ⊢;split at hh;{exact hh};{split at hh;{rename_i hw;rw [iK hw];split at hh;{obtain ⟨v,h1,h2⟩:=hh;exact ⟨v,h1,h _ _ _ h2⟩};{obtain ⟨v,h1,h2⟩:=hh;exact ⟨v,h1,h _ _ _ h2⟩};{exact Ik (λa w ⟨h1,h2⟩=>⟨h1,h _ _ _ h2⟩) hh}};{rename_i hw;rw [iP hw];exact h _ _ _ hh}}
def Bu9 {x i:Nat}{ox oi:Oper}(hx:ops[x]?=some ox) (hi:ops[i]?=some oi) (hq:cls ox.op≠.eff) (hap:ox.apart ops oi=true) (hun:un x i=true)
  (hsx:∀cs b,ox.op≠.select cs b) (hsi:∀cs b,oi.op≠.select cs b) (r:List Nat) (H:Held) (a:Act) (w:World)
  (h:wpS cls P ops un Q (x::i::r) H a w):wpS cls P ops un Q (i::x::r) H a w:=by
 obtain ⟨h1,h2,h3⟩:=Oper.apart_spec hap
 have ei:∀(a:Act) v,execOp (a.put ox.dst v).eval oi=execOp a.eval oi:=λa v=>iQ oi hsi a ox.dst v h1
 have wi:∀(a:Act) v,Region.wanted oi (yielded ops (a.put ox.dst v).tmps)=Region.wanted oi (yielded ops a.tmps):=λa v=>iR oi a ox.dst v h1
 have ex:∀(a:Act) v,execOp (a.put oi.dst v).eval ox=execOp a.eval ox:=λa v=>iQ ox hsx a oi.dst v h3
 have wx:∀(a:Act) v,Region.wanted ox (yielded ops (a.put oi.dst v).tmps)=Region.wanted ox (yielded ops a.tmps):=λa v=>iR ox a oi.dst v h3
 have pc:∀(a:Act) v u,(a.put ox.dst v).put oi.dst u=(a.put oi.dst u).put ox.dst v:=λa v u=>(Act.put_comm a v u h2)
 rw [wpS,hx] at h
 rw [wpS,hi]
 simp only at h ⊢
 by_cases hwi:Region.wanted oi (yielded ops a.tmps)=true
 ·rw [iK hwi]
  by_cases hwx:Region.wanted ox (yielded ops a.tmps)=true
  ·rw [iK hwx] at h
   cases c0:cls ox.op with
   |eff=>exact absurd c0 hq
   | free =>
    simp only [c0] at h
    obtain ⟨v,hv,h⟩:=h
    rw [wpS,hi] at h
    simp only [wi,hwi,iT,ei] at h
    have back:∀(a':Act) (w':World) (H':Held),(execOp a'.eval ox=execOp a.eval ox)->(Region.wanted ox (yielded ops a'.tmps)=Region.wanted ox (yielded ops a.tmps)) ->
      wpS cls P ops un Q r H' (a'.put ox.dst v) w'->wpS cls P ops un Q (x::r) H' a' w':=by
     intro a' w' H' he hw' hh
     rw [wpS,hx]
     simp only [hw',hwx,iT,c0,he]
     exact ⟨v,hv,hh⟩
    split at h
    ·obtain ⟨u,hu,h⟩:=h
     exact ⟨u,hu,back _ _ _ (ex a u) (wx a u) (by rw [←pc];exact h)⟩
    ·obtain ⟨u,hu,h⟩:=h
     exact ⟨u,hu,back _ _ _ (ex a u) (wx a u) (by rw [←pc];exact h)⟩
    ·generalize (execOp a.eval oi).run P w=res at h ⊢
     cases res with
     |ok n w' =>
      cases n<;>simp only [Gs] at h ⊢
      case value u=>exact ⟨h.1,back _ _ _ (ex a u) (wx a u) (by rw [←pc];exact h.2)⟩
      case skip=>exact ⟨h.1,back _ _ _ (ex a _) (wx a _) (by rw [←pc];exact h.2)⟩
      case enter f args=>exact Calls.mono h λe w'' ⟨u,e1,he⟩=>⟨u,e1,he.1,back _ _ _ (ex a u) (wx a u) (by rw [←pc];exact he.2)⟩
      case round l f tmps assign body=>exact RoundIn.mono h λe w'' ⟨u,e1,he⟩=>⟨u,e1,he.1,back _ _ _ (ex a u) (wx a u) (by rw [←pc];exact he.2)⟩
      case row row args=>exact Rows.mono h λu w'' he=>⟨he.1,back _ _ _ (ex a u) (wx a u) (by rw [←pc];exact he.2)⟩
     |halt y w'=>simp only [Gs] at h
   | read =>
    have c1:=c0
    simp only [c1] at h
    obtain ⟨v,hv,h⟩:=h
    rw [wpS,hi] at h
    simp only [wi,hwi,iT,ei] at h
    have back:∀(a':Act) (w':World) (H':Held),(execOp a'.eval ox=execOp a.eval ox)->(Region.wanted ox (yielded ops a'.tmps)=Region.wanted ox (yielded ops a.tmps)) ->
      (execOp a.eval ox).run P w'=.ok (.value v) w' ->
      wpS cls P ops un Q r ((x,execOp a.eval ox,v)::H') (a'.put ox.dst v) w'->wpS cls P ops un Q (x::r) H' a' w':=by
     intro a' w' H' he hw' hr hh
     rw [wpS,hx]
     simp only [hw',hwx,iT,c1,he]
     exact ⟨v,hr,hh⟩
    have own:∀w',Ry P un i ((x,execOp a.eval ox,v)::H) w'->(execOp a.eval ox).run P w'=.ok (.value v) w':=λw' hk=>hk _ iM hun
    have rest:∀w',Ry P un i ((x,execOp a.eval ox,v)::H) w'->Ry P un i H w':=λw' hk=>Rl (λy hy=>iO _ hy) hk
    split at h
    ·obtain ⟨u,hu,h⟩:=h
     exact ⟨u,hu,back _ _ _ (ex a u) (wx a u) hv (by rw [←pc];exact h)⟩
    ·obtain ⟨u,hu,h⟩:=h
     refine ⟨u,hu,back _ _ _ (ex a u) (wx a u) hv ?_⟩
     rw [←pc]
     exact As9 _ _ _ _ _ (λy hy=>by
      rcases iL.1 hy with rfl|hy
      ·exact iO _ iM
      ·rcases iL.1 hy with rfl|hy
       ·exact iM
       ·exact iO _ (iO _ hy)) h
    ·generalize (execOp a.eval oi).run P w=res at h ⊢
     cases res with
     |ok n w' =>
      cases n<;>simp only [Gs] at h ⊢
      case value u=>exact ⟨rest _ h.1,back _ _ _ (ex a u) (wx a u) (own _ h.1) (by rw [←pc];exact h.2)⟩
      case skip=>exact ⟨rest _ h.1,back _ _ _ (ex a _) (wx a _) (own _ h.1) (by rw [←pc];exact h.2)⟩
      case enter f args=>exact Calls.mono h λe w'' ⟨u,e1,he⟩=>⟨u,e1,rest _ he.1,back _ _ _ (ex a u) (wx a u) (own _ he.1) (by rw [←pc];exact he.2)⟩
      case round l f tmps assign body=>exact RoundIn.mono h λe w'' ⟨u,e1,he⟩=>⟨u,e1,rest _ he.1,back _ _ _ (ex a u) (wx a u) (own _ he.1) (by rw [←pc];exact he.2)⟩
      case row row args=>exact Rows.mono h λu w'' he=>⟨rest _ he.1,back _ _ _ (ex a u) (wx a u) (own _ he.1) (by rw [←pc];exact he.2)⟩
     |halt y w'=>simp only [Gs] at h
  ·
   rw [iP hwx] at h
   rw [wpS,hi] at h
   simp only [wi,hwi,iT,ei] at h
   have back:∀(a':Act) (w':World) (H':Held),(Region.wanted ox (yielded ops a'.tmps)=Region.wanted ox (yielded ops a.tmps)) ->
     wpS cls P ops un Q r H' (a'.put ox.dst undef) w'->wpS cls P ops un Q (x::r) H' a' w':=by
    intro a' w' H' hw' hh
    rw [wpS,hx]
    simp only [hw',iP hwx]
    exact hh
   split at h
   ·obtain ⟨u,hu,h⟩:=h
    exact ⟨u,hu,back _ _ _ (wx a u) (by rw [←pc];exact h)⟩
   ·obtain ⟨u,hu,h⟩:=h
    exact ⟨u,hu,back _ _ _ (wx a u) (by rw [←pc];exact h)⟩
   ·generalize (execOp a.eval oi).run P w=res at h ⊢
    cases res with
    |ok n w' =>
     cases n<;>simp only [Gs] at h ⊢
     case value u=>exact ⟨h.1,back _ _ _ (wx a u) (by rw [←pc];exact h.2)⟩
     case skip=>exact ⟨h.1,back _ _ _ (wx a _) (by rw [←pc];exact h.2)⟩
     case enter f args=>exact Calls.mono h λe w'' ⟨u,e1,he⟩=>⟨u,e1,he.1,back _ _ _ (wx a u) (by rw [←pc];exact he.2)⟩
     case round l f tmps assign body=>exact RoundIn.mono h λe w'' ⟨u,e1,he⟩=>⟨u,e1,he.1,back _ _ _ (wx a u) (by rw [←pc];exact he.2)⟩
     case row row args=>exact Rows.mono h λu w'' he=>⟨he.1,back _ _ _ (wx a u) (by rw [←pc];exact he.2)⟩
    |halt y w'=>simp only [Gs] at h
 ·
  rw [iP hwi]
  by_cases hwx:Region.wanted ox (yielded ops a.tmps)=true
  ·rw [iK hwx] at h
   have hx':∀u,Region.wanted ox (yielded ops (a.put oi.dst u).tmps)=true:=λu=>by rw [wx];exact hwx
   rw [wpS,hx]
   simp only [hx',iT,ex]
   cases c0:cls ox.op with
   |eff=>exact absurd c0 hq
   |free =>
    simp only [c0] at h ⊢
    obtain ⟨v,hv,h⟩:=h
    rw [wpS,hi] at h
    simp only [wi,iP hwi] at h
    exact ⟨v,hv,by rw [←pc];exact h⟩
   |read =>
    simp only [c0] at h ⊢
    obtain ⟨v,hv,h⟩:=h
    rw [wpS,hi] at h
    simp only [wi,iP hwi] at h
    exact ⟨v,hv,by rw [←pc];exact h⟩
  ·rw [iP hwx] at h
   rw [wpS,hi] at h
   simp only [wi,iP hwi] at h
   rw [wpS,hx]
   simp only [wx,iP hwx]
   rw [←pc]
   exact h
def Bo1 {i:Nat}{oi:Oper}(hi:ops[i]?=some oi) (hsi:∀cs b,oi.op≠.select cs b) (r:List Nat):∀(l:List Nat),
  (∀x∈l,un x i=true/\∃ox,ops[x]?=some ox/\cls ox.op≠.eff/\ox.apart ops oi=true/\∀cs b,ox.op≠.select cs b) ->
  ∀(H:Held) (a:Act) (w:World),wpS cls P ops un Q (l++i::r) H a w->wpS cls P ops un Q (i::(l++r)) H a w:=by
 intro l;induction l with
 |nil=>intro _ H a w h;exact h
 |cons x l ih=>intro hl H a w h;obtain ⟨hun,ox,hx,hq,hap,hsx⟩:=hl x iM;refine Bu9 hx hi hq hap hun hsx hsi _ H a w ?_;exact Bv1 x (ih λy hy=>hl y (iO _ hy)) H a w h
def Ux {rd:Option Nat}{Q':Exit->Act->Wp}{i:Nat}{r:List Nat}{H:Held}{a:Act}{w:World}(h:wpS cls P ops un Q (i::r) H a w) :
  wpOpIn (FW rd) 0 P ops Q' i (λa' w'=>∃H',wpS cls P ops un Q r H' a' w') a w:=by rw [wpS] at h;unfold wpOpIn;split at h;{exact h.elim};{rename_i o ho;simp only [ho];split at h;{rename_i hw;rw [iK hw];refine At8 ?_;split at h;{obtain ⟨v,h1,h2⟩:=h;rw [h1];exact ⟨_,h2⟩};{obtain ⟨v,h1,h2⟩:=h;rw [h1];exact ⟨_,h2⟩};{exact Ik (λa w ⟨_,h2⟩=>⟨_,h2⟩) h}};{rename_i hw;rw [iP hw];exact ⟨λ_ _=>trivial,_,h⟩}}
def Ao0 {rd:Option Nat}{Q':Exit->Act->Wp}(hQ:∀a w,Q a w->Q' .normal a w):∀(l:List Nat) (H:Held) (a:Act) (w:World),wpS cls P ops un Q l H a w->wpOpsIn (FW rd) 0 P ops Q' l a w:=by
 intro l;induction l with
 |nil=>intro H a w h;exact hQ _ _ h
 |cons i r ih=>intro H a w h;rw [iU];exact iV (λa w ⟨H',h⟩=>ih H' a w h) (Ux h)
end
def Tm (ops:Array Oper) (B:Nat->Nat):Bool :=
 (List.range ops.size).all λi=>(List.range ops.size).all λx=>!(B i).testBit x ||
  ((ops[i]?).map λo=>o.after.toList.any λe=>Region.binds .any e&&(Nat.beq e.on x||(B e.on).testBit x)).getD false
def Aa8 (ops:Array Oper):Bool :=
 ops.toList.all λo=>o.after.toList.all λe=>!Region.binds .any e||Nat.blt e.on ops.size
def Zp (cls:Op->Cl) (ops:Array Oper) (B:Nat->Nat) (x i:Nat):Bool :=
 match ops[x]?,ops[i]? with
 | some ox,some oi=>!Nat.beq x i&&(ox.after.toList.all λe=>!Region.binds .any e||(!Nat.beq e.on i&&!Nat.beq e.on x)) &&
   ((B i).testBit x||((match cls ox.op with | .eff=>false|_=>true)&&ox.apart ops oi))
 |_,_=>false
def Bc8 (ops:Array Oper) (x:Nat):Bool :=
 match ops[x]? with
 |some ox=>ox.after.toList.all λe=>!Region.binds .any e||!Nat.beq e.on x
 |none=>false
def Jv (cls:Op->Cl) (ops:Array Oper) (B:Nat->Nat):List Nat->Bool
 |[]=>true
 |x::r=>Bc8 ops x&&r.all (Zp cls ops B x)&&Jv cls ops B r
def Ap8 (n:Nat) (σ:List Nat):Bool:=Nat.beq σ.length n&&(σ.all λi=>Nat.blt i n)&&(List.range n).all λi=>σ.contains i
def Al1 (ops:Array Oper):Bool:=ops.toList.all λo=>match o.op with | .select ..=>false|_=>true
def Ym (cls:Op->Cl) (ops:Array Oper) (B:Nat->Nat) (σ:List Nat):Bool :=
 Tm ops B&&Aa8 ops&&Al1 ops&&Ap8 ops.size σ&&Jv cls ops B σ
section
variable {cls:Op->Cl}{P:Program}{ops:Array Oper}{B:Nat->Nat}{Q:Act->Wp}
structure Inv (cls:Op->Cl) (ops:Array Oper) (B:Nat->Nat) (listed:Array Bool) (ρ:List Nat):Prop where
 pairs:Jv cls ops B ρ=true
 here:∀i,i<ops.size->(listed.getD i false=true\/i∈ρ)
 not:∀i,i∈ρ->listed.getD i false=false/\i<ops.size
 nodup:ρ.Nodup
 size:listed.size=ops.size
 down:∀i x,listed.getD i false=true->(B i).testBit x=true->x<ops.size->listed.getD x false=true
def Nw (h:Al1 ops=true){i:Nat}{o:Oper}(ho:ops[i]?=some o) (cs:Array SelectCase) (b:Bool):o.op≠.select cs b:=by
 intro e;have:=iW.1 h o (by
  rw [iY] at ho
  obtain ⟨hlt,rfl⟩:=ho
  simp)
 rw [e] at this;exact absurd this (by simp)
def Xg {l:List Nat}{i:Nat}{r:List Nat}(h:Jv cls ops B (l++i::r)=true):(∀x∈l,Zp cls ops B x i=true)/\Jv cls ops B (l++r)=true/\Bc8 ops i=true:=by
 induction l with
 |nil=>simp only [iZ,Jv,jA] at h;exact ⟨(λ_ h=>by cases h),h.2,h.1.1⟩
 |cons y l ih=>simp only [jC,Jv,jA,jD,List.all_cons] at h;obtain ⟨⟨h0,h1,h2,h3⟩,h4⟩:=h;obtain ⟨g1,g2,g3⟩:=ih h4;refine ⟨λx hx=>?_,?_,g3⟩;{rcases iL.1 hx with rfl|hx;{exact h2};{exact g1 x hx}};{simp only [jC,Jv,jA,jD];exact ⟨⟨h0,h1,h3⟩,g2⟩}
def Ub (hB:Tm ops B=true) (hE:Aa8 ops=true) (hN:Al1 ops=true){rd:Option Nat}{Q':Exit->Act->Wp}(hQ:∀a w,Q a w->Q' .normal a w) :
  ∀(fuel:Nat) (listed:Array Bool) (ρ:List Nat) (H:Held) (a:Act) (w:World),ρ.length=fuel->Inv cls ops B listed ρ ->
   wpS cls P ops (λx i=>!(B i).testBit x) Q ρ H a w->wpAnyIn (FW rd) 0 P .any ops Q' fuel listed a w:=by
 have ready:∀{listed:Array Bool} {ρ:List Nat} {i:Nat},Inv cls ops B listed ρ->i∈Region.ready .any ops listed->i∈ρ/\∃o,ops[i]?=some o/\∀e∈o.after,Region.binds .any e=true->listed.getD e.on false=true:=by
  intro listed ρ i inv h
  obtain ⟨h1,o,ho,h2⟩:=jE.1 h
  have hi:i<ops.size:=(iY.1 ho).1
  refine ⟨(inv.here i hi).resolve_left λhh=>?_,o,ho,h2⟩
  have:i<listed.size:=by rw [inv.size];exact hi
  simp [Array.getD,this] at hh h1
  rw [hh] at h1;exact absurd h1 (by simp)
 have head:∀{listed:Array Bool} {x:Nat} {r:List Nat},Inv cls ops B listed (x::r)->x∈Region.ready .any ops listed:=by
  intro listed x r inv
  obtain ⟨hx1,hx2⟩:=inv.not x iM
  have hl:x<listed.size:=by rw [inv.size];exact hx2
  refine jE.2 ⟨?_,ops[x],by simp [hx2],λe he hb=>?_⟩
  ·simpa [Array.getD,hl] using hx1
  ·have hp:=inv.pairs
   simp only [Jv,jA] at hp
   have hin:e.on<ops.size:=by
    have:=iW.1 hE ops[x] (by simp)
    have:=iW.1 this e (by simpa using he)
    simp only [hb,jF,jG] at this
    simpa using this
   refine (inv.here e.on hin).resolve_right λhm=>?_
   rcases iL.1 hm with hm|hm
   ·have:=hp.1.1
    simp only [Bc8,show ops[x]?=some ops[x] by simp [hx2]] at this
    have:=iW.1 this e (by simpa using he)
    simp [hb,hm] at this
   ·have:=iW.1 hp.1.2 e.on hm
    simp only [Zp,show ops[x]?=some ops[x] by simp [hx2],show ops[e.on]?=some ops[e.on] by simp [hin],jA] at this
    have:=iW.1 this.1.2 e (by simpa using he)
    simp [hb] at this
 intro fuel;induction fuel with
 |zero =>
  intro listed ρ H a w hl inv h;obtain rfl:ρ=[]:=jH.1 hl;refine ⟨?_,hQ _ _ h⟩;cases hr:Region.ready .any ops listed with
  |nil=>rfl
  |cons i l=>exact absurd (ready inv (hr▸iM)).1 (by simp)
 | succ fuel ih =>
  intro listed ρ H a w hl inv h;refine ⟨λhr=>?_,λi hi=>?_⟩
  ·cases ρ with
   |nil=>simp at hl
   |cons x r=>exact absurd (head inv) (by rw [hr];simp)
  ·obtain ⟨him,o,ho,hpre⟩:=ready inv hi;obtain ⟨l,r,rfl⟩:=jJ him;obtain ⟨hpi,hpr,_⟩:=Xg inv.pairs;have hbound:∀x,(B i).testBit x=true->x<ops.size->listed.getD x false=true:=by
    intro x hx hxs
    have hi':i<ops.size:=(iY.1 ho).1
    have:=iW.1 (iW.1 hB i (jK.2 hi')) x (jK.2 hxs)
    simp only [hx,jF,jG,ho,jL,jM,List.any_eq_true,jA,jO] at this
    obtain ⟨e,he,hb,hc⟩:=this
    have hle:=hpre e (by simpa using he) hb
    rcases hc with hc|hc
    ·have:e.on=x:=jP hc
     rw [←this];exact hle
    ·exact inv.down e.on x hle hc hxs
   have hfront:=Bo1 (P:=P) (Q:=Q) (un:=λx i=>!(B i).testBit x) ho (Nw hN ho) r l (λx hx=>by
    have hxm:=inv.not x (jQ _ hx)
    have hp:=hpi x hx
    have hxo:ops[x]?=some ops[x]:=by simp [hxm.2]
    simp only [Zp,hxo,ho,jA,jO] at hp
    have hnb:(B i).testBit x=false:=by
     cases hb:(B i).testBit x with
     |false=>rfl
     |true=>rw [hbound x hb hxm.2] at hxm;exact absurd hxm.1 (by simp)
    refine ⟨by simp [hnb],ops[x],hxo,?_,?_,Nw hN hxo⟩
    ·rcases hp.2 with h|h
     ·rw [hnb] at h;exact absurd h (by simp)
     ·intro hc;rw [hc] at h;simp at h
    ·rcases hp.2 with h|h
     ·rw [hnb] at h;exact absurd h (by simp)
     ·exact h.2) H a w h
   refine iV (λa' w' ⟨H',hh⟩=>?_) (Ux hfront);have hi':i<ops.size:=(iY.1 ho).1;(have hil:i<listed.size:=by rw [inv.size];exact hi');have hset:∀j,(listed.setIfInBounds i true).getD j false=true↔(j=i\/listed.getD j false=true):=by
    intro j
    by_cases hj:i=j
    ·subst hj;simp [Array.getD,hil]
    ·rw [getD_set_ne false hj];simp [Ne.symm hj]
   have hnd:i∉l++r:=by
    have:=inv.nodup
    rw [jR] at this
    obtain ⟨h1,h2,h3⟩:=this
    rw [jT] at h2
    intro hm
    rcases jV.1 hm with hm|hm
    ·exact h3 i hm i iM rfl
    ·exact h2.1 hm
   refine ih _ (l++r) H' a' w' (by simp at hl ⊢;omega) ⟨hpr,?_,?_,?_,by simp [inv.size],?_⟩ hh;{intro j hj;rcases inv.here j hj with h|h;{exact .inl ((hset j).2 (.inr h))};{by_cases hji:j=i;{exact .inl ((hset j).2 (.inl hji))};{refine .inr ?_;rcases jV.1 h with h|h;{exact jQ _ h};{exact jW _ ((iL.1 h).resolve_left hji)}}}}
   ·intro j hj;have hji:j≠i:=λe=>hnd (e▸hj);have hjm:j∈l++i::r:=by
     rcases jV.1 hj with h|h
     ·exact jQ _ h
     ·exact jW _ (iO _ h)
    obtain ⟨h1,h2⟩:=inv.not j hjm;refine ⟨?_,h2⟩;cases hc:(listed.setIfInBounds i true).getD j false with
    |false=>rfl
    |true=>rcases (hset j).1 hc with h|h;{exact absurd h hji};{rw [h1] at h;exact absurd h (by simp)}
   {have:=inv.nodup;rw [jR] at this ⊢;obtain ⟨h1,h2,h3⟩:=this;rw [jT] at h2;exact ⟨h1,h2.2,λx hx y hy=>h3 x hx y (iO _ hy)⟩};{intro j x hj hx hxs;rcases (hset j).1 hj with h|h;{subst h;exact (hset x).2 (.inr (hbound x hx hxs))};{exact (hset x).2 (.inr (inv.down j x h hx hxs))}}
def Xe {id:Nat}{a:Act}{w:World}{σ:List Nat}(hm:P.follows .mixedOrders=true) (hok:Ym cls ops B σ=true){rd:Option Nat}{Q':Exit->Act->Wp}
  (hQ:∀a w,Q a w->Q' .normal a w) (h:wpS cls P ops (λx i=>!(B i).testBit x) Q σ [] a { w with drawn:=w.drawn+1 }):(Code.region id ops true).wpIn (FW rd) 0 P Q' a w:=by
 simp only [Ym,jA] at hok;obtain ⟨⟨⟨⟨hB,hE⟩,hN⟩,hO⟩,hP⟩:=hok;simp only [Ap8,jA] at hO;have hlen:σ.length=ops.size:=jP hO.1.1;have hmem:∀i,i<ops.size->i∈σ:=λi hi=>(by simpa using iW.1 hO.2 i (jK.2 hi));have hlt:∀i∈σ,i<ops.size:=λi hi=>(by simpa using iW.1 hO.1.2 i hi);have hnd:∀l:List Nat,Jv cls ops B l=true->l.Nodup:=by
  intro l
  induction l with
  |nil=>intro _;exact jX
  |cons x r ih=>intro h;simp only [Jv,jA] at h;refine jT.2 ⟨λhx=>?_,ih h.2⟩;have:=iW.1 h.1.2 x hx;unfold Zp at this;split at this;{simp at this};{simp at this}
 have hnd:=hnd σ hP;refine wpIn_region_any hm (Ub hB hE hN hQ ops.size _ σ [] a _ hlen ⟨hP,λi hi=>.inr (hmem i hi),λi hi=>⟨?_,hlt i hi⟩,hnd,by simp,?_⟩ h);{simp [Array.getD]};{intro i x hi;simp [Array.getD] at hi}
end
#print axioms Xe
structure Sl where
 a:Option Addr
 len:Nat
 cap:Nat
def scaled (n s:Nat):Nat:=match s with|1=>n|_=>n*s
def Sl.cut (a:Option Addr) (l h m:Int) (sz:Nat):Sl:=⟨if m.toNat=l.toNat then a else a.map (·.add (scaled l.toNat sz)),h.toNat-l.toNat,m.toNat-l.toNat⟩
structure Clo where
 fn:Fn
 first:Array Value
 captured:Array Value
inductive Cell where
 |int (k:IntKind)|bool|str|ptr|sl|map|iface|fn|any|addr
@[reducible] def Cell.T:Cell->Type
 |.int _=>Int
 |.bool=>Bool
 |.str=>ByteArray
 |.ptr=>Option Addr
 |.sl=>Sl
 |.map=>Option Nat
 |.iface=>Option (TypeId×Value)
 |.fn=>Option Clo
 |.any=>Value
 |.addr=>Addr
def Cell.val:(c:Cell)->c.T->Value
 |.int k,n=>.int k n
 |.bool,b=>.bool b
 |.str,s=>.string s
 |.ptr,a=>.pointer a
 |.sl,s=>.slice s.a s.len s.cap
 |.map,m=>.map m
 |.iface,x=>match x with|none=>.nilIface|some x=>.iface x.1 x.2
 |.fn,x=>match x with|none=>.nilFunc|some c=>.func c.fn c.first c.captured
 |.any,v=>v
 |.addr,p=>.pointer (some p)
def Cell.of:(c:Cell)->Value->Option c.T
 |.int k,v=>match v with | .int k' n=>(match decide (k'=k) with|true=>some n|false=>none)|_=>none
 |.bool,v=>match v with | .bool b=>some b|_=>none
 |.str,v=>match v with | .string s=>some s|_=>none
 |.ptr,v=>match v with | .pointer a=>some a|_=>none
 |.sl,v=>match v with | .slice a l c=>some ⟨a,l,c⟩|_=>none
 |.map,v=>match v with | .map m=>some m|_=>none
 |.iface,v=>match v with | .nilIface=>some none | .iface t x=>some (some (t,x))|_=>none
 |.fn,v=>match v with | .nilFunc=>some none | .func f a b=>some (some ⟨f,a,b⟩)|_=>none
 |.any,v=>some v
 |.addr,v=>match v with | .pointer a=>a|_=>none
def Cell.Rw {c:Cell}{v:Value}{x:c.T}(h:c.of v=some x):v=c.val x:=by cases c<;>cases v<;>simp only [Cell.of] at h<;>first|(cases h;done)|(cases h;rfl)|skip;{rename_i k k' n;split at h;{rename_i hk;obtain rfl:=jY hk;cases h;rfl};{cases h}}
@[reducible] def Cells.T:List Cell->Type
 |[]=>Unit
 |c::r=>c.T×Cells.T r
def Cells.vals:(cs:List Cell)->Cells.T cs->List Value
 |[],_=>[]
 |c::r,x=>c.val x.1::Cells.vals r x.2
def Cells.of:(cs:List Cell)->List Value->Option (Cells.T cs)
 |[],l=>match l with|[]=>some ()|_::_=>none
 | c::r,l=>match l with
  |[]=>none
  | v::l=>match c.of v with
   |none=>none
   |some x=>match Cells.of r l with
    |none=>none
    |some y=>some (x,y)
def Cells.Yn:∀{cs:List Cell}{l:List Value}{x:Cells.T cs},Cells.of cs l=some x->l=Cells.vals cs x
 |[],l,x,h=>by cases l<;>simp [Cells.of,Cells.vals] at h ⊢
 | c :: r,l,x,h=>by
  cases l with
  |nil=>simp [Cells.of] at h
  | cons v l =>
   simp only [Cells.of] at h
   split at h
   ·cases h
   ·rename_i y hy
    split at h
    ·cases h
    ·rename_i z hz
     cases h
     rw [Cells.vals,←Cells.Yn hz,←Cell.Rw hy]
def Cells.Q8:∀(cs:List Cell) (x:Cells.T cs),(Cells.vals cs x).length=cs.length
 |[],_=>rfl
 |c::r,x=>by simp [Cells.vals,Cells.Q8 r x.2]
inductive Ty where
 |one (x:Cell)
 |agg (cs:List Cell)
@[reducible] def Ty.T:Ty->Type
 |.one x=>x.T
 |.agg cs=>Cells.T cs
def Ty.val:(t:Ty)->t.T->Value
 |.one c,x=>c.val x
 |.agg cs,x=>.agg (Cells.vals cs x).toArray
def Ty.of:(t:Ty)->Value->Option t.T
 |.one c,v=>c.of v
 |.agg cs,v=>match v with | .agg l=>Cells.of cs l.toList|_=>none
def Ty.Rw {t:Ty}{v:Value}{x:t.T}(h:t.of v=some x):v=t.val x:=by
 cases t with
 |one c=>exact Cell.Rw h
 |agg cs=>cases v<;>simp only [Ty.of] at h<;>first|(cases h;done)|skip;rename_i l;have:=Cells.Yn h;simp only [Ty.val,←this]
@[reducible] def Tys.T:List Ty->Type
 |[]=>Unit
 |c::r=>c.T×Tys.T r
def Tys.vals:(cs:List Ty)->Tys.T cs->List Value
 |[],_=>[]
 |c::r,x=>c.val x.1::Tys.vals r x.2
def Tys.of:(cs:List Ty)->List Value->Option (Tys.T cs)
 |[],l=>match l with|[]=>some ()|_::_=>none
 | c::r,l=>match l with
  |[]=>none
  | v::l=>match c.of v with
   |none=>none
   |some x=>match Tys.of r l with
    |none=>none
    |some y=>some (x,y)
def Tys.Yn:∀{cs:List Ty}{l:List Value}{x:Tys.T cs},Tys.of cs l=some x->l=Tys.vals cs x
 |[],l,x,h=>by cases l<;>simp [Tys.of,Tys.vals] at h ⊢
 | c :: r,l,x,h=>by
  cases l with
  |nil=>simp [Tys.of] at h
  | cons v l =>
   simp only [Tys.of] at h
   split at h
   ·cases h
   ·rename_i y hy
    split at h
    ·cases h
    ·rename_i z hz
     cases h
     rw [Tys.vals,←Tys.Yn hz,←Ty.Rw hy]
inductive RTy where
 |one (t:Ty)
 |tup (ts:List Ty)
@[reducible] def RTy.T:RTy->Type
 |.one t=>t.T
 |.tup ts=>Tys.T ts
def RTy.val:(t:RTy)->t.T->Value
 |.one t,x=>t.val x
 |.tup ts,x=>.tuple (Tys.vals ts x).toArray
def RTy.of:(t:RTy)->Value->Option t.T
 |.one t,v=>t.of v
 |.tup ts,v=>match v with | .tuple l=>Tys.of ts l.toList|_=>none
def RTy.Rw {t:RTy}{v:Value}{x:t.T}(h:t.of v=some x):v=t.val x:=by
 cases t with
 |one c=>exact Ty.Rw h
 |tup cs=>cases v<;>simp only [RTy.of] at h<;>first|(cases h;done)|skip;rename_i l;have:=Tys.Yn h;simp only [RTy.val,←this]
structure Inf where
 desc:TypeDesc
 size:Nat
 bytes:Nat
 zero:Option Value
 ty:Ty
 rty:RTy
def Xw:TypeDesc->Bool
 |.struct _ | .array _ _=>true
 |_=>false
def Inf.wf (i:Inf):Bool :=
 match i.ty with
 |.one _=>!Xw i.desc
 |.agg cs=>Xw i.desc&&Nat.beq cs.length i.size
structure Tab where
 types:List (TypeId×Inf)
 fns:List FuncId
def find? {α:Type}(t:Nat):List (Nat×α)->Option α
 |[]=>none
 |x::r=>match Nat.beq x.1 t with|true=>some x.2|false=>find? t r
def Tab.get (T:Tab) (t:TypeId):Option Inf:=find? t T.types
structure Aq (P:Program) (t:TypeId) (i:Inf):Prop where
 und:P.underlying t=some i.desc
 info:(P.info? t).map (λj=>(j.size,j.bytes,j.zero))=some (i.size,i.bytes,i.zero)
 wf:i.wf=true
def As4 (P:Program):List (TypeId×Inf)->Prop
 |[]=>True
 |x::r=>Aq P x.1 x.2/\As4 P r
def Bn5 (P:Program):List FuncId->Prop
 |[]=>True
 |f::r=>((P.funcs[f]?).map λfn=>(fn.body.isNone,fn.name == "runtime.NumGoroutine"))=some (false,false)/\Bn5 P r
structure Tab.Ok (T:Tab) (P:Program):Prop where
 types:As4 P T.types
 fns:Bn5 P T.fns
 mixed:P.follows .mixedOrders=true
def find_ok {P:Program}:∀{l:List (TypeId×Inf)}{t:TypeId}{i:Inf},As4 P l->find? t l=some i->Aq P t i
 |[],t,i,_,h=>by cases h
 | x::r,t,i,ok,h=>by
  simp only [find?] at h
  split at h
  ·rename_i e
   obtain rfl:=jP e
   cases h
   exact ok.1
  ·exact find_ok ok.2 h
def Tab.Ok.get {T:Tab}{P:Program}(ok:T.Ok P){t:TypeId}{i:Inf}(h:T.get t=some i):Aq P t i:=find_ok ok.types h
def Cd1 {P:Program}:∀{l:List FuncId}{f:FuncId},Bn5 P l->l.elem f=true->((P.funcs[f]?).map λfn=>(fn.body.isNone,fn.name == "runtime.NumGoroutine"))=some (false,false)
 |[],f,_,h=>by cases h
 | x::r,f,ok,h=>by
  rw [List.elem_cons] at h
  split at h
  ·rename_i e
   have:f=x:=by simpa using e
   rw [this];exact ok.1
  ·exact Cd1 ok.2 h
section infos
variable {P:Program}{t:TypeId}{i:Inf}(h:Aq P t i) (w:World)
include h
def Aq.Al8:∃j,P.info? t=some j/\j.size=i.size/\j.bytes=i.bytes/\j.zero=i.zero:=by
 have:=h.info;cases hj:P.info? t with
 |none=>rw [hj] at this;cases this
 |some j=>rw [hj] at this;simp at this;exact ⟨j,rfl,this.1,this.2.1,this.2.2⟩
def Aq.Gz:(underlying t).run P w=.ok i.desc w:=jZ h.und w
def Aq.Gj:(sizeOf t).run P w=.ok i.size w:=by obtain ⟨j,hj,hs,_⟩:=h.Al8;simp [sizeOf,kC w hj,hs]
def Aq.Ql {z:Value}(hz:i.zero=some z):(zeroValue t).run P w=.ok z w:=by obtain ⟨j,hj,_,_,hz'⟩:=h.Al8;simp [zeroValue,kC w hj,hz',hz]
def Aq.Qd:(isAgg t).run P w=.ok (Xw i.desc) w:=by simp only [isAgg,iH,h.Gz,iI];cases i.desc<;>rfl
end infos
def cdE {X:Type}(c:X->Prop) (K:X->Wp):World->Prop:=λw=>∃x,c x/\K x w
def rdE {X:Type}(rd:X->Wp) (K:X->Wp):World->Prop:=λw=>∃x,rd x w/\K x w
def keep (p:World->Prop) (K:World->Prop):World->Prop:=λw=>p w/\K w
def sif (b:Bool) (A B:World->Prop):World->Prop:=λw=>(b=true->A w)/\(b=false->B w)
def Ak (o:Obj) (K:Nat->Wp):World->Prop:=λw=>K w.heap.size (w.alloc o)
def stC (p:Addr) (v:Value) (K:World->Prop):World->Prop:=λw=>((∃u,w.cell? p=some u)/\w.frozen? p=false)/\K (w.setCell p v)
def Bx1 (p:Addr):Nat->List Value->(World->Prop)->World->Prop
 |_,[],K=>K
 |i,v::r,K=>stC (p.add i) v (Bx1 p (i+1) r K)
def Ez (w:World) (p:Addr):Nat->List Value->Prop
 |_,[]=>True
 |i,v::r=>w.cell? (p.add i)=some v/\Ez w p (i+1) r
def Dy (P:Program) (t:RTy) (s:Sem Value) (K:t.T->Wp):World->Prop:=λw=>∃x w',s.run P w=.ok (t.val x) w'/\K x w'
def Av3 (P:Program) (s:Sem Unit) (K:World->Prop):World->Prop:=λw=>∃w',s.run P w=.ok () w'/\K w'
def Aa (P:Program) (f:FuncId) (args:Array Value) (t:RTy) (K:t.T->Wp):World->Prop :=
 λw=>Calls P f args w λe w'=>∃x,e=.returned (t.val x)/\K x w'
def Cj (P:Program) (s:Sem Next) (t:RTy) (K:t.T->Wp):World->Prop :=
 λw=>(∃f args,s.run P w=.ok (.enter f args) w/\Aa P f args t K w)\/(∃x w',s.run P w=.ok (.value (t.val x)) w'/\K x w') \/
  ∃l f tmps assign body,s.run P w=.ok (.round l f tmps assign body) w/\RoundIn (FW none) 0 P l f tmps assign body w λe w'=>∃x,e=.returned (t.val x)/\K x w'
def Aw2 (P:Program) (s:Sem Value) (K:Bool->List Value->Wp):World->Prop:=λw =>
 ∃b rest w',s.run P w=.ok (.tuple (.bool b::rest).toArray) w'/\K b rest w'
def Bl3 (P:Program) (s:Sem Value) (K:Int->Int->Wp) (K0:World->Prop):World->Prop:=λw =>
 (∃p c w',s.run P w=.ok (.tuple #[.bool true,.int .i64 p,.int .i32 c]) w'/\K p c w')\/∃w',s.run P w=.ok (.tuple #[.bool false]) w'/\K0 w'
def Bf0 (P:Program) (v:Value) (m:String):Prop:=∃t u,v=.iface t u/\∀w,(nilAhead (P.types.size+Made.depth) t u m).run P w=.ok (some false) w
inductive QR where
 |no
 |val (v:Value)
 |cond {X:Type} (c:X->Prop) (val:X->Value)
 |read {X:Type} (rd:X->Wp) (val:X->Value)
abbrev Ev:=Operand->Option Value
def Ct6 (op:BinOp) (k:IntKind) (x y:Int):QR :=
 match op with
 |.add=>.val (.int k (k.wrap (x+y)))
 |.sub=>.val (.int k (k.wrap (x-y)))
 |.mul=>.val (.int k (k.wrap (x*y)))
 |.quo=>.cond (λ_:Unit=>y≠0) (λ_=>.int k (k.wrap (x.tdiv y)))
 |.rem=>.cond (λ_:Unit=>y≠0) (λ_=>.int k (x.tmod y))
 |.and=>.val (.int k (k.wrap (BitVec.ofInt k.bits x &&& BitVec.ofInt k.bits y).toNat))
 |.or=>.val (.int k (k.wrap (BitVec.ofInt k.bits x ||| BitVec.ofInt k.bits y).toNat))
 |.xor=>.val (.int k (k.wrap (BitVec.ofInt k.bits x ^^^ BitVec.ofInt k.bits y).toNat))
 |.andNot=>.val (.int k (k.wrap (BitVec.ofInt k.bits x &&& ~~~BitVec.ofInt k.bits y).toNat))
 |.eql=>.val (.bool (x==y))
 |.neq=>.val (.bool (x !=y))
 |.lss=>.val (.bool (x<y))
 |.leq=>.val (.bool (x<=y))
 |.gtr=>.val (.bool (x>y))
 |.geq=>.val (.bool (x>=y))
 |_=>.no
def Bf7 (op:BinOp) (k:IntKind) (x y:Int):QR :=
 match op with
 |.shl=>.cond (λ_:Unit=>0<=y) (λ_=>.int k (k.wrap (x*2^(min y.toNat k.bits))))
 |.shr=>.cond (λ_:Unit=>0<=y) (λ_=>.int k (x.fdiv (2^(min y.toNat k.bits))))
 |_=>.no
def Cr5 (op:BinOp) (x y:ByteArray):QR :=
 match op with
 |.add=>.cond (λ_:Unit=>((x.size+y.size:Nat):Int)<=IntKind.i64.max) (λ_=>.string (x++y))
 |.eql=>.val (.bool (x.toList==y.toList))
 |.neq=>.val (.bool !(x.toList==y.toList))
 |.lss=>.val (.bool (Op.bytesLess x.toList y.toList))
 |.leq=>.val (.bool (Op.bytesLess x.toList y.toList||x.toList==y.toList))
 |.gtr=>.val (.bool !(Op.bytesLess x.toList y.toList||x.toList==y.toList))
 |.geq=>.val (.bool !(Op.bytesLess x.toList y.toList))
 |_=>.no
def Yt:BinOp->Bool
 |.shl | .shr=>true
 |_=>false
def Cc8:Operand->Bool
 |.const (.pointer none) | .const (.slice none 0 0) | .const (.map none) | .const .nilIface | .const .nilFunc=>true
 |_=>false
def Px (d:TypeDesc) (x y:Value):Option Bool :=
 match d,x,y with
 |.pointer _,.pointer a,.pointer none=>some a.isNone
 |.slice _,.slice a _ _,.slice none _ _=>some a.isNone
 |.map _ _,.map m,.map none=>some m.isNone
 |_,_,_=>none
def Cf1 (T:Tab) (P:Program) (op:BinOp) (xType:TypeId) (x y:Operand) (a b:Value):QR :=
 match a,b with
 |.int k m,.int k' n=>match Yt op with
  |true=>Bf7 op k m n
  |false=>match decide (k'=k) with|true=>Ct6 op k m n|false=>.no
 |.string s,.string s'=>Cr5 op s s'
 | a,b =>
  match op with
  | .eql=>match Cc8 y,T.get xType with
   |true,some i=>match Px i.desc a b with
    |some r=>.val (.bool r)
    |none=>.read (λ(r:Bool) w=>(do eqGuard op xType x y a b;binOp op xType a b:Sem Value).run P w=.ok (.bool r) w) (λr=>.bool r)
   |_,_=>.read (λ(r:Bool) w=>(do eqGuard op xType x y a b;binOp op xType a b:Sem Value).run P w=.ok (.bool r) w) (λr=>.bool r)
  | .neq=>match Cc8 y,T.get xType with
   |true,some i=>match Px i.desc a b with
    |some r=>.val (.bool !r)
    |none=>.read (λ(r:Bool) w=>(do eqGuard op xType x y a b;binOp op xType a b:Sem Value).run P w=.ok (.bool r) w) (λr=>.bool r)
   |_,_=>.read (λ(r:Bool) w=>(do eqGuard op xType x y a b;binOp op xType a b:Sem Value).run P w=.ok (.bool r) w) (λr=>.bool r)
  |_=>.no
def Cx9:TypeDesc->Bool
 |.func _ _ _=>true
 |.interface _=>true
 |_=>false
def Af2 (T:Tab) (t:TypeId):Bool:=match T.get t with|some i=>Cx9 i.desc|none=>false
def Cy0 (T:Tab) (t:TypeId):Bool:=match T.get t with|some i=>(match i.desc with | .float _=>true|_=>false)|none=>false
def flQ (P:Program) (op:BinOp) (xType:TypeId) (x y:Operand) (a b:Value):QR :=
 match op with
 |.lss | .leq | .gtr | .geq=>.read (λ(r:Bool) w=>(do eqGuard op xType x y a b;binOp op xType a b:Sem Value).run P w=.ok (.bool r) w) (λr=>.bool r)
 |_=>.read (λ(r:Value) w=>(do eqGuard op xType x y a b;binOp op xType a b:Sem Value).run P w=.ok r w) (λr=>r)
def Cu7 (T:Tab) (P:Program) (op:BinOp) (xType:TypeId) (x y:Operand) (a b:Value):QR :=
 match Af2 T xType with
 |true=>match op with
  |.eql=>.read (λ(r:Bool) w=>(do eqGuard op xType x y a b;binOp op xType a b:Sem Value).run P w=.ok (.bool r) w) (λr=>.bool r)
  |.neq=>.read (λ(r:Bool) w=>(do eqGuard op xType x y a b;binOp op xType a b:Sem Value).run P w=.ok (.bool r) w) (λr=>.bool r)
  |_=>.no
 |false=>match Cy0 T xType with
  |true=>flQ P op xType x y a b
  |false=>Cf1 T P op xType x y a b
def Aw9 (T:Tab) (t:TypeId) (p:Addr):QR :=
 match T.get t with
 |some i=>match i.ty with
  |.one c=>.read (λ(x:c.T) w=>w.cell? p=some (c.val x)) (λx=>c.val x)
  |.agg cs=>.read (λ(x:Cells.T cs) w=>Ez w p 0 (Cells.vals cs x)) (λx=>.agg (Cells.vals cs x).toArray)
 |none=>.no
def bnd (v:Option Value) (d:Nat):Option (Int×Bool) :=
 match v with
 |none=>some (d,false)
 |some (.int _ n)=>some (n,true)
 |_=>none
def Bc6 (T:Tab) (t:TypeId) (x:Value) (lo hi mx:Option Value):QR :=
 match T.get t with
 | some i=>match i.desc,x with
  | .slice e,.slice a len cap=>match T.get e,bnd lo 0,bnd hi len,bnd mx cap with
   |some j,some l,some h,some m=>match hi,mx with
    |none,some _=>.no
    |_,_=>.cond (λ_:Unit=>0<=l.1/\l.1<=h.1/\h.1<=m.1/\m.1<=cap) (λ_=>.slice (Sl.cut a l.1 h.1 m.1 j.size).a (Sl.cut a l.1 h.1 m.1 j.size).len (Sl.cut a l.1 h.1 m.1 j.size).cap)
   |_,_,_,_=>.no
  |.string,.string s=>match bnd lo 0,bnd hi s.size,mx with
   |some l,some h,none=>.cond (λ_:Unit=>0<=l.1/\l.1<=h.1/\h.1<=s.size) (λ_=>.string (s.extract l.1.toNat h.1.toNat))
   |_,_,_=>.no
  | .array n e,.pointer (some a)=>match T.get e,bnd lo 0,bnd hi n,bnd mx n with
   |some j,some l,some h,some m=>match hi,mx with
    |none,some _=>.no
    |_,_=>.cond (λ_:Unit=>0<=l.1/\l.1<=h.1/\h.1<=m.1/\m.1<=n) (λ_=>.slice (Sl.cut (some a) l.1 h.1 m.1 j.size).a (Sl.cut (some a) l.1 h.1 m.1 j.size).len (Sl.cut (some a) l.1 h.1 m.1 j.size).cap)
   |_,_,_,_=>.no
  |_,_=>.no
 |none=>.no
def Bz6 (T:Tab) (t:TypeId) (cs:List Value) (off:Nat):QR :=
 match T.get t with
 | some i=>match Xw i.desc with
  |true=>.val (.agg ((cs.drop off).take i.size).toArray)
  |false=>match cs[off]? with
   |some v=>.val v
   |none=>.no
 |none=>.no
def Ad9:List Value->Nat->List Value->List Value
 |cs,_,[]=>cs
 |cs,off,v::r=>Ad9 (cs.set off v) (off+1) r
def evs (ev:Ev):List Operand->Option (List Value)
 |[]=>some []
 |x::r=>match ev x,evs ev r with
  |some v,some l=>some (v::l)
  |_,_=>none
def Xm (place:Nat->Option (Nat×Nat)):List Value->List (Nat×Value)->Option (List Value)
 |cs,[]=>some cs
 | cs,p::r=>match place p.1 with
  |none=>none
  |some os=>match Nat.beq p.2.cells.toList.length os.2&&Nat.ble (os.1+p.2.cells.toList.length) cs.length with
   |true=>Xm place (Ad9 cs os.1 p.2.cells.toList) r
   |false=>none
def Bg6 (ev:Ev):List (Nat×Operand)->Option (List (Nat×Value))
 |[]=>some []
 |x::r=>match ev x.2,Bg6 ev r with
  |some v,some l=>some ((x.1,v)::l)
  |_,_=>none
def Aa4 (T:Tab):List Field->Option (List (Nat×Nat))
 |[]=>some []
 |f::r=>match T.get f.type,Aa4 T r with
  |some j,some l=>some ((f.offset,j.size)::l)
  |_,_=>none
def Bh8 (T:Tab) (t:TypeId) (ps:List (Nat×Value)):QR :=
 match T.get t with
 | some i=>match i.desc,i.zero with
  | .struct fs,some z=>match Aa4 T fs.toList with
   |some pl=>match Xm (λk=>pl[k]?) z.cells.toList ps with
    |some cs=>.val (.agg cs.toArray)
    |none=>.no
   |none=>.no
  | .array _ e,some z=>match T.get e with
   |some j=>match Xm (λk=>some (k*j.size,j.size)) z.cells.toList ps with
    |some cs=>.val (.agg cs.toArray)
    |none=>.no
   |none=>.no
  |_,_=>.no
 |none=>.no
def Cl6 (isMax:Bool):List Value->QR
 |[.int k x,.int _ y]=>.val (.int k (match isMax with|true=>if y>x then y else x|false=>if y<x then y else x))
 |_=>.no
def quiet (T:Tab) (P:Program) (ev:Ev) (o:Oper):QR :=
 match o.op with
 |.move x | .assign x=>match ev x with|some v=>.val v|none=>.no
 |.pick c a b=>match ev c with
  |some (.bool true)=>(match ev a with|some v=>.val v|none=>.no)
  |some (.bool false)=>(match ev b with|some v=>.val v|none=>.no)
  |_=>.no
 | .nilCheck x=>match ev x with
  |some (.pointer p)=>.cond (λ(a:Addr)=>p=some a) (λa=>.pointer (some a))
  |some (.func (.func f) a b)=>.val (.func (.func f) a b)
  |some (.iface t v)=>.val (.iface t v)
  |some (.func (.method m) a b)=>(match a.toList with
   |v::_=>.cond (λ(_:Unit)=>Bf0 P v m) (λ_=>.func (.method m) a b)
   |[]=>.no)
  |_=>.no
 | .fieldAddr s x f=>match ev x,T.get s with
  | some (.pointer (some a)),some i=>match i.desc with
   | .struct fs=>match fs.toList[f]? with
    | some fd=>match T.get fd.type with
     |some j=>match Nat.beq j.size 0 with
      |false=>.val (.pointer (some (a.add fd.offset)))
      |true=>.no
     |none=>.no
    |none=>.no
   |_=>.no
  |_,_=>.no
 | .field s x f=>match ev x,T.get s with
  | some (.agg cs),some i=>match i.desc with
   |.struct fs=>match fs.toList[f]? with
    |some fd=>Bz6 T fd.type cs.toList fd.offset
    |none=>.no
   |_=>.no
  |_,_=>.no
 | .indexAddr t x ix=>match ev x,ev ix,T.get t with
  | some (.slice a len _),some (.int _ n),some i=>match i.desc with
   |.slice e=>match T.get e with
    |some j=>.cond (λ(p:Addr)=>a=some p/\0<=n/\n<len) (λp=>.pointer (some (p.add (scaled n.toNat j.size))))
    |none=>.no
   |_=>.no
  | some (.pointer (some p)),some (.int _ n),some i=>match i.desc with
   |.array len e=>match T.get e with
    |some j=>.cond (λ(_:Unit)=>0<=n/\n<len) (λ_=>.pointer (some (p.add (scaled n.toNat j.size))))
    |none=>.no
   |_=>.no
  |_,_,_=>.no
 | .index t x ix=>match ev x,ev ix,T.get t with
  |some (.string s),some (.int _ n),some i=>match i.desc with
   |.string=>.cond (λ(b:UInt8)=>0<=n/\s[n.toNat]?=some b) (λb=>.int .u8 b.toNat)
   |_=>.no
  |_,_,_=>.no
 |.load t x=>match ev x with
  |some (.pointer (some p))=>Aw9 T t p
  |_=>.no
 |.binOp op t x y _=>match ev x,ev y with
  |some a,some b=>Cu7 T P op t x y a b
  |_,_=>.no
 |.unOp op _ x=>match op,ev x with
  |.not,some (.bool b)=>.val (.bool !b)
  |.neg,some (.int k n)=>.val (.int k (k.wrap (0-n)))
  |_,_=>.no
 | .convert src dst x=>match ev x,T.get src,T.get dst with
  |some (.int k0 n),some i,some j=>match i.desc,j.desc with
   |.int _,.int k=>.val (.int k (k.wrap n))
   |.int _,.float _=>.read (λ(r:Value) w=>(convert src dst (.int k0 n)).run P w=.ok r w) (λr=>r)
   |_,_=>.no
  |_,_,_=>.no
 |.extract t ix=>match ev t with
  |some (.tuple vs)=>match vs.toList[ix]? with|some v=>.val v|none=>.no
  |_=>.no
 |.build t parts=>match Bg6 ev parts.toList with
  |some ps=>Bh8 T t ps
  |none=>.no
 |.slice t x lo hi mx=>match ev x,(match lo with|none=>some none|some y=>(ev y).map some),(match hi with|none=>some none|some y=>(ev y).map some),(match mx with|none=>some none|some y=>(ev y).map some) with
  |some v,some l,some h,some m=>Bc6 T t v l h m
  |_,_,_,_=>.no
 | .makeInterface t x=>match ev x,T.get t with
  |some v,some i=>match i.desc with
   |.interface _=>.no
   |_=>.val (.iface t v)
  |_,_=>.no
 |.makeFunc fn first captured=>match evs ev first.toList,evs ev captured.toList with
  |some a,some b=>.val (.func fn a.toArray b.toArray)
  |_,_=>.no
 |.lookup t m k ok=>match ev m,ev k,T.get o.type with
  |some vm,some vk,some i=>.read (λ(x:i.rty.T) w=>(Instr.lookup t vm vk ok).run P w=.ok (i.rty.val x) w) (λx=>i.rty.val x)
  |_,_,_=>.no
 | .call c=>match c.callee with
  | .builtin b=>match evs ev c.args.toList,c.argTypes.toList with
   | some [x],[t]=>match b,x,T.get t with
    |.len,.slice _ n _,some i=>(match i.desc with | .slice _=>.val (.int .i64 n)|_=>.no)
    |.cap,.slice _ _ n,some i=>(match i.desc with | .slice _=>.val (.int .i64 n)|_=>.no)
    |.len,.string s,some i=>(match i.desc with | .string=>.val (.int .i64 s.size)|_=>.no)
    |.len,.map m,some i=>(match i.desc with
     |.map _ _=>.read (λ(n:Int) w=>(Builtin.len_ c.argTypes o.type #[.map m]).run P w=.ok (.int .i64 n) w) (λn=>.int .i64 n)
     |_=>.no)
    |_,_,_=>.no
   |some l,_=>match b with
    |.max=>Cl6 true l
    |.min=>Cl6 false l
    |_=>.no
   |none,_=>.no
  |_=>.no
 |_=>.no
def Tab.cls (T:Tab):Op->Cl
 |.move _ | .assign _ | .pick .. | .nilCheck _ | .fieldAddr .. | .field .. | .indexAddr .. | .index .. | .unOp .. | .extract .. | .build .. | .slice .. | .makeInterface .. | .makeFunc ..=>.free
 |.load .. | .lookup .. | .binOp ..=>.read
 |.convert src dst _=>match T.get src,T.get dst with
  |some i,some j=>(match i.desc,j.desc with | .int _,.int _=>.free | .int _,.float _=>.read|_,_=>.eff)
  |_,_=>.eff
 |.call c=>match c.callee with
  |.builtin .len | .builtin .cap | .builtin .max | .builtin .min=>.read
  |_=>.eff
 |_=>.eff
def Eb:Value->Bool
 |.agg _ | .tuple _=>false
 |_=>true
def Qm:List Value->Bool
 |[]=>true
 |v::r=>Eb v&&Qm r
def Ay5:List Value->List (Nat×Value)->Option (List Value)
 |cs,[]=>some cs
 |cs,p::r=>match Nat.blt p.1 cs.length with
  |true=>Ay5 (cs.set p.1 p.2) r
  |false=>none
def Ah (p:Addr) (v:Value) (n:Nat) (K:World->Prop):World->Prop :=
 match Nat.beq v.cells.toList.length n&&v.cells.toList.all Eb with
 |true=>Bx1 p 0 v.cells.toList K
 |false=>λ_=>False
def eff (T:Tab) (P:Program) (ev:Ev) (o:Oper) (rt:Option RTy) (K:Value->Wp):World->Prop :=
 match o.op with
 | .alloc t=>match T.get t with
  |some i=>match i.zero with
   |some z=>Ak (.cells z.cells t) λb=>K (.pointer (some ⟨b,0,none⟩))
   |none=>λ_=>False
  |none=>λ_=>False
 | .box t x=>match ev x with
  |some v=>(match Af2 T t with
   |true=>cdE (λ_:Unit=>Qm [v]=true) (λ_=>Ak (.cells #[v] t) λb=>K (.pointer (some ⟨b,0,none⟩)))
   |false=>Ak (.cells v.cells t) λb=>K (.pointer (some ⟨b,0,none⟩)))
  |none=>λ_=>False
 | .buildSlice t len parts=>match Bg6 ev parts.toList,T.get t with
  | some ps,some i=>match i.desc with
   | .slice e=>match T.get e with
    | some j=>match j.zero,Nat.ble (len*j.size) (2^24)&&!Nat.beq j.size 0 with
     | some z,true=>(match Af2 T e&&Nat.beq j.size 1 with
      |true=>cdE (λ_:Unit=>Qm (ps.map (·.2))=true) (λ_=>match Ay5 ((List.range (len*j.size)).map λk=>(z.cells.toList)[k%z.cells.toList.length]?.getD default) ps with
       |some cs=>Ak (.cells cs.toArray e) λb=>K (.slice (some ⟨b,0,none⟩) len len)
       |none=>λ_=>False)
      |false=>match Xm (λk=>some (k*j.size,j.size)) ((List.range (len*j.size)).map λk=>(z.cells.toList)[k%z.cells.toList.length]?.getD default) ps with
       |some cs=>Ak (.cells cs.toArray e) λb=>K (.slice (some ⟨b,0,none⟩) len len)
       |none=>λ_=>False)
     |_,_=>λ_=>False
    |none=>λ_=>False
   |_=>λ_=>False
  |_,_=>λ_=>False
 | .store t a x=>match ev a,ev x,T.get t with
  |some (.pointer (some p)),some v,some i=>match i.ty,Eb v with
   |.one .any,_=>(match Nat.beq i.size 1 with|true=>cdE (λ_:Unit=>Eb v=true) (λ_=>stC p v (K undef))|false=>λ_=>False)
   |.one _,true=>(match Nat.beq i.size 1 with|true=>stC p v (K undef)|false=>λ_=>False)
   |.agg _,_=>Ah p v i.size (K undef)
   |_,false=>λ_=>False
  |_,_,_=>λ_=>False
 |.makeMap _ none=>Ak (.map #[] 0) λb=>K (.map (some b))
 |.makeSlice t l c=>match ev l,ev c,rt with
  |some vl,some vc,some i=>Dy P i (Instr.makeSlice t vl vc) λx=>K (i.val x)
  |_,_,_=>λ_=>False
 |.convert s d x=>match ev x,rt with
  |some v,some i=>Dy P i (convert s d v) λx=>K (i.val x)
  |_,_=>λ_=>False
 |.mapUpdate t m k x=>match ev m,ev k,ev x with
  |some vm,some vk,some vx=>Av3 P (Instr.mapUpdate t vm vk vx) (K undef)
  |_,_,_=>λ_=>False
 |.insert t m k x=>match ev m,ev k,ev x with
  |some vm,some vk,some vx=>Av3 P (Instr.mapUpdate t vm vk vx) (K undef)
  |_,_,_=>λ_=>False
 |.mapEntry t m k=>match ev m,ev k,rt with
  |some vm,some vk,some i=>Dy P i (Instr.mapEntry t vm vk) λx=>K (i.val x)
  |_,_,_=>λ_=>False
 |.entryStore t m s x=>match ev m,ev s,ev x with
  |some vm,some vs,some vx=>Av3 P (Instr.entryStore t vm vs vx) (K undef)
  |_,_,_=>λ_=>False
 |.range t x=>match ev x with
  |some v=>Dy P (.one (.one .ptr)) (Instr.range t v) λx=>K (.pointer x)
  |none=>λ_=>False
 | .next it str=>match ev it with
  |some v=>match str with
   |false=>Aw2 P (Instr.next v str o.type) λb rest=>K (.tuple (.bool b::rest).toArray)
   |true=>Bl3 P (Instr.next v str o.type) (λp c=>K (.tuple #[.bool true,.int .i64 p,.int .i32 c])) (K (.tuple #[.bool false]))
  |none=>λ_=>False
 |.entry it=>match ev it,rt with
  |some v,some i=>Dy P i (Instr.entry v) λx=>K (i.val x)
  |_,_=>λ_=>False
 |.typeAssert x xt as_ ok=>match ev x,rt with
  |some v,some i=>Dy P i (Instr.typeAssert v xt as_ ok) λx=>K (i.val x)
  |_,_=>λ_=>False
 |.waits g=>match rt with
  |some i=>Dy P i (Instr.waits g) λx=>K (i.val x)
  |_=>λ_=>False
 | .call c=>match evs ev c.args.toList,rt with
  | some args,some i=>match c.callee with
   |.builtin b=>match b with
    |.append=>Dy P i (Builtin.append_ c.argTypes o.type args.toArray) λx=>K (i.val x)
    |.copy=>Dy P i (Builtin.copy_ c.argTypes o.type args.toArray) λx=>K (i.val x)
    |.delete=>Dy P i (Builtin.delete_ c.argTypes o.type args.toArray) λx=>K (i.val x)
    |.clear=>Dy P i (Builtin.clear_ c.argTypes o.type args.toArray) λx=>K (i.val x)
    |_=>λ_=>False
   | .value f=>match f with
    |.func g=>match T.fns.elem g with
     |true=>Aa P g args.toArray i λx=>K (i.val x)
     |false=>Cj P (callFunc g args.toArray) i λx=>K (i.val x)
    |f=>match ev f with
     |some vf=>Cj P (do let d ←Deferred.ofValue vf args.toArray;invoke d.target d.args) i λx=>K (i.val x)
     |none=>λ_=>False
   |.invoke r name=>match ev r with
    |some vr=>Cj P (invoke (.fn (.method name) #[]) (#[vr]++args.toArray)) i λx=>K (i.val x)
    |none=>λ_=>False
  |_,_=>λ_=>False
 |_=>λ_=>False
def QR.holds (P:Program) (q:QR) (s:Sem Next):Prop :=
 match q with
 |.no=>True
 |.val v=>∀w,s.run P w=.ok (.value v) w
 |.cond c f=>∀x,c x->∀w,s.run P w=.ok (.value (f x)) w
 |.read rd f=>∀x w,rd x w->s.run P w=.ok (.value (f x)) w
section
variable {T:Tab}{P:Program}{ev:Ev}{ρ:Operand->Value}
def Fj (n s:Nat):scaled n s=n*s:=by unfold scaled;split;{simp};{rfl}
def Gl {v:Value}{s:Sem Value}(h:∀w,s.run P w=.ok v w):(QR.val v).holds P (do pure (.value (←s))):=by intro w;simp [h w]
def Io {X:Type}{c:X->Prop}{val:X->Value}{s:Sem Value}(h:∀x,c x->∀w,s.run P w=.ok (val x) w):(QR.cond c val).holds P (do pure (.value (←s))):=by intro x hx w;simp [h x hx w]
def Jo {X:Type}{rd:X->Wp}{val:X->Value}{s:Sem Value}(h:∀x w,rd x w->s.run P w=.ok (val x) w):(QR.read rd val).holds P (do pure (.value (←s))):=by intro x w hx;simp [h x w hx]
def Cm4 (op:BinOp) (k:IntKind) (x y:Int) (xt:TypeId) (a b:Operand) (hs:Yt op=false):(Ct6 op k x y).holds P (do pure (.value (←(do eqGuard op xt a b (.int k x) (.int k y);binOp op xt (.int k x) (.int k y))))):=by
 cases op<;>simp only [Yt] at hs<;>simp only [Ct6]<;>first
  |(refine Gl λw=>?_;simp [eqGuard,binOp,Op.intArith,Op.intBits,Op.intCmp];done)
  |(refine Io λ_ hy w=>?_;simp [eqGuard,binOp,Op.intDiv,hy];done)
  |trivial
  |(exact absurd hs (by simp))
def Br5 (op:BinOp) (k k':IntKind) (x y:Int) (xt:TypeId) (a b:Operand) (hs:Yt op=true):(Bf7 op k x y).holds P (do pure (.value (←(do eqGuard op xt a b (.int k x) (.int k' y);binOp op xt (.int k x) (.int k' y))))):=by
 cases op<;>simp only [Yt] at hs<;>simp only [Bf7]<;>first
  |(refine Io λ_ hy w=>?_;simp [eqGuard,binOp,Op.shift,kD.2 hy];done)
  |(exact absurd hs (by simp))
def Ci0 (op:BinOp) (x y:ByteArray) (xt:TypeId) (a b:Operand):(Cr5 op x y).holds P (do pure (.value (←(do eqGuard op xt a b (.string x) (.string y);binOp op xt (.string x) (.string y))))):=by
  cases op<;>simp only [Cr5]<;>first
    |(refine Gl λw=>?_;simp [eqGuard,binOp,Op.stringOp];done)
    | (refine Io λ_ hy w=>?_;have hn:¬(((x.size+y.size:Nat):Int)>IntKind.i64.max):=by omega
       have he:(eqGuard .add xt a b (.string x) (.string y)).run P w=.ok () w:=rfl
       have hb:(binOp .add xt (.string x) (.string y)).run P w=.ok (.string (x++y)) w:=by
         show (Op.stringOp .add x y).run P w=_
         unfold Op.stringOp;simp only [iP hn];rfl
       simp only [iH,he,hb,iI])
    |trivial
def Be7 {t:TypeId}{d:TypeDesc}{a b:Value}{r:Bool}(n:Nat) (hu:P.underlying t=some d) (h:Px d a b=some r) (w:World):(Op.equalIn (n+1) t a b).run P w=.ok r w:=by unfold Px at h;simp only [Op.equalIn,iH,jZ hu,iI];split at h;{rename_i e a;cases h;cases a<;>rfl};{rename_i e a n c m k;cases h;cases a<;>rfl};{rename_i k e m;cases h;cases m<;>rfl};{cases h}
def Be8 {t:TypeId}{d:TypeDesc}{a b:Value}{r:Bool}(hu:P.underlying t=some d) (h:Px d a b=some r) (w:World):(Op.equal t a b).run P w=.ok r w :=
 Be7 9999 hu h w
def Xh {t:TypeId}{d:TypeDesc}{a b:Value}{r:Bool}(h:Px d a b=some r) (op:BinOp) (x y:Operand) (w:World):(eqGuard op t x y a b).run P w=.ok () w:=by unfold Px at h;split at h;{unfold eqGuard;split<;>rfl};{unfold eqGuard;split<;>rfl};{unfold eqGuard;split<;>rfl};{cases h}
def P9 {t:TypeId}{d:TypeDesc}{a b:Value}{r:Bool}(hu:P.underlying t=some d) (h:Px d a b=some r) (w:World) :
  (binOp .eql t a b).run P w=.ok (.bool r) w/\(binOp .neq t a b).run P w=.ok (.bool !r) w:=by have he:=Be8 hu h w;unfold Px at h;split at h;{simp [binOp,he]};{simp [binOp,he]};{simp [binOp,he]};{cases h}
def Cf0 (ok:T.Ok P) (op:BinOp) (xt:TypeId) (x y:Operand) (a b:Value):(Cf1 T P op xt x y a b).holds P (do pure (.value (←(do eqGuard op xt x y a b;binOp op xt a b)))):=by
 unfold Cf1;split;{rename_i k m k' n;split;{rename_i hs;exact Br5 op k k' m n xt x y hs};{rename_i hs;split;{rename_i hk;obtain rfl:=jY hk;exact Cm4 op _ m n xt x y hs};{trivial}}};{exact Ci0 op _ _ xt x y}
 ·have hread:∀o,(QR.read (λ(r:Bool) w=>(do eqGuard o xt x y a b;binOp o xt a b:Sem Value).run P w=.ok (.bool r) w) (λr=>.bool r)).holds P (do pure (.value (←(do eqGuard o xt x y a b;binOp o xt a b)))) :=
   λo=>Jo λx w h=>h
  split;{split;{rename_i i _ hi;split;{rename_i r hr;refine Gl λw=>?_;simp [Xh hr,(P9 (ok.get hi).und hr w).1]};{exact hread _}};{exact hread _}};{split;{rename_i i _ hi;split;{rename_i r hr;refine Gl λw=>?_;simp [Xh hr,(P9 (ok.get hi).und hr w).2]};{exact hread _}};{exact hread _}};{trivial}
def Cn8 (ok:T.Ok P) (op:BinOp) (xt:TypeId) (x y:Operand) (a b:Value):(Cu7 T P op xt x y a b).holds P (do pure (.value (←(do eqGuard op xt x y a b;binOp op xt a b)))):=by unfold Cu7;split;{split;{exact Jo λx w h=>h};{exact Jo λx w h=>h};{trivial}};{split;{unfold flQ;split<;>exact Jo λx w h=>by simp [h]};{exact Cf0 ok op xt x y a b}}
def run_loadCells:∀(vs:List Value) (p:Addr) (i:Nat) (acc:Array Value) (w:World),Ez w p i vs->(loadCellsFrom p i vs.length acc).run P w=.ok (acc++vs.toArray) w
 |[],p,i,acc,w,_=>by simp [loadCellsFrom]
 |v::r,p,i,acc,w,h=>by
  simp only [kE,loadCellsFrom,load,iH,Sem.run,h.1,iI]
  rw [run_loadCells r p (i+1) (acc.push v) w h.2]
  simp
def Aw8 (ok:T.Ok P) (t:TypeId) (p:Addr):(Aw9 T t p).holds P (do pure (.value (←Instr.loadAt t (.pointer (some p))))):=by unfold Aw9;split;{rename_i i hi;have io:=ok.get hi;have hw:=io.wf;unfold Inf.wf at hw;split;{rename_i c hc;rw [hc] at hw;have hw:Xw i.desc=false:=(by simpa using hw);refine Jo λx w h=>?_;simp [Instr.loadAt,Instr.sureAddr,loadVar,io.Qd,hw,load,Sem.run,h]};{rename_i cs hc;rw [hc] at hw;simp only [jA] at hw;have hn:cs.length=i.size:=jP hw.2;refine Jo λx w h=>?_;have hl:=run_loadCells (P:=P) (Cells.vals cs x) p 0 #[] w h;rw [Cells.Q8,hn] at hl;simp [Instr.loadAt,Instr.sureAddr,loadVar,io.Qd,hw.1,io.Gj,loadCells,hl]}};{trivial}
def run_sliceBound {n:Int}{k:IntKind}{y:Nat}{c:BoundsCode}(h:0<=n/\n<=y) (w:World):(Instr.sliceBound (.int k n) y c).run P w=.ok n.toNat w:=by simp [Instr.sliceBound,asIntOf,h.1,h.2,Sem.run]
def Qv {v:Value}{d:Nat}{l:Int×Bool}(h:bnd (some v) d=some l):∃k,v=.int k l.1:=by cases v<;>simp only [bnd] at h<;>first|(cases h;done)|skip;cases h;exact ⟨_,rfl⟩
def Pe {isS:Bool}{len cap:Nat}{lo hi mx:Option Value}{l h m:Int×Bool}(hl:bnd lo 0=some l) (hh:bnd hi len=some h) (hm:bnd mx cap=some m) (hno:¬(hi=none/\mx≠none))
  (hc:0<=l.1/\l.1<=h.1/\h.1<=m.1/\m.1<=cap) (w:World):(Instr.sliceBounds isS len cap lo hi mx).run P w=.ok (l.1.toNat,h.1.toNat,m.1.toNat) w:=by
 obtain ⟨c1,c2,c3,c4⟩:=hc;have e1:((m.1.toNat:Nat):Int)=m.1:=kG (by omega);have e2:((h.1.toNat:Nat):Int)=h.1:=kG (by omega);have bl:∀(k:IntKind) (c:BoundsCode),(Instr.sliceBound (.int k l.1) h.1.toNat c).run P w=.ok l.1.toNat w:=λk c=>run_sliceBound ⟨c1,by omega⟩ w;have bh:∀(k:IntKind) (c:BoundsCode),(Instr.sliceBound (.int k h.1) m.1.toNat c).run P w=.ok h.1.toNat w:=λk c=>run_sliceBound ⟨by omega,by omega⟩ w;have bm:∀(k:IntKind) (c:BoundsCode),(Instr.sliceBound (.int k m.1) cap c).run P w=.ok m.1.toNat w:=λk c=>run_sliceBound ⟨by omega,by omega⟩ w;have lo':∀(c:BoundsCode),(match lo with|some v=>Instr.sliceBound v h.1.toNat c|none=>(pure 0:Sem Nat)).run P w=.ok l.1.toNat w:=by
  intro c
  cases lo with
  |none=>cases hl;rfl
  |some v=>obtain ⟨k,rfl⟩:=Qv hl;exact bl k c
 unfold Instr.sliceBounds;cases mx with
 | some v =>
  obtain ⟨k,rfl⟩:=Qv hm;cases hi with
  |none=>exact absurd ⟨rfl,by simp⟩ hno
  |some v =>
   obtain ⟨k2,rfl⟩:=Qv hh;simp only [iH,bm,bh,iI];cases lo with
   |none=>cases hl;rfl
   |some v=>obtain ⟨k,rfl⟩:=Qv hl;simp [bl]
 | none =>
  cases hm;cases hi with
  |none =>
   cases hh;simp only [iH,iJ,iI];cases lo with
   |none=>cases hl;simp
   |some v=>obtain ⟨k,rfl⟩:=Qv hl;simp only [kH] at bl;simp [bl]
  |some v =>
   obtain ⟨k2,rfl⟩:=Qv hh;simp only [kH] at bh;simp only [iH,iJ,bh,iI];cases lo with
   |none=>cases hl;simp
   |some v=>obtain ⟨k,rfl⟩:=Qv hl;simp [bl]
def Bp2 (ok:T.Ok P) (t:TypeId) (x:Value) (lo hi mx:Option Value):(Bc6 T t x lo hi mx).holds P (do pure (.value (←Instr.sliceAt t x lo hi mx))):=by unfold Bc6;split;{rename_i i hi';have io:=ok.get hi';split;{rename_i e a len cap hd;split;{rename_i j l h m hj hl hh hm;split;{trivial};{rename_i hno;refine Io λ_ hc w=>?_;have hb:=Pe (P:=P) (isS:=true) hl hh hm (by rintro ⟨rfl,h2⟩;cases mx with|none=>exact h2 rfl|some v=>exact hno v rfl rfl) hc w;simp [Instr.sliceAt,io.Gz,hd,Instr.slice,hb,(ok.get hj).Gj,Sl.cut,Fj]}};{trivial}};{rename_i s hd;split;{rename_i l h hl hh;refine Io λ_ hc w=>?_;have hb:=Pe (P:=P) (isS:=false) (cap:=s.size) (mx:=none) (m:=((s.size:Int),false)) hl hh rfl (by simp) ⟨hc.1,hc.2.1,hc.2.2,kJ _⟩ w;simp [Instr.sliceAt,io.Gz,hd,Instr.slice,hb]};{trivial}};{rename_i n e a hd;split;{rename_i j l h m hj hl hh hm;split;{trivial};{rename_i hno;refine Io λ_ hc w=>?_;have hb:=Pe (P:=P) (isS:=false) hl hh hm (by rintro ⟨rfl,h2⟩;cases mx with|none=>exact h2 rfl|some v=>exact hno v rfl rfl) hc w;simp [Instr.sliceAt,io.Gz,hd,Instr.sureAddr,hb,(ok.get hj).Gj,Sl.cut,Fj];split<;>rfl}};{trivial}};{trivial}};{trivial}
def Bz5 (ok:T.Ok P) (t:TypeId) (cs:Array Value) (off:Nat):(Bz6 T t cs.toList off).holds P (do pure (.value (←part t cs off))):=by
 unfold Bz6;split
 ·rename_i i hi;have io:=ok.get hi;split
  ·rename_i ha;refine Gl λw=>?_;have e:cs.extract off (off+i.size)=((cs.toList.drop off).take i.size).toArray:=by
    apply kK
    simp [kL]
   simp [part,io.Qd,ha,io.Gj,e]
  {rename_i ha;split;{rename_i v hv;refine Gl λw=>?_;(have hv':cs[off]?=some v:=by rw [←hv];simp);simp [part,io.Qd,ha,hv']};{trivial}}
 {trivial}
def Cd5 {ev:Ev}{ρ:Operand->Value}(hE:∀x v,ev x=some v->ρ x=v):∀{l:List Operand}{vs:List Value},evs ev l=some vs->l.map ρ=vs
 |[],vs,h=>by cases h;rfl
 | x::r,vs,h=>by
  simp only [evs] at h
  split at h
  ·rename_i v l hv hl
   cases h
   simp [hE _ _ hv,Cd5 hE hl]
  ·cases h
def Yx {ev:Ev}{ρ:Operand->Value}(hE:∀x v,ev x=some v->ρ x=v){l:Array Operand}{vs:List Value}(h:evs ev l.toList=some vs):l.map ρ=vs.toArray:=by rw [←Cd5 hE h];apply kK;simp
def Bl9 {ev:Ev}{ρ:Operand->Value}(hE:∀x v,ev x=some v->ρ x=v):∀{l:List (Nat×Operand)}{vs:List (Nat×Value)},Bg6 ev l=some vs->(l.map λ(i,x)=>(i,ρ x))=vs
 |[],vs,h=>by cases h;rfl
 | x::r,vs,h=>by
  simp only [Bg6] at h
  split at h
  ·rename_i v l hv hl
   cases h
   simp [hE _ _ hv,Bl9 hE hl]
  ·cases h
def Ay8 {ev:Ev}{ρ:Operand->Value}(hE:∀x v,ev x=some v->ρ x=v){l:Array (Nat×Operand)}{vs:List (Nat×Value)}(h:Bg6 ev l.toList=some vs):(l.map λ(i,x)=>(i,ρ x))=vs.toArray:=by rw [←Bl9 hE h];apply kK;simp
def Af6:∀(vs:List Value) (cs:List Value) (off k:Nat),((vs.zipIdx k).foldl (λ(a:Array Value) (x:Value×Nat)=>a.setIfInBounds (off+x.2) x.1) cs.toArray)=(Ad9 cs (off+k) vs).toArray
 |[],cs,off,k=>by simp [Ad9]
 |v::r,cs,off,k=>by
  simp only [List.zipIdx_cons,List.foldl_cons,Ad9]
  have:(cs.toArray).setIfInBounds (off+k) v=(cs.set (off+k) v).toArray:=by simp
  rw [this,Af6 r _ off (k+1)]
  rw [Nat.add_assoc]
def Yw {place:Nat->Option (Nat×Nat)}:∀{ps:List (Nat×Value)}{cs out:List Value},Xm place cs ps=some out->Instr.fill place cs.toArray ps=some out.toArray
 |[],cs,out,h=>by cases h;rfl
 | p :: r,cs,out,h=>by
  simp only [Xm] at h
  split at h
  ·cases h
  ·rename_i os hos
   split at h
   ·rename_i hc
    simp only [jA] at hc
    have h1:p.2.cells.size=os.2:=by have:=jP hc.1;simpa using this
    have h2:os.1+p.2.cells.size<=cs.length:=by have:=kM hc.2;simpa using this
    obtain ⟨k,v⟩:=p
    simp only at h1 h2 hos h
    simp only [Instr.fill,hos]
    rw [iP (by simp [h1];omega)]
    have e:(v.cells.zipIdx.foldl (λcs (c,j)=>cs.setIfInBounds (os.1+j) c) cs.toArray)=(Ad9 cs os.1 v.cells.toList).toArray:=by
     have:=Af6 v.cells.toList cs os.1 0
     rw [Nat.add_zero] at this
     rw [←this,←Array.foldl_toList]
     simp
    rw [e]
    exact Yw h
   ·cases h
def Ae1 (ok:T.Ok P):∀{fs:List Field}{pl:List (Nat×Nat)},Aa4 T fs=some pl->∀w,(fs.mapM (λf=>Prod.mk f.offset <$> sizeOf f.type:Field->Sem (Nat×Nat))).run P w=.ok pl w
 |[],pl,h,w=>by cases h;rfl
 | f::r,pl,h,w=>by
  simp only [Aa4] at h
  split at h
  ·rename_i j l hj hl
   cases h
   simp [kN,(ok.get hj).Gj,Ae1 ok hl w]
  ·cases h
def Bu1 (ok:T.Ok P) (t:TypeId) (ps:List (Nat×Value)):(Bh8 T t ps).holds P (do pure (.value (←Instr.build t ps.toArray))):=by
 unfold Bh8;split
 ·rename_i i hi;have io:=ok.get hi;split
  ·rename_i fs z hd hz;split
   ·rename_i pl hpl;split
    ·rename_i cs hcs;refine Gl λw=>?_;have hm:(fs.mapM (λf=>Prod.mk f.offset <$> sizeOf f.type:Field->Sem (Nat×Nat))).run P w=.ok pl.toArray w:=by
      have:=Ae1 ok hpl w
      obtain ⟨fl⟩:=fs
      simp [List.mapM_toArray,this]
     have hf:=Yw hcs;simp only [kP] at hf;simp [Instr.build,io.Ql _ hz,io.Gz,hd,hm,hf]
    {trivial}
   {trivial}
  {rename_i n e z hd hz;split;{rename_i j hj;split;{rename_i cs hcs;refine Gl λw=>?_;have hf:=Yw hcs;simp only [kP] at hf;simp [Instr.build,io.Ql _ hz,io.Gz,hd,(ok.get hj).Gj,hf]};{trivial}};{trivial}};{trivial}
 {trivial}
def Bl4 (b:Bool) (l:List Value) (ts:Array TypeId) (t:TypeId):(Cl6 b l).holds P (do pure (.value (←(match b with|true=>Builtin.max_ ts t l.toArray|false=>Builtin.min_ ts t l.toArray)))):=by unfold Cl6;split;{rename_i k x k' y;refine Gl λw=>?_;cases b;{simp [Builtin.min_,Builtin.min2]};{simp [Builtin.max_,Builtin.max2]}};{trivial}
def O8 (ok:T.Ok P) (hE:∀x v,ev x=some v->ρ x=v) (o:Oper):(quiet T P ev o).holds P (execOp ρ o):=by
 obtain ⟨dst,op,type,pos,after,guard⟩:=o
 cases op<;>simp only [quiet,execOp]<;>try trivial
 case move x =>
  split
  ·rename_i v hv;rw [hE _ _ hv];intro w;rfl
  ·trivial
 case assign x =>
  split
  ·rename_i v hv;rw [hE _ _ hv];intro w;rfl
  ·trivial
 case pick c a b =>
  split
  ·rename_i hc
   split
   ·rename_i v hv;intro w;simp [hE _ _ hc,hE _ _ hv,asBool]
   ·trivial
  ·rename_i hc
   split
   ·rename_i v hv;intro w;simp [hE _ _ hc,hE _ _ hv,asBool]
   ·trivial
  ·trivial
 case nilCheck x =>
  split
  ·rename_i p hp
   intro a ha w
   subst ha
   simp [hE _ _ hp]
  ·rename_i f a b hp;intro w;simp [hE _ _ hp]
  ·rename_i t v hp;intro w;simp [hE _ _ hp]
  ·rename_i m a b hp
   split
   ·rename_i v r hl
    rintro _ ⟨t,u,rfl,hn⟩ w
    have h0:a[0]?=some (.iface t u):=by rw [←kQ,hl];rfl
    simp [hE _ _ hp,h0,iH,program,Sem.run,Result.andThen,hn w]
   ·trivial
  ·trivial
 case fieldAddr s x f =>
  split
  ·rename_i a i hx hi
   have io:=ok.get hi
   split
   ·rename_i fs hd
    split
    ·rename_i fd hf
     split
     ·rename_i j hj
      split
      ·rename_i hz
       have hf':fs[f]?=some fd:=by rw [←hf];simp
       have hz':¬j.size=0:=λh=>by rw [h] at hz;exact absurd hz (by decide)
       refine Gl λw=>?_
       simp [Instr.fieldAt,io.Gz,hd,hf',hE _ _ hx,Instr.sureAddr,fieldPlace,(ok.get hj).Gj,hz']
      ·trivial
     ·trivial
    ·trivial
   ·trivial
  ·trivial
 case field s x f =>
  split
  ·rename_i cs i hx hi
   have io:=ok.get hi
   split
   ·rename_i fs hd
    split
    ·rename_i fd hf
     have hf':fs[f]?=some fd:=by rw [←hf];simp
     have hp:=Bz5 ok fd.type cs fd.offset
     have hr:∀w,(Instr.field s (ρ x) f).run P w=(part fd.type cs fd.offset).run P w:=by
      intro w
      simp [Instr.field,io.Gz,hd,hf',hE _ _ hx,asAgg]
     unfold QR.holds at hp ⊢
     split
     ·trivial
     ·intro w
      rename_i v heq
      rw [heq] at hp
      have:=hp w
      simp only [iH,hr] at this ⊢
      exact this
     ·rename_i c f heq
      rw [heq] at hp
      intro x hx w
      have:=hp x hx w
      simp only [iH,hr] at this ⊢
      exact this
     ·rename_i c f heq
      rw [heq] at hp
      intro x w hx
      have:=hp x w hx
      simp only [iH,hr] at this ⊢
      exact this
    ·trivial
   ·trivial
  ·trivial
 case indexAddr t x ix =>
  split
  ·rename_i a len cap k n i hx hn hi
   have io:=ok.get hi
   split
   ·rename_i e hd
    split
    ·rename_i j hj
     refine Io λp hc w=>?_
     obtain ⟨rfl,h0,h1⟩:=hc
     simp [Instr.indexAt,hE _ _ hx,hE _ _ hn,asIntOf,io.Gz,hd,h0,h1,(ok.get hj).Gj,Fj]
    ·trivial
   ·trivial
  ·rename_i p k n i hx hn hi
   have io:=ok.get hi
   split
   ·rename_i len e hd
    split
    ·rename_i j hj
     refine Io λ_ hc w=>?_
     obtain ⟨h0,h1⟩:=hc
     simp [Instr.indexAt,hE _ _ hx,hE _ _ hn,asIntOf,io.Gz,hd,Instr.sureAddr,h0,h1,(ok.get hj).Gj,Fj]
    ·trivial
   ·trivial
  ·trivial
 case index t x ix =>
  split
  ·rename_i s k n i hx hn hi
   have io:=ok.get hi
   split
   ·rename_i hd
    refine Io λb hc w=>?_
    obtain ⟨h0,h1⟩:=hc
    simp [Instr.index,hE _ _ hx,hE _ _ hn,asIntOf,io.Gz,hd,h0,h1]
   ·trivial
  ·trivial
 case load t x =>
  split
  ·rename_i p hp;rw [hE _ _ hp];exact Aw8 ok t p
  ·trivial
 case binOp op t x y yt =>
  split
  ·rename_i a b ha hb;rw [hE _ _ ha,hE _ _ hb];exact Cn8 ok op t x y a b
  ·trivial
 case unOp op t x =>
  split
  ·rename_i b hb;rw [hE _ _ hb];intro w;rfl
  ·rename_i k n hb;rw [hE _ _ hb];intro w;rfl
  ·trivial
 case convert src dst x =>
  split
  ·rename_i k n i j hx hi hj
   split
   ·rename_i k1 k2 h1 h2
    refine Gl λw=>?_
    simp [convert,(ok.get hi).Gz,(ok.get hj).Gz,h1,h2,hE _ _ hx,Conv.intToInt]
   ·exact Jo λx w h=>by simp [hE _ _ hx,h]
   ·trivial
  ·trivial
 case extract t ix =>
  split
  ·rename_i vs hv
   split
   ·rename_i v hx
    have hx':vs[ix]?=some v:=by rw [←hx];simp
    refine Gl λw=>?_
    simp [Instr.extract,hE _ _ hv,hx']
   ·trivial
  ·trivial
 case build t parts =>
  split
  ·rename_i ps hps
   have:=Bu1 ok t ps
   rw [←Ay8 hE hps] at this
   exact this
  ·trivial
 case slice t x lo hi mx =>
  split
  ·rename_i v l h m hx hl hh hm
   have e1:lo.map ρ=l:=by
    cases lo with
    |none=>simpa using hl
    |some y =>
     simp only at hl
     cases hy:ev y with
     |none=>rw [hy] at hl;cases hl
     |some u=>rw [hy] at hl;cases hl;simp [hE _ _ hy]
   have e2:hi.map ρ=h:=by
    cases hi with
    |none=>simpa using hh
    |some y =>
     simp only at hh
     cases hy:ev y with
     |none=>rw [hy] at hh;cases hh
     |some u=>rw [hy] at hh;cases hh;simp [hE _ _ hy]
   have e3:mx.map ρ=m:=by
    cases mx with
    |none=>simpa using hm
    |some y =>
     simp only at hm
     cases hy:ev y with
     |none=>rw [hy] at hm;cases hm
     |some u=>rw [hy] at hm;cases hm;simp [hE _ _ hy]
   rw [e1,e2,e3,hE _ _ hx]
   exact Bp2 ok t v l h m
  ·trivial
 case makeInterface t x =>
  split
  ·rename_i v i hx hi
   have io:=ok.get hi
   split
   ·trivial
   ·rename_i hne
    refine Gl λw=>?_
    simp only [Instr.makeInterface,iH,io.Gz,iI,hE _ _ hx]
    first|rfl|(split;(rename_i ms hd;exact absurd hd (hne ms));rfl)
  ·trivial
 case makeFunc fn first captured =>
  split
  ·rename_i a b ha hb
   refine Gl λw=>?_
   rw [Yx hE ha,Yx hE hb]
   rfl
  ·trivial
 case lookup t m k b =>
  split
  ·rename_i vm vk i hm hk hi
   rw [hE _ _ hm,hE _ _ hk]
   exact Jo λx w h=>h
  ·trivial
 case call c =>
  obtain ⟨callee,args,argTypes⟩:=c
  cases callee with
  |value f=>trivial
  |invoke r n=>trivial
  | builtin b =>
   simp only
   split
   ·rename_i x t hargs hts
    have ha:args.map ρ=#[x]:=Yx hE hargs
    have ht:argTypes[0]?=some t:=by
     have:argTypes=#[t]:=by
      apply kK
      simpa using hts
     rw [this];rfl
    split
    ·rename_i a n cp i hi
     split
     ·rename_i e hd
      refine λw=>?_
      simp [resolve,ha,invoke,builtin,Builtin.len_,ht,(ok.get hi).Gz,hd,goInt]
     ·trivial
    ·rename_i a cp n i hi
     split
     ·rename_i e hd
      refine λw=>?_
      simp [resolve,ha,invoke,builtin,Builtin.cap_,ht,(ok.get hi).Gz,hd,goInt]
     ·trivial
    ·rename_i s i hi
     split
     ·rename_i hd
      refine λw=>?_
      simp [resolve,ha,invoke,builtin,Builtin.len_,ht,(ok.get hi).Gz,hd,goInt]
     ·trivial
    ·rename_i m i hi
     split
     ·rename_i k e hd
      refine λn w h=>?_
      simp [resolve,ha,invoke,builtin,h]
     ·trivial
    ·trivial
   ·rename_i l hargs hno
    have ha:args.map ρ=l.toArray:=Yx hE hargs
    split
    ·have:=Bl4 (P:=P) true l argTypes type
     simp only at this
     simp only [resolve,ha,invoke,builtin,pure_bind]
     exact this
    ·have:=Bl4 (P:=P) false l argTypes type
     simp only at this
     simp only [resolve,ha,invoke,builtin,pure_bind]
     exact this
    ·trivial
   ·trivial
end
section
variable {T:Tab}{P:Program}{ev:Ev}{ρ:Operand->Value}
def Ru {v u:Value}{p:Addr}{w:World}(hv:Eb v=true) (hu:w.cell? p=some u) (hf:w.frozen? p=false):(store p v).run P w=.ok () (w.setCell p v):=by
 cases v with
 |agg c=>cases hv
 |tuple c=>cases hv
 |_=>simp [store,Sem.run,hu,hf]
def Vb:∀(vs:List Value) (p:Addr) (i:Nat) (K:World->Prop) (w:World),(∀v∈vs,Eb v=true)->Bx1 p i vs K w ->
  ∃w',(storeCells p vs i).run P w=.ok () w'/\K w'
 |[],p,i,K,w,_,h=>⟨w,rfl,h⟩
 |v::r,p,i,K,w,ho,h=>by
  obtain ⟨⟨⟨u,hu⟩,hf⟩,h⟩:=h
  obtain ⟨w',hr,hK⟩:=Vb r p (i+1) K _ (λx hx=>ho x (iO _ hx)) h
  refine ⟨w',?_,hK⟩
  simp only [storeCells,iH,Ru (ho v iM) hu hf,iI]
  exact hr
def Gq {f:FuncId}{args:Array Value}(h:((P.funcs[f]?).map λfn=>(fn.body.isNone,fn.name == "runtime.NumGoroutine"))=some (false,false)) (w:World):(callFunc f args).run P w=.ok (.enter f args) w:=by
 cases hf:P.funcs[f]? with
 |none=>rw [hf] at h;cases h
 |some fn=>rw [hf] at h;simp only [jL,Option.some.injEq,kS] at h;unfold callFunc;simp only [iH,program,Sem.run,iI,hf,h.1,h.2,kT,kU];rfl
def Ah3 (o:Oper) (a:Act) (K:Value->Wp) (a':Act) (w':World):Prop:=∃v,a'=a.put o.dst v/\K v w'
def Fz {o:Oper}{a:Act}{K:Value->Wp}{s:Sem Value}{w w':World}{v:Value}(h:s.run P w=.ok v w') (hK:K v w') :
  Gs P o a (Ah3 o a K) ((do pure (.value (←s)):Sem Next).run P w):=by simp only [iH,h,iI];exact ⟨v,rfl,hK⟩
def Ye {o:Oper}{a:Act}{K:Value->Wp}{s:Sem Unit}{w w':World}(h:s.run P w=.ok () w') (hK:K undef w') :
  Gs P o a (Ah3 o a K) ((do s;pure .skip:Sem Next).run P w):=by simp only [iH,h,iI];exact ⟨undef,rfl,hK⟩
def Bi9 {o:Oper}{a:Act}{K:Value->Wp}{w:World}{f:FuncId}{args:Array Value}{t:RTy}(h:Aa P f args t (λx=>K (t.val x)) w) :
  Gs P o a (Ah3 o a K) (.ok (.enter f args) w):=by simp only [Gs];refine Calls.mono h λe w' he=>?_;obtain ⟨x,rfl,hK⟩:=he;exact ⟨_,rfl,_,rfl,hK⟩
def Cq6 {o:Oper}{a:Act}{K:Value->Wp}{s:Sem Next}{w:World}{t:RTy}(h:Cj P s t (λx=>K (t.val x)) w) :
  Gs P o a (Ah3 o a K) (s.run P w):=by rcases h with ⟨g,gargs,hr,hc⟩|⟨x,w',hr,hK⟩|⟨l,f,tmps,assign,body,hr,hc⟩;{rw [hr];exact Bi9 hc};{rw [hr];exact ⟨_,rfl,hK⟩};{rw [hr];simp only [Gs];refine RoundIn.mono hc λe w' he=>?_;obtain ⟨x,rfl,hK⟩:=he;exact ⟨_,rfl,_,rfl,hK⟩}
def cells_one {v:Value}(h:Eb v=true):v.cells=#[v]:=by cases v<;>first|rfl|cases h
def Y0:∀{ps:List (Nat×Value)}{cs out:List Value},Qm (ps.map (·.2))=true->Ay5 cs ps=some out->Xm (λk=>some (k*1,1)) cs ps=some out
 |[],cs,out,_,h=>h
 | p::r,cs,out,h1,h=>by
  simp only [kV,Qm,jA] at h1
  simp only [Ay5] at h
  split at h
  ·rename_i hlt
   have hlt:p.1<cs.length:=by simpa using hlt
   have e:p.2.cells.toList=[p.2]:=by rw [cells_one h1.1]
   have hb:(Nat.beq 1 1&&Nat.ble (p.1+1) cs.length)=true:=by simp;omega
   simp only [Xm,e,kE,kW,kX,kY,hb,Ad9]
   have:=Y0 h1.2 h
   simpa only [kX] using this
  ·cases h
def D9 (ok:T.Ok P) (hE:∀x v,ev x=some v->ρ x=v) (o:Oper) (rt:Option RTy) (K:Value->Wp) (a:Act) (ha:a.eval=ρ) (w:World) (h:eff T P ev o rt K w) :
  Gs P o a (Ah3 o a K) ((execOp a.eval o).run P w):=by
 subst ha
 obtain ⟨dst,op,type,pos,after,guard⟩:=o
 cases op<;>simp only [eff] at h<;>simp only [execOp]
 all_goals try exact h.elim
 case alloc t =>
  cases hi:T.get t with
  |none=>simp only [hi] at h
  | some i =>
   simp only [hi] at h
   cases hz:i.zero with
   |none=>simp only [hz] at h
   |some z =>
    simp only [hz] at h
    refine Fz (w':=w.alloc (.cells z.cells t)) (v:=.pointer (some ⟨w.heap.size,0,none⟩)) ?_ h
    simp [Instr.alloc,(ok.get hi).Ql _ hz,newVar,newRow,newObj,Sem.run,kZ]
 case box t x =>
  cases hv:ev x with
  |none=>simp only [hv] at h
  | some v =>
   simp only [hv] at h
   rw [hE _ _ hv]
   have h':Ak (.cells v.cells t) (λb=>K (.pointer (some ⟨b,0,none⟩))) w:=by
    cases hop:Af2 T t with
    |true =>
     simp only [hop] at h
     obtain ⟨_,h1,h2⟩:=h
     simp only [Qm,lC] at h1
     rw [cells_one h1];exact h2
    |false=>simp only [hop] at h;exact h
   refine Fz (w':=w.alloc (.cells v.cells t)) (v:=.pointer (some ⟨w.heap.size,0,none⟩)) ?_ h'
   simp [Instr.box,newVar,newRow,newObj,Sem.run,kZ]
 case buildSlice t len parts =>
  cases hps:Bg6 ev parts.toList with
  |none=>simp only [hps] at h
  |some ps =>
  cases hi:T.get t with
  |none=>simp only [hps,hi] at h
  |some i =>
  simp only [hps,hi] at h
  cases hd:i.desc with
  | slice e =>
   simp only [hd] at h
   cases hj:T.get e with
   |none=>simp only [hj] at h
   |some j =>
   simp only [hj] at h
   cases hz:j.zero with
   |none=>simp only [hz] at h
   |some z =>
   cases hle:(Nat.ble (len*j.size) (2^24)&&!Nat.beq j.size 0) with
   |false=>simp only [hz,hle] at h
   |true =>
   simp only [hz,hle] at h
   simp only [jA,lG] at hle
   have hle1:¬(len*j.size>2^24):=by have:=kM hle.1;omega
   have h':∃cs,Xm (λk=>some (k*j.size,j.size)) ((List.range (len*j.size)).map λk=>(z.cells.toList)[k%z.cells.toList.length]?.getD default) ps=some cs/\Ak (.cells cs.toArray e) (λb=>K (.slice (some ⟨b,0,none⟩) len len)) w:=by
    cases hop:(Af2 T e&&Nat.beq j.size 1) with
    | true =>
     simp only [hop] at h
     simp only [jA] at hop
     have h1:j.size=1:=jP hop.2
     obtain ⟨_,h2,h3⟩:=h
     cases hcs:Ay5 ((List.range (len*j.size)).map λk=>(z.cells.toList)[k%z.cells.toList.length]?.getD default) ps with
     |some cs =>
      simp only [hcs] at h3
      refine ⟨cs,?_,h3⟩
      rw [h1] at hcs ⊢
      exact Y0 h2 hcs
     |none=>simp only [hcs] at h3
    |false =>
     simp only [hop] at h
     cases hcs:Xm (λk=>some (k*j.size,j.size)) ((List.range (len*j.size)).map λk=>(z.cells.toList)[k%z.cells.toList.length]?.getD default) ps with
     |some cs=>simp only [hcs] at h;exact ⟨cs,rfl,h⟩
     |none=>simp only [hcs] at h
   obtain ⟨cs,hcs,h⟩:=h'
   refine Fz (w':=w.alloc (.cells cs.toArray e)) (v:=.slice (some ⟨w.heap.size,0,none⟩) len len) ?_ h
   have hf:=Yw hcs
   have he:((List.range (len*j.size)).map λk=>(z.cells.toList)[k%z.cells.toList.length]?.getD default).toArray=(Array.range (len*j.size)).map (λk=>z.cells[k%z.cells.size]!):=by
    apply kK
    simp [getElem!_def]
    intro k hk
    cases z.cells[k%z.cells.size]?<;>rfl
   rw [he] at hf
   have hf2:len*j.size=0->Instr.fill (λk=>some (k*j.size,j.size)) ((Array.range (len*j.size)).map (λk=>(#[]:Array Value)[k%(#[]:Array Value).size]!)) ps=some cs.toArray:=by
    intro h0
    have h1:Array.range 0=#[]:=rfl
    rw [←hf];simp only [h0,h1,Array.map_empty]
   simp only [Instr.buildSlice,iH,(ok.get hi).Gz,hd,iI,(ok.get hj).Gj,iP hle1,iJ,Ay8 hE hps]
   by_cases h0:len*j.size=0
   ·simp only [iK h0,iH,iJ,iI,hf2 h0]
    simp [newRow,newObj,Sem.run,kZ]
   ·simp only [iP h0,iH,iJ,iI,(ok.get hj).Ql _ hz,hf]
    simp [newRow,newObj,Sem.run,kZ]
  |_=>simp only [hd] at h
 case store t p x =>
  cases hp:ev p with
  |none=>simp only [hp] at h
  |some vp =>
  cases hv:ev x with
  |none=>cases vp with
   |pointer q=>cases q<;>simp only [hp,hv] at h
   |_=>simp only [hp,hv] at h
  |some v =>
  cases hi:T.get t with
  |none=>cases vp with
   |pointer q=>cases q<;>simp only [hp,hv,hi] at h
   |_=>simp only [hp,hv,hi] at h
  |some i =>
  cases vp with
  | pointer q =>
   cases q with
   |none=>simp only [hp,hv,hi] at h
   |some p' =>
   simp only [hp,hv,hi] at h
   have io:=ok.get hi
   have hw:=io.wf
   unfold Inf.wf at hw
   simp only [hE _ _ hp,hE _ _ hv]
   cases hc:i.ty with
   | one c =>
    have core:Eb v=true->Nat.beq i.size 1=true->stC p' v (K undef) w ->
      Gs P ⟨dst,.store t p x,type,pos,after,guard⟩ a (Ah3 ⟨dst,.store t p x,type,pos,after,guard⟩ a K) ((do Instr.storeAt t (.pointer (some p')) v;pure .skip:Sem Next).run P w):=by
     intro hone hs1 h
     have hsz:i.size=1:=jP hs1
     obtain ⟨⟨⟨u,hu⟩,hfr⟩,h⟩:=h
     have hcell:v.cells=#[v]:=by
      cases v with
      |agg c=>cases hone
      |_=>rfl
     refine Ye (w':=w.setCell p' v) ?_ h
     simp only [Instr.storeAt,Instr.sureAddr,storeVar,iH,iJ,iI,io.Gj,hcell]
     simp [hsz,storeCells,Ru hone hu hfr,Addr.add]
    by_cases hany:c=.any
    ·subst hany
     have h':(match Nat.beq i.size 1 with|true=>cdE (λ_:Unit=>Eb v=true) (λ_=>stC p' v (K undef))|false=>λ_=>False) w:=by
      simp only [hc] at h;exact h
     cases hs1:Nat.beq i.size 1 with
     |false=>rw [hs1] at h';exact h'.elim
     |true =>
      rw [hs1] at h'
      obtain ⟨_,ho,h'⟩:=h'
      exact core ho hs1 h'
    ·have h':Eb v=true/\(match Nat.beq i.size 1 with|true=>stC p' v (K undef)|false=>λ_=>False) w:=by
      cases hone:Eb v with
      |false=>cases c<;>simp only [hc,hone] at h<;>first|exact absurd rfl hany|exact h.elim
      |true=>cases c<;>simp only [hc,hone] at h<;>first|exact absurd rfl hany|exact ⟨rfl,h⟩
     cases hs1:Nat.beq i.size 1 with
     |false=>rw [hs1] at h';exact h'.2.elim
     |true =>
      rw [hs1] at h'
      exact core h'.1 hs1 h'.2
   | agg cs =>
    have h':Ah p' v i.size (K undef) w:=by
     cases Eb v<;>simpa only [hc] using h
    unfold Ah at h'
    cases hc2:(Nat.beq v.cells.toList.length i.size&&v.cells.toList.all Eb) with
    |false=>simp only [hc2] at h'
    |true =>
    simp only [hc2] at h'
    simp only [jA] at hc2
    have hsz:v.cells.size=i.size:=by have:=jP hc2.1;simpa using this
    obtain ⟨w',hr,hK⟩:=Vb (P:=P) v.cells.toList p' 0 (K undef) w (λx hx=>iW.1 hc2.2 x hx) h'
    refine Ye (w':=w') ?_ hK
    simp [Instr.storeAt,Instr.sureAddr,storeVar,io.Gj,hsz,hr]
  |_=>simp only [hp,hv,hi] at h
 case makeMap t r =>
  cases r with
  |some r=>exact h.elim
  |none =>
   refine Fz (w':=w.alloc (.map #[] 0)) (v:=.map (some w.heap.size)) ?_ h
   simp [Instr.makeMap,newObj,Sem.run,kZ]
 case makeSlice t l c =>
  cases hl:ev l<;>cases hc:ev c<;>cases hi:rt<;>simp only [hl,hc,hi] at h
  obtain ⟨x,w',hr,hK⟩:=h
  simp only [hE _ _ hl,hE _ _ hc]
  exact Fz hr hK
 case convert s d x =>
  cases hv:ev x<;>cases hi:rt<;>simp only [hv,hi] at h
  obtain ⟨x,w',hr,hK⟩:=h
  simp only [hE _ _ hv]
  exact Fz hr hK
 case mapUpdate t m k x =>
  cases hm:ev m<;>cases hk:ev k<;>cases hx:ev x<;>simp only [hm,hk,hx] at h
  obtain ⟨w',hr,hK⟩:=h
  simp only [hE _ _ hm,hE _ _ hk,hE _ _ hx]
  exact Ye hr hK
 case insert t m k x =>
  cases hm:ev m<;>cases hk:ev k<;>cases hx:ev x<;>simp only [hm,hk,hx] at h
  obtain ⟨w',hr,hK⟩:=h
  simp only [hE _ _ hm,hE _ _ hk,hE _ _ hx]
  exact Ye hr hK
 case mapEntry t m k =>
  cases hm:ev m<;>cases hk:ev k<;>cases hi:rt<;>simp only [hm,hk,hi] at h
  obtain ⟨x,w',hr,hK⟩:=h
  simp only [hE _ _ hm,hE _ _ hk]
  exact Fz hr hK
 case entryStore t m s x =>
  cases hm:ev m<;>cases hk:ev s<;>cases hx:ev x<;>simp only [hm,hk,hx] at h
  obtain ⟨w',hr,hK⟩:=h
  simp only [hE _ _ hm,hE _ _ hk,hE _ _ hx]
  exact Ye hr hK
 case range t x =>
  cases hv:ev x<;>simp only [hv] at h
  obtain ⟨x,w',hr,hK⟩:=h
  simp only [hE _ _ hv]
  exact Fz hr hK
 case next it str =>
  cases hv:ev it with
  |none=>simp only [hv] at h
  | some v =>
   cases str with
   |false =>
    simp only [hv] at h
    obtain ⟨b,rest,w',hr,hK⟩:=h
    simp only [hE _ _ hv]
    exact Fz hr hK
   |true =>
    simp only [hv] at h
    simp only [hE _ _ hv]
    rcases h with ⟨p,c,w',hr,hK⟩|⟨w',hr,hK⟩
    ·exact Fz hr hK
    ·exact Fz hr hK
 case entry it =>
  cases hv:ev it<;>cases hi:rt<;>simp only [hv,hi] at h
  obtain ⟨x,w',hr,hK⟩:=h
  simp only [hE _ _ hv]
  exact Fz hr hK
 case typeAssert x xt as_ ok' =>
  cases hv:ev x<;>cases hi:rt<;>simp only [hv,hi] at h
  obtain ⟨x,w',hr,hK⟩:=h
  simp only [hE _ _ hv]
  exact Fz hr hK
 case waits g =>
  cases hi:rt<;>simp only [hi] at h
  obtain ⟨x,w',hr,hK⟩:=h
  exact Fz hr hK
 case call c =>
  obtain ⟨callee,args,argTypes⟩:=c
  cases has:evs ev args.toList with
  |none=>simp only [has] at h
  |some as_ =>
  cases hi:rt with
  |none=>simp only [has,hi] at h
  |some i =>
  simp only [has,hi] at h
  have ha:args.map a.eval=as_.toArray:=Yx hE has
  cases callee with
  | builtin b =>
   simp only at h
   cases b<;>simp only at h
   case append =>
    obtain ⟨x,w',hr,hK⟩:=h
    simp only [resolve,ha,pure_bind,invoke,builtin]
    exact Fz hr hK
   case copy =>
    obtain ⟨x,w',hr,hK⟩:=h
    simp only [resolve,ha,pure_bind,invoke,builtin]
    exact Fz hr hK
   case delete =>
    obtain ⟨x,w',hr,hK⟩:=h
    simp only [resolve,ha,pure_bind,invoke,builtin]
    exact Fz hr hK
   case clear =>
    obtain ⟨x,w',hr,hK⟩:=h
    simp only [resolve,ha,pure_bind,invoke,builtin]
    exact Fz hr hK
  | value f =>
   have dyn:∀vf,a.eval f=vf->Cj P (do let d ←Deferred.ofValue vf as_.toArray;invoke d.target d.args) i (λx=>K (i.val x)) w ->
     Gs P ⟨dst,.call ⟨.value f,args,argTypes⟩,type,pos,after,guard⟩ a (Ah3 ⟨dst,.call ⟨.value f,args,argTypes⟩,type,pos,after,guard⟩ a K) ((do let d ←resolve a.eval ⟨.value f,args,argTypes⟩ type;invoke d.target d.args:Sem Next).run P w):=by
    intro vf hf h
    simp only [resolve,ha,hf]
    exact Cq6 h
   cases f with
   | func g =>
    simp only at h
    cases hg:T.fns.elem g with
    |false =>
     simp only [hg] at h
     simp only [resolve,ha,Act.eval,Deferred.ofValue,pure_bind,invoke]
     have e:(#[]++as_.toArray++#[]:Array Value)=as_.toArray:=by simp
     rw [e]
     exact Cq6 h
    |true =>
    simp only [hg] at h
    have:=Gq (P:=P) (f:=g) (args:=as_.toArray) (Cd1 ok.fns hg) w
    simp only [resolve,ha,Act.eval,Deferred.ofValue,pure_bind,invoke]
    have e:(#[]++as_.toArray++#[]:Array Value)=as_.toArray:=by simp
    rw [e,this]
    exact Bi9 h
   |tmp t =>
    cases hvf:ev (.tmp t)<;>simp only [hvf] at h
    exact dyn _ (hE _ _ hvf) h
   |const v =>
    cases hvf:ev (.const v)<;>simp only [hvf] at h
    exact dyn _ (hE _ _ hvf) h
   |global g =>
    cases hvf:ev (.global g)<;>simp only [hvf] at h
    exact dyn _ (hE _ _ hvf) h
  |invoke r name =>
   cases hvr:ev r<;>simp only [hvr] at h
   simp only [resolve,ha,hE _ _ hvr,pure_bind]
   exact Cq6 h
end
def stepS (cls:Op->Cl) (P:Program) (ops:Array Oper) (un:Nat->Nat->Bool) (i:Nat) (N:Held->Act->Wp) (H:Held) (a:Act) (w:World):Prop :=
 match ops[i]? with
 |none=>False
 | some o =>
  if Region.wanted o (yielded ops a.tmps)=true then
   match cls o.op with
   |.free=>∃v,(∀w',(execOp a.eval o).run P w'=.ok (.value v) w')/\N H (a.put o.dst v) w
   |.read=>∃v,(execOp a.eval o).run P w=.ok (.value v) w/\N ((i,execOp a.eval o,v)::H) (a.put o.dst v) w
   |.eff=>Gs P o a (λa' w'=>Ry P un i H w'/\N H a' w') ((execOp a.eval o).run P w)
  else N H (a.put o.dst undef) w
section
variable {cls:Op->Cl}{P:Program}{ops:Array Oper}{un:Nat->Nat->Bool}{Q:Act->Wp}
def Bv0 {i:Nat}{r:List Nat}{H:Held}{a:Act}{w:World}:wpS cls P ops un Q (i::r) H a w=stepS cls P ops un i (wpS cls P ops un Q r) H a w:=by rw [wpS];rfl
def Vy {i:Nat}{N N':Held->Act->Wp}(h:∀H a w,N H a w->N' H a w){H:Held}{a:Act}{w:World}(hh:stepS cls P ops un i N H a w):stepS cls P ops un i N' H a w:=by unfold stepS at hh ⊢;split at hh;{exact hh};{split at hh;{rename_i hw;rw [iK hw];split at hh;{obtain ⟨v,h1,h2⟩:=hh;exact ⟨v,h1,h _ _ _ h2⟩};{obtain ⟨v,h1,h2⟩:=hh;exact ⟨v,h1,h _ _ _ h2⟩};{exact Ik (λa w ⟨h1,h2⟩=>⟨h1,h _ _ _ h2⟩) hh}};{rename_i hw;rw [iP hw];exact h _ _ _ hh}}
def Xn {i:Nat}{N:Held->Act->Wp}(hN:∀H H' a w,(∀y∈H',y∈H)->N H a w->N H' a w){H H':Held}{a:Act}{w:World}(hs:∀y∈H',y∈H) (h:stepS cls P ops un i N H a w):stepS cls P ops un i N H' a w:=by unfold stepS at h ⊢;split at h;{exact h};{split at h;{rename_i hw;rw [iK hw];split at h;{obtain ⟨v,h1,h2⟩:=h;exact ⟨v,h1,hN _ _ _ _ hs h2⟩};{obtain ⟨v,h1,h2⟩:=h;refine ⟨v,h1,hN _ _ _ _ (λx hx=>?_) h2⟩;rcases iL.1 hx with rfl|hx;{exact iM};{exact iO _ (hs x hx)}};{exact Ik (λa w ⟨h1,h2⟩=>⟨Rl hs h1,hN _ _ _ _ hs h2⟩) h}};{rename_i hw;rw [iP hw];exact hN _ _ _ _ hs h}}
def Ac7 {N:Held->Act->Wp}(hN:∀H H' a w,(∀y∈H',y∈H)->N H a w->N H' a w){x i:Nat}{ox oi:Oper}(hx:ops[x]?=some ox) (hi:ops[i]?=some oi) (hq:cls ox.op≠.eff) (hap:ox.apart ops oi=true) (hun:un x i=true)
  (hsx:∀cs b,ox.op≠.select cs b) (hsi:∀cs b,oi.op≠.select cs b) (H:Held) (a:Act) (w:World)
  (h:stepS cls P ops un x (stepS cls P ops un i N) H a w):stepS cls P ops un i (stepS cls P ops un x N) H a w:=by
 obtain ⟨h1,h2,h3⟩:=Oper.apart_spec hap
 have ei:∀(a:Act) v,execOp (a.put ox.dst v).eval oi=execOp a.eval oi:=λa v=>iQ oi hsi a ox.dst v h1
 have wi:∀(a:Act) v,Region.wanted oi (yielded ops (a.put ox.dst v).tmps)=Region.wanted oi (yielded ops a.tmps):=λa v=>iR oi a ox.dst v h1
 have ex:∀(a:Act) v,execOp (a.put oi.dst v).eval ox=execOp a.eval ox:=λa v=>iQ ox hsx a oi.dst v h3
 have wx:∀(a:Act) v,Region.wanted ox (yielded ops (a.put oi.dst v).tmps)=Region.wanted ox (yielded ops a.tmps):=λa v=>iR ox a oi.dst v h3
 have pc:∀(a:Act) v u,(a.put ox.dst v).put oi.dst u=(a.put oi.dst u).put ox.dst v:=λa v u=>(Act.put_comm a v u h2)
 rw [stepS,hx] at h
 rw [stepS,hi]
 simp only at h ⊢
 by_cases hwi:Region.wanted oi (yielded ops a.tmps)=true
 ·rw [iK hwi]
  by_cases hwx:Region.wanted ox (yielded ops a.tmps)=true
  ·rw [iK hwx] at h
   cases c0:cls ox.op with
   |eff=>exact absurd c0 hq
   | free =>
    simp only [c0] at h
    obtain ⟨v,hv,h⟩:=h
    rw [stepS,hi] at h
    simp only [wi,hwi,iT,ei] at h
    have back:∀(a':Act) (w':World) (H':Held),(execOp a'.eval ox=execOp a.eval ox)->(Region.wanted ox (yielded ops a'.tmps)=Region.wanted ox (yielded ops a.tmps)) ->
      N H' (a'.put ox.dst v) w'->stepS cls P ops un x N H' a' w':=by
     intro a' w' H' he hw' hh
     rw [stepS,hx]
     simp only [hw',hwx,iT,c0,he]
     exact ⟨v,hv,hh⟩
    split at h
    ·obtain ⟨u,hu,h⟩:=h
     exact ⟨u,hu,back _ _ _ (ex a u) (wx a u) (by rw [←pc];exact h)⟩
    ·obtain ⟨u,hu,h⟩:=h
     exact ⟨u,hu,back _ _ _ (ex a u) (wx a u) (by rw [←pc];exact h)⟩
    ·generalize (execOp a.eval oi).run P w=res at h ⊢
     cases res with
     |ok n w' =>
      cases n<;>simp only [Gs] at h ⊢
      case value u=>exact ⟨h.1,back _ _ _ (ex a u) (wx a u) (by rw [←pc];exact h.2)⟩
      case skip=>exact ⟨h.1,back _ _ _ (ex a _) (wx a _) (by rw [←pc];exact h.2)⟩
      case enter f args=>exact Calls.mono h λe w'' ⟨u,e1,he⟩=>⟨u,e1,he.1,back _ _ _ (ex a u) (wx a u) (by rw [←pc];exact he.2)⟩
      case round l f tmps assign body=>exact RoundIn.mono h λe w'' ⟨u,e1,he⟩=>⟨u,e1,he.1,back _ _ _ (ex a u) (wx a u) (by rw [←pc];exact he.2)⟩
      case row row args=>exact Rows.mono h λu w'' he=>⟨he.1,back _ _ _ (ex a u) (wx a u) (by rw [←pc];exact he.2)⟩
     |halt y w'=>simp only [Gs] at h
   | read =>
    have c1:=c0
    simp only [c1] at h
    obtain ⟨v,hv,h⟩:=h
    rw [stepS,hi] at h
    simp only [wi,hwi,iT,ei] at h
    have back:∀(a':Act) (w':World) (H':Held),(execOp a'.eval ox=execOp a.eval ox)->(Region.wanted ox (yielded ops a'.tmps)=Region.wanted ox (yielded ops a.tmps)) ->
      (execOp a.eval ox).run P w'=.ok (.value v) w' ->
      N ((x,execOp a.eval ox,v)::H') (a'.put ox.dst v) w'->stepS cls P ops un x N H' a' w':=by
     intro a' w' H' he hw' hr hh
     rw [stepS,hx]
     simp only [hw',hwx,iT,c1,he]
     exact ⟨v,hr,hh⟩
    have own:∀w',Ry P un i ((x,execOp a.eval ox,v)::H) w'->(execOp a.eval ox).run P w'=.ok (.value v) w':=λw' hk=>hk _ iM hun
    have rest:∀w',Ry P un i ((x,execOp a.eval ox,v)::H) w'->Ry P un i H w':=λw' hk=>Rl (λy hy=>iO _ hy) hk
    split at h
    ·obtain ⟨u,hu,h⟩:=h
     exact ⟨u,hu,back _ _ _ (ex a u) (wx a u) hv (by rw [←pc];exact h)⟩
    ·obtain ⟨u,hu,h⟩:=h
     refine ⟨u,hu,back _ _ _ (ex a u) (wx a u) hv ?_⟩
     rw [←pc]
     exact hN _ _ _ _ (λy hy=>by
      rcases iL.1 hy with rfl|hy
      ·exact iO _ iM
      ·rcases iL.1 hy with rfl|hy
       ·exact iM
       ·exact iO _ (iO _ hy)) h
    ·generalize (execOp a.eval oi).run P w=res at h ⊢
     cases res with
     |ok n w' =>
      cases n<;>simp only [Gs] at h ⊢
      case value u=>exact ⟨rest _ h.1,back _ _ _ (ex a u) (wx a u) (own _ h.1) (by rw [←pc];exact h.2)⟩
      case skip=>exact ⟨rest _ h.1,back _ _ _ (ex a _) (wx a _) (own _ h.1) (by rw [←pc];exact h.2)⟩
      case enter f args=>exact Calls.mono h λe w'' ⟨u,e1,he⟩=>⟨u,e1,rest _ he.1,back _ _ _ (ex a u) (wx a u) (own _ he.1) (by rw [←pc];exact he.2)⟩
      case round l f tmps assign body=>exact RoundIn.mono h λe w'' ⟨u,e1,he⟩=>⟨u,e1,rest _ he.1,back _ _ _ (ex a u) (wx a u) (own _ he.1) (by rw [←pc];exact he.2)⟩
      case row row args=>exact Rows.mono h λu w'' he=>⟨rest _ he.1,back _ _ _ (ex a u) (wx a u) (own _ he.1) (by rw [←pc];exact he.2)⟩
     |halt y w'=>simp only [Gs] at h
  ·
   rw [iP hwx] at h
   rw [stepS,hi] at h
   simp only [wi,hwi,iT,ei] at h
   have back:∀(a':Act) (w':World) (H':Held),(Region.wanted ox (yielded ops a'.tmps)=Region.wanted ox (yielded ops a.tmps)) ->
     N H' (a'.put ox.dst undef) w'->stepS cls P ops un x N H' a' w':=by
    intro a' w' H' hw' hh
    rw [stepS,hx]
    simp only [hw',iP hwx]
    exact hh
   split at h
   ·obtain ⟨u,hu,h⟩:=h
    exact ⟨u,hu,back _ _ _ (wx a u) (by rw [←pc];exact h)⟩
   ·obtain ⟨u,hu,h⟩:=h
    exact ⟨u,hu,back _ _ _ (wx a u) (by rw [←pc];exact h)⟩
   ·generalize (execOp a.eval oi).run P w=res at h ⊢
    cases res with
    |ok n w' =>
     cases n<;>simp only [Gs] at h ⊢
     case value u=>exact ⟨h.1,back _ _ _ (wx a u) (by rw [←pc];exact h.2)⟩
     case skip=>exact ⟨h.1,back _ _ _ (wx a _) (by rw [←pc];exact h.2)⟩
     case enter f args=>exact Calls.mono h λe w'' ⟨u,e1,he⟩=>⟨u,e1,he.1,back _ _ _ (wx a u) (by rw [←pc];exact he.2)⟩
     case round l f tmps assign body=>exact RoundIn.mono h λe w'' ⟨u,e1,he⟩=>⟨u,e1,he.1,back _ _ _ (wx a u) (by rw [←pc];exact he.2)⟩
     case row row args=>exact Rows.mono h λu w'' he=>⟨he.1,back _ _ _ (wx a u) (by rw [←pc];exact he.2)⟩
    |halt y w'=>simp only [Gs] at h
 ·
  rw [iP hwi]
  by_cases hwx:Region.wanted ox (yielded ops a.tmps)=true
  ·rw [iK hwx] at h
   have hx':∀u,Region.wanted ox (yielded ops (a.put oi.dst u).tmps)=true:=λu=>by rw [wx];exact hwx
   rw [stepS,hx]
   simp only [hx',iT,ex]
   cases c0:cls ox.op with
   |eff=>exact absurd c0 hq
   |free =>
    simp only [c0] at h ⊢
    obtain ⟨v,hv,h⟩:=h
    rw [stepS,hi] at h
    simp only [wi,iP hwi] at h
    exact ⟨v,hv,by rw [←pc];exact h⟩
   |read =>
    simp only [c0] at h ⊢
    obtain ⟨v,hv,h⟩:=h
    rw [stepS,hi] at h
    simp only [wi,iP hwi] at h
    exact ⟨v,hv,by rw [←pc];exact h⟩
  ·rw [iP hwx] at h
   rw [stepS,hi] at h
   simp only [wi,iP hwi] at h
   rw [stepS,hx]
   simp only [wx,iP hwx]
   rw [←pc]
   exact h
def Xf {rd:Option Nat}{Q':Exit->Act->Wp}{N:Held->Act->Wp}{i:Nat}{H:Held}{a:Act}{w:World}(h:stepS cls P ops un i N H a w) :
  wpOpIn (FW rd) 0 P ops Q' i (λa' w'=>∃H',N H' a' w') a w:=by unfold stepS at h;unfold wpOpIn;split at h;{exact h.elim};{rename_i o ho;simp only [ho];split at h;{rename_i hw;rw [iK hw];refine At8 ?_;split at h;{obtain ⟨v,h1,h2⟩:=h;rw [h1];exact ⟨_,h2⟩};{obtain ⟨v,h1,h2⟩:=h;rw [h1];exact ⟨_,h2⟩};{exact Ik (λa w ⟨_,h2⟩=>⟨_,h2⟩) h}};{rename_i hw;rw [iP hw];exact ⟨λ_ _=>trivial,_,h⟩}}
def Nu (cls:Op->Cl) (ops:Array Oper) (i:Nat):Bool :=
 match ops[i]? with
 |some o=>match cls o.op with | .eff=>true|_=>false
 |none=>true
def Cc9 {x:Nat}{ox:Oper}(hx:ops[x]?=some ox) (hq:cls ox.op≠.eff):Nu cls ops x=false:=by
 unfold Nu;cases hc:cls ox.op with
 |eff=>exact absurd hc hq
 |free=>simp only [hx,hc]
 |read=>simp only [hx,hc]
def held (bf:Nat->Nat->Bool) (fs:List Nat) (x:Nat):Bool:=fs.any λf=>bf f x
def due (cls:Op->Cl) (ops:Array Oper) (bf:Nat->Nat->Bool) (fs:List Nat):List Nat->Bool
 |[]=>true
 |i::_=>held bf fs i||Nu cls ops i
def wpI (cls:Op->Cl) (P:Program) (ops:Array Oper) (un:Nat->Nat->Bool) (bf:Nat->Nat->Bool) (nx:List Nat->List Nat->Held->Act->Wp) (fs:List Nat):List Nat->Held->Act->World->Prop
 |[],H,a,w=>∀f∈fs,stepS cls P ops un f (nx (fs.erase f) []) H a w
 |i::r,H,a,w=>(due cls ops bf fs (i::r)=true->∀f∈fs,stepS cls P ops un f (nx (fs.erase f) (i::r)) H a w)/\(held bf fs i=false->stepS cls P ops un i (wpI cls P ops un bf nx fs r) H a w)
def wpT (cls:Op->Cl) (P:Program) (ops:Array Oper) (un:Nat->Nat->Bool) (Q:Act->Wp) (bf:Nat->Nat->Bool):Nat->List Nat->List Nat->Held->Act->World->Prop
 |0,_,ρ=>wpS cls P ops un Q ρ
 |m+1,fs,ρ=>wpI cls P ops un bf (wpT cls P ops un Q bf m) fs ρ
variable {bf:Nat->Nat->Bool}
def At1 {nx:List Nat->List Nat->Held->Act->Wp}(hnx:∀fs ρ H H' a w,(∀x∈H',x∈H)->nx fs ρ H a w->nx fs ρ H' a w) (fs:List Nat):∀(l:List Nat) (H H':Held) (a:Act) (w:World),(∀x∈H',x∈H)->wpI cls P ops un bf nx fs l H a w->wpI cls P ops un bf nx fs l H' a w:=by
 intro l;induction l with
 |nil=>intro H H' a w hs h f hf;exact Xn (λH H' a w=>hnx _ _ H H' a w) hs (h f hf)
 |cons i r ih=>intro H H' a w hs h;exact ⟨λhd f hf=>Xn (λH H' a w=>hnx _ _ H H' a w) hs (h.1 hd f hf),λhb=>Xn ih hs (h.2 hb)⟩
def Ab8:∀(m:Nat) (fs ρ:List Nat) (H H':Held) (a:Act) (w:World),(∀x∈H',x∈H)->wpT cls P ops un Q bf m fs ρ H a w->wpT cls P ops un Q bf m fs ρ H' a w
 |0,_,ρ,H,H',a,w,hs,h=>As9 ρ H H' a w hs h
 |m+1,fs,ρ,H,H',a,w,hs,h=>At1 (Ab8 m) fs ρ H H' a w hs h
def Qi {fs:List Nat}{x:Nat}{r:List Nat}(hb:held bf fs x=false) (he:Nu cls ops x=false):¬due cls ops bf fs (x::r)=true:=by simp [due,hb,he]
def Bu8 {fs r:List Nat}{x:Nat}(hb:held bf fs x=false) (he:Nu cls ops x=false):∀{m:Nat}{H:Held}{a:Act}{w:World},stepS cls P ops un x (wpT cls P ops un Q bf m fs r) H a w->wpT cls P ops un Q bf m fs (x::r) H a w
 |0,H,a,w,h=>by show wpS cls P ops un Q (x::r) H a w;rw [Bv0];exact h
 |m+1,H,a,w,h=>⟨λhd=>absurd hd (Qi hb he),λ_=>h⟩
structure Floats (cls:Op->Cl) (ops:Array Oper) (un:Nat->Nat->Bool) (f x:Nat):Prop where
 un:un x f=true
 ap:∃ox of,ops[x]?=some ox/\ops[f]?=some of/\cls ox.op≠.eff/\ox.apart ops of=true/\(∀cs b,ox.op≠.select cs b)/\∀cs b,of.op≠.select cs b
def Bg1 {fs:List Nat}{f x:Nat}(h:held bf fs x=false):held bf (fs.erase f) x=false:=by unfold held at h ⊢;rw [lH] at h ⊢;exact λy hy=>h y (lJ hy)
def Cg5 {fs:List Nat}{f m:Nat}(hf:f∈fs):∀(l:List Nat),(∀x∈l,held bf fs x=false->Nu cls ops x=false->Floats cls ops un f x)->∀(H:Held) (a:Act) (w:World),
  wpI cls P ops un bf (wpT cls P ops un Q bf m) fs l H a w->stepS cls P ops un f (wpT cls P ops un Q bf m (fs.erase f) l) H a w:=by
 intro l;induction l with
 |nil=>intro _ H a w h;exact h f hf
 |cons x r ih =>
  intro hl H a w h;cases hd:due cls ops bf fs (x::r) with
  |true=>exact h.1 hd f hf
  |false=>simp only [due,lK] at hd;obtain ⟨hb,he⟩:=hd;obtain ⟨hun,ox,of,hox,hof,hq,hap,h1,h2⟩:=hl x iM hb he;have h3:=Vy (λH a w=>ih (λy hy=>hl y (iO _ hy)) H a w) (h.2 hb);have h4:=Ac7 (Ab8 m (fs.erase f) r) hox hof hq hap hun h1 h2 _ _ _ h3;exact Vy (λH a w h=>Bu8 (Bg1 hb) he h) h4
def Bo3 {nx:List Nat->List Nat->Held->Act->Wp}(hnx:∀fs ρ H H' a w,(∀x∈H',x∈H)->nx fs ρ H a w->nx fs ρ H' a w){fs:List Nat}{i:Nat}{oi:Oper}(hi:ops[i]?=some oi) (hsi:∀cs b,oi.op≠.select cs b) (hbi:held bf fs i=false) (r:List Nat):∀(l:List Nat),
  (∀x∈l,un x i=true/\held bf fs x=false/\∃ox,ops[x]?=some ox/\cls ox.op≠.eff/\ox.apart ops oi=true/\∀cs b,ox.op≠.select cs b) ->
  ∀(H:Held) (a:Act) (w:World),wpI cls P ops un bf nx fs (l++i::r) H a w->stepS cls P ops un i (wpI cls P ops un bf nx fs (l++r)) H a w:=by
 intro l;induction l with
 |nil=>intro _ H a w h;exact h.2 hbi
 |cons x l ih=>intro hl H a w h;obtain ⟨hun,hbx,ox,hx,hq,hap,hsx⟩:=hl x iM;have hex:Nu cls ops x=false:=Cc9 hx hq;have h1:=Vy (λH a w=>ih (λy hy=>hl y (iO _ hy)) H a w) (h.2 hbx);have h2:=Ac7 (At1 hnx fs (l++r)) hx hi hq hap hun hsx hsi _ _ _ h1;exact Vy (λH a w h=>⟨λhd=>absurd hd (Qi hbx hex),λ_=>h⟩) h2
end
def Oq (cls:Op->Cl) (ops:Array Oper) (B:Nat->Nat) (f:Nat):List Nat->Bool
 |[]=>true
 | x::r=>(match (B x).testBit f with
   |true=>r.all λy=>(B y).testBit f
   |false=>(B f).testBit x||match Nu cls ops x with
    |true=>true
    |false=>match ops[x]?,ops[f]? with|some ox,some of=>ox.apart ops of|_,_=>false)&&Oq cls ops B f r
section
variable {cls:Op->Cl}{P:Program}{ops:Array Oper}{B:Nat->Nat}{Q:Act->Wp}{f:Nat}
def V9 (hN:Al1 ops=true){of:Oper}(hof:ops[f]?=some of):∀{l:List Nat},Oq cls ops B f l=true->∀x∈l,(B f).testBit x=false->(B x).testBit f=false->Nu cls ops x=false->Floats cls ops (λx i=>!(B i).testBit x) f x
 | y::r,h,x,hx,hfx,hb,he=>by
  simp only [Oq,jA] at h;rcases iL.1 hx with rfl|hx
  ·obtain ⟨h2,_⟩:=h;simp only [hb,he,hfx,jG] at h2;(have h1:(!(B f).testBit x)=true:=by rw [hfx];rfl);cases hox:ops[x]? with
   |none=>simp only [hox] at h2;exact absurd h2 (by simp)
   |some ox=>simp only [hox,hof] at h2;refine ⟨h1,ox,of,hox,hof,λhc=>?_,h2,Nw hN hox,Nw hN hof⟩;unfold Nu at he;simp only [hox,hc] at he;exact absurd he (by simp)
  {exact V9 hN hof h.2 x hx hfx hb he}
def Xl {l:List Nat}{i:Nat}{r:List Nat}(h:Oq cls ops B f (l++i::r)=true):((B i).testBit f=false->∀x∈l,(B x).testBit f=false)/\Oq cls ops B f (l++r)=true:=by
 induction l with
 |nil=>simp only [iZ,Oq,jA] at h;exact ⟨(λ_ _ h=>by cases h),h.2⟩
 | cons y l ih =>
  simp only [jC,Oq,jA] at h;obtain ⟨h2,h3⟩:=h;obtain ⟨g1,g2⟩:=ih h3;refine ⟨λhi x hx=>?_,?_⟩
  ·have hy:(B y).testBit f=false:=by
    cases hy:(B y).testBit f with
    |false=>rfl
    |true=>simp only [hy] at h2;have:=iW.1 h2 i (jW _ iM);rw [hi] at this;exact absurd this (by simp)
   rcases iL.1 hx with rfl|hx;{exact hy};{exact g1 hi x hx}
  ·simp only [jC,Oq,jA];refine ⟨?_,g2⟩;cases hy:(B y).testBit f with
   |false=>simp only [hy] at h2 ⊢;exact h2
   |true=>simp only [hy] at h2 ⊢;rw [iW] at h2 ⊢;intro x hx;rcases jV.1 hx with hx|hx;{exact h2 x (jQ _ hx)};{exact h2 x (jW _ (iO _ hx))}
structure Ai1 (ops:Array Oper) (B:Nat->Nat) (listed:Array Bool) (ρ:List Nat):Prop where
 here:∀i,i<ops.size->(listed.getD i false=true\/i∈ρ)
 not:∀i,i∈ρ->listed.getD i false=false/\i<ops.size
 nodup:ρ.Nodup
 size:listed.size=ops.size
 down:∀i x,listed.getD i false=true->(B i).testBit x=true->x<ops.size->listed.getD x false=true
def By3 {listed:Array Bool}{ρ:List Nat}{i:Nat}(inv:Ai1 ops B listed ρ) (h:i∈Region.ready .any ops listed):i∈ρ/\∃o,ops[i]?=some o/\∀e∈o.after,Region.binds .any e=true->listed.getD e.on false=true:=by obtain ⟨h1,o,ho,h2⟩:=jE.1 h;have hi:i<ops.size:=(iY.1 ho).1;refine ⟨(inv.here i hi).resolve_left λhh=>?_,o,ho,h2⟩;(have:i<listed.size:=by rw [inv.size];exact hi);simp [Array.getD,this] at hh h1;rw [hh] at h1;exact absurd h1 (by simp)
def Za (hB:Tm ops B=true){listed:Array Bool}{ρ:List Nat}(inv:Ai1 ops B listed ρ){i:Nat}{o:Oper}(ho:ops[i]?=some o) (hpre:∀e∈o.after,Region.binds .any e=true->listed.getD e.on false=true) :
  ∀x,(B i).testBit x=true->x<ops.size->listed.getD x false=true:=by intro x hx hxs;have hi':i<ops.size:=(iY.1 ho).1;have:=iW.1 (iW.1 hB i (jK.2 hi')) x (jK.2 hxs);simp only [hx,jF,jG,ho,jL,jM,List.any_eq_true,jA,jO] at this;obtain ⟨e,he,hb,hc⟩:=this;have hle:=hpre e (by simpa using he) hb;rcases hc with hc|hc;{have:e.on=x:=jP hc;rw [←this];exact hle};{exact inv.down e.on x hle hc hxs}
def Ai1.put (hB:Tm ops B=true){listed:Array Bool}{l r:List Nat}{i:Nat}{o:Oper}(inv:Ai1 ops B listed (l++i::r)) (ho:ops[i]?=some o) (hpre:∀e∈o.after,Region.binds .any e=true->listed.getD e.on false=true) :
  Ai1 ops B (listed.setIfInBounds i true) (l++r):=by
 have hbound:=Za hB inv ho hpre;have hi':i<ops.size:=(iY.1 ho).1;(have hil:i<listed.size:=by rw [inv.size];exact hi');have hset:∀j,(listed.setIfInBounds i true).getD j false=true↔(j=i\/listed.getD j false=true):=by
  intro j
  by_cases hj:i=j
  ·subst hj;simp [Array.getD,hil]
  ·rw [getD_set_ne false hj];simp [Ne.symm hj]
 have hnd:i∉l++r:=by
  have:=inv.nodup
  rw [jR] at this
  obtain ⟨h1,h2,h3⟩:=this
  rw [jT] at h2
  intro hm
  rcases jV.1 hm with hm|hm
  ·exact h3 i hm i iM rfl
  ·exact h2.1 hm
 refine ⟨?_,?_,?_,by simp [inv.size],?_⟩;{intro j hj;rcases inv.here j hj with h|h;{exact .inl ((hset j).2 (.inr h))};{by_cases hji:j=i;{exact .inl ((hset j).2 (.inl hji))};{refine .inr ?_;rcases jV.1 h with h|h;{exact jQ _ h};{exact jW _ ((iL.1 h).resolve_left hji)}}}}
 ·intro j hj;have hji:j≠i:=λe=>hnd (e▸hj);have hjm:j∈l++i::r:=by
   rcases jV.1 hj with h|h
   ·exact jQ _ h
   ·exact jW _ (iO _ h)
  obtain ⟨h1,h2⟩:=inv.not j hjm;refine ⟨?_,h2⟩;cases hc:(listed.setIfInBounds i true).getD j false with
  |false=>rfl
  |true=>rcases (hset j).1 hc with h|h;{exact absurd h hji};{rw [h1] at h;exact absurd h (by simp)}
 {have:=inv.nodup;rw [jR] at this ⊢;obtain ⟨h1,h2,h3⟩:=this;rw [jT] at h2;exact ⟨h1,h2.2,λx hx y hy=>h3 x hx y (iO _ hy)⟩};{intro j x hj hx hxs;rcases (hset j).1 hj with h|h;{subst h;exact (hset x).2 (.inr (hbound x hx hxs))};{exact (hset x).2 (.inr (inv.down j x h hx hxs))}}
def Cf3 (ops:Array Oper) (f:Nat):Bool:=match ops[f]? with|some o=>o.after.toList.all (λe=>!Region.binds .any e)|none=>false
def Bh9 (ops:Array Oper) (f:Nat):Bool:=match ops[f]? with|some o=>o.after.toList.all (λe=>!Region.binds .any e||Cf3 ops e.on)|none=>false
def Ba4 {ops:Array Oper}{listed:Array Bool}{x:Nat}(hx:Cf3 ops x=true) (hl:listed.getD x false=false) (hs:listed.size=ops.size):x∈Region.ready .any ops listed:=by
 unfold Cf3 at hx;cases ho:ops[x]? with
 |none=>rw [ho] at hx;exact absurd hx (by simp)
 | some o =>
  rw [ho] at hx;(have hxs:x<listed.size:=by rw [hs];exact (iY.1 ho).1);exact jE.2 ⟨by simpa [Array.getD,hxs] using hl,o,ho,λe he hb=>by
   have:=iW.1 hx e (by simpa using he)
   rw [hb] at this;exact absurd this (by simp)⟩
def Ao1 (hB:Tm ops B=true) (hE:Aa8 ops=true) (hN:Al1 ops=true){rd:Option Nat}{Q':Exit->Act->Wp}(hQ:∀a w,Q a w->Q' .normal a w) :
  ∀(fuel m:Nat) (fs:List Nat) (listed:Array Bool) (ρ:List Nat) (H:Held) (a:Act) (w:World),fs.length=m->fs.length+ρ.length=fuel->Ai1 ops B listed (fs++ρ)->Jv cls ops B ρ=true->(∀f∈fs,Oq cls ops B f ρ=true/\Bh9 ops f=true) ->
   wpT cls P ops (λx i=>!(B i).testBit x) Q (λf i=>(B i).testBit f) m fs ρ H a w->wpAnyIn (FW rd) 0 P .any ops Q' fuel listed a w:=by
 intro fuel;induction fuel with
 |zero=>intro m fs listed ρ H a w hm hl inv hpairs hfl h;obtain rfl:fs=[]:=jH.1 (by omega);obtain rfl:m=0:=hm.symm;exact Ub hB hE hN hQ 0 listed ρ H a w (by simpa using hl) ⟨hpairs,inv.here,inv.not,inv.nodup,inv.size,inv.down⟩ h
 | succ fuel ih =>
  intro m fs listed ρ H a w hm hl inv hpairs hfl h;cases m with
  |zero=>obtain rfl:fs=[]:=jH.1 hm;exact Ub hB hE hN hQ (fuel+1) listed ρ H a w (by simpa using hl) ⟨hpairs,inv.here,inv.not,inv.nodup,inv.size,inv.down⟩ h
  |succ m =>
  refine ⟨λhr=>?_,λi hi=>?_⟩
  ·obtain ⟨f,hf⟩:∃f,f∈fs:=List.exists_mem_of_length_pos (by omega);obtain ⟨_,hbare⟩:=hfl f hf;have hfs:=inv.not f (jQ _ hf);(have hfl':f<listed.size:=by rw [inv.size];exact hfs.2);have hof:ops[f]?=some ops[f]:=(by simp [hfs.2]);unfold Bh9 at hbare;rw [hof] at hbare;by_cases hp:∃e∈ops[f].after,Region.binds .any e=true/\listed.getD e.on false=false;{obtain ⟨e,he,hb,hl'⟩:=hp;have h1:=iW.1 hbare e (by simpa using he);rw [hb] at h1;have:=Ba4 (by simpa using h1) hl' inv.size;rw [hr] at this;exact absurd this (by simp)}
   ·have:f∈Region.ready .any ops listed:=jE.2 ⟨by simpa [Array.getD,hfl'] using hfs.1,ops[f],hof,λe he hb=>by
     cases hc:listed.getD e.on false with
     |true=>rfl
     |false=>exact absurd ⟨e,he,hb,hc⟩ hp⟩
    rw [hr] at this;exact absurd this (by simp)
  obtain ⟨him,o,ho,hpre⟩:=By3 inv hi;by_cases hif:i∈fs
  ·have hbx:=Za hB inv ho hpre;have now:=Cg5 hif ρ (λx hx hb he=>V9 hN ho (hfl i hif).1 x hx (by
    have hxs:=inv.not x (jW _ hx)
    cases hc:(B i).testBit x with
    |false=>rfl
    |true=>rw [hbx x hc hxs.2] at hxs;exact absurd hxs.1 (by simp)) (by
    unfold held at hb
    rw [lH] at hb
    simpa using hb i hif) he) H a w h
   obtain ⟨l1,l2,hl12⟩:=jJ hif;have hnd:i∉l1:=by
    have:=inv.nodup
    rw [hl12,lM,jR] at this
    intro hc
    exact this.2.2 i hc i (by simp) rfl
   have he:fs.erase i=l1++l2:=by
    rw [hl12,List.erase_append_right _ hnd,List.erase_cons_head]
   have inv':Ai1 ops B (listed.setIfInBounds i true) (l1++(l2++ρ)):=Ai1.put (l:=l1) (r:=l2++ρ) hB (by rw [hl12] at inv;simpa using inv) ho hpre;refine iV (λa' w' ⟨H',hh⟩=>?_) (Xf now);(have hlen:(fs.erase i).length=m:=by rw [lQ hif];omega);exact ih m (fs.erase i) _ ρ H' a' w' hlen (by omega) (by rw [he,lM];exact inv') hpairs (λf hf=>hfl f (lJ hf)) hh
  have him:i∈ρ:=(jV.1 him).resolve_left hif;obtain ⟨l,r,rfl⟩:=jJ him;have hnot:∀f∈fs,(B i).testBit f=false:=λf hf=>by
   have hfs:=inv.not f (jQ _ hf)
   cases hb:(B i).testBit f with
   |false=>rfl
   |true=>rw [Za hB inv ho hpre f hb hfs.2] at hfs;exact absurd hfs.1 (by simp)
  have hbi:held (λf i=>(B i).testBit f) fs i=false:=by
   unfold held
   rw [lH]
   intro f hf
   simpa using hnot f hf
  (have inv':Ai1 ops B listed ((fs++l)++i::r):=by rw [lM];exact inv);obtain ⟨hpi,hpr,_⟩:=Xg hpairs;have hbound:=Za hB inv ho hpre;have hall:∀x∈l,(λx i=>!(B i).testBit x) x i=true/\held (λf i=>(B i).testBit f) fs x=false/\∃ox,ops[x]?=some ox/\cls ox.op≠.eff/\ox.apart ops o=true/\∀cs b,ox.op≠.select cs b:=λx hx=>by
   have hxm:=inv'.not x (jQ _ (jW _ hx))
   have hp:=hpi x hx
   have hxo:ops[x]?=some ops[x]:=by simp [hxm.2]
   simp only [Zp,hxo,ho,jA,jO] at hp
   have hnb:(B i).testBit x=false:=by
    cases hb:(B i).testBit x with
    |false=>rfl
    |true=>rw [hbound x hb hxm.2] at hxm;exact absurd hxm.1 (by simp)
   refine ⟨by simp [hnb],?_,ops[x],hxo,?_,?_,Nw hN hxo⟩
   ·unfold held
    rw [lH]
    intro f hf
    have:=(Xl (hfl f hf).1).1 (hnot f hf) x hx
    simpa using this
   ·rcases hp.2 with h|h
    ·rw [hnb] at h;exact absurd h (by simp)
    ·intro hc;rw [hc] at h;simp at h
   ·rcases hp.2 with h|h
    ·rw [hnb] at h;exact absurd h (by simp)
    ·exact h.2
  have hstep:=Bo3 (P:=P) (Ab8 m) ho (Nw hN ho) hbi r l hall H a w h;refine iV (λa' w' ⟨H',hh⟩=>?_) (Xf hstep);exact ih (m+1) fs _ (l++r) H' a' w' hm (by simp at hl ⊢;omega) (by rw [←lM];exact Ai1.put (l:=fs++l) hB inv' ho hpre) hpr (λf hf=>⟨(Xl (hfl f hf).1).2,(hfl f hf).2⟩) hh
def distinct:List Nat->Bool
 |[]=>true
 |x::r=>!r.contains x&&distinct r
def Vq:∀{l:List Nat},distinct l=true->l.Nodup
 |[],_=>jX
 |x::r,h=>by
  simp only [distinct,jA,lG] at h
  refine jT.2 ⟨λhc=>?_,Vq h.2⟩
  rw [List.contains_iff_mem.2 hc] at h
  exact absurd h.1 (by simp)
def Ap7 (cls:Op->Cl) (ops:Array Oper) (B:Nat->Nat) (fs ρ:List Nat):Bool :=
 Tm ops B&&Aa8 ops&&Al1 ops&&Ap8 ops.size (fs++ρ)&&Jv cls ops B ρ&&(fs.all λf=>Oq cls ops B f ρ&&Bh9 ops f)&&distinct (fs++ρ)
def Uo {id:Nat}{a:Act}{w:World}{fs ρ:List Nat}(hm:P.follows .mixedOrders=true) (hok:Ap7 cls ops B fs ρ=true){rd:Option Nat}{Q':Exit->Act->Wp}
  (hQ:∀a w,Q a w->Q' .normal a w) (h:wpT cls P ops (λx i=>!(B i).testBit x) Q (λf i=>(B i).testBit f) fs.length fs ρ [] a { w with drawn:=w.drawn+1 }):(Code.region id ops true).wpIn (FW rd) 0 P Q' a w:=by
 simp only [Ap7,jA] at hok;obtain ⟨⟨⟨⟨⟨⟨hB,hE⟩,hN⟩,hO⟩,hP⟩,hfl⟩,hnd⟩:=hok;simp only [Ap8,jA] at hO;have hlen:(fs++ρ).length=ops.size:=jP hO.1.1;have hmem:∀i,i<ops.size->i∈fs++ρ:=λi hi=>(by simpa using iW.1 hO.2 i (jK.2 hi));have hlt:∀i∈fs++ρ,i<ops.size:=λi hi=>(by simpa using iW.1 hO.1.2 i hi);refine wpIn_region_any hm (Ao1 hB hE hN hQ ops.size _ fs _ ρ [] a _ rfl (by simpa using hlen) ⟨λi hi=>.inr (hmem i hi),λi hi=>⟨?_,hlt i hi⟩,Vq hnd,by simp,?_⟩ hP (λf hf=>by
  have:=iW.1 hfl f hf
  simpa using this) h)
 {simp [Array.getD]};{intro i x hi;simp [Array.getD] at hi}
end
#print axioms Uo
inductive Dfr where
 |mark (D:Nat)
 |call (d:Deferred)
def Dfr.de:Dfr->Deferred
 |.mark D=>{ target:=.collected D,args:=#[] }
 |.call d=>d
structure Fr where
 tm:Nat->Option Value
 ds:List Dfr
instance:CoeFun Fr λ_=>Nat->Option Value:=⟨Fr.tm⟩
def Fr.set (φ:Fr) (d:Nat) (v:Value):Fr:=⟨λi=>match Nat.beq i d with|true=>some v|false=>φ i,φ.ds⟩
def Fr.mark (φ:Fr) (D:Nat):Fr:=⟨φ.tm,.mark D::φ.ds⟩
def Fr.later (φ:Fr) (d:Deferred):Fr:=⟨φ.tm,.call d::φ.ds⟩
def Fr.bare (φ:Fr):Fr:=⟨φ.tm,[]⟩
def marks (ds:List Dfr):List Deferred:=ds.map Dfr.de
def Fr.put (φ:Fr) (dst:Option Nat) (v:Value):Fr:=match dst with|some d=>φ.set d v|none=>φ
def Fr.ev (φ:Fr):Ev
 |.tmp t=>φ t
 |.const v=>some v
 |.global g=>some (.pointer (some ⟨g,0,none⟩))
 |.func f=>some (.func (.func f) #[] #[])
structure Fits (n:Nat) (φ:Fr) (a:Act):Prop where
 size:a.tmps.size=n
 defers:a.defers=marks φ.ds
 at_:∀i v,φ i=some v->a.tmps[i]?=some v
inductive RS where
 |done
 |op (rt:Option RTy) (r:RS)
 |skip (r:RS)
 |split (d:Nat) (t e:RS)
 |float (fs:List Nat) (r:RS)
 |plain (r:RS)
 |alt (rt:Option RTy) (a r:RS)
 |stop
abbrev HV:=List (Nat×(World->Prop))
def pend (un:Nat->Nat->Bool) (i:Nat):HV->(World->Prop)->World->Prop
 |[],K=>K
 |x::r,K=>match un x.1 i with|true=>keep x.2 (pend un i r K)|false=>pend un i r K
def gIs (ops:List Oper) (φ:Fr) (o:Oper):Option Bool :=
 match o.guard with
 |none=>some true
 | some g=>match ops[g.1]? with
  |none=>none
  | some og=>match og.dst with
   |none=>none
   | some d=>match φ d with
    |some (.bool b)=>match b,g.2 with
     |true,true=>some true
     |false,false=>some true
     |_,_=>some false
    |some (.tuple _)=>some false
    |_=>none
def dOk (n:Nat) (o:Oper):Bool:=match o.dst with|some d=>Nat.blt d n|none=>true
def Bp4 (T:Tab) (o:Oper):Option RTy->Option RTy
 |some t=>some t
 |none=>match T.get o.type with|some i=>some i.rty|none=>none
def Ud (T:Tab) (P:Program) (n:Nat) (ops:List Oper) (un:Nat->Nat->Bool):RS->List Nat->Fr->HV->(Fr->Wp)->World->Prop
 |.done,σ,φ,_,K=>match σ with|[]=>K φ|_::_=>λ_=>False
 | .op rt r,σ,φ,H,K=>match σ with
  |[]=>λ_=>False
  | i :: σ=>match ops[i]? with
   |none=>λ_=>False
   | some o=>match gIs ops φ o,dOk n o with
    | some true,true=>match T.cls o.op with
     |.free=>match quiet T P φ.ev o with
      |.val v=>Ud T P n ops un r σ (φ.put o.dst v) H K
      |.cond c f=>cdE c λx=>Ud T P n ops un r σ (φ.put o.dst (f x)) H K
      |_=>λ_=>False
     |.read=>match quiet T P φ.ev o with
      |.val v=>Ud T P n ops un r σ (φ.put o.dst v) H K
      |.cond c f=>cdE c λx=>Ud T P n ops un r σ (φ.put o.dst (f x)) H K
      |.read rd f=>rdE rd λx=>Ud T P n ops un r σ (φ.put o.dst (f x)) ((i,rd x)::H) K
      |.no=>λ_=>False
     |.eff=>eff T P φ.ev o (Bp4 T o rt) λv=>pend un i H (Ud T P n ops un r σ (φ.put o.dst v) H K)
    |_,_=>λ_=>False
 | .skip r,σ,φ,H,K=>match σ with
  |[]=>λ_=>False
  | i::σ=>match ops[i]? with
   |none=>λ_=>False
   |some o=>match gIs ops φ o,dOk n o with
    |some false,true=>Ud T P n ops un r σ (φ.put o.dst undef) H K
    |_,_=>λ_=>False
 |.split d t e,σ,φ,H,K=>match φ d with
  |some (.bool b)=>sif b (Ud T P n ops un t σ (φ.set d (.bool true)) H K) (Ud T P n ops un e σ (φ.set d (.bool false)) H K)
  |_=>λ_=>False
 |.float _ _,_,_,_,_=>λ_=>False
 |.plain _,_,_,_,_=>λ_=>False
 |.alt _ _ _,_,_,_,_=>λ_=>False
 |.stop,_,_,_,_=>λ_=>False
def both (A B:World->Prop):World->Prop:=λw=>A w/\B w
def nothing:World->Prop:=λ_=>True
def Lh (T:Tab) (P:Program) (n:Nat) (ops:List Oper) (un:Nat->Nat->Bool) (bf:Nat->Nat->Bool):RS->List Nat->List Nat->List Nat->Fr->HV->(Fr->Wp)->World->Prop
 |.plain r,fs,_,σ,φ,H,K=>match fs with
  |[]=>Ud T P n ops un r σ φ H K
  |_::_=>λ_=>False
 | .alt rt a r,fs,alts,σ,φ,H,K=>match alts with
  |[]=>λ_=>False
  | f::alts=>match ops[f]? with
   |none=>λ_=>False
   |some o=>match gIs ops φ o,dOk n o,T.cls o.op with
    |some true,true,.eff=>both (eff T P φ.ev o (Bp4 T o rt) λv=>pend un f H (Lh T P n ops un bf a (fs.erase f) (fs.erase f) σ (φ.put o.dst v) H K)) (Lh T P n ops un bf r fs alts σ φ H K)
    |_,_,_=>λ_=>False
 | .stop,fs,alts,σ,_,_,_=>match fs,alts with
  | _::_,[]=>(match σ with
   |[]=>nothing
   |i::_=>match held bf fs i with
    |true=>nothing
    |false=>λ_=>False)
  |_,_=>λ_=>False
 | .op rt r,fs,alts,σ,φ,H,K=>match fs,σ with
  | _ :: _,i::σ=>match ops[i]? with
   |none=>λ_=>False
   | some o=>match held bf fs i,gIs ops φ o,dOk n o with
    | false,some true,true=>match T.cls o.op with
     |.free=>match quiet T P φ.ev o with
      |.val v=>Lh T P n ops un bf r fs fs σ (φ.put o.dst v) H K
      |.cond c g=>cdE c λx=>Lh T P n ops un bf r fs fs σ (φ.put o.dst (g x)) H K
      |_=>λ_=>False
     |.read=>match quiet T P φ.ev o with
      |.val v=>Lh T P n ops un bf r fs fs σ (φ.put o.dst v) H K
      |.cond c g=>cdE c λx=>Lh T P n ops un bf r fs fs σ (φ.put o.dst (g x)) H K
      |.read rd g=>rdE rd λx=>Lh T P n ops un bf r fs fs σ (φ.put o.dst (g x)) ((i,rd x)::H) K
      |.no=>λ_=>False
     |.eff=>match alts with
      |[]=>eff T P φ.ev o (Bp4 T o rt) λv=>pend un i H (Lh T P n ops un bf r fs fs σ (φ.put o.dst v) H K)
      |_::_=>λ_=>False
    |_,_,_=>λ_=>False
  |_,_=>λ_=>False
 | .skip r,fs,alts,σ,φ,H,K=>match fs,σ with
  | _::_,i::σ=>match ops[i]? with
   |none=>λ_=>False
   | some o=>match held bf fs i,gIs ops φ o,dOk n o with
    |false,some false,true=>match T.cls o.op,alts with
     |.eff,_::_=>λ_=>False
     |_,_=>Lh T P n ops un bf r fs fs σ (φ.put o.dst undef) H K
    |_,_,_=>λ_=>False
  |_,_=>λ_=>False
 |.split d t e,fs,alts,σ,φ,H,K=>match φ d with
  |some (.bool b)=>sif b (Lh T P n ops un bf t fs alts σ (φ.set d (.bool true)) H K) (Lh T P n ops un bf e fs alts σ (φ.set d (.bool false)) H K)
  |_=>λ_=>False
 |.done,_,_,_,_,_,_=>λ_=>False
 |.float _ _,_,_,_,_,_,_=>λ_=>False
structure Agree (m:Nat) (s:Bool) (a a':Act):Prop where
 at_:∀i,m.testBit i=false->a'.tmps[i]?=a.tmps[i]?
 defers:s=true->a'.defers=a.defers
def Agree.refl (m:Nat) (s:Bool) (a:Act):Agree m s a a:=⟨λ_ _=>rfl,λ_=>rfl⟩
def Agree.trans {m:Nat}{s:Bool}{a b c:Act}(h:Agree m s a b) (h':Agree m s b c):Agree m s a c:=⟨λi hi=>(h'.at_ i hi).trans (h.at_ i hi),λe=>(h'.defers e).trans (h.defers e)⟩
def Agree.mono {m m':Nat}{s s':Bool}{a b:Act}(h:Agree m s a b) (hs:∀i,m.testBit i=true->m'.testBit i=true) (hd:s'=true->s=true):Agree m' s' a b:=⟨λi hi=>h.at_ i (by
 cases hm:m.testBit i with
 |false=>rfl
 |true=>rw [hs i hm] at hi;cases hi),λe=>h.defers (hd e)⟩
def Fits.ev {n:Nat}{φ:Fr}{a:Act}(h:Fits n φ a):∀x v,φ.ev x=some v->a.eval x=v:=by
 intro x v hx;cases x with
 |tmp t=>simp only [Fr.ev] at hx;have:=h.at_ t v hx;simp [Act.eval,Array.getD_eq_getD_getElem?,this]
 |const u=>cases hx;rfl
 |global g=>cases hx;rfl
 |func f=>cases hx;rfl
def Fits.put {n:Nat}{φ:Fr}{a:Act}(h:Fits n φ a){o:Oper}(hd:dOk n o=true) (v:Value):Fits n (φ.put o.dst v) (a.put o.dst v):=by
 unfold dOk at hd;cases ho:o.dst with
 |none=>exact h
 |some d=>rw [ho] at hd;have hd:d<n:=(by simpa using hd);refine ⟨by simp [Act.put,h.size],h.defers,λi u hi=>?_⟩;simp only [Fr.put,Fr.set] at hi;split at hi;{rename_i e;obtain rfl:=jP e;cases hi;simp [Act.put,h.size,hd]};{rename_i e;(have hne:d≠i:=λhh=>by rw [hh,lS] at e;cases e);simp only [Act.put];rw [lT hne];exact h.at_ i u hi}
def Fits.set {n:Nat}{φ:Fr}{a:Act}(h:Fits n φ a){d:Nat}{v:Value}(hv:a.tmps[d]?=some v):Fits n (φ.set d v) a:=by refine ⟨h.size,h.defers,λi u hi=>?_⟩;simp only [Fr.set] at hi;split at hi;{rename_i e;obtain rfl:=jP e;cases hi;exact hv};{exact h.at_ i u hi}
def Agree.put {m:Nat}{a:Act}{o:Oper}(hm:∀d,o.dst=some d->m.testBit d=true) (v:Value):Agree m true a (a.put o.dst v):=by
 refine ⟨λi hi=>?_,λ_=>by cases o.dst<;>rfl⟩;cases ho:o.dst with
 |none=>rfl
 |some d=>(have hne:d≠i:=λhh=>by have:=hm d ho;rw [hh,hi] at this;cases this);simp only [Act.put];rw [lT hne]
def Ld {n:Nat}{ops:Array Oper}{φ:Fr}{a:Act}(h:Fits n φ a){o:Oper}{r:Bool}(hg:gIs ops.toList φ o=some r):Region.wanted o (yielded ops a.tmps)=r:=by
 unfold gIs at hg;unfold Region.wanted;split at hg;{rename_i e;cases hg;rw [e]}
 ·rename_i g e;rw [e];obtain ⟨j,want⟩:=g;simp only at hg ⊢;split at hg;{cases hg}
  ·rename_i og hog;(have hog':ops[j]?=some og:=by rw [←hog];simp);split at hg;{cases hg}
   ·rename_i d hd;split at hg
    ·rename_i b hb;have ht:=h.at_ d _ hb;have hy:yielded ops a.tmps j=some b:=by
      unfold yielded
      simp [hog',hd,ht]
     rw [hy];cases b<;>cases want<;>simp only at hg<;>cases hg<;>rfl
    ·rename_i vs hb;have ht:=h.at_ d _ hb;have hy:yielded ops a.tmps j=none:=by
      unfold yielded
      simp [hog',hd,ht]
     rw [hy];cases hg;rfl
    {cases hg}
def Vf {un:Nat->Nat->Bool}{i:Nat}{K:World->Prop}:∀{H:HV}{w:World},pend un i H K w->(∀x∈H,un x.1 i=true->x.2 w)/\K w
 |[],w,h=>⟨λ_ hx=>(by cases hx),h⟩
 | x::r,w,h=>by
  simp only [pend] at h
  cases hu:un x.1 i with
  |true =>
   simp only [hu] at h
   obtain ⟨h1,h2⟩:=h
   obtain ⟨h3,h4⟩:=Vf h2
   refine ⟨λy hy hyu=>?_,h4⟩
   rcases iL.1 hy with rfl|hy
   ·exact h1
   ·exact h3 y hy hyu
  |false =>
   simp only [hu] at h
   obtain ⟨h3,h4⟩:=Vf h
   refine ⟨λy hy hyu=>?_,h4⟩
   rcases iL.1 hy with rfl|hy
   ·rw [hu] at hyu;cases hyu
   ·exact h3 y hy hyu
def Co4 (P:Program) (Hs:Held) (H:HV):Prop :=
 ∀x∈Hs,(∀w',x.2.1.run P w'=.ok (.value x.2.2) w')\/∃p,(x.1,p)∈H/\∀w',p w'->x.2.1.run P w'=.ok (.value x.2.2) w'
def Uc {T:Tab}{P:Program}(ok:T.Ok P){n:Nat}{ops:Array Oper}{un:Nat->Nat->Bool}{m:Nat}(hm:∀o∈ops.toList,∀d,o.dst=some d->m.testBit d=true){K:Fr->Wp}{a0:Act} :
  ∀(rs:RS) (σ:List Nat) (φ:Fr) (H:HV) (Hs:Held) (a:Act) (w:World),Fits n φ a->Co4 P Hs H->Agree m true a0 a->Ud T P n ops.toList un rs σ φ H K w ->
   wpS T.cls P ops un (λa' w'=>∃φ',Fits n φ' a'/\Agree m true a0 a'/\K φ' w') σ Hs a w:=by
 intro rs;induction rs with
 |done =>
  intro σ φ H Hs a w hF hH hA h;cases σ with
  |nil=>exact ⟨φ,hF,hA,h⟩
  |cons i σ=>exact h.elim
 | op rt r ih =>
  intro σ φ H Hs a w hF hH hA h;cases σ with
  |nil=>exact h.elim
  | cons i σ =>
   simp only [Ud] at h;cases ho:ops.toList[i]? with
   |none=>simp only [ho] at h
   | some o =>
    simp only [ho] at h;(have ho':ops[i]?=some o:=by rw [←ho];simp);have hmo:=hm o (lU ho);cases hg:gIs ops.toList φ o with
    |none=>simp only [hg] at h
    |some b =>
    cases b with
    |false=>simp only [hg] at h
    |true =>
    cases hd:dOk n o with
    |false=>simp only [hg,hd] at h
    |true =>
    simp only [hg,hd] at h;rw [wpS];simp only [ho',Ld hF hg,iT];have hq:=O8 ok hF.ev o;have step:∀v H' Hs' w',Co4 P Hs' H'->Ud T P n ops.toList un r σ (φ.put o.dst v) H' K w' ->
      wpS T.cls P ops un (λa' w'=>∃φ',Fits n φ' a'/\Agree m true a0 a'/\K φ' w') σ Hs' (a.put o.dst v) w' :=
     λv H' Hs' w' hr hh=>ih σ _ H' Hs' _ w' (hF.put hd v) hr (hA.trans (Agree.put hmo v)) hh
    cases hc:T.cls o.op with
    |free =>
     simp only [hc] at h ⊢;cases hqq:quiet T P φ.ev o with
     |no=>simp only [hqq] at h
     |val v=>simp only [hqq] at h hq;exact ⟨v,hq,step v H Hs w hH h⟩
     |cond c f=>simp only [hqq] at h hq;obtain ⟨x,hx,h⟩:=h;exact ⟨f x,hq x hx,step _ H Hs w hH h⟩
     |read rd f=>simp only [hqq] at h
    |read =>
     simp only [hc] at h ⊢;cases hqq:quiet T P φ.ev o with
     |no=>simp only [hqq] at h
     |val v=>simp only [hqq] at h hq;refine ⟨v,hq w,step v H _ w (λx hx=>?_) h⟩;rcases iL.1 hx with rfl|hx;{exact .inl hq};{exact hH x hx}
     |cond c f=>simp only [hqq] at h hq;obtain ⟨x,hx,h⟩:=h;refine ⟨f x,hq x hx w,step _ H _ w (λy hy=>?_) h⟩;rcases iL.1 hy with rfl|hy;{exact .inl (hq x hx)};{exact hH y hy}
     |read rd f=>simp only [hqq] at h hq;obtain ⟨x,hx,h⟩:=h;refine ⟨f x,hq x w hx,step _ _ _ w (λy hy=>?_) h⟩;rcases iL.1 hy with rfl|hy;{exact .inr ⟨rd x,iM,λw' hw'=>hq x w' hw'⟩};{rcases hH y hy with h|⟨p,hp,hpw⟩;{exact .inl h};{exact .inr ⟨p,iO _ hp,hpw⟩}}
    |eff=>simp only [hc] at h ⊢;have he:=D9 ok hF.ev o (Bp4 T o rt) _ a rfl w h;refine Ik (λa' w' hl=>?_) he;obtain ⟨v,rfl,hp⟩:=hl;obtain ⟨h1,h2⟩:=Vf hp;refine ⟨λx hx hu=>?_,step v H Hs w' hH h2⟩;rcases hH x hx with h|⟨p,hp,hpw⟩;{exact h w'};{exact hpw w' (h1 _ hp hu)}
 | skip r ih =>
  intro σ φ H Hs a w hF hH hA h;cases σ with
  |nil=>exact h.elim
  | cons i σ =>
   simp only [Ud] at h;cases ho:ops.toList[i]? with
   |none=>simp only [ho] at h
   |some o =>
    simp only [ho] at h;(have ho':ops[i]?=some o:=by rw [←ho];simp);have hmo:=hm o (lU ho);cases hg:gIs ops.toList φ o with
    |none=>simp only [hg] at h
    |some b =>
    cases b with
    |true=>simp only [hg] at h
    |false =>
    cases hd:dOk n o with
    |false=>simp only [hg,hd] at h
    |true =>
    simp only [hg,hd] at h;rw [wpS];simp only [ho',Ld hF hg,kT,kU];exact ih σ _ H Hs _ w (hF.put hd undef) hH (hA.trans (Agree.put hmo undef)) h
 | split d t e iht ihe =>
  intro σ φ H Hs a w hF hH hA h;simp only [Ud] at h;cases hd:φ d with
  |none=>simp only [hd] at h
  | some v =>
   cases v with
   |bool b =>
    simp only [hd] at h;have hv:=hF.at_ d _ hd;cases b with
    |true=>exact iht σ _ H Hs a w (hF.set hv) hH hA (h.1 rfl)
    |false=>exact ihe σ _ H Hs a w (hF.set hv) hH hA (h.2 rfl)
   |_=>simp only [hd] at h
 |float f r _=>intro σ φ H Hs a w hF hH hA h;exact h.elim
 |plain r _=>intro σ φ H Hs a w hF hH hA h;exact h.elim
 |alt rt a r _ _=>intro σ φ H Hs a w hF hH hA h;exact h.elim
 |stop=>intro σ φ H Hs a w hF hH hA h;exact h.elim
def Rst (cls:Op->Cl) (P:Program) (ops:Array Oper) (un:Nat->Nat->Bool) (Q:Act->Wp) (bf:Nat->Nat->Bool) (m:Nat) (fs alts σ:List Nat) (H:Held) (a:Act) (w:World):Prop :=
  match m with
  |0=>wpS cls P ops un Q σ H a w
  | m + 1=>(due cls ops bf fs σ=true->∀f∈alts,stepS cls P ops un f (wpT cls P ops un Q bf m (fs.erase f) σ) H a w) /\
      (match σ with
       |[]=>True
       |i::r=>held bf fs i=false->stepS cls P ops un i (wpI cls P ops un bf (wpT cls P ops un Q bf m) fs r) H a w)
def Rst.full {cls:Op->Cl}{P:Program}{ops:Array Oper}{un:Nat->Nat->Bool}{Q:Act->Wp}{bf:Nat->Nat->Bool}{m:Nat}{fs σ:List Nat}{H:Held}{a:Act}{w:World}(h:Rst cls P ops un Q bf m fs fs σ H a w):wpT cls P ops un Q bf m fs σ H a w:=by
 cases m with
 |zero=>exact h
 |succ m =>
  cases σ with
  |nil=>exact h.1 rfl
  |cons i r=>exact h
def At6 {T:Tab}{P:Program}(ok:T.Ok P){n:Nat}{ops:Array Oper}{un:Nat->Nat->Bool}{bf:Nat->Nat->Bool}{m0:Nat}(hm:∀o∈ops.toList,∀d,o.dst=some d->m0.testBit d=true){K:Fr->Wp}{a0:Act} :
  ∀(rs:RS) (m:Nat) (fs alts σ:List Nat) (φ:Fr) (H:HV) (Hs:Held) (a:Act) (w:World),fs.length=m->(∀f∈alts,f∈fs)->Fits n φ a->Co4 P Hs H->Agree m0 true a0 a->Lh T P n ops.toList un bf rs fs alts σ φ H K w ->
   Rst T.cls P ops un (λa' w'=>∃φ',Fits n φ' a'/\Agree m0 true a0 a'/\K φ' w') bf m fs alts σ Hs a w:=by
 intro rs;induction rs with
 |done=>intro m fs alts σ φ H Hs a w hl hs hF hH hA h;exact h.elim
 |float f r _=>intro m fs alts σ φ H Hs a w hl hs hF hH hA h;exact h.elim
 |plain r _ =>
  intro m fs alts σ φ H Hs a w hl hs hF hH hA h;cases fs with
  |nil=>subst hl;exact Uc ok hm r σ φ H Hs a w hF hH hA h
  |cons f fs=>exact h.elim
 | stop =>
  intro m fs alts σ φ H Hs a w hl hs hF hH hA h;cases fs with
  |nil=>exact h.elim
  | cons f fs =>
   cases alts with
   |cons f' alts=>exact h.elim
   | nil =>
    subst hl;refine ⟨λ_ f hf=>(by cases hf),?_⟩;cases σ with
    |nil=>trivial
    |cons i r =>
     intro hb;simp only [Lh] at h;cases hb':held bf (f::fs) i with
     |true=>rw [hb] at hb';cases hb'
     |false=>simp only [hb'] at h
 | alt rt x r ihx ihr =>
  intro m fs alts σ φ H Hs a w hl hs hF hH hA h;cases alts with
  |nil=>exact h.elim
  | cons f alts =>
   simp only [Lh] at h;cases ho:ops.toList[f]? with
   |none=>simp only [ho] at h
   | some o =>
    simp only [ho] at h;(have ho':ops[f]?=some o:=by rw [←ho];simp);have hmo:=hm o (lU ho);cases hg:gIs ops.toList φ o with
    |none=>simp only [hg] at h
    |some b =>
    cases b with
    |false=>simp only [hg] at h
    |true =>
    cases hd:dOk n o with
    |false=>simp only [hg,hd] at h
    |true =>
    cases hc:T.cls o.op with
    |free=>simp only [hg,hd,hc] at h
    |read=>simp only [hg,hd,hc] at h
    |eff =>
     simp only [hg,hd,hc] at h;obtain ⟨h1,h2⟩:=h;have hff:=hs f iM;have hr:=ihr m fs alts σ φ H Hs a w hl (λg hg=>hs g (iO _ hg)) hF hH hA h2;cases m with
     |zero=>rw [jH.1 hl] at hff;cases hff
     |succ m=>refine ⟨λhdue g hgm=>?_,hr.2⟩;rcases iL.1 hgm with rfl|hgm;{unfold stepS;simp only [ho',Ld hF hg,iT,hc];have he:=D9 ok hF.ev o (Bp4 T o rt) _ a rfl w h1;refine Ik (λa' w' hl'=>?_) he;obtain ⟨v,rfl,hp⟩:=hl';obtain ⟨g1,g2⟩:=Vf hp;refine ⟨λy hy hu=>?_,(ihx m (fs.erase g) (fs.erase g) σ _ H Hs _ w' (by rw [lQ hff];omega) (λ_ h=>h) (hF.put hd v) hH (hA.trans (Agree.put hmo v)) g2).full⟩;rcases hH y hy with h|⟨p,hp,hpw⟩;{exact h w'};{exact hpw w' (g1 _ hp hu)}};{exact hr.1 hdue g hgm}
 | op rt r ih =>
  intro m fs alts σ φ H Hs a w hl hs hF hH hA h;cases fs with
  |nil=>exact h.elim
  |cons f0 fs =>
  cases σ with
  |nil=>exact h.elim
  | cons i σ =>
   obtain rfl:m=fs.length+1:=(by simpa using hl.symm);simp only [Lh] at h;cases ho:ops.toList[i]? with
   |none=>simp only [ho] at h
   | some o =>
    simp only [ho] at h;(have ho':ops[i]?=some o:=by rw [←ho];simp);have hmo:=hm o (lU ho);cases hb:held bf (f0::fs) i with
    |true=>simp only [hb] at h
    |false =>
    cases hg:gIs ops.toList φ o with
    |none=>simp only [hb,hg] at h
    |some b =>
    cases b with
    |false=>simp only [hb,hg] at h
    |true =>
    cases hd:dOk n o with
    |false=>simp only [hb,hg,hd] at h
    |true =>
    simp only [hb,hg,hd] at h;have hq:=O8 ok hF.ev o;have step:∀v H' Hs' w',Co4 P Hs' H'->Lh T P n ops.toList un bf r (f0::fs) (f0::fs) σ (φ.put o.dst v) H' K w' ->
      wpI T.cls P ops un bf (wpT T.cls P ops un (λa' w'=>∃φ',Fits n φ' a'/\Agree m0 true a0 a'/\K φ' w') bf fs.length) (f0::fs) σ Hs' (a.put o.dst v) w' :=
     λv H' Hs' w' hr hh=>(ih (fs.length+1) (f0::fs) (f0::fs) σ _ H' Hs' _ w' rfl (λ_ h=>h) (hF.put hd v) hr (hA.trans (Agree.put hmo v)) hh).full
    cases hc:T.cls o.op with
    |free =>
     (have he:Nu T.cls ops i=false:=by unfold Nu;simp only [ho',hc]);refine ⟨λhdue=>absurd hdue (Qi hb he),λ_=>?_⟩;unfold stepS;simp only [ho',Ld hF hg,iT,hc] at h ⊢;cases hqq:quiet T P φ.ev o with
     |no=>simp only [hqq] at h
     |val v=>simp only [hqq] at h hq;exact ⟨v,hq,step v H Hs w hH h⟩
     |cond c f=>simp only [hqq] at h hq;obtain ⟨x,hx,h⟩:=h;exact ⟨f x,hq x hx,step _ H Hs w hH h⟩
     |read rd f=>simp only [hqq] at h
    |read =>
     (have he:Nu T.cls ops i=false:=by unfold Nu;simp only [ho',hc]);refine ⟨λhdue=>absurd hdue (Qi hb he),λ_=>?_⟩;unfold stepS;simp only [ho',Ld hF hg,iT,hc] at h ⊢;cases hqq:quiet T P φ.ev o with
     |no=>simp only [hqq] at h
     |val v=>simp only [hqq] at h hq;refine ⟨v,hq w,step v H _ w (λx hx=>?_) h⟩;rcases iL.1 hx with rfl|hx;{exact .inl hq};{exact hH x hx}
     |cond c f=>simp only [hqq] at h hq;obtain ⟨x,hx,h⟩:=h;refine ⟨f x,hq x hx w,step _ H _ w (λy hy=>?_) h⟩;rcases iL.1 hy with rfl|hy;{exact .inl (hq x hx)};{exact hH y hy}
     |read rd f=>simp only [hqq] at h hq;obtain ⟨x,hx,h⟩:=h;refine ⟨f x,hq x w hx,step _ _ _ w (λy hy=>?_) h⟩;rcases iL.1 hy with rfl|hy;{exact .inr ⟨rd x,iM,λw' hw'=>hq x w' hw'⟩};{rcases hH y hy with h|⟨p,hp,hpw⟩;{exact .inl h};{exact .inr ⟨p,iO _ hp,hpw⟩}}
    |eff =>
     simp only [hc] at h;cases alts with
     |cons f' alts=>exact h.elim
     |nil=>refine ⟨λ_ f hf=>(by cases hf),λ_=>?_⟩;unfold stepS;simp only [ho',Ld hF hg,iT,hc];have he:=D9 ok hF.ev o (Bp4 T o rt) _ a rfl w h;refine Ik (λa' w' hl'=>?_) he;obtain ⟨v,rfl,hp⟩:=hl';obtain ⟨g1,g2⟩:=Vf hp;refine ⟨λy hy hu=>?_,step v H Hs w' hH g2⟩;rcases hH y hy with h|⟨p,hp,hpw⟩;{exact h w'};{exact hpw w' (g1 _ hp hu)}
 | skip r ih =>
  intro m fs alts σ φ H Hs a w hl hs hF hH hA h;cases fs with
  |nil=>exact h.elim
  |cons f0 fs =>
  cases σ with
  |nil=>exact h.elim
  | cons i σ =>
   obtain rfl:m=fs.length+1:=(by simpa using hl.symm);simp only [Lh] at h;cases ho:ops.toList[i]? with
   |none=>simp only [ho] at h
   | some o =>
    simp only [ho] at h;(have ho':ops[i]?=some o:=by rw [←ho];simp);have hmo:=hm o (lU ho);cases hb:held bf (f0::fs) i with
    |true=>simp only [hb] at h
    |false =>
    cases hg:gIs ops.toList φ o with
    |none=>simp only [hb,hg] at h
    |some b =>
    cases b with
    |true=>simp only [hb,hg] at h
    |false =>
    cases hd:dOk n o with
    |false=>simp only [hb,hg,hd] at h
    |true =>
    simp only [hb,hg,hd] at h;have go:Lh T P n ops.toList un bf r (f0::fs) (f0::fs) σ (φ.put o.dst undef) H K w->stepS T.cls P ops un i (wpI T.cls P ops un bf (wpT T.cls P ops un (λa' w'=>∃φ',Fits n φ' a'/\Agree m0 true a0 a'/\K φ' w') bf fs.length) (f0::fs) σ) Hs a w:=λh=>by
     unfold stepS
     simp only [ho',Ld hF hg,kT,kU]
     exact (ih (fs.length+1) (f0::fs) (f0::fs) σ _ H Hs _ w rfl (λ_ h=>h) (hF.put hd undef) hH (hA.trans (Agree.put hmo undef)) h).full
    cases hc:T.cls o.op with
    |eff =>
     simp only [hc] at h;cases alts with
     |cons f' alts=>exact h.elim
     |nil=>exact ⟨λ_ f hf=>(by cases hf),λ_=>go h⟩
    |free=>simp only [hc] at h;(have he:Nu T.cls ops i=false:=by unfold Nu;simp only [ho',hc]);exact ⟨λhdue=>absurd hdue (Qi hb he),λ_=>go h⟩
    |read=>simp only [hc] at h;(have he:Nu T.cls ops i=false:=by unfold Nu;simp only [ho',hc]);exact ⟨λhdue=>absurd hdue (Qi hb he),λ_=>go h⟩
 | split d t e iht ihe =>
  intro m fs alts σ φ H Hs a w hl hs hF hH hA h;simp only [Lh] at h;cases hd:φ d with
  |none=>simp only [hd] at h
  | some v =>
   cases v with
   |bool b =>
    simp only [hd] at h;have hv:=hF.at_ d _ hd;cases b with
    |true=>exact iht m fs alts σ _ H Hs a w hl hs (hF.set hv) hH hA (h.1 rfl)
    |false=>exact ihe m fs alts σ _ H Hs a w hl hs (hF.set hv) hH hA (h.2 rfl)
   |_=>simp only [hd] at h
@[reducible] def Slots.T:List (Nat×Ty)->Type
 |[]=>Unit
 |x::r=>x.2.T×Slots.T r
def Slots.vals:(tys:List (Nat×Ty))->Slots.T tys->List Value
 |[],_=>[]
 |x::r,s=>x.2.val s.1::Slots.vals r s.2
def Ak3:(tys:List (Nat×Ty))->Fr->(Slots.T tys->Wp)->World->Prop
 |[],_,K=>K ()
 | x::r,φ,K=>match φ x.1 with
  |none=>λ_=>False
  |some v=>match x.2.of v with
   |none=>λ_=>False
   |some y=>Ak3 r φ λs=>K (y,s)
def Fr.kill (φ:Fr) (kill:Nat):Fr:=⟨λi=>match kill.testBit i with|true=>none|false=>φ i,φ.ds⟩
def Fr.cut (φ:Fr) (kill:Nat):(tys:List (Nat×Ty))->Slots.T tys->Fr
 |[],_=>φ.kill kill
 |x::r,s=>(Fr.cut φ kill r s.2).set x.1 (x.2.val s.1)
def Fr.Cs6 (φ:Fr):(tys:List (Nat×Ty))->Slots.T tys->Fr
 |[],_=>φ
 |x::r,s=>(φ.set x.1 (x.2.val s.1)).Cs6 r s.2
def join {S:Type}(body:(S->Wp)->Wp) (rest:S->Wp):World->Prop :=
 λw=>∃J:S->World->Prop,body J w/\∀s w',J s w'->rest s w'
def Jh {S:Type}(body:S->(S->Wp)->Wp) (s0:S):World->Prop :=
 λw=>∃(I:S->Wp) (μ:S->World->Nat),I s0 w/\∀s w',I s w'->body s (λs' w''=>I s' w''/\μ s' w''<μ s w') w'
def drew (K:World->Prop):World->Prop:=λw=>K w.drew
def An7 (P:Program) (l:Nat) (vs:List Value) (R:Bool->Wp):World->Prop:=λw =>
 ∃f tmps assign body,(Instr.yield l vs.toArray).run P w=.ok (.round l f tmps assign body) w/\RoundIn (FW none) 0 P l f tmps assign body w λe w'=>∃b,e=.returned (.bool b)/\R b w'
def Cf2 (l:Nat) (rc:LoopState->Option Code->Loop) (K:World->Prop):World->Prop:=λW=>W.heap[l]?=some (.loop (rc .ready none))/\K (W.putObj l (.loop (rc .busy none)))
def Ag2 (l:Nat) (rc:LoopState->Option Code->Loop) (j:Option Code) (R:Bool->Wp):World->Prop:=λW =>
 (∃st pe,W.heap[l]?=some (.loop (rc st pe)))/\R j.isNone (W.putObj l (.loop (rc (if j.isNone then .ready else .done) j)))
def Xp {S:Type}(P:Program) (vals:S->List Value) (v:Value) (body:Nat->(LoopState->Option Code->Loop)->(Bool->Wp)->S->Wp) (aft:Nat->Option Code->Wp):World->Prop:=λw =>
 ∀ rc:LoopState->Option Code->Loop,(∀R s W,W.heap[w.heap.size+1]?=some (.loop (rc .ready none))->body (w.heap.size+1) rc R s W->An7 P (w.heap.size+1) (vals s) R W) ->
  ∃gf args,(do let d ←Deferred.ofValue v #[.func (.yield (w.heap.size+1)) #[] #[]];invoke d.target d.args:Sem Next).run P ((w.alloc (.deferred (some []))).alloc (.loop (rc .ready none)))=.ok (.enter gf args) ((w.alloc (.deferred (some []))).alloc (.loop (rc .ready none))) /\
   Aa P gf args (.tup []) (λ_ W=>∃st pe,W.heap[w.heap.size+1]?=some (.loop (rc st pe))/\st≠.busy/\aft w.heap.size pe (W.putObj (w.heap.size+1) (.loop (rc .exhausted pe)))) ((w.alloc (.deferred (some []))).alloc (.loop (rc .ready none)))
inductive Hint where
 |leaf
 |seq (cut:Option (Nat×List (Nat×Ty))) (a b:Hint)
 |cond (k:Option Bool) (a b:Hint)
 |block (a:Hint)
 |loop (kill:Nat) (tys:List (Nat×Ty)) (a:Hint)
 |region (σ:List Nat) (rs:RS)
 |later (rs:RS)
 |scope (a:Hint)
 |range (tys:List (Nat×Ty)) (a b:Hint)
structure Ks where
 normal:Fr->World->Prop
 exit:Nat->Fr->World->Prop
 ret:Fr->World->Prop
def Om:List Oper->Nat
 |[]=>0
 |o::r=>match o.dst with|some d=>(1 <<< d) ||| Om r|none=>Om r
def Gt:Code->Nat
 |.region _ ops _=>Om ops.toList
 |.seq a b=>Gt a ||| Gt b
 |.cond _ a b=>Gt a ||| Gt b
 |.block _ a=>Gt a
 |.loop a=>Gt a
 |.scope a=>Gt a
 |_=>0
def Yq:List Oper->Bool
 |[]=>true
 |o::r=>match o.op with | .defer _=>false|_=>Yq r
def Jl:Code->Bool
 |.region _ ops _=>Yq ops.toList
 |.seq a b=>match Jl a with|true=>Jl b|false=>false
 |.cond _ a b=>match Jl a with|true=>Jl b|false=>false
 |.block _ a=>Jl a
 |.loop a=>Jl a
 |.scope a=>Jl a
 |.rangeFunc ..=>false
 |_=>true
def bef:List Oper->List Nat->List Nat
 |[],acc=>acc
 | o::r,acc=>bef r (acc++[o.after.toList.foldl (λs e=>match Region.binds .any e with
   |true=>s ||| (1 <<< e.on) ||| (match acc[e.on]? with|some x=>x|none=>0)
   |false=>s) 0])
def Ur (l:List Nat) (i:Nat):Nat:=match l[i]? with|some x=>x|none=>0
def covers (kill m:Nat):Bool:=Nat.beq (m &&& kill) m
def Xb (kill:Nat) (c:Code):Bool:=match covers kill (Gt c) with|true=>Jl c|false=>false
def Bd9 (n:Nat):List Nat->List (Nat×Ty)->Bool
 |[],[]=>true
 |p::ps,x::r=>match Nat.beq p x.1,Nat.blt p n with
  |true,true=>Bd9 n ps r
  |_,_=>false
 |_,_=>false
def aft (N:World->Prop) (E:Nat->Wp) (R:World->Prop):Option Code->World->Prop
 |none=>N
 |some .ret=>R
 |some (.exit i)=>E i
 |_=>λ_=>False
def onE (i id:Nat) (A B:World->Prop):World->Prop:=match Nat.beq i id with|true=>A|false=>B
def vcg (T:Tab) (P:Program) (n:Nat):Bool->Code->Hint->Fr->Ks->World->Prop
 |_,.skip,_,φ,k=>k.normal φ
 |_,.label _,_,φ,k=>k.normal φ
 | top,.region _ ops draw,h,φ,k=>match h with
  | .region σ rs=>match draw with
   |false=>Ud T P n ops.toList (λ_ _=>false) rs (List.range ops.size) φ [] k.normal
   | true=>match rs with
    |.float fs r=>(match Ap7 T.cls ops (Ur (bef ops.toList [])) fs σ with
     |true=>drew (Lh T P n ops.toList (λx i=>!(Ur (bef ops.toList []) i).testBit x) (λf i=>(Ur (bef ops.toList []) i).testBit f) r fs fs σ φ [] k.normal)
     |false=>λ_=>False)
    |rs=>match Ym T.cls ops (Ur (bef ops.toList [])) σ with
     |true=>drew (Ud T P n ops.toList (λx i=>!(Ur (bef ops.toList []) i).testBit x) rs σ φ [] k.normal)
     |false=>λ_=>False
  | .later rs=>match top,draw,ops.toList[ops.size-1]? with
   | true,false,some o=>match o.op,o.guard,o.dst with
    | .defer c,none,none=>match c.callee,c.args.toList with
     |.value x,[]=>Ud T P n ops.toList (λ_ _=>false) rs (List.range (ops.size-1)) φ [] (λφ'=>match φ'.ev x with
      |some (.func fv first caps)=>k.normal (φ'.later { target:=.fn fv caps,args:=first++#[] })
      |_=>λ_=>False)
     |_,_=>λ_=>False
    |_,_,_=>λ_=>False
   |_,_,_=>λ_=>False
  |_=>λ_=>False
 | top,.seq a b,h,φ,k=>match h with
  | .seq cut ha hb=>match cut with
   |none=>vcg T P n top a ha φ ⟨λφ'=>vcg T P n top b hb φ' k,k.exit,k.ret⟩
   |some c=>match Xb c.1 a with
    |true=>join (λJ=>vcg T P n top a ha φ ⟨λφ'=>Ak3 c.2 φ' J,k.exit,k.ret⟩) (λs=>vcg T P n top b hb (φ.cut c.1 c.2 s) k)
    |false=>λ_=>False
  |_=>λ_=>False
 | top,.cond c a b,h,φ,k=>match h with
  | .cond q ha hb=>match φ.ev c with
   |some (.bool t)=>match q with
    |none=>sif t (vcg T P n top a ha φ k) (vcg T P n top b hb φ k)
    |some true=>(match t with|true=>vcg T P n top a ha φ k|false=>λ_=>False)
    |some false=>(match t with|false=>vcg T P n top b hb φ k|true=>λ_=>False)
   |_=>λ_=>False
  |_=>λ_=>False
 |top,.block id a,h,φ,k=>match h with
  |.block ha=>vcg T P n top a ha φ ⟨k.normal,λi φ'=>match Nat.beq i id with|true=>k.normal φ'|false=>k.exit i φ',k.ret⟩
  |_=>λ_=>False
 | top,.loop a,h,φ,k=>match h with
  |.loop kill tys ha=>match Xb kill a with
   |true=>Ak3 tys φ (Jh λs again=>vcg T P n top a ha (φ.cut kill tys s) ⟨λφ'=>Ak3 tys φ' again,k.exit,k.ret⟩)
   |false=>λ_=>False
  |_=>λ_=>False
 |top,.scope a,h,φ,k=>match h with
  |.scope ha=>vcg T P n top a ha φ k
  |_=>λ_=>False
 | top,.rangeFunc g ps assign body,h,φ,k=>match h with
  |.range tys ha hb=>match top,φ.ev g,Bd9 n ps.toList tys with
   | true,some v,true=>Xp P (Slots.vals tys) v
     (λl rc R s=>vcg T P n false assign ha (φ.bare.Cs6 tys s) ⟨λφ'=>Cf2 l rc (vcg T P n false body hb φ' ⟨λ_=>Ag2 l rc none R,λi _=>Ag2 l rc (some (.exit i)) R,λ_=>Ag2 l rc (some .ret) R⟩),λ_ _ _=>False,λ_ _=>False⟩)
     (λD=>aft (k.normal (φ.mark D)) (λi=>k.exit i (φ.mark D)) (k.ret (φ.mark D)))
   |_,_,_=>λ_=>False
  |_=>λ_=>False
 |_,.exit i,_,φ,k=>k.exit i φ
 |_,.ret,_,φ,k=>k.ret φ
 |_,_,_,_,_=>λ_=>False
def Ks.post (k:Ks) (n m:Nat) (s:Bool) (a0:Act):Exit->Act->World->Prop
 |.normal,a,w=>∃φ,Fits n φ a/\Agree m s a0 a/\k.normal φ w
 |.exit i,a,w=>∃φ,Fits n φ a/\Agree m s a0 a/\k.exit i φ w
 |.ret,a,w=>∃φ,Fits n φ a/\k.ret φ w
 |_,_,_=>False
def Ks.Ap6 {k:Ks}{n m m':Nat}{s s':Bool}{a a1:Act}(hA:Agree m' s' a a1) (hm:∀i,m.testBit i=true->m'.testBit i=true) (hs:s'=true->s=true){e:Exit}{a':Act}{w':World}(h:k.post n m s a1 e a' w'):k.post n m' s' a e a' w':=by
 cases e with
 |normal=>obtain ⟨φ',h1,h2,h3⟩:=h;exact ⟨φ',h1,hA.trans (h2.mono hm hs),h3⟩
 |exit i=>obtain ⟨φ',h1,h2,h3⟩:=h;exact ⟨φ',h1,hA.trans (h2.mono hm hs),h3⟩
 |ret=>exact h
 |_=>exact h.elim
def Au1 (d i:Nat):(1 <<< d).testBit i=decide (d=i):=by rw [Nat.one_shiftLeft];exact Nat.testBit_two_pow
def Ug (l:List Oper):∀{o:Oper},o∈l->∀d,o.dst=some d->(Om l).testBit d=true:=by
 induction l with
 |nil=>intro o h;cases h
 | cons x r ih =>
  intro o h d hd;rcases iL.1 h with rfl|h;{simp only [Om,hd,lV,Au1,decide_true,Bool.true_or]}
  ·have:=ih h d hd;simp only [Om];cases x.dst with
   |none=>exact this
   |some e=>simp only [lV,this,Bool.or_true]
def Bt5 {kill m i:Nat}(h:covers kill m=true) (hi:m.testBit i=true):kill.testBit i=true:=by have e:m &&& kill=m:=jP h;have:(m &&& kill).testBit i=(m.testBit i&&kill.testBit i):=Nat.testBit_and m kill i;rw [e,hi] at this;simpa using this.symm
def Y2 {kill:Nat}{c:Code}(h:Xb kill c=true):covers kill (Gt c)=true/\Jl c=true:=by
 unfold Xb at h;cases hc:covers kill (Gt c) with
 |true=>rw [hc] at h;exact ⟨rfl,h⟩
 |false=>rw [hc] at h;cases h
def Fits.kill {n:Nat}{φ:Fr}{a a':Act}{kill m:Nat}(h:Fits n φ a) (hs:a'.tmps.size=n) (hA:Agree m true a a') (hc:covers kill m=true):Fits n (φ.kill kill) a':=by
 refine ⟨hs,(hA.defers rfl).trans h.defers,λi v hi=>?_⟩;simp only [Fr.kill] at hi;split at hi;{cases hi}
 ·rename_i hki;have hm:m.testBit i=false:=by
   cases hm:m.testBit i with
   |false=>rfl
   |true=>rw [Bt5 hc hm] at hki;cases hki
  rw [hA.at_ i hm];exact h.at_ i v hi
def Wi:∀{tys:List (Nat×Ty)}{φ:Fr}{K:Slots.T tys->Wp}{w:World},Ak3 tys φ K w ->
  ∃s,K s w/\∀{n:Nat} {ψ:Fr} {a:Act} {kill:Nat},Fits n φ a->Fits n (ψ.kill kill) a->Fits n (ψ.cut kill tys s) a
 |[],φ,K,w,h=>⟨(),h,λ_ h=>h⟩
 | x::r,φ,K,w,h=>by
  simp only [Ak3] at h
  cases hx:φ x.1 with
  |none=>simp only [hx] at h
  | some v =>
   simp only [hx] at h
   cases hy:x.2.of v with
   |none=>simp only [hy] at h
   |some y =>
    simp only [hy] at h
    obtain ⟨s,hs,hf⟩:=Wi h
    refine ⟨(y,s),hs,λhF hψ=>?_⟩
    refine (hf hF hψ).set ?_
    rw [hF.at_ _ _ hx,Ty.Rw hy]
def vals_length:∀(tys:List (Nat×Ty)) (s:Slots.T tys),(Slots.vals tys s).length=tys.length
 |[],_=>rfl
 |_::r,s=>lW (·+1) (vals_length r s.2)
def O9 {n:Nat}:∀{ps:List Nat}{tys:List (Nat×Ty)},Bd9 n ps tys=true->ps.length=tys.length
 |[],[],_=>rfl
 |[],_::_,h=>by cases h
 |_::_,[],h=>by cases h
 |p::ps,x::r,h=>by
  simp only [Bd9] at h
  split at h
  ·exact lW (·+1) (O9 h)
  ·cases h
def Ak5 {n:Nat}:∀{ps:List Nat}{tys:List (Nat×Ty)}{s:Slots.T tys}{φ:Fr}{tmps:Array Value},Bd9 n ps tys=true->Fits n φ ⟨tmps,[]⟩ ->
  Fits n (φ.Cs6 tys s) ⟨(ps.zip (Slots.vals tys s)).foldl (λtmps x=>tmps.setIfInBounds x.1 x.2) tmps,[]⟩
 |[],[],_,_,_,_,h=>h
 |[],_::_,_,_,_,h,_=>by cases h
 |_::_,[],_,_,_,h,_=>by cases h
 | p :: ps,x::r,s,φ,tmps,h,hF=>by
  simp only [Bd9] at h
  split at h
  ·rename_i e1 e2
   have ep:p=x.1:=jP e1
   have hp:p<n:=by simpa using e2
   have hsz:tmps.size=n:=hF.size
   have h1:Fits n (φ.set x.1 (x.2.val s.1)) ⟨tmps.setIfInBounds p (x.2.val s.1),[]⟩:=by
    refine ⟨by simp [hsz],hF.defers,λi u hi=>?_⟩
    simp only [Fr.set] at hi
    split at hi
    ·rename_i e
     have:=jP e
     cases hi
     subst this
     rw [←ep]
     simp [hsz,hp]
    ·rename_i e
     have hne:p≠i:=λhh=>by rw [←hh,ep,lS] at e;cases e
     show (tmps.setIfInBounds p (x.2.val s.1))[i]?=some u
     rw [lT hne]
     exact hF.at_ i u hi
   exact Ak5 (s:=s.2) h h1
  ·cases h
def Zf {F:Fence}{r:Nat}{P:Program}{Q:Exit->Act->Wp}{c:Code}{S:Type}(R:S->Act->Wp) (μ:S->World->Nat){s:S}{a:Act}{w:World}(h₀:R s a w)
  (round:∀s a w,R s a w->c.wpIn F r P (Exit.then (λa' w'=>∃s',R s' a' w'/\μ s' w'<μ s w) Q) a w):(Code.loop c).wpIn F r P Q a w:=by
 refine wpIn_loop_ghost (λj a w=>∃s,R s a w/\μ s w=j) (μ s w) ⟨s,h₀,rfl⟩ λj a w hj=>?_;obtain ⟨s,hs,rfl⟩:=hj;refine lX (round s a w hs) λe a' w' hq=>?_;cases e with
 |normal=>obtain ⟨s',h1,h2⟩:=hq;exact ⟨μ s' w',h2,s',h1,rfl⟩
 |_=>exact hq
def Ll {P:Program}{b:Frame}{a:Act}{k:List Item}{cs:List Frame}{w:World}{c:Code}:step P (lone (b.atR a (.code (.scope c)::k)) cs w)=.next (lone (b.atR a (.code c::.inScope c::k)) cs w) :=
 step_lone_go (by simp [stepG,stepG.exec,Frame.atR])
def Ah6 {P:Program}{b:Frame}{a:Act}{k:List Item}{cs:List Frame}{w:World}{c:Code}:step P (lone (b.atR a (.inScope c::k)) cs w)=.next (lone (b.atR a k) cs w) :=
 step_lone_go (by simp [stepG,stepG.exec,Frame.atR])
def Xc {F:Fence}{n:Nat}{P:Program}{Q:Exit->Act->Wp}{a:Act}{w:World}{c:Code}(h:c.wpIn F n P (Exit.noGoto Q) a w):(Code.scope c).wpIn F n P Q a w:=by
 intro b k cs hro hb hr;have h0:(lone (b.atR a (.code (.scope c)::k)) cs w).fenced P F:=fenced_calm hb hr rfl;obtain ⟨e,a₁,w₁,hq,harr⟩:=h b (.inScope c::k) cs hro hb hr;cases e with
 |normal=>exact ⟨.normal,a₁,w₁,hq,.head h0 Ll (StepsIn.trans harr (.one (fenced_calm hb hr rfl) Ah6))⟩
 | exit id =>
  have hx:exitTo id (.inScope c::k)=exitTo id k:=(by simp [exitTo]);exact ⟨.exit id,a₁,w₁,hq,λk' hk=>.head h0 Ll (harr.1 k' (by rw [hx];exact hk)),
   λhr' hk=>let ⟨k₁,h1,h2⟩:=harr.2 hr' (by rw [hx];exact hk);⟨k₁,h1,.head h0 Ll h2⟩⟩
 |goto l=>exact hq.elim
 |ret=>exact ⟨_,a₁,w₁,hq,.of_steps (.one h0 Ll) harr⟩
 |panic ch=>exact ⟨_,a₁,w₁,hq,.of_steps (.one h0 Ll) harr⟩
 |outgrown=>exact ⟨_,a₁,w₁,hq,.of_steps (.one h0 Ll) harr⟩
def run_bind_ok {α β:Type}{P:Program}{s:Sem α}{f:α->Sem β}{w w':World}{y:β}(h:(s >>= f).run P w=.ok y w'):∃x w1,s.run P w=.ok x w1/\(f x).run P w1=.ok y w':=by
 rw [iH] at h;cases hs:s.run P w with
 |ok x w1=>rw [hs] at h;exact ⟨x,w1,rfl,h⟩
 |halt x w1=>rw [hs] at h;cases h
def P7:∀{l:List Oper}{dst:Option Nat}{c:Call}{type:TypeId}{pos:String}{after:Array Edge}{guard:Option (Nat×Bool)},(⟨dst,.defer c,type,pos,after,guard⟩:Oper)∈l->Yq l=false
 |o::r,dst,c,type,pos,after,guard,h=>by rcases iL.1 h with h|h;{subst h;rfl};{have:=P7 h;unfold Yq;split;{rfl};{exact this}}
def Bo2 {cls:Op->Cl}{P:Program}{ops:Array Oper}{un:Nat->Nat->Bool}{Q:Act->Wp}{rd:Option Nat}{Q':Exit->Act->Wp}{l2:List Nat}(hQ:∀a w,Q a w->wpOpsIn (FW rd) 0 P ops Q' l2 a w):∀(l:List Nat) (H:Held) (a:Act) (w:World),wpS cls P ops un Q l H a w->wpOpsIn (FW rd) 0 P ops Q' (l++l2) a w:=by
 intro l;induction l with
 |nil=>intro H a w h;exact hQ _ _ h
 |cons i r ih=>intro H a w h;rw [jC,iU];exact iV (λa w ⟨H',h⟩=>ih H' a w h) (Ux h)
def Ai8 {T:Tab} {P:Program} (ok:T.Ok P) {n:Nat}:∀(c:Code) (top:Bool) (rd:Option Nat) (h:Hint) (φ:Fr) (k:Ks) (a:Act) (w:World),(top=true->rd=none)->Fits n φ a->vcg T P n top c h φ k w->c.wpIn (FW rd) 0 P (k.post n (Gt c) (Jl c) a) a w:=by
  intro c;induction c with
  |skip=>intro top rd h φ k a w hrd hF hv;exact wpIn_skip ⟨φ,hF,Agree.refl _ _ _,hv⟩
  |label l=>intro top rd h φ k a w hrd hF hv;exact wpIn_label ⟨φ,hF,Agree.refl _ _ _,hv⟩
  |exit i=>intro top rd h φ k a w hrd hF hv;exact wpIn_exit ⟨φ,hF,Agree.refl _ _ _,hv⟩
  |ret=>intro top rd h φ k a w hrd hF hv;exact wpIn_ret ⟨φ,hF,hv⟩
  | region id ops draw =>
    intro top rd h φ k a w hrd hF hv;cases h with
    | region σ rs =>
      simp only [vcg] at hv;cases draw with
      |false=>simp only at hv;have:=Uc ok (un:=λ_ _=>false) (m:=Om ops.toList) (a0:=a) (λo ho d hd=>Ug _ ho d hd) rs _ φ [] [] a w hF (λx hx=>by cases hx) (Agree.refl _ _ _) hv;exact wpIn_region (Ao0 (λa' w' ⟨φ',h1,h2,h3⟩=>⟨φ',h1,h2.mono (λ_ h=>h) (λ_=>rfl),h3⟩) _ _ _ _ this)
      | true =>
        have plain:(match Ym T.cls ops (Ur (bef ops.toList [])) σ with
          |true=>drew (Ud T P n ops.toList (λx i=>!(Ur (bef ops.toList []) i).testBit x) rs σ φ [] k.normal)
          |false=>λ_=>False) w->(Code.region id ops true).wpIn (FW rd) 0 P (k.post n (Gt (.region id ops true)) (Jl (.region id ops true)) a) a w:=λhv=>by
         cases ho:Ym T.cls ops (Ur (bef ops.toList [])) σ with
         |false=>simp only [ho] at hv
         |true=>simp only [ho] at hv;have:=Uc ok (un:=λx i=>!(Ur (bef ops.toList []) i).testBit x) (m:=Om ops.toList) (a0:=a) (λo ho d hd=>Ug _ ho d hd) rs σ φ [] [] a w.drew hF (λx hx=>by cases hx) (Agree.refl _ _ _) hv;exact Xe ok.mixed ho (λa' w' ⟨φ',h1,h2,h3⟩=>⟨φ',h1,h2.mono (λ_ h=>h) (λ_=>rfl),h3⟩) this
        cases rs with
        | float fs r =>
          simp only at hv;cases ho:Ap7 T.cls ops (Ur (bef ops.toList [])) fs σ with
          |false=>simp only [ho] at hv
          |true=>simp only [ho] at hv;have:=At6 ok (un:=λx i=>!(Ur (bef ops.toList []) i).testBit x) (bf:=λf i=>(Ur (bef ops.toList []) i).testBit f) (m0:=Om ops.toList) (a0:=a) (λo ho d hd=>Ug _ ho d hd) r fs.length fs fs σ φ [] [] a w.drew rfl (λ_ h=>h) hF (λx hx=>by cases hx) (Agree.refl _ _ _) hv;exact Uo ok.mixed ho (λa' w' ⟨φ',h1,h2,h3⟩=>⟨φ',h1,h2.mono (λ_ h=>h) (λ_=>rfl),h3⟩) this.full
        |done=>exact plain hv
        |op rt r=>exact plain hv
        |skip r=>exact plain hv
        |split d t e=>exact plain hv
        |plain r=>exact plain hv
        |alt rt x r=>exact plain hv
        |stop=>exact plain hv
    | later rs =>
      simp only [vcg] at hv;cases top with
      |false=>exact hv.elim
      |true =>
      obtain rfl:=hrd rfl;cases draw with
      |true=>exact hv.elim
      |false =>
      cases ho:ops.toList[ops.size-1]? with
      |none=>simp only [ho] at hv
      |some o =>
      simp only [ho] at hv;obtain ⟨dst,op,type,pos,after,guard⟩:=o;cases op with
      | defer c =>
        cases guard with
        |some g=>exact hv.elim
        |none =>
        cases dst with
        |some d=>exact hv.elim
        |none =>
        obtain ⟨callee,args,tys⟩:=c;cases callee with
        | value x =>
          obtain ⟨args⟩:=args;cases args with
          |cons y r=>exact hv.elim
          |nil =>
          simp only at hv;have:=Uc ok (un:=λ_ _=>false) (m:=Om ops.toList) (a0:=a) (λo ho d hd=>Ug _ ho d hd) rs _ φ [] [] a w hF (λx hx=>by cases hx) (Agree.refl _ _ _) hv;have hlt:ops.size-1<ops.size:=by
            have:=(lY.1 ho).1
            simpa using this
          (have hops:ops[ops.size-1]?=some ⟨none,.defer ⟨.value x,⟨[]⟩,tys⟩,type,pos,after,none⟩:=by rw [←ho];simp);have hrange:List.range ops.size=List.range (ops.size-1)++[ops.size-1]:=by
            conv=>lhs;rw [show ops.size=ops.size-1+1 by omega]
            exact lZ
          refine wpIn_region ?_;rw [hrange];refine Bo2 (λa' w' ⟨φ',h1,h2,h3⟩=>?_) _ _ _ _ this;rw [iU];unfold wpOpIn;simp only [hops];have hw:Region.wanted (⟨none,.defer ⟨.value x,⟨[]⟩,tys⟩,type,pos,after,none⟩:Oper) (yielded ops a'.tmps)=true:=rfl;rw [iK hw];cases he:φ'.ev x with
          |none=>simp only [he] at h3
          |some v =>
          cases v with
          | func fv first caps =>
            simp only [he] at h3
            have hev:=h1.ev x _ he
            refine ⟨λ_ _=>trivial,?_⟩
            have hsem:(Oper.semAt (FW none).round a'.eval ⟨none,.defer ⟨.value x,⟨[]⟩,tys⟩,type,pos,after,none⟩).run P w'=.ok (.defer { target:=.fn fv caps,args:=first++#[] }) w':=by
              simp [Oper.semAt,FW,Fence.wide,execOp,resolve,hev,Deferred.ofValue]
            rw [hsem]
            refine ⟨φ'.later { target:=.fn fv caps,args:=first++#[] },⟨h1.size,?_,h1.at_⟩,⟨h2.at_,?_⟩,h3⟩
            · show _::a'.defers=_
              rw [h1.defers];rfl
            · intro hn
              exact absurd hn (by rw [show Jl (Code.region id ops false)=Yq ops.toList from rfl,P7 (lU ho)];decide)
          |_=>simp only [he] at h3
        |_=>exact hv.elim
      |_=>exact hv.elim
    |_=>exact False.elim hv
  | seq x y ihx ihy =>
    intro top rd h φ k a w hrd hF hv;cases h with
    | seq cut ha hb =>
      simp only [vcg] at hv;have ml:∀i,(Gt x).testBit i=true->(Gt (.seq x y)).testBit i=true:=λi hi=>(by simp [Gt,lV,hi]);have mr:∀i,(Gt y).testBit i=true->(Gt (.seq x y)).testBit i=true:=λi hi=>(by simp [Gt,lV,hi]);have sl:Jl (.seq x y)=true->Jl x=true:=λe=>by
        simp only [Jl] at e
        cases hx:Jl x with
        |true=>rfl
        |false=>rw [hx] at e;cases e
      have sr:Jl (.seq x y)=true->Jl y=true:=λe=>by
        have:=sl e
        simp only [Jl,this] at e
        exact e
      have rest:∀(a':Act) (w':World),Agree (Gt x) (Jl x) a a'->y.wpIn (FW rd) 0 P (k.post n (Gt y) (Jl y) a') a' w'->y.wpIn (FW rd) 0 P (k.post n (Gt (.seq x y)) (Jl (.seq x y)) a) a' w' :=
        λa' w' hA hw=>lX hw λe a'' w'' hq=>Ks.Ap6 (hA.mono ml sl) mr sr hq
      cases cut with
      | none =>
        simp only at hv;refine wpIn_seq (lX (ihx top rd ha φ _ a w hrd hF hv) λe a' w' hq=>?_);cases e with
        |normal=>obtain ⟨φ',h1,h2,h3⟩:=hq;exact rest a' w' h2 (ihy top rd hb φ' k a' w' hrd h1 h3)
        |exit i=>obtain ⟨φ',h1,h2,h3⟩:=hq;exact ⟨φ',h1,h2.mono ml sl,h3⟩
        |ret=>exact hq
        |_=>exact hq.elim
      | some c =>
        simp only at hv;cases hc:Xb c.1 x with
        |false=>simp only [hc] at hv
        | true =>
          simp only [hc] at hv;obtain ⟨hc1,hc2⟩:=Y2 hc;obtain ⟨J,hv,hJ⟩:=hv;refine wpIn_seq (lX (ihx top rd ha φ _ a w hrd hF hv) λe a' w' hq=>?_);cases e with
          |normal=>obtain ⟨φ',h1,h2,h3⟩:=hq;obtain ⟨s,hs,hf⟩:=Wi h3;exact rest a' w' h2 (ihy top rd hb _ k a' w' hrd (hf (ψ:=φ) (kill:=c.1) h1 (hF.kill h1.size (hc2▸h2) hc1)) (hJ s w' hs))
          |exit i=>obtain ⟨φ',h1,h2,h3⟩:=hq;exact ⟨φ',h1,h2.mono ml sl,h3⟩
          |ret=>exact hq
          |_=>exact hq.elim
    |_=>exact False.elim hv
  | cond c x y ihx ihy =>
    intro top rd h φ k a w hrd hF hv;cases h with
    | cond q ha hb =>
      simp only [vcg] at hv;have ml:∀i,(Gt x).testBit i=true->(Gt (.cond c x y)).testBit i=true:=λi hi=>(by simp [Gt,lV,hi]);have mr:∀i,(Gt y).testBit i=true->(Gt (.cond c x y)).testBit i=true:=λi hi=>(by simp [Gt,lV,hi]);have sl:Jl (.cond c x y)=true->Jl x=true:=λe=>by
        simp only [Jl] at e
        cases hx:Jl x with
        |true=>rfl
        |false=>rw [hx] at e;cases e
      have sr:Jl (.cond c x y)=true->Jl y=true:=λe=>by
        have:=sl e
        simp only [Jl,this] at e
        exact e
      cases he:φ.ev c with
      |none=>simp only [he] at hv
      | some v =>
        cases v with
        | bool t =>
          simp only [he] at hv;have hev:=hF.ev c _ he;have X:vcg T P n top x ha φ k w->x.wpIn (FW rd) 0 P (k.post n (Gt (.cond c x y)) (Jl (.cond c x y)) a) a w:=λhv=>lX (ihx top rd ha φ k a w hrd hF hv) λe a' w' hq=>Ks.Ap6 (Agree.refl _ _ _) ml sl hq;have Y:vcg T P n top y hb φ k w->y.wpIn (FW rd) 0 P (k.post n (Gt (.cond c x y)) (Jl (.cond c x y)) a) a w:=λhv=>lX (ihy top rd hb φ k a w hrd hF hv) λe a' w' hq=>Ks.Ap6 (Agree.refl _ _ _) mr sr hq;refine wpIn_cond (t:=t) hev ?_;cases q with
          | none =>
            cases t with
            |true=>exact X (hv.1 rfl)
            |false=>exact Y (hv.2 rfl)
          | some q =>
            cases q with
            | true =>
              cases t with
              |true=>exact X hv
              |false=>exact hv.elim
            | false =>
              cases t with
              |false=>exact Y hv
              |true=>exact hv.elim
        |_=>simp only [he] at hv
    |_=>exact False.elim hv
  | block id x ih =>
    intro top rd h φ k a w hrd hF hv;cases h with
    | block ha =>
      simp only [vcg] at hv;refine wpIn_block (lX (ih top rd ha φ _ a w hrd hF hv) λe a' w' hq=>?_);cases e with
      |normal=>exact hq
      | exit i =>
        obtain ⟨φ',h1,h2,h3⟩:=hq
        by_cases hi:i=id
        · subst hi
          simp only [lS] at h3
          simp only [Exit.inBlock,iT]
          exact ⟨φ',h1,h2,h3⟩
        · have hb:Nat.beq i id=false:=by
            cases hb:Nat.beq i id with
            |false=>rfl
            |true=>exact absurd (jP hb) hi
          simp only [hb] at h3
          simp only [Exit.inBlock,iP hi]
          exact ⟨φ',h1,h2,h3⟩
      |ret=>exact hq
      |_=>exact hq.elim
    |_=>exact False.elim hv
  | loop x ih =>
    intro top rd h φ k a w hrd hF hv;cases h with
    | loop kill tys ha =>
      simp only [vcg] at hv;cases hc:Xb kill x with
      |false=>simp only [hc] at hv
      | true =>
        simp only [hc] at hv;obtain ⟨hc1,hc2⟩:=Y2 hc;have sl:Jl (.loop x)=true:=hc2;obtain ⟨s0,⟨I,μ,h0,hround⟩,hf⟩:=Wi hv;have out:∀{a':Act},Agree (Gt x) (Jl x) a a'->(a'.tmps.size=n)->Fits n (φ.kill kill) a':=λhA hs=>hF.kill hs (hc2▸hA) hc1;refine Zf (S:=Slots.T tys) (λs a' w'=>Fits n (φ.cut kill tys s) a'/\Agree (Gt x) (Jl x) a a'/\I s w') μ (s:=s0) ⟨hf hF (out (Agree.refl _ _ _) hF.size),Agree.refl _ _ _,h0⟩ ?_;rintro s a' w' ⟨hF',hA',hI⟩;refine lX (ih top rd ha _ _ a' w' hrd hF' (hround s w' hI)) λe a'' w'' hq=>?_;cases e with
        |normal=>obtain ⟨φ',h1,h2,h3⟩:=hq;obtain ⟨s',⟨hs1,hs2⟩,hf'⟩:=Wi h3;exact ⟨s',⟨hf' h1 (out (hA'.trans h2) h1.size),hA'.trans h2,hs1⟩,hs2⟩
        |exit i=>obtain ⟨φ',h1,h2,h3⟩:=hq;exact ⟨φ',h1,hA'.trans h2,h3⟩
        |ret=>exact hq
        |_=>exact hq.elim
    |_=>exact False.elim hv
  | rangeFunc g ps assign body iha ihb =>
    intro top rd h φ k a w hrd hF hv;cases h with
    | range tys ha hb =>
      simp only [vcg] at hv
      cases top with
      |false=>exact hv.elim
      |true =>
      obtain rfl:=hrd rfl
      cases he:φ.ev g with
      |none=>simp only [he] at hv
      |some v =>
      cases hp:Bd9 n ps.toList tys with
      |false=>simp only [he,hp] at hv
      |true =>
      simp only [he,hp] at hv
      have hev:=hF.ev g _ he
      refine wpIn_rangeFunc λfn _=>?_
      have hlen:(ps.size)=tys.length:=by rw [←O9 hp,mD]
      obtain ⟨gf,args,hinv,hcall⟩:=hv (λst pe=>{ state:=st,pending:=pe,fn,tmps:=a.tmps,params:=ps,assign,body,defers:=w.heap.size }) (by
        intro R s W hW hbd
        refine ⟨fn,_,assign,body,run_yield hW (by simp [vals_length,hlen]),?_⟩
        have hzip:((ps.zip (Slots.vals tys s).toArray).foldl (λtmps (x:Nat×Value)=>tmps.setIfInBounds x.1 x.2) a.tmps)=(ps.toList.zip (Slots.vals tys s)).foldl (λtmps x=>tmps.setIfInBounds x.1 x.2) a.tmps:=by
          rw [←Array.foldl_toList,Array.toList_zip]
        refine roundIn_of_wpIn trivial ?_
        have hF0:Fits n φ.bare ⟨a.tmps,[]⟩:=⟨hF.size,rfl,hF.at_⟩
        have hF1:=Ak5 (s:=s) hp hF0
        rw [←hzip] at hF1
        refine lX (iha false (some (w.heap.size+1)) ha _ _ _ W (λh=>by cases h) hF1 hbd) λe a1 w1 hq=>?_
        cases e with
        | normal =>
          obtain ⟨φ',h1,h2,h3⟩:=hq
          obtain ⟨h3,h4⟩:=h3
          refine ⟨_,run_beginRound h3 rfl,?_⟩
          refine lX (ihb false (some (w.heap.size+1)) hb φ' _ a1 _ (λh=>by cases h) h1 h4) λe a2 w2 hq=>?_
          cases e with
          | normal =>
            obtain ⟨_,_,_,⟨st,pe,hh⟩,hR⟩:=hq
            exact ⟨_,_,mF none hh,true,rfl,hR⟩
          | ret =>
            obtain ⟨_,_,⟨st,pe,hh⟩,hR⟩:=hq
            exact ⟨_,_,mF (some .ret) hh,false,rfl,hR⟩
          | exit i =>
            obtain ⟨_,_,_,⟨st,pe,hh⟩,hR⟩:=hq
            exact ⟨_,_,mF (some (.exit i)) hh,false,rfl,hR⟩
          |_=>exact hq.elim
        |exit i=>obtain ⟨_,_,_,h⟩:=hq;exact h.elim
        |ret=>obtain ⟨_,_,h⟩:=hq;exact h.elim
        |_=>exact hq.elim)
      obtain ⟨d,w1,hd,hi⟩:=run_bind_ok hinv
      refine ⟨w.heap.size+1,_,_,d,w1,gf,args,_,run_enterLoop_outer fn a.tmps ps assign body,?_,λ_ _=>trivial,hi,(λh=>by simp [FW,Fence.wide] at h),?_⟩
      · show (resolve a.eval ⟨.value g,_,_⟩ 0).run P _=_
        have em:Array.map a.eval #[.const (.func (.yield (w.heap.size+1)) #[] #[])]=#[.func (.yield (w.heap.size+1)) #[] #[]]:=by simp [Act.eval]
        simp only [resolve,hev,em]
        exact hd
      · refine Bh5.2 (Calls.mono hcall λe w' he=>?_)
        obtain ⟨x,rfl,st,pe,hh,hst,haft⟩:=he
        refine ⟨_,_,run_endLoop hh hst,?_⟩
        have hF':Fits n (φ.mark w.heap.size) { a with defers:=[{ target:=.collected w.heap.size,args:=#[] }]++a.defers }:=⟨hF.size,by simp only [hF.defers];rfl,hF.at_⟩
        have hA':Agree (Gt (.rangeFunc g ps assign body)) (Jl (.rangeFunc g ps assign body)) a { a with defers:=[{ target:=.collected w.heap.size,args:=#[] }]++a.defers }:=⟨λ_ _=>rfl,λh=>by cases h⟩
        cases pe with
        |none=>exact ⟨_,hF',hA',haft⟩
        | some c =>
          cases c with
          |ret=>exact wpIn_ret ⟨_,hF',haft⟩
          |exit i=>exact wpIn_exit ⟨_,hF',hA',haft⟩
          |_=>exact haft.elim
    |_=>exact False.elim hv
  | scope x ih =>
    intro top rd h φ k a w hrd hF hv;cases h with
    | scope ha =>
      simp only [vcg] at hv;refine Xc (lX (ih top rd ha φ k a w hrd hF hv) λe a' w' hq=>?_);cases e with
      |goto l=>exact hq.elim
      |_=>exact hq
    |_=>exact False.elim hv
  |goto=>intro top rd h φ k a w hrd hF hv;exact False.elim hv
  |refuse=>intro top rd h φ k a w hrd hF hv;exact False.elim hv
def Ao2 (T:Tab):List ResultVar->Fr->(List Value->Wp)->World->Prop
 |[],_,K=>K []
 |.tmp t::r,φ,K=>match φ t with
  |some v=>Ao2 T r φ λl=>K (v::l)
  |none=>λ_=>False
 | .cell a t::r,φ,K=>match φ a with
  |some (.pointer (some p))=>match Aw9 T t p with
   |.read rd f=>rdE rd λx=>Ao2 T r φ λl=>K (f x::l)
   |_=>λ_=>False
  |_=>λ_=>False
def Bv7 (t:RTy) (K:t.T->Wp) (l:List Value):World->Prop :=
 match (match l with|[v]=>t.of v|l=>t.of (.tuple l.toArray)) with
 |some x=>K x
 |none=>λ_=>False
def Sj (D:Nat) (K:World->Prop):World->Prop:=λw=>w.heap[D]?=some (.deferred (some []))/\K (w.putObj D (.deferred none))
def Ce5 (P:Program) (f:FuncId) (args:Array Value) (K:World->Prop):World->Prop:=λw =>
 CallsDIn (FW none) 0 P f args .returning w λe u' w'=>u'=.returning/\∃v,e=.returned v/\K w'
def Xk (P:Program) (d:Deferred) (K:World->Prop):World->Prop:=λw =>
 ∃fv cap f args,d.target=.fn fv cap/\(invoke d.target d.args).run P w=.ok (.enter f args) w/\Ce5 P f args K w
def Bs7 (P:Program):List Dfr->(World->Prop)->World->Prop
 |[],K=>K
 |.mark D::r,K=>Sj D (Bs7 P r K)
 |.call d::r,K=>Xk P d (Bs7 P r K)
def Fr.init (args:List Value):Fr:=⟨λi=>args[i]?,[]⟩
def Cq3 (T:Tab) (P:Program) (fn:Func) (h:Hint) (args:List Value) (t:RTy) (K:t.T->Wp):World->Prop :=
 match fn.body,Nat.ble args.length fn.ntmps with
 |some c,true=>vcg T P fn.ntmps true c h (Fr.init args) ⟨λφ=>Bs7 P φ.ds (Ao2 T fn.results.toList φ (Bv7 t K)),λ_ _ _=>False,λφ=>Bs7 P φ.ds (Ao2 T fn.results.toList φ (Bv7 t K))⟩
 |_,_=>λ_=>False
def Ab9 {T:Tab}{P:Program}(ok:T.Ok P){n:Nat}{φ:Fr}{a:Act}(hF:Fits n φ a):∀{rs:List ResultVar}{K:List Value->Wp}{w:World},Ao2 T rs φ K w ->
  ∃l,K l w/\l.length=rs.length/\(rs.mapM (λ| .tmp t=>pure (a.tmps.getD t undef) | .cell x t=>do loadVar t (←asAddr (a.tmps.getD x undef)):ResultVar->Sem Value)).run P w=.ok l w
 |[],K,w,h=>⟨[],h,rfl,rfl⟩
 | .tmp t::r,K,w,h=>by
  simp only [Ao2] at h
  cases hv:φ t with
  |none=>simp only [hv] at h
  |some v =>
   simp only [hv] at h
   obtain ⟨l,hl,hn,hr⟩:=Ab9 ok hF h
   have:=hF.ev (.tmp t) v hv
   simp only [Act.eval] at this
   refine ⟨v::l,hl,by simp [hn],?_⟩
   rw [kN]
   simp only [iH,iJ,iI,this,hr]
 | .cell x t::r,K,w,h=>by
  simp only [Ao2] at h
  cases hv:φ x with
  |none=>simp only [hv] at h
  | some v =>
   cases v with
   | pointer p =>
    cases p with
    |none=>simp only [hv] at h
    | some p =>
     simp only [hv] at h
     have hq:=Aw8 ok t p
     cases hl:Aw9 T t p with
     | read rd f =>
      simp only [hl] at h hq
      obtain ⟨y,hy,h⟩:=h
      obtain ⟨l,hl,hn,hr⟩:=Ab9 ok hF h
      have:=hF.ev (.tmp x) _ hv
      simp only [Act.eval] at this
      have hq':=hq y w hy
      have hld:(loadVar t p).run P w=.ok (f y) w:=by
       cases hlr:(loadVar t p).run P w with
       |ok v' w'=>simp [Instr.loadAt,Instr.sureAddr,hlr] at hq';simp [hq']
       |halt x w'=>simp [Instr.loadAt,Instr.sureAddr,hlr] at hq'
      refine ⟨f y::l,hl,by simp [hn],?_⟩
      rw [kN]
      have hA:(asAddr (.pointer (some p))).run P w=.ok p w:=rfl
      simp only [iH,iJ,iI,this,hA,hld,hr]
     |_=>simp only [hl] at h
   |_=>simp only [hv] at h
def Ui {P:Program}{fn:Func}{tmps:Array Value}{R:Ending->Wp}{K:World->Prop}(hK:∀w,K w->∃v,(results fn tmps).run P w=.ok v w/\R (.returned v) w):∀(ds:List Dfr) (w:World),Bs7 P ds K w->LeavesInM (FW none) 0 P fn tmps R (marks ds) .returning w
 |[],w,h=>hK w h
 |.mark D::r,w,h=>⟨by simp,.inl ⟨D,_,rfl,run_takeDeferred h.1,Ui hK r _ h.2⟩⟩
 |.call d::r,w,h=>by
  obtain ⟨fv,cap,f,args,h1,h2,h3⟩:=h
  refine ⟨by simp,.inr ⟨by simp [FW,Fence.wide],fv,cap,f,args,h1,h2,λ_ _=>trivial,CallsDIn.mono h3 ?_⟩⟩
  rintro e u' w' ⟨rfl,v,rfl,hk⟩
  exact Ui hK r w' hk
def Ac0 {T:Tab}{P:Program}(ok:T.Ok P){f:FuncId}{fn:Func}(hf:P.funcs[f]?=some fn) (h:Hint) (args:List Value) (t:RTy) (K:t.T->Wp) (w:World)
  (hv:Cq3 T P fn h args t K w):Aa P f args.toArray t K w:=by
 unfold Cq3 at hv;cases hb:fn.body with
 |none=>simp only [hb] at hv
 |some c =>
 cases hs:Nat.ble args.length fn.ntmps with
 |false=>simp only [hb,hs] at hv
 |true =>
 simp only [hb,hs] at hv;have hs':=kM hs;have fin0:∀(φ:Fr) (a:Act),Fits fn.ntmps φ a->∀w',Ao2 T fn.results.toList φ (Bv7 t K) w' ->
   ∃v,(results fn a.tmps).run P w'=.ok v w'/\∃x,Ending.returned v=.returned (t.val x)/\K x w':=by
  intro φ a hF w' hr
  obtain ⟨l,hl,hn,hm⟩:=Ab9 ok hF hr
  have hres:(results fn a.tmps).run P w'=.ok (match l with|[v]=>v|l=>.tuple l.toArray) w':=by
   unfold results
   have hm2:(fn.results.mapM (λ| .tmp t=>pure (a.tmps.getD t undef) | .cell x t=>do loadVar t (←asAddr (a.tmps.getD x undef)):ResultVar->Sem Value)).run P w'=.ok l.toArray w':=by
    have e:fn.results=fn.results.toList.toArray:=by simp
    rw [e,List.mapM_toArray,Sem.run_map,hm];rfl
   refine (iH P w' _ _).trans ?_
   refine (lW (λr=>Result.andThen r _) hm2).trans ?_
   simp only [iI]
   match l with
   |[]=>rfl
   |[v]=>rfl
   |v::u::r=>rfl
  refine ⟨_,hres,?_⟩
  unfold Bv7 at hl
  match l with
  |[] =>
   simp only at hl ⊢;cases hx:t.of (.tuple ([]:List Value).toArray) with
   |none=>simp only [hx] at hl
   |some x=>simp only [hx] at hl;exact ⟨x,by rw [RTy.Rw hx],hl⟩
  |[v] =>
   simp only at hl ⊢;cases hx:t.of v with
   |none=>simp only [hx] at hl
   |some x=>simp only [hx] at hl;exact ⟨x,by rw [RTy.Rw hx],hl⟩
  |v::u::r =>
   simp only at hl ⊢;cases hx:t.of (.tuple (v::u::r).toArray) with
   |none=>simp only [hx] at hl
   |some x=>simp only [hx] at hl;exact ⟨x,by rw [RTy.Rw hx],hl⟩
 have fin:∀(φ:Fr) (a:Act) (w':World),Fits fn.ntmps φ a->Bs7 P φ.ds (Ao2 T fn.results.toList φ (Bv7 t K)) w' ->
   LeavesInM (FW none) 0 P fn a.tmps (λe w'=>∃x,e=.returned (t.val x)/\K x w') a.defers .returning w':=by
  intro φ a w' hF hr
  rw [hF.defers]
  exact Ui (fin0 φ a hF) _ _ hr
 unfold Aa;refine (Bh5 (r:=none) (n:=0)).1 (callsIn_of_wp_marks hf hb trivial (lX (Ai8 ok c true none h _ _ _ w (λ_=>rfl) ⟨?_,rfl,λi v hi=>?_⟩ hv) λe a' w' hq=>?_));{simp;omega};{simp only [Fr.init] at hi;have hlt:i<args.length:=(lY.1 hi).1;rw [mG (by simpa using hlt)];simpa using hi}
 ·cases e with
  |normal=>obtain ⟨φ,h1,h2,h3⟩:=hq;exact fin φ a' w' h1 h3
  |exit i=>obtain ⟨φ,h1,h2,h3⟩:=hq;exact h3.elim
  |ret=>obtain ⟨φ,h1,h3⟩:=hq;exact fin φ a' w' h1 h3
  |_=>exact hq.elim
def Ct2:List Dfr->(World->Prop)->World->Prop
 |[],K=>K
 |_::_,_=>λ_=>False
def Cq4 (T:Tab) (P:Program) (fn:Func) (h:Hint) (args:List Value) (K:World->Prop):World->Prop :=
 match fn.body,Nat.ble args.length fn.ntmps,fn.results.toList with
 |some c,true,[]=>vcg T P fn.ntmps true c h (Fr.init args) ⟨λφ=>Ct2 φ.ds K,λ_ _ _=>False,λφ=>Ct2 φ.ds K⟩
 |_,_,_=>λ_=>False
def Ac1 {T:Tab}{P:Program}(ok:T.Ok P){f:FuncId}{fn:Func}(hf:P.funcs[f]?=some fn) (h:Hint) (args:List Value) (K:World->Prop) (w:World)
  (hv:Cq4 T P fn h args K w):Ce5 P f args.toArray K w:=by
 unfold Cq4 at hv;cases hb:fn.body with
 |none=>simp only [hb] at hv
 |some c =>
 cases hs:Nat.ble args.length fn.ntmps with
 |false=>simp only [hb,hs] at hv
 |true =>
 cases hr:fn.results.toList with
 |cons x r=>simp only [hb,hs,hr] at hv
 |nil =>
 simp only [hb,hs,hr] at hv;have hs':=kM hs;have hr':fn.results=#[]:=Array.toList_inj.1 hr;have fin:∀(φ:Fr) (a:Act) (w':World),Fits fn.ntmps φ a->Ct2 φ.ds K w'->a.defers=[]/\∃v,(results fn a.tmps).run P w'=.ok v w'/\∃v',Ending.returned v=.returned v'/\K w':=by
  intro φ a w' hF hk
  cases hd:φ.ds with
  |cons x r=>rw [hd] at hk;exact hk.elim
  |nil=>rw [hd] at hk;exact ⟨by rw [hF.defers,hd];rfl,_,by simp [results,hr'];rfl,_,rfl,hk⟩
 unfold Ce5;refine callsDIn_of_wp (R:=λe w'=>∃v,e=.returned v/\K w') hf hb trivial (lX (Ai8 ok c true none h _ _ _ w (λ_=>rfl) ⟨?_,rfl,λi v hi=>?_⟩ hv) λe a' w' hq=>?_);{simp;omega};{simp only [Fr.init] at hi;have hlt:i<args.length:=(lY.1 hi).1;rw [mG (by simpa using hlt)];simpa using hi}
 ·cases e with
  |normal=>obtain ⟨φ,h1,h2,h3⟩:=hq;exact fin φ a' w' h1 h3
  |exit i=>obtain ⟨φ,h1,h2,h3⟩:=hq;exact h3.elim
  |ret=>obtain ⟨φ,h1,h3⟩:=hq;exact fin φ a' w' h1 h3
  |_=>exact hq.elim
#print axioms Ac1
#print axioms Ac0
abbrev at0 (b:Nat):Addr:=⟨b,0,none⟩
def nn (p:Option Addr) (K:Addr->Wp):World->Prop:=cdE (λa=>p=some a) K
def ix (a:Option Addr) (len:Nat) (n:Int) (K:Addr->Wp):World->Prop:=cdE (λp=>a=some p/\0<=n/\n<len) K
def chk (c:Prop) (K:World->Prop):World->Prop:=cdE (λ_:Unit=>c) (λ_=>K)
def Ao6 (s:ByteArray) (n:Int) (K:UInt8->Wp):World->Prop:=cdE (λb=>0<=n/\s[n.toNat]?=some b) K
def slc (a:Option Addr) (l h m:Int) (cap sz:Nat) (K:Sl->Wp):World->Prop:=chk (0<=l/\l<=h/\h<=m/\m<=cap) (K (Sl.cut a l h m sz))
def ld (c:Cell) (p:Addr) (K:c.T->Wp):World->Prop:=rdE (λ(x:c.T) w=>w.cell? p=some (c.val x)) K
def lds (cs:List Cell) (p:Addr) (K:Cells.T cs->Wp):World->Prop:=rdE (λ(x:Cells.T cs) w=>Ez w p 0 (Cells.vals cs x)) K
def rdT (P:Program) (t:RTy) (s:Sem Value) (K:t.T->Wp):World->Prop:=rdE (λ(x:t.T) w=>s.run P w=.ok (t.val x) w) K
def rdB (P:Program) (s:Sem Value) (K:Bool->Wp):World->Prop:=rdE (λ(r:Bool) w=>s.run P w=.ok (.bool r) w) K
def rdN (P:Program) (s:Sem Value) (K:Int->Wp):World->Prop:=rdE (λ(r:Int) w=>s.run P w=.ok (.int .i64 r) w) K
def rdV (P:Program) (s:Sem Value) (K:Value->Wp):World->Prop:=rdE (λ(r:Value) w=>s.run P w=.ok r w) K
def RS.ops:Nat->RS->RS
 |0,r=>r
 |n+1,r=>.op none (RS.ops n r)
def RS.skips:Nat->RS->RS
 |0,r=>r
 |n+1,r=>.skip (RS.skips n r)
section
variable {w:World}
def Ad {a:Addr}{K:Addr->Wp}(h:K a w):nn (some a) K w:=⟨a,rfl,h⟩
def P8 {a:Addr}{K:Addr->Wp}:nn (some a) K w↔K a w :=
 ⟨(λ⟨_,e,h⟩=>by cases e;exact h),Ad⟩
def Rn {c:Prop}{K:World->Prop}:chk c K w↔c/\K w:=⟨λ⟨_,a,b⟩=>⟨a,b⟩,λ⟨a,b⟩=>⟨(),a,b⟩⟩
def Ee {A B:World->Prop}(h:A w):sif true A B w:=⟨λ_=>h,(λe=>by cases e)⟩
def Bh {A B:World->Prop}(h:B w):sif false A B w:=⟨(λe=>by cases e),λ_=>h⟩
def Ax1 {c:Cell}{p:Addr}{K:c.T->Wp}{x:c.T}(h:w.cell? p=some (c.val x)) (hK:K x w):ld c p K w:=⟨x,h,hK⟩
def Ar {S:Type}{body:(S->Wp)->Wp}{rest:S->Wp}(s:S) (hb:body (λs' w'=>s'=s/\w'=w) w) (hr:rest s w):join body rest w :=
 ⟨_,hb,λ_ _ ⟨e1,e2⟩=>by rw [e1,e2];exact hr⟩
end
structure Upd (S:Nat->Prop) (w w':World):Prop where
 os:w'.os=w.os
 tape:w'.tape=w.tape
 output:w'.output=w.output
 size:w.heap.size<=w'.heap.size
 at_:∀k,k<w.heap.size->¬S k->w'.heap[k]?=w.heap[k]?
abbrev Ext (w w':World):Prop:=Upd (λ_=>False) w w'
def lt_of_heap {w:World}{k:Nat}{o:Obj}(h:w.heap[k]?=some o):k<w.heap.size:=(iY.1 h).1
section
variable {S S':Nat->Prop}{w w' w'':World}
def Upd.refl (S:Nat->Prop) (w:World):Upd S w w:=⟨rfl,rfl,rfl,mJ _,λ_ _ _=>rfl⟩
def Ext.refl (w:World):Ext w w:=Upd.refl _ w
def Upd.get (h:Upd S w w'){k:Nat}{o:Obj}(hk:w.heap[k]?=some o) (hS:¬S k):w'.heap[k]?=some o:=by rw [h.at_ k (lt_of_heap hk) hS];exact hk
def Upd.ext_get (h:Ext w w'){k:Nat}{o:Obj}(hk:w.heap[k]?=some o):w'.heap[k]?=some o:=h.get hk id
def Upd.mono (h:Upd S w w') (hs:∀k,k<w.heap.size->S k->S' k):Upd S' w w':=⟨h.os,h.tape,h.output,h.size,λk hk hn=>h.at_ k hk λhS=>hn (hs k hk hS)⟩
def Upd.trans (h:Upd S w w') (h':Upd S w' w''):Upd S w w'' :=
 ⟨h'.os.trans h.os,h'.tape.trans h.tape,h'.output.trans h.output,mM h.size h'.size,λk hk hn=>(h'.at_ k (mP hk h.size) hn).trans (h.at_ k hk hn)⟩
def Upd.Ae (h:Ext w w'):Upd S w w':=h.mono λ_ _ h=>h.elim
def Upd.new (h:Upd S w w') (h':Upd S' w' w'') (hs:∀k,k<w.heap.size->S' k->S k):Upd S w w'' :=
 ⟨h'.os.trans h.os,h'.tape.trans h.tape,h'.output.trans h.output,mM h.size h'.size,λk hk hn=>(h'.at_ k (mP hk h.size) λhS=>hn (hs k hk hS)).trans (h.at_ k hk hn)⟩
def Ext.trans (h:Ext w w') (h':Ext w' w''):Ext w w'':=Upd.trans h h'
def Ext.step (h:Ext w w') (h':Upd S' w' w'') (hs:∀k,S' k->w.heap.size<=k):Ext w w'':=Upd.new h h' λk hk hS=>absurd (hs k hS) (by omega)
def Ext.alloc (w:World) (o:Obj):Ext w (w.alloc o) :=
 ⟨rfl,rfl,rfl,by simp,λk hk _=>by show (w.heap.push o)[k]?=_;rw [Array.getElem?_push,iP (by omega)]⟩
def heap_alloc (w:World) (o:Obj):(w.alloc o).heap[w.heap.size]?=some o:=by show (w.heap.push o)[w.heap.size]?=_;simp
def Ext.drew (w:World):Ext w w.drew:=⟨rfl,rfl,rfl,mJ _,λ_ _ _=>rfl⟩
def cell_of {b off:Nat}{c:Array Value}{t:TypeId}{fr:Nat×Nat}{v:Value}(hb:w.heap[b]?=some (.cells c t fr)) (hc:c[off]?=some v):w.cell? ⟨b,off,none⟩=some v:=by simp [World.cell?,hb,hc]
def N8 {b off:Nat}{c:Array Value}{t:TypeId}{fr:Nat×Nat}(v:Value) (hb:w.heap[b]?=some (.cells c t fr)) :
  Upd (λk=>k=b) w (w.setCell ⟨b,off,none⟩ v)/\(w.setCell ⟨b,off,none⟩ v).heap[b]?=some (.cells (c.setIfInBounds off v) t fr):=by refine ⟨⟨rfl,rfl,rfl,by simp [World.setCell],λk hk hn=>?_⟩,?_⟩;{simp only [World.setCell,mQ];rw [iP (λh=>hn h.symm)]};{simp [World.setCell,mQ,hb]}
def Ag {o:Obj}{K:Nat->Wp}(h:∀b w1,Ext w w1->w1.heap[b]?=some o->b=w.heap.size->w1.heap.size=w.heap.size+1->K b w1):Ak o K w :=
 h _ _ (Ext.alloc w o) (heap_alloc w o) rfl (by simp)
def Az {K:World->Prop}(h:∀w1,Ext w w1->w1.heap=w.heap->K w1):drew K w:=h _ (Ext.drew w) rfl
def Af {c:Cell}{b off:Nat}{K:c.T->Wp}{x:c.T}{cs:Array Value}{t:TypeId}{fr:Nat×Nat}(hb:w.heap[b]?=some (.cells cs t fr)) (hc:cs[off]?=some (c.val x)) (h:K x w) :
  ld c ⟨b,off,none⟩ K w:=⟨x,cell_of hb hc,h⟩
def Dp {cs:List Cell}{b off:Nat}{K:Cells.T cs->Wp}{x:Cells.T cs}{c:Array Value}{t:TypeId}{fr:Nat×Nat}(hb:w.heap[b]?=some (.cells c t fr))
  (hc:∀i v,(Cells.vals cs x)[i]?=some v->c[off+i]?=some v) (h:K x w):lds cs ⟨b,off,none⟩ K w:=by
 refine ⟨x,?_,h⟩;have key:∀(l:List Value) (j:Nat),(∀i v,l[i]?=some v->c[off+(j+i)]?=some v)->Ez w ⟨b,off,none⟩ j l:=by
  intro l
  induction l with
  |nil=>intro _ _;trivial
  |cons v r ih=>intro j hj;refine ⟨?_,ih (j+1) λi u hu=>?_⟩;{have:=cell_of hb (hj 0 v rfl);(have e:(⟨b,off,none⟩:Addr).add j=⟨b,off+j,none⟩:=by unfold Addr.add;split<;>simp_all);rw [e];simpa using this};{have:=hj (i+1) u (by simpa using hu);rw [show off+(j+1+i)=off+(j+(i+1)) by omega];exact this}
 exact key _ 0 (by simpa using hc)
def Dj {b off:Nat}{v:Value}{K:World->Prop}{c:Array Value}{t:TypeId}(hb:w.heap[b]?=some (.cells c t (0,0))) (ho:off<c.size)
  (h:∀w1,Upd (λk=>k=b) w w1->w1.heap[b]?=some (.cells (c.setIfInBounds off v) t (0,0))->w1.heap.size=w.heap.size->K w1):stC ⟨b,off,none⟩ v K w:=by obtain ⟨h1,h2⟩:=N8 (off:=off) v hb;refine ⟨⟨⟨c[off],cell_of hb (by simp [ho])⟩,?_⟩,h _ h1 h2 (by simp [World.setCell])⟩;simp [World.frozen?,hb]
def addr_add (b o n:Nat):(⟨b,o,none⟩:Addr).add n=⟨b,o+n,none⟩:=by unfold Addr.add;split<;>simp_all
def setRow (c:Array Value):Nat->List Value->Array Value
 |_,[]=>c
 |off,v::r=>setRow (c.setIfInBounds off v) (off+1) r
def size_setRow:∀(vs:List Value) (c:Array Value) (off:Nat),(setRow c off vs).size=c.size
 |[],_,_=>rfl
 |v::r,c,off=>by rw [setRow,size_setRow r];simp
def Gi:∀(vs:List Value) (c:Array Value) (off i:Nat),i<off->(setRow c off vs)[i]?=c[i]?
 |[],_,_,_,_=>rfl
 |v::r,c,off,i,h=>by rw [setRow,Gi r _ _ _ (by omega)];simp [mV,Nat.ne_of_gt h]
def Si:∀(vs:List Value) (c:Array Value) (off i:Nat),off+vs.length<=i->(setRow c off vs)[i]?=c[i]?
 |[],_,_,_,_=>rfl
 |v::r,c,off,i,h=>by
  simp only [kE] at h
  rw [setRow,Si r _ _ _ (by omega),mV,iP (by omega)]
def Nz:∀(vs:List Value) (c:Array Value) (off i:Nat),off+vs.length<=c.size->i<vs.length->(setRow c off vs)[off+i]?=vs[i]?
 |v::r,c,off,0,h,_=>by
  simp only [kE] at h
  rw [setRow,Nat.add_zero,Gi r _ _ _ (by omega),mV]
  simp;omega
 |v::r,c,off,i+1,h,hi=>by
  simp only [kE] at h hi
  rw [setRow,show off+(i+1)=off+1+i by omega,Nz r _ _ _ (by simp;omega) (by omega)]
  simp
def Jr (P:Program):∀(vs:List Value) (b off i:Nat) (c:Array Value) (t:TypeId) (w:World),(∀v∈vs,Eb v=true)->w.heap[b]?=some (.cells c t (0,0))->off+i+vs.length<=c.size ->
  ∃w1,(storeCells ⟨b,off,none⟩ vs i).run P w=.ok () w1/\Upd (λk=>k=b) w w1/\w1.heap[b]?=some (.cells (setRow c (off+i) vs) t (0,0))/\w1.heap.size=w.heap.size
 |[],b,off,i,c,t,w,_,hb,_=>⟨w,rfl,Upd.refl _ _,hb,rfl⟩
 |v::r,b,off,i,c,t,w,hv,hb,hs=>by
  simp only [kE] at hs
  obtain ⟨h1,h2⟩:=N8 (off:=off+i) v hb
  have hsz:(w.setCell ⟨b,off+i,none⟩ v).heap.size=w.heap.size:=by simp [World.setCell]
  obtain ⟨w1,hr,hu,hb1,hz⟩:=Jr P r b off (i+1) _ t _ (λx hx=>hv x (iO _ hx)) h2 (by simp;omega)
  refine ⟨w1,?_,h1.trans hu,hb1,hz.trans hsz⟩
  have hst:=Ru (P:=P) (p:=⟨b,off+i,none⟩) (hv v iM) (cell_of hb (v:=c[off+i]'(by omega)) (by simp)) (by simp [World.frozen?,hb])
  simp only [storeCells,addr_add,iH,hst,iI]
  exact hr
def Ba {b off n:Nat}{vs:Array Value}{K:World->Prop}{c:Array Value}{t:TypeId}(hb:w.heap[b]?=some (.cells c t (0,0))) (hn:vs.size=n) (h1:vs.toList.all Eb=true) (ho:off+n<=c.size)
  (h:∀w1,Upd (λk=>k=b) w w1->w1.heap[b]?=some (.cells (setRow c off vs.toList) t (0,0))->w1.heap.size=w.heap.size->K w1):Ah ⟨b,off,none⟩ (.agg vs) n K w:=by
 have key:∀(l:List Value) (i:Nat) (c:Array Value) (w:World),w.heap[b]?=some (.cells c t (0,0))->off+i+l.length<=c.size ->
   (∀w1,Upd (λk=>k=b) w w1->w1.heap[b]?=some (.cells (setRow c (off+i) l) t (0,0))->w1.heap.size=w.heap.size->K w1)->Bx1 ⟨b,off,none⟩ i l K w:=by
  intro l
  induction l with
  |nil=>intro i c w hb _ h;exact h w (Upd.refl _ _) hb rfl
  |cons v r ih=>intro i c w hb hs h;simp only [kE] at hs;rw [Bx1,addr_add];exact Dj hb (by omega) λw1 u1 hb1 z1=>ih (i+1) _ w1 hb1 (by simp;omega) λw2 u2 hb2 hz=>h w2 (u1.trans u2) hb2 (hz.trans z1)
 unfold Ah;have e:(Nat.beq (Value.agg vs).cells.toList.length n&&(Value.agg vs).cells.toList.all Eb)=true:=by
  rw [jA]
  refine ⟨?_,h1⟩
  show Nat.beq vs.toList.length n=true
  rw [mD,hn];exact lS n
 rw [e];exact key _ 0 c w hb (by show off+0+vs.toList.length<=_;rw [mD,hn];omega) h
structure Dx (w:World) (s:Sl) (t:TypeId) (sz:Nat) (vs:List Value):Prop where
 len:vs.length=s.len*sz
 le:s.len<=s.cap
 at_:(s.a=none/\s.cap=0)\/∃b off c fr,s.a=some ⟨b,off,none⟩/\w.heap[b]?=some (.cells c t fr)/\off+s.cap*sz<=c.size/\∀i v,vs[i]?=some v->c[off+i]?=some v
structure Am (w:World) (B:Nat) (s:Sl) (t:TypeId) (sz:Nat) (vs:List Value):Prop where
 len:vs.length=s.len*sz
 le:s.len<=s.cap
 at_:(s.a=none/\s.cap=0)\/∃b off c,s.a=some ⟨b,off,none⟩/\B<=b/\w.heap[b]?=some (.cells c t (0,0))/\off+s.cap*sz<=c.size/\∀i v,vs[i]?=some v->c[off+i]?=some v
def Sl.blk (s:Sl) (k:Nat):Prop:=∃p,s.a=some p/\p.block=k
def Am.in {B:Nat}{s:Sl}{t:TypeId}{sz:Nat}{vs:List Value}(h:Am w B s t sz vs):Dx w s t sz vs :=
 ⟨h.len,h.le,h.at_.imp id λ⟨b,off,c,h1,_,h2,h3,h4⟩=>⟨b,off,c,_,h1,h2,h3,h4⟩⟩
def Dx.upd {s:Sl}{t:TypeId}{sz:Nat}{vs:List Value}(h:Dx w s t sz vs) (hu:Upd S w w') (hS:∀k,s.blk k->¬S k):Dx w' s t sz vs :=
 ⟨h.len,h.le,h.at_.imp id λ⟨b,off,c,fr,h1,h2,h3,h4⟩=>⟨b,off,c,fr,h1,hu.get h2 (hS b ⟨_,h1,rfl⟩),h3,h4⟩⟩
def Dx.ext {s:Sl}{t:TypeId}{sz:Nat}{vs:List Value}(h:Dx w s t sz vs) (hu:Ext w w'):Dx w' s t sz vs:=h.upd hu λ_ _=>id
def Am.upd {B:Nat}{s:Sl}{t:TypeId}{sz:Nat}{vs:List Value}(h:Am w B s t sz vs) (hu:Upd S w w') (hS:∀k,B<=k->s.blk k->¬S k):Am w' B s t sz vs :=
 ⟨h.len,h.le,h.at_.imp id λ⟨b,off,c,h1,hB,h2,h3,h4⟩=>⟨b,off,c,h1,hB,hu.get h2 (hS b hB ⟨_,h1,rfl⟩),h3,h4⟩⟩
def Am.ext {B:Nat}{s:Sl}{t:TypeId}{sz:Nat}{vs:List Value}(h:Am w B s t sz vs) (hu:Ext w w'):Am w' B s t sz vs:=h.upd hu λ_ _ _=>id
def Am.mono {B B':Nat}{s:Sl}{t:TypeId}{sz:Nat}{vs:List Value}(h:Am w B s t sz vs) (hB:B'<=B):Am w B' s t sz vs :=
 ⟨h.len,h.le,h.at_.imp id λ⟨b,off,c,h1,hb,h2⟩=>⟨b,off,c,h1,mM hB hb,h2⟩⟩
def Am.nil (w:World) (B:Nat) (t:TypeId) (sz:Nat):Am w B ⟨none,0,0⟩ t sz []:=⟨by simp,mJ _,.inl ⟨rfl,rfl⟩⟩
def Dx.nil (w:World) (t:TypeId) (sz:Nat):Dx w ⟨none,0,0⟩ t sz []:=(Am.nil w 0 t sz).in
def Dx.Ci {s:Sl}{t:TypeId}{sz:Nat}{vs:List Value}(h:Dx w s t sz vs){k:Nat}(hk:s.blk k):k<w.heap.size:=by obtain ⟨p,hp,rfl⟩:=hk;rcases h.at_ with ⟨hn,_⟩|⟨b,off,c,fr,h1,h2,_⟩;{rw [hn] at hp;cases hp};{rw [h1] at hp;cases hp;exact lt_of_heap h2}
def Am.Dh {B:Nat}{s:Sl}{t:TypeId}{sz:Nat}{vs:List Value}(h:Am w B s t sz vs){k:Nat}(hk:s.blk k):B<=k:=by obtain ⟨p,hp,rfl⟩:=hk;rcases h.at_ with ⟨hn,_⟩|⟨b,off,c,h1,hB,_⟩;{rw [hn] at hp;cases hp};{rw [h1] at hp;cases hp;exact hB}
def Dx.ix {s:Sl}{t:TypeId}{sz:Nat}{vs:List Value}(h:Dx w s t sz vs){n:Int}(h0:0<=n) (h1:n<s.len) (hz:0<sz){K:Addr->Wp}
  (hK:∀b off,s.a=some ⟨b,off,none⟩->(∀j v,vs[n.toNat*sz+j]?=some v->w.cell? ⟨b,off+n.toNat*sz+j,none⟩=some v)->K ⟨b,off,none⟩ w):ix s.a s.len n K w:=by rcases h.at_ with ⟨_,hc⟩|⟨b,off,c,fr,ha,hb,_,hv⟩;{have:=h.le;omega};{exact ⟨_,⟨ha,h0,h1⟩,hK b off ha λj v hj=>by rw [Nat.add_assoc];exact cell_of hb (hv _ _ hj)⟩}
def Gh {b off:Nat}:∀(l:List Value) (i:Nat),(∀j v,l[j]?=some v->w.cell? ⟨b,off+(i+j),none⟩=some v)->Ez w ⟨b,off,none⟩ i l
 |[],_,_=>trivial
 |v::r,i,h=>⟨by rw [addr_add];exact h 0 v rfl,Gh r (i+1) λj u hj=>by rw [show off+(i+1+j)=off+(i+(j+1)) by omega];exact h (j+1) u (by simpa using hj)⟩
def Au8 (P:Program){b off n:Nat}{c:Array Value}{t:TypeId}{fr:Nat×Nat}{vs:List Value}(hb:w.heap[b]?=some (.cells c t fr)) (hv:∀i v,vs[i]?=some v->c[off+i]?=some v) (hn:vs.length=n) :
  (loadCells ⟨b,off,none⟩ n).run P w=.ok vs.toArray w:=by have:=run_loadCells (P:=P) vs ⟨b,off,none⟩ 0 #[] w (Gh vs 0 λj v hj=>by rw [kY];exact cell_of hb (hv j v hj));rw [hn] at this;simpa [loadCells] using this
def Gx (P:Program){s:Sl}{t:TypeId}{sz:Nat}{vs:List Value}(h:Dx w s t sz vs):(Builtin.firstCells sz s.len (.slice s.a s.len s.cap)).run P w=.ok vs.toArray w:=by rcases h.at_ with ⟨ha,hc⟩|⟨b,off,c,fr,ha,hb,_,hv⟩;{(have hl:s.len=0:=by have:=h.le;omega);(have:vs=[]:=by have:=h.len;rw [hl,mW] at this;exact jH.1 this);rw [ha,this];rfl};{rw [ha];exact Au8 P hb hv h.len}
structure SlX (w:World) (s:Sl) (sz:Nat) (vs:List Value):Prop where
 at_:(s.len=0/\vs=[])\/∃t,Dx w s t sz vs
def Dx.x {s:Sl}{t:TypeId}{sz:Nat}{vs:List Value}(h:Dx w s t sz vs):SlX w s sz vs:=⟨.inr ⟨t,h⟩⟩
def SlX.len {s:Sl}{sz:Nat}{vs:List Value}(h:SlX w s sz vs):vs.length=s.len*sz:=by rcases h.at_ with ⟨h1,h2⟩|⟨t,h⟩;{rw [h1,h2];simp};{exact h.len}
def SlX.ext {s:Sl}{sz:Nat}{vs:List Value}(h:SlX w s sz vs) (hu:Ext w w'):SlX w' s sz vs:=⟨h.at_.imp id λ⟨t,h⟩=>⟨t,h.ext hu⟩⟩
def Gm (P:Program){s:Sl}{sz:Nat}{vs:List Value}(h:SlX w s sz vs):(Builtin.firstCells sz s.len (.slice s.a s.len s.cap)).run P w=.ok vs.toArray w:=by
 rcases h.at_ with ⟨h1,h2⟩|⟨t,h⟩
 ·rw [h1,h2];cases s.a with
  |none=>rfl
  |some a=>show (loadCells a (0*sz)).run P w=_;rw [mW];rfl
 {exact Gx P h}
def Al9 (need:Nat):∀(n c:Nat),c<=need+need/4+192->Builtin.growBy need n c<=need+need/4+192
 |0,c,h=>h
 |n+1,c,h=>by
  rw [Builtin.growBy]
  split
  ·exact h
  ·exact Al9 need n _ (by omega)
def nextslicecap_le {need old:Nat}(h:old<need):Builtin.nextslicecap need old<=need+need/4+512:=by unfold Builtin.nextslicecap;split;{omega};{split;{omega};{have:=Al9 need 4 old (by omega);omega}}
def run_choose (P:Program) (q:Question) (hq:q.forced=false):(choose q).run P w=.ok (q.cut (w.tape w.drawn q)) w.drew:=by simp [choose,Sem.run,hq]
def Bi1 (P:Program){ts xt rt:TypeId}{e xe:TypeId}{i:TypeInfo}{z:Value}(hts:P.underlying ts=some (.slice e)) (hxt:P.underlying xt=some (.slice xe)) (hi:P.info? e=some i) (hz:i.zero=some z)
  {B:Nat} {s x:Sl} {vs us:List Value} (hs:Am w B s e i.size vs) (hx:SlX w x i.size us) (h1:∀v∈us,Eb v=true) (hzl:z.cells.size=i.size)
  (hroom:(s.len+x.len+(s.len+x.len)/4+512)*i.bytes<=2^48) (hb0:0<i.bytes) (hB:B<=w.heap.size) :
  ∃s' w',(Builtin.append_ #[ts,xt] rt #[.slice s.a s.len s.cap,.slice x.a x.len x.cap]).run P w=.ok (.slice s'.a s'.len s'.cap) w'/\Am w' B s' e i.size (vs++us)/\s'.len=s.len+x.len /\
   Upd (λk=>s.blk k) w w'/\(∀k,s'.blk k->s.blk k\/w.heap.size<=k):=by
 have hfx:=Gm P hx
 have hfs:=Gx P hs.in
 have hu1:=λW=>jZ hts W
 have hu2:=λW=>jZ hxt W
 have hsz:∀W,(sizeOf e).run P W=.ok i.size W:=λW=>by simp [sizeOf,kC W hi]
 have hti:∀W,(typeInfo e).run P W=.ok i W:=λW=>kC W hi
 have hzv:∀W,(zeroValue e).run P W=.ok z W:=λW=>by simp [zeroValue,kC W hi,hz]
 have hlen:=hs.len
 have hxlen:=hx.len
 by_cases hneed:s.len+x.len<=s.cap
 ·
  rcases hs.at_ with ⟨ha,hc⟩|⟨b,off,c,ha,hB',hb,hcap,hv⟩
  ·have hl0:x.len=0:=by omega
   have hsl:s.len=0:=by omega
   have hus:us=[]:=by rw [hl0,mW] at hxlen;exact jH.1 hxlen
   refine ⟨⟨none,0,s.cap⟩,w,?_,⟨by simp [hus,hlen,hsl],by simp,.inl ⟨rfl,hc⟩⟩,by simp [hl0,hsl],Upd.refl _ _,λk hk=>by obtain ⟨p,hp,_⟩:=hk;cases hp⟩
   have hfx':(Builtin.firstCells i.size 0 (.slice x.a 0 x.cap)).run P w=.ok #[] w:=by rw [hl0,hus] at hfx;exact hfx
   simp [Builtin.append_,hu1,hu2,hsz,Builtin.lenOf,hl0,hsl,ha,hfx',hc]
  ·have hfit:s.len*i.size+us.length<=s.cap*i.size:=by
    rw [hxlen,←mX];exact mY _ hneed
   obtain ⟨w1,hr,hu,hb1,_⟩:=Jr P us b (off+s.len*i.size) 0 c e w h1 hb (by omega)
   refine ⟨⟨s.a,s.len+x.len,s.cap⟩,w1,?_,⟨by simp [hlen,hxlen,mX],hneed,.inr ⟨b,off,setRow c (off+s.len*i.size+0) us,ha,hB',hb1,by rw [size_setRow];exact hcap,?_⟩⟩,rfl,hu.mono λk _ hk=>⟨_,ha,hk.symm⟩,λk hk=>.inl hk⟩
   ·simp [Builtin.append_,hu1,hu2,hsz,Builtin.lenOf,hneed,hfx,ha,addr_add,hr]
   ·intro j v hj
    rw [Nat.add_zero]
    by_cases hjl:j<vs.length
    ·rw [mZ hjl] at hj
     rw [Gi _ _ _ _ (by omega)];exact hv j v hj
    ·rw [nC (by omega)] at hj
     have hlt:=(lY.1 hj).1
     rw [show off+j=off+s.len*i.size+(j-vs.length) by omega,Nz _ _ _ _ (by omega) hlt]
     exact hj
 ·
  have hle:=nextslicecap_le (need:=s.len+x.len) (old:=s.cap) (by omega)
  have hroom':¬(Builtin.nextslicecap (s.len+x.len) s.cap*i.bytes>2^48):=by
   have:=mY i.bytes hle
   omega
  obtain ⟨nc,hnc,hncl⟩:∃nc,(Question.appendCap (s.len+x.len) s.cap e).cut (w.tape w.drawn (Question.appendCap (s.len+x.len) s.cap e))=nc/\s.len+x.len<=nc:=⟨_,rfl,by simp only [Question.cut];omega⟩
  have hfx':(Builtin.firstCells i.size x.len (.slice x.a x.len x.cap)).run P w.drew=.ok us.toArray w.drew:=Gm P (hx.ext (Ext.drew w))
  have hfs':(Builtin.firstCells i.size s.len (.slice s.a s.len s.cap)).run P w.drew=.ok vs.toArray w.drew:=Gx P (hs.in.ext (Ext.drew w))
  let row:=vs.toArray++us.toArray++Builtin.zeroCells z.cells (nc-(s.len+x.len))
  have hrow:row.size=nc*i.size:=by
   simp only [row,Array.size_append,List.size_toArray,Builtin.zeroCells,Array.size_map,Array.size_range,hzl,hlen,hxlen]
   rw [←mX,←mX]
   congr 1;omega
  refine ⟨⟨some ⟨w.heap.size,0,none⟩,s.len+x.len,nc⟩,w.drew.alloc (.cells row e),?_,⟨by simp [hlen,hxlen,mX],hncl,.inr ⟨w.heap.size,0,row,rfl,hB,heap_alloc w.drew _,by rw [hrow];simp,?_⟩⟩,rfl,
   (Upd.Ae ((Ext.drew w).trans (Ext.alloc w.drew _))),λk hk=>.inr (by obtain ⟨p,hp,rfl⟩:=hk;cases hp;exact mJ _)⟩
  ·have hb0':¬i.bytes=0:=by omega
   simp [Builtin.append_,hu1,hu2,hsz,Builtin.lenOf,hneed,hti,hb0',hroom',nD,hfs',hfx',hzv,newRow,newObj,Sem.run,Question.forced,hnc,row]
  ·intro j v hj
   rw [kY]
   have hlt:=(lY.1 hj).1
   have:row[j]?=(vs++us)[j]?:=by
    simp only [row]
    rw [mG (by simpa using hlt)]
    simp
   rw [this];exact hj
end
structure Fh (P:Program) (ts e:TypeId) (sz bytes:Nat):Prop where
 ts_:P.underlying ts=some (.slice e)
 e_:∃i z,P.info? e=some i/\i.size=sz/\i.bytes=bytes/\i.zero=some z/\z.cells.size=sz
 pos:0<bytes
def Fh.of {P:Program}{ts e:TypeId}{it ie:Inf}(h:Aq P ts it) (he:Aq P e ie) (hd:it.desc=.slice e){z:Value}(hz:ie.zero=some z) (hzs:z.cells.size=ie.size) (hb:0<ie.bytes):Fh P ts e ie.size ie.bytes:=by obtain ⟨j,hj,h1,h2,h3⟩:=he.Al8;exact ⟨by rw [h.und,hd],⟨j,z,hj,h1,h2,h3.trans hz,hzs⟩,hb⟩
section
variable {S:Nat->Prop}{w w':World}{P:Program}
def Ed {ts xt rt e xe:TypeId}{sz bytes:Nat}(E:Fh P ts e sz bytes) (hxt:P.underlying xt=some (.slice xe)){B:Nat}{s x:Sl}{vs us:List Value}{K:Sl->Wp}
  (hs:Am w B s e sz vs) (hx:SlX w x sz us) (h1:∀v∈us,Eb v=true) (hroom:(s.len+x.len+(s.len+x.len)/4+512)*bytes<=2^48) (hB:B<=w.heap.size)
  (h:∀s' w',Am w' B s' e sz (vs++us)->s'.len=s.len+x.len->Upd s.blk w w'->(∀k,s'.blk k->s.blk k\/w.heap.size<=k)->K s' w') :
  Dy P (.one (.one .sl)) (Builtin.append_ #[ts,xt] rt #[.slice s.a s.len s.cap,.slice x.a x.len x.cap]) K w:=by obtain ⟨i,z,hi,rfl,rfl,hz,hzs⟩:=E.e_;obtain ⟨s',w',hr,ho,hl,hu,hb⟩:=Bi1 (rt:=rt) P E.ts_ hxt hi hz hs hx h1 hzs hroom E.pos hB;exact ⟨s',w',hr,h s' w' ho hl hu hb⟩
def Zc {ts xt rt e xe:TypeId}{sz bytes:Nat}(E:Fh P ts e sz bytes) (hxt:P.underlying xt=some (.slice xe)){B:Nat}{s x:Sl}{t':TypeId}{vs us:List Value}{K:Sl->Wp}
  (hs:Am w B s e sz vs) (hx:Dx w x t' sz us) (h1:∀v∈us,Eb v=true) (hroom:(s.len+x.len+(s.len+x.len)/4+512)*bytes<=2^48) (hB:B<=w.heap.size)
  (h:∀s' w',Am w' B s' e sz (vs++us)->s'.len=s.len+x.len->Upd s.blk w w'->(∀k,s'.blk k->s.blk k\/w.heap.size<=k)->K s' w') :
  Dy P (.one (.one .sl)) (Builtin.append_ #[ts,xt] rt #[.slice s.a s.len s.cap,.slice x.a x.len x.cap]) K w:=by exact Ed E hxt hs hx.x h1 hroom hB h
def Nr {s:Sl}{t:TypeId}{sz:Nat}{vs:List Value}{l h m:Int}{K:Sl->Wp}(hs:Dx w s t sz vs) (h0:0<=l) (h1:l<=h) (h2:h<=s.len) (h3:h<=m) (h4:m<=s.cap)
  (hK:∀s',Dx w s' t sz ((vs.drop (l.toNat*sz)).take ((h.toNat-l.toNat)*sz))->s'.len=h.toNat-l.toNat->(s'.a=none↔s.a=none)->(∀k,s'.blk k->s.blk k)->K s' w):slc s.a l h m s.cap sz K w:=by
 refine ⟨(),⟨h0,h1,h3,h4⟩,hK _ ⟨?_,?_,?_⟩ rfl ?_ ?_⟩;{show ((vs.drop (l.toNat*sz)).take ((h.toNat-l.toNat)*sz)).length=(h.toNat-l.toNat)*sz;rw [nG,nH,hs.len,←Nat.sub_mul];exact nI (mY _ (by omega))};{show h.toNat-l.toNat<=m.toNat-l.toNat;omega}
 ·rcases hs.at_ with ⟨ha,hc⟩|⟨b,off,c,fr,ha,hb,hcap,hv⟩;{refine .inl ⟨?_,?_⟩;{show (if m.toNat=l.toNat then s.a else s.a.map _)=none;rw [ha];split<;>rfl};{show m.toNat-l.toNat=0;omega}}
  ·have hin:∀j v,((vs.drop (l.toNat*sz)).take ((h.toNat-l.toNat)*sz))[j]?=some v->c[off+l.toNat*sz+j]?=some v:=by
    intro j v hj
    rw [nJ] at hj
    split at hj
    ·rw [nK] at hj
     rw [Nat.add_assoc];exact hv _ _ hj
    ·cases hj
   by_cases hml:m.toNat=l.toNat;{refine .inr ⟨b,off,c,fr,?_,hb,?_,?_⟩;{show (if m.toNat=l.toNat then s.a else s.a.map _)=_;rw [iK hml,ha]};{show off+(m.toNat-l.toNat)*sz<=c.size;rw [hml,nM,mW];omega};{intro j v hj;have:h.toNat-l.toNat=0:=(by omega);rw [this,mW] at hj;cases hj}};{refine .inr ⟨b,off+l.toNat*sz,c,fr,?_,hb,?_,hin⟩;{show (if m.toNat=l.toNat then s.a else s.a.map _)=_;rw [iP hml,ha,Fj];simp [addr_add]};{show off+l.toNat*sz+(m.toNat-l.toNat)*sz<=c.size;(have:l.toNat*sz+(m.toNat-l.toNat)*sz=m.toNat*sz:=by rw [←mX];congr 1;omega);have h5:m.toNat*sz<=s.cap*sz:=mY _ (by omega);omega}}
 {show (if m.toNat=l.toNat then s.a else s.a.map _)=none↔_;split<;>simp}
 ·rintro k ⟨p,hp,rfl⟩;have hp:(if m.toNat=l.toNat then s.a else s.a.map (·.add (scaled l.toNat sz)))=some p:=hp;split at hp;{exact ⟨p,hp,rfl⟩}
  ·cases ha:s.a with
   |none=>rw [ha] at hp;cases hp
   |some q=>rw [ha] at hp;cases hp;exact ⟨q,ha,by unfold Addr.add;split<;>rfl⟩
def Bx4 {B:Nat}{s:Sl}{t:TypeId}{sz:Nat}{vs:List Value}{l h m:Int}{K:Sl->Wp}(hs:Am w B s t sz vs) (h0:0<=l) (h1:l<=h) (h2:h<=s.len) (h3:h<=m) (h4:m<=s.cap)
  (hK:∀s',Am w B s' t sz ((vs.drop (l.toNat*sz)).take ((h.toNat-l.toNat)*sz))->s'.len=h.toNat-l.toNat->(s'.a=none↔s.a=none)->(∀k,s'.blk k->s.blk k)->K s' w):slc s.a l h m s.cap sz K w:=by refine Nr (K:=λs' w'=>s'.len=h.toNat-l.toNat->K s' w') hs.in h0 h1 h2 h3 h4 (λs' hi hl ha hb _=>hK s' ⟨hi.len,hi.le,?_⟩ hl ha hb)|>λ⟨u,hc,hk⟩=>⟨u,hc,hk rfl⟩;rcases hi.at_ with h|⟨b,off,c,fr,ha',hb',hrest⟩;{exact .inl h};{obtain ⟨p,hp,hpb⟩:=hb b ⟨_,ha',rfl⟩;rcases hs.at_ with ⟨hn,_⟩|⟨b2,off2,c2,ha2,hB,hb2,_⟩;{rw [hn] at hp;cases hp};{rw [ha2] at hp;cases hp;simp only at hpb;subst hpb;rw [hb2] at hb';cases hb';exact .inr ⟨b2,off,_,ha',hB,hb2,hrest⟩}}
structure Cp9 (P:Program) (t:TypeId) (z:Value):Prop where
 ok:∃kt et,P.underlying t=some (.map kt et)/\P.underlying kt=some (.int .i64)/\∀w,(zeroValue et).run P w=.ok z w
def Cp9.of {t kt et:TypeId}{i ik ie:Inf}(h:Aq P t i) (hk:Aq P kt ik) (he:Aq P et ie) (hd:i.desc=.map kt et) (hkd:ik.desc=.int .i64){z:Value}(hz:ie.zero=some z):Cp9 P t z :=
 ⟨kt,et,by rw [h.und,hd],by rw [hk.und,hkd],λw=>he.Ql w hz⟩
def Kz {m:Nat}{o o':Obj}(hm:w.heap[m]?=some o):Upd (λk=>k=m) w { w with heap:=w.heap.setIfInBounds m o' }/\(w.heap.setIfInBounds m o')[m]?=some o':=by have hlt:=lt_of_heap hm;refine ⟨⟨rfl,rfl,rfl,by simp,λk hk hn=>?_⟩,by simp [hlt]⟩;simp only;rw [lT (λh=>hn h.symm)]
def Tf {α β:Type}(f:α->β):∀(l:List α) (j:Nat),(l.eraseIdx j).map f=(l.map f).eraseIdx j
 |[],j=>by simp
 |x::r,0=>by simp
 |x::r,j+1=>by simp [Tf f r j]
def Ac {b:Bool}{A B:World->Prop}(h1:b=true->A w) (h2:b=false->B w):sif b A B w:=⟨h1,h2⟩
def Ai {T:Type}{body:(T->Wp)->Wp}{rest:T->Wp}(J:T->Wp) (hb:body J w) (hr:∀s w',J s w'->rest s w'):join body rest w:=⟨J,hb,hr⟩
def Bo {T:Type}{body:T->(T->Wp)->Wp}{s0:T}(I:T->Wp) (μ:T->World->Nat) (h0:I s0 w)
  (hr:∀s w',I s w'->body s (λs' w''=>I s' w''/\μ s' w''<μ s w') w'):Jh body s0 w:=⟨I,μ,h0,hr⟩
def Bc {p K:World->Prop}(h1:p w) (h2:K w):keep p K w:=⟨h1,h2⟩
def Ea {c:Prop}{K:World->Prop}(h1:c) (h2:K w):chk c K w:=⟨(),h1,h2⟩
def Di {a b:Bool}(h:a=true↔b=true):(a,())=(b,()):=by rw [nN.2 h]
def Al7 {c:Cell}{s:Sl}{t:TypeId}{xs:List c.T}{n:Int}{K:Addr->c.T->Wp}(h:Dx w s t 1 (xs.map c.val)) (h0:0<=n){x:c.T}(hx:xs[n.toNat]?=some x) (hK:∀p,K p x w) :
  ix s.a s.len n (λp=>ld c (p.add (scaled (Int.toNat n) 1)) (K p)) w:=by have hlt:=(lY.1 hx).1;have hl:=h.len;rw [nO,kX] at hl;refine h.ix h0 (by omega) (by omega) λb off ha hv=>?_;rw [addr_add];refine Ax1 (x:=x) ?_ (hK _);have:=hv 0 (c.val x) (by rw [kX,Nat.add_zero,nP,hx];rfl);simpa [scaled] using this
def Dx.len1 {s:Sl}{t:TypeId}{vs:List Value}(h:Dx w s t 1 vs):vs.length=s.len:=by have:=h.len;omega
def Am.len1 {B:Nat}{s:Sl}{t:TypeId}{vs:List Value}(h:Am w B s t 1 vs):vs.length=s.len:=by have:=h.len;omega
end
structure St (M:Nat->Prop) (w0 w:World) (ls:List (Nat×Obj)):Prop where
 upd:Upd M w0 w
 old:∀k,M k->k<w0.heap.size
 loc:∀x∈ls,w.heap[x.1]?=some x.2/\w0.heap.size<=x.1
 nd:(ls.map (·.1)).Nodup
section
variable {M:Nat->Prop}{w0 w:World}{ls:List (Nat×Obj)}
def St.start (w:World):St (λ_=>False) w w []:=⟨Upd.refl _ _,λ_ h=>h.elim,(λ_ h=>by cases h),jX⟩
def St.Bx0 (M:Nat->Prop) (w:World) (h:∀k,M k->k<w.heap.size):St M w w []:=⟨Upd.refl _ _,h,(λ_ h=>by cases h),jX⟩
def St.at_ (S:St M w0 w ls) (i:Nat){b:Nat}{o:Obj}(h:ls[i]?=some (b,o)):w.heap[b]?=some o:=(S.loc _ (lU h)).1
def St.ge (S:St M w0 w ls) (i:Nat){b:Nat}{o:Obj}(h:ls[i]?=some (b,o)):w0.heap.size<=b:=(S.loc _ (lU h)).2
def St.step (S:St M w0 w ls){M':Nat->Prop}{w':World}(u:Upd M' w w') (hM:∀k,M' k->M k):St M w0 w' ls :=
 ⟨S.upd.new u λk _ h=>hM k h,S.old,λx hx=>⟨u.get (S.loc x hx).1 λh=>by have:=S.old _ (hM _ h);have:=(S.loc x hx).2;omega,(S.loc x hx).2⟩,S.nd⟩
def St.ext (S:St M w0 w ls){w':World}(u:Ext w w'):St M w0 w' ls:=S.step u λ_ h=>h.elim
def St.fresh (S:St M w0 w ls){M':Nat->Prop}{w':World}(u:Upd M' w w') (hM:∀k,M' k->M k\/w0.heap.size<=k) (hb:∀x∈ls,¬M' x.1):St M w0 w' ls :=
 ⟨S.upd.new u λk hk h=>(hM k h).resolve_right (by omega),S.old,λx hx=>⟨u.get (S.loc x hx).1 (hb x hx),(S.loc x hx).2⟩,S.nd⟩
def St.tail {x:Nat×Obj}(S:St M w0 w (x::ls)):St M w0 w ls:=⟨S.upd,S.old,λy hy=>S.loc y (iO _ hy),(jT.1 S.nd).2⟩
def St.Cb5 (S:St M w0 w ls){o:Obj}{K:Nat->Wp}(h:∀b w1,St M w0 w1 ((b,o)::ls)->Ext w w1->b=w.heap.size->K b w1):Go.Vx.Ak o K w:=by refine Ag λb w1 e n hb _=>h b w1 ⟨S.upd.new e λ_ _ h=>h.elim,S.old,λx hx=>?_,?_⟩ e hb;{rcases iL.1 hx with rfl|hx;{exact ⟨n,by rw [hb];exact S.upd.size⟩};{exact ⟨e.ext_get (S.loc x hx).1,(S.loc x hx).2⟩}};{refine jT.2 ⟨λhm=>?_,S.nd⟩;obtain ⟨x,hx,he⟩:=nT.1 hm;have:=lt_of_heap (S.loc x hx).1;simp only at he;omega}
def St.Ak (S:St M w0 w ls){o:Obj}{K:Nat->Wp}(h:∀b w1,St M w0 w1 ((b,o)::ls)->Ext w w1->K b w1):Go.Vx.Ak o K w:=S.Cb5 λb w1 S e _=>h b w1 S e
def St.drew (S:St M w0 w ls){K:World->Prop}(h:∀w1,St M w0 w1 ls->Ext w w1->w1.heap=w.heap->K w1):Go.Vx.drew K w:=Az λw1 e he=>h w1 (S.ext e) e he
def St.ld (S:St M w0 w ls) (i:Nat){c:Cell}{b off:Nat}{K:c.T->Wp}{x:c.T}{cs:Array Value}{t:TypeId}{fr:Nat×Nat}(hi:ls[i]?=some (b,.cells cs t fr)) (hc:cs[off]?=some (c.val x)) (h:K x w) :
  Go.Vx.ld c ⟨b,off,none⟩ K w:=Af (S.at_ i hi) hc h
def St.lds (S:St M w0 w ls) (i:Nat){cs:List Cell}{b:Nat}{K:Cells.T cs->Wp}(x:Cells.T cs){t:TypeId}{fr:Nat×Nat}(hi:ls[i]?=some (b,.cells (Cells.vals cs x).toArray t fr)) (h:K x w) :
  Go.Vx.lds cs ⟨b,0,none⟩ K w:=Dp (S.at_ i hi) (λj v hv=>by rw [kY];simpa using hv) h
def Cc (vs:List Value) (c:Array Value) (h:c.size=vs.length):setRow c 0 vs=vs.toArray:=by apply Array.ext_getElem?;intro i;by_cases hi:i<vs.length;{have:=Nz vs c 0 i (by omega) hi;rw [kY] at this;rw [this];simp};{rw [Si _ _ _ _ (by omega)];simp [nU,h,Nat.le_of_not_lt hi]}
def Ao8 {i b:Nat}{o o':Obj}{w1:World}(S:St M w0 w ls) (hi:ls[i]?=some (b,o)) (u:Upd (λk=>k=b) w w1) (hb:w1.heap[b]?=some o'):St M w0 w1 (ls.set i (b,o')):=by
 have hge:=S.ge i hi;refine ⟨S.upd.new u λk hk h=>by omega,S.old,λx hx=>?_,?_⟩;{obtain ⟨j,hj⟩:=nV hx;rw [nX] at hj;split at hj;{split at hj;{cases hj;exact ⟨hb,hge⟩};{cases hj}};{rename_i hne;have hm:=lU hj;refine ⟨u.get (S.loc x hm).1 λe=>?_,(S.loc x hm).2⟩;have hnd:=S.nd;(have h1:(ls.map (·.1))[i]?=some b:=by rw [nP,hi];rfl);(have h2:(ls.map (·.1))[j]?=some b:=by rw [nP,hj,←e];rfl);have hil:=(lY.1 h1).1;exact hne ((List.getElem?_inj hil hnd).1 (h1.trans h2.symm))}}
 ·rw [List.map_set];(have h1:(ls.map (·.1))[i]?=some b:=by rw [nP,hi];rfl);have e:(ls.map (·.1)).set i b=ls.map (·.1):=by
   apply nY
   intro j
   rw [nX]
   split
   ·rename_i hij
    subst hij
    rw [h1]
    split
    ·rfl
    ·rename_i hn;exact absurd (lY.1 h1).1 hn
   ·rfl
  simp only;rw [e];exact S.nd
def St.Ah (S:St M w0 w ls) (i:Nat){b n:Nat}{vs:Array Value}{K:World->Prop}{c:Array Value}{t:TypeId}(hi:ls[i]?=some (b,.cells c t (0,0))) (hn:vs.size=n) (hc:c.size=n) (h1:vs.toList.all Eb=true)
  (h:∀w1,St M w0 w1 (ls.set i (b,.cells vs t (0,0)))->Upd (λk=>k=b) w w1->K w1):Go.Vx.Ah ⟨b,0,none⟩ (.agg vs) n K w:=by refine Ba (S.at_ i hi) hn h1 (by omega) λw1 u hb _=>h w1 ?_ u;rw [Cc vs.toList c (by simp;omega)] at hb;exact Ao8 S hi u (by simpa using hb)
def St.stC (S:St M w0 w ls) (i:Nat){b off:Nat}{v:Value}{K:World->Prop}{c:Array Value}{t:TypeId}(hi:ls[i]?=some (b,.cells c t (0,0))) (ho:off<c.size)
  (h:∀w1,St M w0 w1 (ls.set i (b,.cells (c.setIfInBounds off v) t (0,0)))->Upd (λk=>k=b) w w1->K w1):Go.Vx.stC ⟨b,off,none⟩ v K w :=
 Dj (S.at_ i hi) ho λw1 u hb _=>h w1 (Ao8 S hi u hb) u
def St.Iz (S:St M w0 w ls){n:Nat}{t:TypeId}{vs c:Array Value}{K:Nat->Wp}(hn:vs.size=n) (hc:c.size=n) (h1:vs.toList.all Eb=true)
  (h:∀b w1,St M w0 w1 ((b,.cells vs t (0,0))::ls)->Ext w w1->K b w1):Go.Vx.Ak (.cells c t) (λb=>Go.Vx.Ah (at0 b) (.agg vs) n (K b)) w:=by refine S.Cb5 λb w1 S1 e1 hb=>S1.Ah 0 rfl hn hc h1 λw2 S2 u2=>h b w2 S2 (e1.step u2 ?_);rintro k rfl;omega
def Am.box {B:Nat}{s:Sl}{t t':TypeId}{sz:Nat}{vs:List Value}{b:Nat}{c:Array Value}{fr:Nat×Nat}{w1:World}(h:Am w B s t sz vs) (hb:w.heap[b]?=some (.cells c t' fr)) (ht:t≠t') (u:Upd (λk=>k=b) w w1):Am w1 B s t sz vs:=by refine h.upd u λk _ hk e=>?_;obtain ⟨p,hp,rfl⟩:=hk;rcases h.at_ with ⟨hn,_⟩|⟨b',off,c',ha,_,hb',_⟩;{rw [hn] at hp;cases hp};{rw [ha] at hp;cases hp;simp only at e;rw [e,hb] at hb';cases hb';exact ht rfl}
def Dx.Jk {b n sz:Nat}{c:Array Value}{t:TypeId}{fr:Nat×Nat}(hb:w.heap[b]?=some (.cells c t fr)) (h:c.size=n*sz):Dx w ⟨some (at0 b),n,n⟩ t sz c.toList :=
 ⟨by simpa using h,mJ _,.inr ⟨b,0,c,fr,rfl,hb,by simp only;omega,λi v hv=>by rw [kY];simpa using hv⟩⟩
def St.keep (S:St M w0 w ls) (i:Nat){b off:Nat}{v:Value}{cs:Array Value}{t:TypeId}{fr:Nat×Nat}{K:World->Prop}(hi:ls[i]?=some (b,.cells cs t fr)) (hc:cs[off]?=some v) (h:K w) :
  Go.Vx.keep (λw=>w.cell? ⟨b,off,none⟩=some v) K w:=⟨cell_of (S.at_ i hi) hc,h⟩
def St.keeps (S:St M w0 w ls) (i:Nat){b:Nat}{cs:List Cell}{x:Cells.T cs}{t:TypeId}{fr:Nat×Nat}{K:World->Prop}(hi:ls[i]?=some (b,.cells (Cells.vals cs x).toArray t fr)) (h:K w) :
  Go.Vx.keep (λw=>Ez w ⟨b,0,none⟩ 0 (Cells.vals cs x)) K w :=
 ⟨Gh _ 0 λj v hj=>by rw [kY,kY];exact cell_of (S.at_ i hi) (by simpa using hj),h⟩
end
def Gn:∀(cs:List Cell) (x:Cells.T cs),(Cells.vals cs x).length=cs.length
 |[],_=>rfl
 |c::r,x=>by simp [Cells.vals,Gn r x.2]
def flat (cs:List Cell) (xs:List (Cells.T cs)):List Value:=xs.flatMap (Cells.vals cs)
def Ls (cs:List Cell) (xs ys:List (Cells.T cs)):flat cs (xs++ys)=flat cs xs++flat cs ys:=by simp [flat]
def Cd3 (cs:List Cell) (x:Cells.T cs):flat cs [x]=Cells.vals cs x:=by simp [flat]
def Jp (cs:List Cell):∀xs:List (Cells.T cs),(flat cs xs).length=xs.length*cs.length
 |[]=>by simp [flat]
 |x::r=>by
  have:=Jp cs r
  simp only [flat] at this ⊢
  rw [nZ,oC,Gn,this,kE,oD]
  omega
def flat_get (cs:List Cell):∀(xs:List (Cells.T cs)) (n j:Nat) (x:Cells.T cs),xs[n]?=some x->j<cs.length->(flat cs xs)[n*cs.length+j]?=(Cells.vals cs x)[j]?
 |[],n,j,x,h,_=>by simp at h
 |y::r,0,j,x,h,hj=>by
  simp at h
  subst h
  simp only [flat,nZ,mW,kY]
  rw [mZ (by rw [Gn];exact hj)]
 |y::r,n+1,j,x,h,hj=>by
  have ih:=flat_get cs r n j x (by simpa using h) hj
  simp only [flat,nZ] at ih ⊢
  rw [nC (by rw [Gn,oD];omega),Gn,←ih]
  congr 1
  rw [oD];omega
section
variable {w:World}
def Dx.Py {s:Sl}{t:TypeId}{cs:List Cell}{xs:List (Cells.T cs)}(h:Dx w s t cs.length (flat cs xs)) (hc:0<cs.length):xs.length=s.len:=by have:=h.len;rw [Jp] at this;exact oG hc this
def Am.Py {B:Nat}{s:Sl}{t:TypeId}{cs:List Cell}{xs:List (Cells.T cs)}(h:Am w B s t cs.length (flat cs xs)) (hc:0<cs.length):xs.length=s.len:=h.in.Py hc
def Xv {cs:List Cell}{s:Sl}{t:TypeId}{xs:List (Cells.T cs)}{n:Int}{K:Addr->Cells.T cs->Wp}(h:Dx w s t cs.length (flat cs xs)) (hc:0<cs.length) (h0:0<=n){x:Cells.T cs}(hx:xs[n.toNat]?=some x) (hK:∀p,K p x w) :
  ix s.a s.len n (λp=>lds cs (p.add (scaled (Int.toNat n) cs.length)) (K p)) w:=by
 have hlt:=(lY.1 hx).1;have hl:=h.Py hc;refine h.ix h0 (by omega) hc λb off ha hv=>?_;rw [addr_add];refine ⟨x,Gh _ 0 λj v hj=>?_,hK _⟩;have hjl:j<cs.length:=by
  have:=(lY.1 hj).1
  rwa [Gn] at this
 have:=hv j v (by rw [flat_get cs xs _ j x hx hjl];exact hj);simpa [Fj] using this
def Zw {c:Cell}{cs:List Cell}{s:Sl}{t:TypeId}{xs:List (Cells.T cs)}{n:Int}{j:Nat}{K:Addr->c.T->Wp}(h:Dx w s t cs.length (flat cs xs)) (h0:0<=n){x:Cells.T cs}{y:c.T}(hx:xs[n.toNat]?=some x) (hy:(Cells.vals cs x)[j]?=some (c.val y)) (hK:∀p,K p y w) :
  ix s.a s.len n (λp=>ld c ((p.add (scaled (Int.toNat n) cs.length)).add j) (K p)) w:=by
 have hlt:=(lY.1 hx).1;have hjl:j<cs.length:=by
  have:=(lY.1 hy).1
  rwa [Gn] at this
 have hl:=h.Py (by omega);refine h.ix h0 (by omega) (by omega) λb off ha hv=>?_;rw [addr_add,addr_add];refine Ax1 (x:=y) ?_ (hK _);have:=hv j (c.val y) (by rw [flat_get cs xs _ j x hx hjl];exact hy);simpa [Fj] using this
def Ky {c:Cell}{cs:List Cell}{s:Sl}{t:TypeId}{xs:List (Cells.T cs)}{n:Int}{K:Addr->c.T->Wp}(h:Dx w s t cs.length (flat cs xs)) (h0:0<=n){x:Cells.T cs}{y:c.T}(hx:xs[n.toNat]?=some x) (hy:(Cells.vals cs x)[0]?=some (c.val y)) (hK:∀p,K p y w) :
  ix s.a s.len n (λp=>ld c (p.add (scaled (Int.toNat n) cs.length)) (K p)) w:=by
 have hlt:=(lY.1 hx).1;have hjl:0<cs.length:=by
  have:=(lY.1 hy).1
  rwa [Gn] at this
 have hl:=h.Py (by omega);refine h.ix h0 (by omega) (by omega) λb off ha hv=>?_;rw [addr_add];refine Ax1 (x:=y) ?_ (hK _);have:=hv 0 (c.val y) (by rw [flat_get cs xs _ 0 x hx hjl];exact hy);simpa [Fj] using this
def SlX.Bl7 {s:Sl}{sz:Nat}{vs:List Value}(h:SlX w s sz vs) (hl:0<s.len):∃t,Dx w s t sz vs:=by rcases h.at_ with ⟨h1,_⟩|h;{omega};{exact h}
def SlX.len1 {s:Sl}{vs:List Value}(h:SlX w s 1 vs):vs.length=s.len:=by have:=h.len;omega
def SlX.Py {s:Sl}{cs:List Cell}{xs:List (Cells.T cs)}(h:SlX w s cs.length (flat cs xs)) (hc:0<cs.length):xs.length=s.len:=by have:=h.len;rw [Jp] at this;exact oG hc this
def Nk {c:Cell}{s:Sl}{xs:List c.T}{n:Int}{K:Addr->c.T->Wp}(h:SlX w s 1 (xs.map c.val)) (h0:0<=n){x:c.T}(hx:xs[n.toNat]?=some x) (hK:∀p,K p x w) :
  ix s.a s.len n (λp=>ld c (p.add (scaled (Int.toNat n) 1)) (K p)) w:=by have hlt:=(lY.1 hx).1;have hl:=h.len1;rw [nO] at hl;obtain ⟨t,h⟩:=h.Bl7 (by omega);exact Al7 h h0 hx hK
def Aq4 {cs:List Cell}{s:Sl}{xs:List (Cells.T cs)}{n:Int}{K:Addr->Cells.T cs->Wp}(h:SlX w s cs.length (flat cs xs)) (hc:0<cs.length) (h0:0<=n){x:Cells.T cs}(hx:xs[n.toNat]?=some x) (hK:∀p,K p x w) :
  ix s.a s.len n (λp=>lds cs (p.add (scaled (Int.toNat n) cs.length)) (K p)) w:=by have hlt:=(lY.1 hx).1;have hl:=h.Py hc;obtain ⟨t,h⟩:=h.Bl7 (by omega);exact Xv h hc h0 hx hK
end
section
variable {S:Nat->Prop}{w w':World}
def Dx.Bf {s:Sl}{t:TypeId}{sz:Nat}{vs:List Value}(h:Dx w s t sz vs){k:Nat}(hk:s.blk k):∃c fr,w.heap[k]?=some (.cells c t fr):=by obtain ⟨p,hp,rfl⟩:=hk;rcases h.at_ with ⟨hn,_⟩|⟨b,off,c,fr,h1,h2,_⟩;{rw [hn] at hp;cases hp};{rw [h1] at hp;cases hp;exact ⟨c,fr,h2⟩}
def Et (w:World) (S:Nat->Prop) (t:TypeId):Prop:=∀k,S k->∀c fr,w.heap[k]?≠some (.cells c t fr)
def Dx.ty {s:Sl}{t:TypeId}{sz:Nat}{vs:List Value}(h:Dx w s t sz vs) (u:Upd S w w') (hS:Et w S t):Dx w' s t sz vs :=
 h.upd u λk hk hSk=>by obtain ⟨c,fr,hc⟩:=h.Bf hk;exact hS k hSk c fr hc
def Am.ty {B:Nat}{s:Sl}{t:TypeId}{sz:Nat}{vs:List Value}(h:Am w B s t sz vs) (u:Upd S w w') (hS:Et w S t):Am w' B s t sz vs :=
 h.upd u λk _ hk hSk=>by obtain ⟨c,fr,hc⟩:=h.in.Bf hk;exact hS k hSk c fr hc
def Et.blk {s:Sl}{t t':TypeId}{sz:Nat}{vs:List Value}(h:Dx w s t sz vs) (ht:t≠t'):Et w s.blk t':=by intro k hk c fr hc;obtain ⟨c',fr',hc'⟩:=h.Bf hk;rw [hc] at hc';cases hc';exact ht rfl
def Et.box {b:Nat}{t t':TypeId}{c:Array Value}{fr:Nat×Nat}(h:w.heap[b]?=some (.cells c t fr)) (ht:t≠t'):Et w (λk=>k=b) t':=by rintro k rfl c' fr' hc;rw [hc] at h;cases h;exact ht rfl
structure Cf9 (w:World) (B:Nat) (s:Sl) (t2 t1:TypeId) (vs:List Sl) (ls:List (List Value)):Prop where
 row:Am w B s t2 1 (vs.map λs=>.slice s.a s.len s.cap)
 len:vs.length=ls.length
 txt:∀(i:Nat) (x:Sl) (l:List Value),vs[i]?=some x->ls[i]?=some l->Dx w x t1 1 l
def Cf9.push {P:Program}{ts rt:TypeId}{B:Nat}{s:Sl}{t2 t1:TypeId}{vs:List Sl}{ls:List (List Value)}{x:Sl}{l:List Value}{b:Nat}{K:Sl->Wp}(h:Cf9 w B s t2 t1 vs ls){bytes:Nat}(E:Fh P ts t2 1 bytes) (hx:Dx w x t1 1 l) (ht:t2≠t1)
  (hb:w.heap[b]?=some (.cells #[.slice x.a x.len x.cap] t2 (0,0))) (hroom:(s.len+1+(s.len+1)/4+512)*bytes<=2^48) (hB:B<=w.heap.size)
  (hK:∀s' w',Cf9 w' B s' t2 t1 (vs++[x]) (ls++[l])->Upd s.blk w w'->(∀k,s'.blk k->s.blk k\/w.heap.size<=k)->K s' w') :
  Dy P (.one (.one .sl)) (Builtin.append_ #[ts,ts] rt #[.slice s.a s.len s.cap,.slice (some (at0 b)) 1 1]) K w:=by have hone:Dx w ⟨some (at0 b),1,1⟩ t2 1 [.slice x.a x.len x.cap]:=Dx.Jk (n:=1) (sz:=1) hb rfl;refine Zc (x:=⟨some (at0 b),1,1⟩) E E.ts_ h.row hone (λv hv=>by simp at hv;subst hv;rfl) hroom hB λs' w2 o2 _ u2 hbk=>hK s' w2 ⟨by simpa using o2,by simp [h.len],λi y l' hy hl=>?_⟩ u2 hbk;have hno:=Et.blk h.row.in ht;by_cases hi:i<vs.length;{rw [mZ hi] at hy;rw [mZ (by rw [←h.len];exact hi)] at hl;exact (h.txt i y l' hy hl).ty u2 hno};{rw [nC (by omega)] at hy;rw [nC (by rw [←h.len];omega)] at hl;(have h0:i-vs.length=0:=by have:=(lY.1 hy).1;simp at this;omega);rw [←h.len,h0] at hl;rw [h0] at hy;cases hy;cases hl;exact hx.ty u2 hno}
def Aq9 {P:Program}{t:TypeId}(n:Nat) (hu:P.underlying t=some .bool) (x y:Bool) (w:World):(Op.equalIn (n+1) t (.bool x) (.bool y)).run P w=.ok (x==y) w:=by simp only [Op.equalIn,iH,jZ hu,iI];rfl
def Bg8 {P:Program}{t:TypeId}(hu:P.underlying t=some .bool) (x y:Bool) (w:World):(Op.equal t (.bool x) (.bool y)).run P w=.ok (x==y) w :=
 Aq9 9999 hu x y w
def Pq {P:Program}{t:TypeId}(hu:P.underlying t=some .bool){x y:Bool}{o1 o2:Operand}{K:Bool->Wp}(h:K (x==y) w):rdB P (do eqGuard .eql t o1 o2 (.bool x) (.bool y);binOp .eql t (.bool x) (.bool y):Sem Value) K w:=by refine ⟨_,?_,h⟩;have h1:(eqGuard .eql t o1 o2 (.bool x) (.bool y)).run P w=.ok () w:=rfl;simp only [iH,h1,iI,binOp,Bg8 hu];rfl
end
structure Iter (w:World) (r m:Nat) (es done:List MapEntry):Prop where
 at_:∃clock,w.heap[m]?=some (.map es.toArray clock)/\(∀x∈es,x.born<clock)/\w.heap[r]?=some (.mapIter (some m) clock (done.map (·.born)).toArray clock)
 nd:(es.map (·.born)).Nodup
 sub:∀x∈done,x∈es
 dnd:(done.map (·.born)).Nodup
section
variable {S:Nat->Prop}{w w':World}{P:Program}
def Iter.ne {r m:Nat}{es done:List MapEntry}(h:Iter w r m es done):r≠m:=by rintro rfl;obtain ⟨c,h1,_,h2⟩:=h.at_;rw [h1] at h2;cases h2
def Iter.upd {r m:Nat}{es done:List MapEntry}(h:Iter w r m es done) (u:Upd S w w') (h1:¬S r) (h2:¬S m):Iter w' r m es done:=by obtain ⟨c,g1,g2,g3⟩:=h.at_;exact ⟨⟨c,u.get g1 h2,g2,u.get g3 h1⟩,h.nd,h.sub,h.dnd⟩
def Iter.ext {r m:Nat}{es done:List MapEntry}(h:Iter w r m es done) (u:Ext w w'):Iter w' r m es done:=h.upd u id id
def Iter.cells {r m:Nat}{es done:List MapEntry}(h:Iter w r m es done) (u:Upd S w w') (hS:∀k,S k->∃c t fr,w.heap[k]?=some (.cells c t fr)):Iter w' r m es done:=by obtain ⟨c,g1,g2,g3⟩:=h.at_;refine h.upd u (λhk=>?_) (λhk=>?_);{obtain ⟨c,t,fr,hc⟩:=hS _ hk;rw [g3] at hc;cases hc};{obtain ⟨c,t,fr,hc⟩:=hS _ hk;rw [g1] at hc;cases hc}
def born_inj {es:List MapEntry}(hn:(es.map (·.born)).Nodup){x y:MapEntry}(hx:x∈es) (hy:y∈es) (h:x.born=y.born):x=y:=by
 induction es with
 |nil=>cases hx
 |cons z r ih=>simp only [kV,jT] at hn;rcases iL.1 hx with h1|h1<;>rcases iL.1 hy with h2|h2;{rw [h1,h2]};{rw [h1] at h;exact absurd (nT.2 ⟨y,h2,h.symm⟩:z.born∈r.map (·.born)) hn.1};{rw [h2] at h;exact absurd (nT.2 ⟨x,h1,h⟩:z.born∈r.map (·.born)) hn.1};{exact ih hn.2 h1 h2}
def Kr {es:List MapEntry}(h:(es.map (·.born)).Nodup):es.Nodup:=(oH.1 h).imp λhne e=>hne (by rw [e])
def Cj0 {t kt et:TypeId}(ht:P.underlying t=some (.map kt et)){m clock:Nat}{es:List MapEntry}(hm:w.heap[m]?=some (.map es.toArray clock)) (hb:∀x∈es,x.born<clock) (hn:(es.map (·.born)).Nodup){K:Option Addr->Wp}
  (hK:∀r w',Iter w' r m es []->Ext w w'->r=w.heap.size->K (some (at0 r)) w'):Dy P (.one (.one .ptr)) (Instr.range t (.map (some m))) K w:=by have hg:(getObj m).run P w=.ok (.map es.toArray clock) w:=(by simp [getObj,Sem.run,hm]);refine ⟨some (at0 w.heap.size),w.alloc (.mapIter (some m) clock #[] clock),?_,hK _ _ ⟨⟨clock,(Ext.alloc w _).ext_get hm,hb,heap_alloc w _⟩,hn,(λx hx=>by cases hx),jX⟩ (Ext.alloc w _) rfl⟩;simp [Instr.range,jZ ht,hg,newObj,Sem.run,kZ,RTy.val,Ty.val,Cell.val]
def Vd (n:Nat) (hn:0<n):∃k w',(choose (.mapNext n)).run P w=.ok k w'/\k<n/\Ext w w'/\w'.heap=w.heap:=by by_cases h:n<=1;{refine ⟨0,w,?_,hn,Ext.refl w,rfl⟩;simp [choose,Sem.run,Question.forced,h]};{refine ⟨(Question.mapNext n).cut (w.tape w.drawn (.mapNext n)),w.drew,run_choose P _ (by simp [Question.forced,h]),?_,Ext.drew w,rfl⟩;exact oI _ hn}
def Be9 {r m:Nat}{es done:List MapEntry}(h:Iter w r m es done){t:TypeId}{K:Bool->List Value->Wp}
  (h0:∀w',Ext w w'->w'.heap=w.heap->done.Perm es->K false [] w')
  (h1:∀x w',x∈es->x∉done->Iter w' r m es (done++[x])->Upd (λk=>k=r) w w'->w'.heap.size=w.heap.size->K true [x.key,x.val] w') :
  Aw2 P (Instr.next (.pointer (some (at0 r))) false t) K w:=by
 obtain ⟨c,g1,g2,g3⟩:=h.at_;have hr:∀W:World,W.heap=w.heap->(getObj r).run P W=.ok (.mapIter (some m) c (done.map (·.born)).toArray c) W:=λW hW=>(by simp [getObj,Sem.run,hW,g3]);have hm:∀W:World,W.heap=w.heap->(getObj m).run P W=.ok (.map es.toArray c) W:=λW hW=>(by simp [getObj,Sem.run,hW,g1]);obtain ⟨left,hleft⟩:∃left,left=es.filter λe=>!(done.map (·.born)).contains e.born:=⟨_,rfl⟩;(have hl:(es.toArray.filter λe=>!(done.map (·.born)).toArray.contains e.born)=left.toArray:=by rw [hleft];simp);have hmem:∀x,x∈left↔x∈es/\x∉done:=by
  intro x
  rw [hleft,oJ]
  simp only [lG,List.contains_eq_mem,oK]
  refine ⟨λ⟨a,b⟩=>⟨a,λhd=>b (nT.2 ⟨x,hd,rfl⟩)⟩,λ⟨a,b⟩=>⟨a,λhd=>?_⟩⟩
  obtain ⟨y,hy,hyx⟩:=nT.1 hd
  rw [born_inj h.nd (h.sub y hy) a hyx] at hy
  exact b hy
 have hold:(left.toArray.filter λe=>decide (e.born<c))=left.toArray:=by
  apply kK
  simp only [oL]
  rw [oM.2]
  intro x hx
  simpa using g2 x ((hmem x).1 (by simpa using hx)).1
 have hnew:(left.toArray.filter λe=>decide (e.born>=c))=#[]:=by
  apply kK
  simp only [oL]
  rw [List.filter_eq_nil_iff.2]
  intro x hx
  have:=g2 x ((hmem x).1 (by simpa using hx)).1
  simp;omega
 have hun:(!(done.map (·.born)).toArray.isEmpty&&!es.toArray.isEmpty&&es.toArray.all (λe=>decide (e.born>=c)))=false:=by
  cases hes:es with
  |nil=>simp
  |cons x r=>have:=g2 x (by rw [hes];exact iM);simp [List.all_cons,this,Nat.not_le.2 this]
 cases hle:left with
 |nil=>rw [hle] at hold hnew hl hmem;obtain ⟨k,w',hc,hk,e,he⟩:=Vd (P:=P) (w:=w) 1 (by omega);have hk0:k=0:=(by omega);subst hk0;refine ⟨false,[],w',?_,h0 w' e he ?_⟩;{have hcand:((if (#[]:Array MapEntry).isEmpty=true then #[none] else #[])++((#[]:Array MapEntry)++#[]).map some:Array (Option MapEntry))=#[none]:=(by simp);have hs1:(#[none]:Array (Option MapEntry)).size=1:=rfl;simp only [Instr.next,iH,hr w rfl,hm w rfl,iI,hl,hun,kT,kU,iJ,hold,hnew,hcand,hs1,hc];rfl};{refine (oN (Kr h.dnd) (Kr h.nd)).2 λx=>⟨h.sub x,λhx=>?_⟩;by_cases hd:x∈done;{exact hd};{exact absurd ((hmem x).2 ⟨hx,hd⟩) (by simp)}}
 | cons y ys =>
  (have hpos:0<left.length:=by rw [hle];simp);obtain ⟨k,w',hc,hk,e,he⟩:=Vd (P:=P) (w:=w) left.length hpos;have hx:left[k]∈es/\left[k]∉done:=(hmem _).1 (oO _);have hset:∀o',(setObj r o').run P w'=.ok () { w' with heap:=w'.heap.setIfInBounds r o' }:=λo'=>(by simp [setObj,Sem.run,he,g3]);(have g3':w'.heap[r]?=some (.mapIter (some m) c (done.map (·.born)).toArray c):=by rw [he];exact g3);obtain ⟨u1,u2⟩:=Kz (o':=.mapIter (some m) c ((done.map (·.born)).toArray.push left[k].born) c) g3';refine ⟨true,[left[k].key,left[k].val],_,?_,h1 left[k] _ hx.1 hx.2 ⟨⟨c,?_,g2,?_⟩,h.nd,λz hz=>?_,?_⟩ (Upd.new (Upd.Ae e) u1 λ_ _ h=>h) (by simp [he])⟩
  ·(have hemp:left.toArray.isEmpty=false:=by rw [hle];rfl);have hcand:((if left.toArray.isEmpty then #[none] else #[])++(left.toArray++#[]).map some:Array (Option MapEntry))=(left.map some).toArray:=by
    rw [hemp];simp
   have hs1:((left.map some).toArray:Array (Option MapEntry)).size=left.length:=(by simp);have hget:((left.map some).toArray:Array (Option MapEntry))[k]?=some (some left[k]):=(by simp [oP hk]);simp only [Instr.next,iH,hr w rfl,hm w rfl,iI,hl,hun,kT,kU,iJ,hold,hnew,hcand,hs1,hc,hget,hset]
  {exact u1.get (by rw [he];exact g1) (λhh=>h.ne hh.symm)};{simp only [oQ,kV,oU];simpa using u2};{rcases jV.1 hz with hz|hz;{exact h.sub z hz};{simp at hz;subst hz;exact hx.1}};{rw [oQ,jR];refine ⟨h.dnd,by simp,λa ha b hb hab=>?_⟩;simp at hb;obtain ⟨z,hz,rfl⟩:=nT.1 ha;rw [hb] at hab;rw [born_inj h.nd (h.sub z hz) hx.1 hab] at hz;exact hx.2 hz}
def Bs6 {r m:Nat}{es done:List MapEntry}{x:MapEntry}(h:Iter w r m es (done++[x])):(Instr.entry (.pointer (some (at0 r)))).run P w=.ok (.tuple #[x.key,x.val]) w:=by
 obtain ⟨c,g1,g2,g3⟩:=h.at_;have hr:(getObj r).run P w=.ok (.mapIter (some m) c ((done++[x]).map (·.born)).toArray c) w:=(by simp [getObj,Sem.run,g3]);have hm:(getObj m).run P w=.ok (.map es.toArray c) w:=(by simp [getObj,Sem.run,g1]);have hf:es.find? (λe=>e.born==x.born)=some x:=by
  have hx:=h.sub x (by simp)
  cases hf:es.find? (λe=>e.born==x.born) with
  |none=>rw [oV] at hf;exact absurd (hf x hx) (by simp)
  |some y=>have h1:=List.find?_some hf;have h2:=oZ hf;rw [born_inj h.nd h2 hx (by simpa using h1)]
 simp [Instr.entry,hr,hm,hf]
def Ar0 {r m:Nat}{es done:List MapEntry}{x:MapEntry}(h:Iter w r m es (done++[x])){t:RTy}(y:t.T){K:t.T->Wp}(hy:.tuple #[x.key,x.val]=t.val y) (hK:K y w):Dy P t (Instr.entry (.pointer (some (at0 r)))) K w :=
 ⟨y,w,by rw [Bs6 h,hy],hK⟩
end
end Go.Vx
