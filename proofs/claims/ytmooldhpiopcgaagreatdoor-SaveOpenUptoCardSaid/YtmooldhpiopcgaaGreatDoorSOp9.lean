/- The law holds for every input: it returns true, and each argument reads behind the call as it did. Conditions: those of the form alone. -/
import Derived.Test.YtmooldhpiopcgaaGreatDoorSOp8
set_option linter.unusedVariables false
set_option linter.defProp false
set_option linter.unusedSimpArgs false
set_option linter.unusedSectionVars false
noncomputable section
set_option maxHeartbeats 2000000
namespace Go.Proofs.YtmooldhpiopcgaaGreatDoor
open Go.Proofs.Tryz
section
namespace Dq
open Go Go.Vx Go.ChangeShapes Go.WideShapes Go.RowKit
def Dr2 {a b:Bool}(h:a=true) (h':b=true):(a&&b)=true:=by rw [h,h'];rfl
def Zk (os:Os){H:Type}(enc:TypeId×Value->H) :
  (Rows.OpenSpec.upto Rows.saveOpenSpec).preRow enc prog Tryz.f9 Rows.saveOpenUptoRow.domain false Al6 ((laidWorld os).forCall (λ_ _=>0) ⟨#[],#[.agg #[vI 0,.slice none 0 0]],[]⟩).memory #[.agg #[vI 0,.slice none 0 0]]:=by
 have hw:(DataW.whole enc prog ((laidWorld os).forCall (λ_ _=>0) ⟨#[],#[.agg #[vI 0,.slice none 0 0]],[]⟩).memory Tryz.f9.params.toList (Rows.OpenSpec.upto Rows.saveOpenSpec).vars false (#[.agg #[vI 0,.slice none 0 0]]:Array Value).toList 8).map (λx=>(x.1,x.2.1)) =
   some ([.agg [.lit (.int .i64 0),.nil]],[]):=by kernel_rfl
 obtain ⟨⟨x1,x2,x3⟩,hx,hx1⟩:=rG.1 hw;simp only [kS] at hx1;obtain ⟨rfl,rfl⟩:=hx1;exact OpenSpec.preRow_of_cond 8 hx (by kernel_rfl) (λk hk=>by cases hk;kernel_rfl) (by kernel_rfl) (laid_met os _)
set_option maxRecDepth 100000 in
def Y8 (os:Os) (started:os.Started) (H:Type) (enc:TypeId×Value->H) (F:Stop.Interp) :
  ReturnsInHanded {} Tryz.checked os 9 .any ((Rows.OpenSpec.upto Rows.saveOpenSpec).preRow enc prog Tryz.f9 Rows.saveOpenUptoRow.domain false Al6) (((Rows.OpenSpec.upto Rows.saveOpenSpec).at F).post enc prog Tryz.f9 false true false false):=by
 refine returnsInHanded_of_row (C:=Tryz.checked) (s:=Rows.OpenSpec.upto Rows.saveOpenSpec) own started (by kernel_rfl) func9
  (witness_row_atRef (enc:=enc) (C:=Tryz.checked) false (laidWorld os) #[.agg #[vI 0,.slice none 0 0]] rfl (by kernel_rfl) (by kernel_rfl) (by kernel_rfl) (Zk os enc)) ?_
 intro W base args ds gs before hval0 hW _ hk hwt0 hL _ _;have hval:∀(j:Nat) t v,Tryz.f9.params[j]?=some t->args[j]?=some v->Value.okWide prog W .any base t v:=hval0;have hwt:(DataW.weightsEach prog (Tryz.f9.params.toList++[]) (ds++gs)).all (·<=reachBytes)=true:=hwt0;have hW':=hW;obtain ⟨p,q,hA0,hV,rfl,hfz,hnd⟩:=hW;have hA:DataW.TrodAll enc prog W 0 (λ_=>true) true Tryz.f9.params.toList args.toList ds p:=hA0;clear hA0 hval0 hwt0;rw [Tryz.params9] at hA hval hwt;obtain ⟨rfl,rfl⟩:=trodVars_none hV;obtain ⟨hn1,hn2,hT⟩:=N9 hA;obtain ⟨v0,hv⟩:=Cc4 args.toList hn1;(obtain rfl:args=#[v0]:=by cases args;simp_all);obtain ⟨d0,rfl⟩:=Cc4 ds hn2;have hbulk0:bulk d0<=1048576:=by
  have h:Rows.uptoBulkAll ([d0]++[])<=1048576:=jY (hk _ rfl)
  simp only [vP,Rows.uptoBulkAll] at h
  show Rows.uptoBulk d0<=_
  omega
 obtain ⟨p0,q0⟩:=hT 0 81 v0 d0 rfl rfl rfl;obtain ⟨space,ss,rows,rfl,hst⟩:=Cf6 (hval 0 81 v0 rfl rfl) q0 (weigh hwt 0 rfl rfl) hbulk0;have walk:=Be0 (Cl9 hL) hst (space:=space) (K:=λr w'=>r=true/\Ext W w') λw' e=>⟨rfl,e⟩;refine walk.mono λe W' ⟨x,he,hx,hext⟩=>⟨.bool true,?_,?_⟩;{subst hx;exact he}
 ·exact Bq4 (s:=Rows.saveOpenSpec) hW' rfl rfl u4 rfl laidOut (λt ht=>by
   rw [Tryz.params9] at ht
   have ht:t∈[81]:=ht
   simp only [iL,vC,vU] at ht
   exact Cw8 ht) hext
def Ad3:joinedFacts Tryz.pinned.checked.prog 9 Tryz.f9 (Rows.OpenSpec.upto Rows.saveOpenSpec).bare Rows.saveOpenUptoRow=true:=by
 unfold joinedFacts
 with_reducible repeat' apply Dr2
 all_goals as_aux_lemma=>kernel_rfl
def Ao9:Rows.SaveOpenUptoSaid :=
 OpenClaim.holds_of_cond 9 Tryz.f9 rfl rfl rfl rfl rfl rfl rfl ⟨rfl,rfl,rfl,rfl,rfl⟩ rfl rfl rfl rfl rfl (by as_aux_lemma=>kernel_rfl) func9 Ad3
  (jY (by as_aux_lemma=>kernel_rfl)) (by unfold Func.isWrapper;rw [iP (by as_aux_lemma=>decide +kernel)];exact ⟨rfl,rfl⟩)
  (λos started H enc _ F=>by rw [OpenClaim.pre_eq_preRow];exact Y8 os started H enc F)
end Dq
theorem saveOpen_holds:Rows.SaveOpenUptoCardSaid :=
 Claim7.holds_tied_plain_at .later [] [.handle] true (true, "8fa86d716e3cbb5d44ad5d616054dc9adf16b2d155b2b8fa930f25b85a3d54ce") true
  Dq.Ao9 (λ_ h=>by cases h) (by as_aux_lemma=>kernel_rfl) (λ_ h=>by cases h) saveOpenUpto_row_tie rfl ⟨rfl,rfl⟩ (by as_aux_lemma=>kernel_rfl) rfl
  (λf fn hf hfn=>by
   obtain rfl:f=9:=sW ((show prog.funcNamed "copyist/copyistlaw17.SaveOpen" = some 9 by as_aux_lemma=>kernel_rfl).symm.trans hf) |>.symm
   obtain rfl:fn=Tryz.f9:=(sW (func9.symm.trans hfn)).symm
   exact ⟨by as_aux_lemma=>kernel_rfl,λj t ht=>by
    rw [Tryz.params9] at ht
    have hm:t∈[81]:=by simpa using Array.mem_of_getElem? ht
    have hall:([81].all λu=>!prog.wantsStandIn u)=true:=by as_aux_lemma=>kernel_rfl
    exact (show prog.wantsStandIn t=false by simpa using iW.1 hall t hm)⟩)
  (by as_aux_lemma=>kernel_rfl)
end
end Go.Proofs.YtmooldhpiopcgaaGreatDoor
