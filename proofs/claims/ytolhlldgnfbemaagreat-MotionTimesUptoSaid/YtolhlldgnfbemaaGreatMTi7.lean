/- The law holds for every input: it returns true, and each argument reads behind the call as it did. Conditions: those of the form alone. -/
import Derived.Test.YtolhlldgnfbemaaGreatMTi6
set_option linter.unusedVariables false
set_option linter.unusedSimpArgs false
set_option linter.unusedSectionVars false
namespace Go.Proofs.YtolhlldgnfbemaaGreat
open Go Go.Vx Go.ChangeShapes Go.WideShapes Go.RowKit
set_option maxRecDepth 100000 in
theorem motionTimes_lifted (os : Os) (started : os.Started) (H : Type) (enc : TypeId × Value → H) (F : Stop.Interp) :
  ReturnsInHanded {} Tryz.checked os 7 .any ((Rows.OpenSpec.upto Rows.motionTimesSpec).pre6 enc Tryz.prog Tryz.f7 Rows.motionTimesUptoRow.domain false) (((Rows.OpenSpec.upto Rows.motionTimesSpec).at F).post enc Tryz.prog Tryz.f7 false true false false) := by
 refine returnsInHanded_of_cond_sized (C := Tryz.checked) (s := Rows.OpenSpec.upto Rows.motionTimesSpec) (k := Rows.uptoSmall) rfl Tryz.own started (by kernel_rfl) Tryz.func7
  (OpenSpec.witness (enc := enc) (C := Tryz.checked) (s := Rows.OpenSpec.upto Rows.motionTimesSpec) (k := Rows.uptoSmall) rfl false ⟨#[], #[.agg #[.int .i64 0, .slice none 0 0, .slice none 0 0, .slice none 0 0]], []⟩ 8 (by kernel_rfl) (by kernel_rfl) (by kernel_rfl)
   (x := ([.agg [.lit (.int .i64 0), .nil, .nil, .nil]], [], [])) (by kernel_rfl) rfl (by kernel_rfl)) ?_
 intro W base args ds gs before hval0 hW _ hk hwt0 _
 have hval : ∀ (j : Nat) t v, Tryz.f7.params[j]? = some t → args[j]? = some v → Value.okWide Tryz.prog W .any base t v := hval0
 have hwt : (DataW.weightsEach Tryz.prog (Tryz.f7.params.toList ++ []) (ds ++ gs)).all (· ≤ reachBytes) = true := hwt0
 have hW' := hW
 obtain ⟨p, q, hA0, hV, rfl, hfz, hnd⟩ := hW
 have hA : DataW.TrodAll enc Tryz.prog W 0 (fun _ => true) true Tryz.f7.params.toList args.toList ds p := hA0
 clear hA0 hval0 hwt0
 rw [Tryz.params7] at hA hval hwt
 obtain ⟨rfl, rfl⟩ := trodVars_none hV
 obtain ⟨hn1, hn2, hT⟩ := trodAll_get hA
 obtain ⟨v0, hv⟩ := list_1 args.toList hn1
 obtain rfl : args = #[v0] := by cases args; simp_all
 obtain ⟨d0, rfl⟩ := list_1 ds hn2
 have hbulk : bulk d0 ≤ 1048576 := by
  have h : Rows.uptoBulkAll ([d0] ++ []) ≤ 1048576 := of_decide_eq_true hk
  simp only [List.append_nil, Rows.uptoBulkAll] at h
  show Rows.uptoBulk d0 ≤ _
  omega
 obtain ⟨p0, q0⟩ := hT 0 26 v0 d0 rfl rfl rfl
 obtain ⟨y, c, l, L, al, rfl, hL⟩ := arg_look (hval 0 26 v0 rfl rfl) q0 (weigh hwt 0 rfl rfl) hbulk
 have walk := times_walk hL (K := fun r w' => r = true ∧ Ext W w') fun w' e => ⟨rfl, e⟩
 refine walk.mono fun e W' ⟨x, he, hx, hext⟩ => ⟨.bool true, ?_, ?_⟩
 ·subst hx; exact he
 ·exact post_same (s := Rows.motionTimesSpec) hW' rfl rfl u4 rfl Tryz.laidOut (fun t ht => by
   rw [Tryz.params7] at ht
   have ht : t ∈ [26] := ht
   simp only [List.mem_cons, List.not_mem_nil, or_false] at ht
   exact recs ht) hext
theorem motionTimes_holds : Rows.MotionTimesUptoSaid :=
 OpenClaim.holds_of_cond 7 Tryz.f7 rfl rfl rfl rfl rfl rfl rfl ⟨rfl, rfl, rfl, rfl, rfl⟩ rfl rfl rfl rfl rfl (by kernel_rfl) Tryz.func7 (by kernel_rfl)
  (of_decide_eq_true (by kernel_rfl)) (by unfold Func.isWrapper; rw [if_neg (by decide +kernel)]; exact ⟨rfl, rfl⟩)
  (fun os started H enc _ F => motionTimes_lifted os started H enc F)
end Go.Proofs.YtolhlldgnfbemaaGreat
