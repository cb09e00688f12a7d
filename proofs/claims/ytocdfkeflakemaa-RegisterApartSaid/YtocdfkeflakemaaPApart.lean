/- RegisterApart, for every input: it returns true, and each argument reads behind the call as it did. Conditions: those of the form alone. -/
import Derived.Test.YtocdfkeflakemaaApart
import Derived.Test.YtocdfkeflakemaaPk
set_option linter.unusedSimpArgs false
set_option linter.unusedVariables false
namespace Go.Proofs.Ytocdfkeflakemaa
open Go Go.Vx Go.ChangeShapes Go.WideShapes Go.RowKit

set_option maxRecDepth 100000 in
theorem registerApart_lifted (os : Os) (started : os.Started) (H : Type) (enc : TypeId × Value → H) :
    ReturnsInHanded {} Try.checked os 11 .any (Rows.registerApartSpec.pre6 enc Try.prog Try.f11 Rows.registerApartRow.domain false) (Rows.registerApartSpec.post enc Try.prog Try.f11 false true false false) := by
  refine returnsInHanded_of_change_sized (C := Try.checked) Try.own started (by kernel_rfl) Try.func11
    (ChangeSpec.witness6 (enc := enc) (C := Try.checked) false ⟨#[], #[.slice none 0 0, .slice none 0 0], []⟩ 8 (by kernel_rfl) (by kernel_rfl) (by kernel_rfl) (by kernel_rfl)) ?_
  intro W base args ds gs before hval0 hW _ hwt0 _
  have hval : ∀ (j : Nat) t v, Try.f11.params[j]? = some t → args[j]? = some v → Value.okWide Try.prog W .any base t v := hval0
  have hwt : (DataW.weightsEach Try.prog (Try.f11.params.toList ++ []) (ds ++ gs)).all (· ≤ reachBytes) = true := hwt0
  have hW' := hW
  obtain ⟨p, q, hA0, hV, rfl, hfz, hnd⟩ := hW
  have hA : DataW.TrodAll enc Try.prog W 0 (fun _ => true) true Try.f11.params.toList args.toList ds p := hA0
  clear hA0 hval0 hwt0
  rw [Try.params11] at hA hval hwt
  obtain ⟨rfl, rfl⟩ := trodVars_none hV
  obtain ⟨hn1, hn2, hT⟩ := trodAll_get hA
  obtain ⟨v0, v1, hv⟩ := list_2 args.toList hn1
  obtain rfl : args = #[v0, v1] := by cases args; simp_all
  obtain ⟨d0, d1, rfl⟩ := list_2 ds hn2
  obtain ⟨p0, h0⟩ := hT 0 22 v0 d0 rfl rfl rfl
  obtain ⟨s0, xs0, rfl, hs0⟩ := arg_steps (hval 0 22 v0 rfl rfl) h0 (weigh hwt 0 rfl rfl)
  obtain ⟨p1, h1⟩ := hT 1 22 v1 d1 rfl rfl rfl
  obtain ⟨s1, xs1, rfl, hs1⟩ := arg_steps (hval 1 22 v1 rfl rfl) h1 (weigh hwt 1 rfl rfl)
  have walk := F11_calls (a0 := s0) (a1 := s1) (K := fun r w' => r = true ∧ Ext W w') (apart_call hs0 hs1 fun w' e => ⟨rfl, e⟩)
  refine walk.mono fun e W' ⟨x, he, hx, hext⟩ => ⟨.bool true, ?_, ?_⟩
  · subst hx; exact he
  · exact post_same hW' rfl rfl u4 rfl Try.laidOut (fun t ht => by
      rw [Try.params11] at ht
      have ht : t ∈ [22, 22] := ht
      simp only [List.mem_cons, List.not_mem_nil, or_false] at ht
      rcases ht with rfl | rfl <;> exact recs (by simp)) hext

theorem registerApart_holds : Rows.RegisterApartSaid :=
  OpenClaim.holds_of_wide 11 Try.f11 rfl rfl rfl rfl rfl rfl rfl ⟨rfl, rfl, rfl, rfl, rfl⟩ rfl rfl rfl rfl rfl (by kernel_rfl) Try.func11 (by kernel_rfl)
    (of_decide_eq_true (by kernel_rfl)) (by unfold Func.isWrapper; rw [if_neg (by decide +kernel)]; exact ⟨rfl, rfl⟩)
    (fun os started H enc _ => registerApart_lifted os started H enc)
end Go.Proofs.Ytocdfkeflakemaa
