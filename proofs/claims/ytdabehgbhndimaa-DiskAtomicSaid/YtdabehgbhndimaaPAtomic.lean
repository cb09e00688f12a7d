/- DiskAtomic, for every input: it returns true, and each argument reads behind the call as it did. Conditions: those of the form alone. -/
import Derived.Test.YtdabehgbhndimaaWat
import Derived.Test.YtdabehgbhndimaaOpt
set_option linter.unusedSimpArgs false
set_option linter.unusedVariables false
namespace Go.Proofs.Ytdabehgbhndimaa
open Go Go.Vx Go.ChangeShapes Go.WideShapes Go.RowKit

set_option maxRecDepth 100000 in
theorem diskAtomic_lifted (os : Os) (started : os.Started) (H : Type) (enc : TypeId × Value → H) :
    ReturnsInHanded {} Try.checked os 4 .any (Rows.diskAtomicSpec.pre6 enc Try.prog Try.f4 Rows.diskAtomicRow.domain false) (Rows.diskAtomicSpec.post enc Try.prog Try.f4 false true false false) := by
  refine returnsInHanded_of_change_sized (C := Try.checked) Try.own started (by kernel_rfl) Try.func4
    (ChangeSpec.witness6 (enc := enc) (C := Try.checked) false ⟨#[], #[.slice none 0 0, .slice none 0 0, .slice none 0 0, .agg #[.int .i64 0, .slice none 0 0]], []⟩ 8 (by kernel_rfl) (by kernel_rfl) (by kernel_rfl) (by kernel_rfl)) ?_
  intro W base args ds gs before hval0 hW _ hwt0 _
  have hval : ∀ (j : Nat) t v, Try.f4.params[j]? = some t → args[j]? = some v → Value.okWide Try.prog W .any base t v := hval0
  have hwt : (DataW.weightsEach Try.prog (Try.f4.params.toList ++ []) (ds ++ gs)).all (· ≤ reachBytes) = true := hwt0
  have hW' := hW
  obtain ⟨p, q, hA0, hV, rfl, hfz, hnd⟩ := hW
  have hA : DataW.TrodAll enc Try.prog W 0 (fun _ => true) true Try.f4.params.toList args.toList ds p := hA0
  clear hA0 hval0 hwt0
  rw [Try.params4] at hA hval hwt
  obtain ⟨rfl, rfl⟩ := trodVars_none hV
  obtain ⟨hn1, hn2, hT⟩ := trodAll_get hA
  obtain ⟨v0, v1, v2, v3, hv⟩ := list_4 args.toList hn1
  obtain rfl : args = #[v0, v1, v2, v3] := by cases args; simp_all
  obtain ⟨d0, d1, d2, d3, rfl⟩ := list_4 ds hn2
  obtain ⟨p0, h0⟩ := hT 0 33 v0 d0 rfl rfl rfl
  obtain ⟨s0, l0, rfl, ht0, hl0⟩ := arg_txt (hval 0 33 v0 rfl rfl) h0 (weigh hwt 0 rfl rfl)
  obtain ⟨p1, h1⟩ := hT 1 51 v1 d1 rfl rfl rfl
  obtain ⟨s1, ss1, ls1, rfl, ht1⟩ := arg_txts (hval 1 51 v1 rfl rfl) h1 (weigh hwt 1 rfl rfl)
  obtain ⟨p2, h2⟩ := hT 2 34 v2 d2 rfl rfl rfl
  obtain ⟨s2, rows2, fl2, rfl, hf2, hl2⟩ := arg_faults (hval 2 34 v2 rfl rfl) h2 (weigh hwt 2 rfl rfl)
  obtain ⟨p3, h3⟩ := hT 3 37 v3 d3 rfl rfl rfl
  obtain ⟨s3, l3, rfl, hc3, hl3⟩ := arg_cut (hval 3 37 v3 rfl rfl) h3 (weigh hwt 3 rfl rfl)
  have walk := atomic_walk (cut := s3) (P := fun k => k < W.heap.size) ht0 (SlX.lie ht0) hl0 ht1 hf2 hl2 hc3 (SlX.lie hc3) (fun _ h => h) (K := fun r w' => r = true ∧ Ext W w') fun w' e => ⟨rfl, e⟩
  refine walk.mono fun e W' ⟨x, he, hx, hext⟩ => ⟨.bool true, ?_, ?_⟩
  · subst hx; exact he
  · exact post_same hW' rfl rfl u4 rfl Try.laidOut (fun t ht => by
      rw [Try.params4] at ht
      have ht : t ∈ [33, 51, 34, 37] := ht
      simp only [List.mem_cons, List.not_mem_nil, or_false] at ht
      rcases ht with rfl | rfl | rfl | rfl <;> exact recs' (by simp)) hext

theorem diskAtomic_holds : Rows.DiskAtomicSaid :=
  OpenClaim.holds_of_wide 4 Try.f4 rfl rfl rfl rfl rfl rfl rfl ⟨rfl, rfl, rfl, rfl, rfl⟩ rfl rfl rfl rfl rfl (by kernel_rfl) Try.func4 (by kernel_rfl)
    (of_decide_eq_true (by kernel_rfl)) (by unfold Func.isWrapper; rw [if_neg (by decide +kernel)]; exact ⟨rfl, rfl⟩)
    (fun os started H enc _ => diskAtomic_lifted os started H enc)
end Go.Proofs.Ytdabehgbhndimaa
