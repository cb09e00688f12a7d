/- RegisterLast, for every input: it returns true, and each argument reads behind the call as it did. Conditions: those of the form alone. -/
import Derived.Test.YtocdfkeflakemaaLast
import Derived.Test.YtocdfkeflakemaaOpen
set_option linter.unusedSimpArgs false
set_option linter.unusedVariables false
namespace Go.Proofs.Ytocdfkeflakemaa
open Go Go.Vx Go.ChangeShapes Go.WideShapes Go.RowKit

theorem rec22 : Try.prog.readableRec 22 = true := by kernel_rfl
theorem rec3 : Try.prog.readableRec 3 = true := by kernel_rfl
theorem rec23 : Try.prog.readableRec 23 = true := by kernel_rfl
theorem rec34 : Try.prog.readableRec 34 = true := by kernel_rfl
theorem rec4 : Try.prog.readableRec 4 = true := by kernel_rfl
theorem tsize : 128 ≤ Try.prog.types.size := of_decide_eq_true (by kernel_rfl)

theorem trodAll_five {H : Type} {enc : TypeId × Value → H} {P : Program} {w : World} {base : Nat} {spare : Nat → Bool} {held : Bool} {t t' t'' t3 t4 : TypeId} {args : Array Value} {ds : List (DataW H)} {ps : List MemPlace} (h : DataW.TrodAll enc P w base spare held [t, t', t'', t3, t4] args.toList ds ps) :
    ∃ v v' v'' v3 v4 d d' d'' d3 d4 p p' p'' p3 p4, args = #[v, v', v'', v3, v4] ∧ ds = [d, d', d'', d3, d4] ∧ ps = p ++ (p' ++ (p'' ++ (p3 ++ p4))) ∧ DataW.Trod enc P w base spare held t v d p ∧ DataW.Trod enc P w base spare held t' v' d' p' ∧ DataW.Trod enc P w base spare held t'' v'' d'' p'' ∧ DataW.Trod enc P w base spare held t3 v3 d3 p3 ∧ DataW.Trod enc P w base spare held t4 v4 d4 p4 := by
  obtain ⟨v, vs, d, ds', p, q, hargs, rfl, rfl, hd, hrest⟩ := trodAll_cons h
  obtain ⟨v', vs', d', ds'', p', q', rfl, rfl, rfl, hd', hrest'⟩ := trodAll_cons hrest
  obtain ⟨v'', vs'', d'', ds3, p'', q'', rfl, rfl, rfl, hd'', hrest''⟩ := trodAll_cons hrest'
  obtain ⟨v3, vs3, d3, ds4, p3, q3, rfl, rfl, rfl, hd3, hrest3⟩ := trodAll_cons hrest''
  obtain ⟨v4, vs4, d4, ds5, p4, q4, rfl, rfl, rfl, hd4, hrest4⟩ := trodAll_cons hrest3
  obtain ⟨rfl, rfl, rfl⟩ := trodAll_nil hrest4
  exact ⟨v, v', v'', v3, v4, d, d', d'', d3, d4, p, p', p'', p3, p4, by cases args; simp_all, rfl, by simp, hd, hd', hd'', hd3, hd4⟩

/-- the weights of one argument -/
theorem weigh {H : Type} {ts : List TypeId} {ds : List (DataW H)} (h : (DataW.weightsEach Try.prog ts ds).all (· ≤ reachBytes) = true) (j : Nat) {t : TypeId} {d : DataW H} (ht : ts[j]? = some t) (hd : ds[j]? = some d) : ∀ n ∈ d.weights Try.prog t, n ≤ reachBytes := by
  intro n hn
  have := List.all_eq_true.1 h _ (DataW.weights_mem_each ht hd n hn)
  simpa using this

section
variable {H : Type} {enc : TypeId × Value → H} {W : World} {base : Nat}
set_option maxRecDepth 100000 in
theorem arg_int {v : Value} (hv : Value.okWide Try.prog W .any base 3 v) : ∃ n, v = .int .i64 n := okWide_int u3 hv
set_option maxRecDepth 100000 in
theorem arg_bool {v : Value} (hv : Value.okWide Try.prog W .any base 4 v) : ∃ b, v = .bool b := okWide_bool u4 hv
set_option maxRecDepth 100000 in
theorem arg_txt {v : Value} {d : DataW H} {p : List MemPlace} (hv : Value.okWide Try.prog W .any base 23 v) (h : DataW.Trod enc Try.prog W 0 (fun _ => true) true 23 v d p) (hw : ∀ n ∈ d.weights Try.prog 23, n ≤ reachBytes) :
    ∃ (s : Sl) (l : List Int), v = .slice s.a s.len s.cap ∧ Txt W s l ∧ l.length ≤ 2 ^ 44 - 512 := by
  obtain ⟨a, len, cap, rfl⟩ := okWide_slice u23 hv
  obtain ⟨n, hn⟩ := h
  obtain ⟨s, l, e, h1, h2⟩ := open_txt hn hw
  exact ⟨s, l, by simpa [Value.cells] using e, h1, h2⟩
set_option maxRecDepth 100000 in
theorem arg_steps {v : Value} {d : DataW H} {p : List MemPlace} (hv : Value.okWide Try.prog W .any base 22 v) (h : DataW.Trod enc Try.prog W 0 (fun _ => true) true 22 v d p) (hw : ∀ n ∈ d.weights Try.prog 22, n ≤ reachBytes) :
    ∃ (s : Sl) (xs : List (Cells.T c55)), v = .slice s.a s.len s.cap ∧ StepsIn W s xs := by
  obtain ⟨a, len, cap, rfl⟩ := okWide_slice u22 hv
  obtain ⟨n, hn⟩ := h
  obtain ⟨s, xs, e, h1⟩ := open_steps hn hw
  exact ⟨s, xs, by simpa [Value.cells] using e, h1⟩
set_option maxRecDepth 100000 in
theorem arg_txts {v : Value} {d : DataW H} {p : List MemPlace} (hv : Value.okWide Try.prog W .any base 34 v) (h : DataW.Trod enc Try.prog W 0 (fun _ => true) true 34 v d p) (hw : ∀ n ∈ d.weights Try.prog 34, n ≤ reachBytes) :
    ∃ (s : Sl) (ss : List Sl) (ls : List (List Int)), v = .slice s.a s.len s.cap ∧ TxtsIn W s ss ls := by
  obtain ⟨a, len, cap, rfl⟩ := okWide_slice u34 hv
  obtain ⟨n, hn⟩ := h
  obtain ⟨s, ss, ls, e, h1⟩ := open_txts hn hw
  exact ⟨s, ss, ls, by simpa [Value.cells] using e, h1⟩
end

theorem recs {t : TypeId} (h : t = 22 ∨ t = 3 ∨ t = 23 ∨ t = 4 ∨ t = 34) : Try.prog.readableRec t = true ∧ t < Try.prog.types.size := by
  have := tsize
  rcases h with rfl | rfl | rfl | rfl | rfl
  · exact ⟨rec22, Nat.lt_of_lt_of_le (by decide) this⟩
  · exact ⟨rec3, Nat.lt_of_lt_of_le (by decide) this⟩
  · exact ⟨rec23, Nat.lt_of_lt_of_le (by decide) this⟩
  · exact ⟨rec4, Nat.lt_of_lt_of_le (by decide) this⟩
  · exact ⟨rec34, Nat.lt_of_lt_of_le (by decide) this⟩

set_option maxRecDepth 100000 in
theorem registerLast_lifted (os : Os) (started : os.Started) (H : Type) (enc : TypeId × Value → H) :
    ReturnsInHanded {} Try.checked os 3 .any (Rows.registerLastSpec.pre6 enc Try.prog Try.f3 Rows.registerLastRow.domain false) (Rows.registerLastSpec.post enc Try.prog Try.f3 false true false false) := by
  refine returnsInHanded_of_change_sized (C := Try.checked) Try.own started (by kernel_rfl) Try.func3
    (ChangeSpec.witness6 (enc := enc) (C := Try.checked) false ⟨#[], #[.slice none 0 0, .int .i64 0, .int .i64 0, .slice none 0 0, .bool false], []⟩ 8 (by kernel_rfl) (by kernel_rfl) (by kernel_rfl) (by kernel_rfl)) ?_
  intro W base args ds gs before hval0 hW _ hwt0 _
  have hval : ∀ (j : Nat) t v, Try.f3.params[j]? = some t → args[j]? = some v → Value.okWide Try.prog W .any base t v := hval0
  have hwt : (DataW.weightsEach Try.prog (Try.f3.params.toList ++ []) (ds ++ gs)).all (· ≤ reachBytes) = true := hwt0
  have hW' := hW
  obtain ⟨p, q, hA0, hV, rfl, hfz, hnd⟩ := hW
  have hA : DataW.TrodAll enc Try.prog W 0 (fun _ => true) true Try.f3.params.toList args.toList ds p := hA0
  clear hA0 hval0 hwt0
  rw [Try.params3] at hA hval hwt
  obtain ⟨rfl, rfl⟩ := trodVars_none hV
  obtain ⟨v0, v1, v2, v3, v4, d0, d1, d2, d3, d4, p0, p1, p2, p3, p4, rfl, rfl, rfl, h0, h1, h2, h3, h4⟩ := trodAll_five hA
  obtain ⟨s0, xs, rfl, hs⟩ := arg_steps (hval 0 22 v0 rfl rfl) h0 (weigh hwt 0 rfl rfl)
  obtain ⟨a1, rfl⟩ := arg_int (hval 1 3 v1 rfl rfl)
  obtain ⟨a2, rfl⟩ := arg_int (hval 2 3 v2 rfl rfl)
  obtain ⟨s3, l, rfl, ht, hl⟩ := arg_txt (hval 3 23 v3 rfl rfl) h3 (weigh hwt 3 rfl rfl)
  obtain ⟨a4, rfl⟩ := arg_bool (hval 4 4 v4 rfl rfl)
  have walk := F3_calls (a0 := s0) (a1 := a1) (a2 := a2) (a3 := s3) (a4 := a4) (K := fun r w' => r = true ∧ Ext W w') (last_call hs ht hl fun w' e => ⟨rfl, e⟩)
  refine walk.mono fun e W' ⟨x, he, hx, hext⟩ => ⟨.bool true, ?_, ?_⟩
  · subst hx; exact he
  · exact post_same hW' rfl rfl u4 rfl Try.laidOut (fun t ht => by
      rw [Try.params3] at ht
      have ht : t ∈ [22, 3, 3, 23, 4] := ht
      simp only [List.mem_cons, List.not_mem_nil, or_false] at ht
      rcases ht with rfl | rfl | rfl | rfl | rfl <;> exact recs (by simp)) hext

theorem registerLast_holds : Rows.RegisterLastSaid :=
  OpenClaim.holds_of_wide 3 Try.f3 rfl rfl rfl rfl rfl rfl rfl ⟨rfl, rfl, rfl, rfl, rfl⟩ rfl rfl rfl rfl rfl (by kernel_rfl) Try.func3 (by kernel_rfl)
    (of_decide_eq_true (by kernel_rfl)) (by unfold Func.isWrapper; rw [if_neg (by decide +kernel)]; exact ⟨rfl, rfl⟩)
    (fun os started H enc _ => registerLast_lifted os started H enc)

end Go.Proofs.Ytocdfkeflakemaa
