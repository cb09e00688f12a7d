/- What the claims share: the arguments taken apart, their weights. Conditions: those of the form alone. -/
import Derived.Test.YtocdfkeflakemaaOpen
set_option linter.unusedSimpArgs false
set_option linter.unusedVariables false
namespace Go.Proofs.Ytocdfkeflakemaa
open Go Go.Vx Go.ChangeShapes Go.WideShapes Go.RowKit

theorem rec22 : Try.prog.readableRec 22 = true := by kernel_rfl
theorem rec3 : Try.prog.readableRec 3 = true := by kernel_rfl
theorem rec23 : Try.prog.readableRec 23 = true := by kernel_rfl
theorem rec34 : Try.prog.readableRec 34 = true := by kernel_rfl
theorem rec4 : Try.prog.readableRec 4 = true := by kernel_rfl
theorem tsize : 128 ≤ Try.prog.types.size := of_decide_eq_true (by kernel_rfl)

theorem trodAll_get {H : Type} {enc : TypeId × Value → H} {P : Program} {w : World} {base : Nat} {spare : Nat → Bool} {held : Bool} : ∀ {ts : List TypeId} {vs : List Value} {ds : List (DataW H)} {ps : List MemPlace}, DataW.TrodAll enc P w base spare held ts vs ds ps →
    vs.length = ts.length ∧ ds.length = ts.length ∧ ∀ (j : Nat) t v d, ts[j]? = some t → vs[j]? = some v → ds[j]? = some d → ∃ p, DataW.Trod enc P w base spare held t v d p
  | [], [], [], _, _ => ⟨rfl, rfl, fun j t v d h => by simp at h⟩
  | t :: ts, v :: vs, d :: ds, ps, ⟨p, q, h1, h2, e⟩ => by
    obtain ⟨a, b, c⟩ := trodAll_get h2
    refine ⟨by simp [a], by simp [b], fun j t' v' d' ht hv hd => ?_⟩
    match j with
    | 0 => cases ht; cases hv; cases hd; exact ⟨p, h1⟩
    | j + 1 => exact c j t' v' d' (by simpa using ht) (by simpa using hv) (by simpa using hd)
  | [], _ :: _, _, _, h => h.elim
  | [], [], _ :: _, _, h => h.elim
  | _ :: _, [], _, _, h => h.elim
  | _ :: _, _ :: _, [], _, h => h.elim
theorem list_1 {α : Type} (l : List α) (h : l.length = 1) : ∃ v0, l = [v0] := by
  match l, h with
  | [v0], _ => exact ⟨v0, rfl⟩
theorem list_2 {α : Type} (l : List α) (h : l.length = 2) : ∃ v0 v1, l = [v0, v1] := by
  match l, h with
  | [v0, v1], _ => exact ⟨v0, v1, rfl⟩
theorem list_3 {α : Type} (l : List α) (h : l.length = 3) : ∃ v0 v1 v2, l = [v0, v1, v2] := by
  match l, h with
  | [v0, v1, v2], _ => exact ⟨v0, v1, v2, rfl⟩
theorem list_4 {α : Type} (l : List α) (h : l.length = 4) : ∃ v0 v1 v2 v3, l = [v0, v1, v2, v3] := by
  match l, h with
  | [v0, v1, v2, v3], _ => exact ⟨v0, v1, v2, v3, rfl⟩
theorem list_5 {α : Type} (l : List α) (h : l.length = 5) : ∃ v0 v1 v2 v3 v4, l = [v0, v1, v2, v3, v4] := by
  match l, h with
  | [v0, v1, v2, v3, v4], _ => exact ⟨v0, v1, v2, v3, v4, rfl⟩
theorem list_6 {α : Type} (l : List α) (h : l.length = 6) : ∃ v0 v1 v2 v3 v4 v5, l = [v0, v1, v2, v3, v4, v5] := by
  match l, h with
  | [v0, v1, v2, v3, v4, v5], _ => exact ⟨v0, v1, v2, v3, v4, v5, rfl⟩

/-- the weights of one argument -/
theorem weigh {H : Type} {ts : List TypeId} {ds : List (DataW H)} (h : (DataW.weightsEach Try.prog ts ds).all (· ≤ reachBytes) = true) (j : Nat) {t : TypeId} {d : DataW H} (ht : ts[j]? = some t) (hd : ds[j]? = some d) : ∀ n ∈ d.weights Try.prog t, n ≤ reachBytes := by
  intro n hn
  have := List.all_eq_true.1 h _ (DataW.weights_mem_each ht hd n hn)
  simpa using this

section
variable {H : Type} {enc : TypeId × Value → H} {W : World} {base : Nat}
set_option maxRecDepth 100000 in
theorem arg_int {v : Value} (hv : Value.okWide Try.prog W .any base 3 v) : ∃ n, v = .int .i64 n := okWide_int u3 hv
set_option maxRecDepth 100000 in
theorem arg_bool {v : Value} (hv : Value.okWide Try.prog W .any base 4 v) : ∃ b, v = .bool b := okWide_bool u4 hv
set_option maxRecDepth 100000 in
theorem arg_txt {v : Value} {d : DataW H} {p : List MemPlace} (hv : Value.okWide Try.prog W .any base 23 v) (h : DataW.Trod enc Try.prog W 0 (fun _ => true) true 23 v d p) (hw : ∀ n ∈ d.weights Try.prog 23, n ≤ reachBytes) :
    ∃ (s : Sl) (l : List Int), v = .slice s.a s.len s.cap ∧ Txt W s l ∧ l.length ≤ 2 ^ 44 - 512 := by
  obtain ⟨a, len, cap, rfl⟩ := okWide_slice u23 hv
  obtain ⟨n, hn⟩ := h
  obtain ⟨s, l, e, h1, h2⟩ := open_txt hn hw
  exact ⟨s, l, by simpa [Value.cells] using e, h1, h2⟩
set_option maxRecDepth 100000 in
theorem arg_steps {v : Value} {d : DataW H} {p : List MemPlace} (hv : Value.okWide Try.prog W .any base 22 v) (h : DataW.Trod enc Try.prog W 0 (fun _ => true) true 22 v d p) (hw : ∀ n ∈ d.weights Try.prog 22, n ≤ reachBytes) :
    ∃ (s : Sl) (xs : List (Cells.T c55)), v = .slice s.a s.len s.cap ∧ StepsIn W s xs := by
  obtain ⟨a, len, cap, rfl⟩ := okWide_slice u22 hv
  obtain ⟨n, hn⟩ := h
  obtain ⟨s, xs, e, h1⟩ := open_steps hn hw
  exact ⟨s, xs, by simpa [Value.cells] using e, h1⟩
set_option maxRecDepth 100000 in
theorem arg_txts {v : Value} {d : DataW H} {p : List MemPlace} (hv : Value.okWide Try.prog W .any base 34 v) (h : DataW.Trod enc Try.prog W 0 (fun _ => true) true 34 v d p) (hw : ∀ n ∈ d.weights Try.prog 34, n ≤ reachBytes) :
    ∃ (s : Sl) (ss : List Sl) (ls : List (List Int)), v = .slice s.a s.len s.cap ∧ TxtsIn W s ss ls := by
  obtain ⟨a, len, cap, rfl⟩ := okWide_slice u34 hv
  obtain ⟨n, hn⟩ := h
  obtain ⟨s, ss, ls, e, h1⟩ := open_txts hn hw
  exact ⟨s, ss, ls, by simpa [Value.cells] using e, h1⟩
end

theorem recs {t : TypeId} (h : t = 22 ∨ t = 3 ∨ t = 23 ∨ t = 4 ∨ t = 34) : Try.prog.readableRec t = true ∧ t < Try.prog.types.size := by
  have := tsize
  rcases h with rfl | rfl | rfl | rfl | rfl
  · exact ⟨rec22, Nat.lt_of_lt_of_le (by decide) this⟩
  · exact ⟨rec3, Nat.lt_of_lt_of_le (by decide) this⟩
  · exact ⟨rec23, Nat.lt_of_lt_of_le (by decide) this⟩
  · exact ⟨rec4, Nat.lt_of_lt_of_le (by decide) this⟩
  · exact ⟨rec34, Nat.lt_of_lt_of_le (by decide) this⟩

end Go.Proofs.Ytocdfkeflakemaa
