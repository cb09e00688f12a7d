/- What the claims share: the arguments taken apart, their weights. Conditions: those of the form alone. -/
import Derived.Test.YtdabehgbhndimaaOpn
set_option linter.unusedSimpArgs false
set_option linter.unusedVariables false
namespace Go.Proofs.Ytdabehgbhndimaa
open Go Go.Vx Go.ChangeShapes Go.WideShapes Go.RowKit Dsk

theorem u4 : Try.prog.underlying 4 = some .bool := ubool
theorem recInt : Try.prog.readableRec 3 = true := by kernel_rfl
theorem recOps : Try.prog.readableRec 22 = true := by kernel_rfl
theorem recCut : Try.prog.readableRec 37 = true := by kernel_rfl
theorem recBytes : Try.prog.readableRec 33 = true := by kernel_rfl
theorem recFaults : Try.prog.readableRec 34 = true := by kernel_rfl
theorem tsize : 128 ≤ Try.prog.types.size := of_decide_eq_true (by kernel_rfl)

theorem trodAll_get {H : Type} {enc : TypeId × Value → H} {P : Program} {w : World} {base : Nat} {spare : Nat → Bool} {held : Bool} : ∀ {ts : List TypeId} {vs : List Value} {ds : List (DataW H)} {ps : List MemPlace}, DataW.TrodAll enc P w base spare held ts vs ds ps →
    vs.length = ts.length ∧ ds.length = ts.length ∧ ∀ (j : Nat) t v d, ts[j]? = some t → vs[j]? = some v → ds[j]? = some d → ∃ p, DataW.Trod enc P w base spare held t v d p
  | [], [], [], _, _ => ⟨rfl, rfl, fun j t v d h => by simp at h⟩
  | t :: ts, v :: vs, d :: ds, ps, ⟨p, q, h1, h2, e⟩ => by
    obtain ⟨a, b, c⟩ := trodAll_get h2
    refine ⟨by simp [a], by simp [b], fun j t' v' d' ht hv hd => ?_⟩
    match j with
    | 0 => cases ht; cases hv; cases hd; exact ⟨p, h1⟩
    | j + 1 => exact c j t' v' d' (by simpa using ht) (by simpa using hv) (by simpa using hd)
  | [], _ :: _, _, _, h => h.elim
  | [], [], _ :: _, _, h => h.elim
  | _ :: _, [], _, _, h => h.elim
  | _ :: _, _ :: _, [], _, h => h.elim
theorem list_1 {α : Type} (l : List α) (h : l.length = 1) : ∃ v0, l = [v0] := by
  match l, h with
  | [v0], _ => exact ⟨v0, rfl⟩
theorem list_2 {α : Type} (l : List α) (h : l.length = 2) : ∃ v0 v1, l = [v0, v1] := by
  match l, h with
  | [v0, v1], _ => exact ⟨v0, v1, rfl⟩
theorem list_3 {α : Type} (l : List α) (h : l.length = 3) : ∃ v0 v1 v2, l = [v0, v1, v2] := by
  match l, h with
  | [v0, v1, v2], _ => exact ⟨v0, v1, v2, rfl⟩
theorem list_4 {α : Type} (l : List α) (h : l.length = 4) : ∃ v0 v1 v2 v3, l = [v0, v1, v2, v3] := by
  match l, h with
  | [v0, v1, v2, v3], _ => exact ⟨v0, v1, v2, v3, rfl⟩
theorem list_5 {α : Type} (l : List α) (h : l.length = 5) : ∃ v0 v1 v2 v3 v4, l = [v0, v1, v2, v3, v4] := by
  match l, h with
  | [v0, v1, v2, v3, v4], _ => exact ⟨v0, v1, v2, v3, v4, rfl⟩
theorem list_6 {α : Type} (l : List α) (h : l.length = 6) : ∃ v0 v1 v2 v3 v4 v5, l = [v0, v1, v2, v3, v4, v5] := by
  match l, h with
  | [v0, v1, v2, v3, v4, v5], _ => exact ⟨v0, v1, v2, v3, v4, v5, rfl⟩

/-- the weights of one argument -/
theorem weigh {H : Type} {ts : List TypeId} {ds : List (DataW H)} (h : (DataW.weightsEach Try.prog ts ds).all (· ≤ reachBytes) = true) (j : Nat) {t : TypeId} {d : DataW H} (ht : ts[j]? = some t) (hd : ds[j]? = some d) : ∀ n ∈ d.weights Try.prog t, n ≤ reachBytes := by
  intro n hn
  have := List.all_eq_true.1 h _ (DataW.weights_mem_each ht hd n hn)
  simpa using this


section
variable {H : Type} {enc : TypeId × Value → H} {W : World} {base : Nat}
set_option maxRecDepth 100000 in
theorem arg_int {v : Value} (hv : Value.okWide Try.prog W .any base 3 v) : ∃ n, v = .int .i64 n := okWide_int ui hv
set_option maxRecDepth 100000 in
theorem arg_ops {v : Value} {d : DataW H} {p : List MemPlace} (hv : Value.okWide Try.prog W .any base 22 v) (h : DataW.Trod enc Try.prog W 0 (fun _ => true) true 22 v d p) (hw : ∀ n ∈ d.weights Try.prog 22, n ≤ reachBytes) :
    ∃ (s : Sl) (ys : List (Cells.T c39)) (os : List DOp), v = .slice s.a s.len s.cap ∧ OpsIn W (fun k => k < W.heap.size) s ys os := by
  obtain ⟨a, len, cap, rfl⟩ := okWide_slice uOps hv
  obtain ⟨n, hn⟩ := h
  obtain ⟨s, ys, os, e, h1⟩ := open_ops hn hw
  exact ⟨s, ys, os, by simpa [Value.cells] using e, h1⟩
set_option maxRecDepth 100000 in
theorem arg_cut {v : Value} {d : DataW H} {p : List MemPlace} (hv : Value.okWide Try.prog W .any base 37 v) (h : DataW.Trod enc Try.prog W 0 (fun _ => true) true 37 v d p) (hw : ∀ n ∈ d.weights Try.prog 37, n ≤ reachBytes) :
    ∃ (c : Cells.T c37) (l : List Int), v = .agg (Cells.vals c37 c).toArray ∧ SlX W c.2.1 1 (iv l) ∧ l.length ≤ 2 ^ 44 := by
  obtain ⟨fs, hu, _⟩ := sCut
  obtain ⟨cs, rfl, hsz⟩ := okWide_struct hu hv
  obtain ⟨n, hn⟩ := h
  rw [ccut] at hsz
  obtain ⟨c, l, e, h1, h2⟩ := open_cut (cs := cs.toList) (by simpa using hsz) (by simpa [Value.cells] using hn) hw
  exact ⟨c, l, by rw [← e], h1, h2⟩
end

theorem recs {t : TypeId} (h : t = 3 ∨ t = 22 ∨ t = 37 ∨ t = 33 ∨ t = 34) : Try.prog.readableRec t = true ∧ t < Try.prog.types.size := by
  have := tsize
  rcases h with rfl | rfl | rfl | rfl | rfl
  · exact ⟨recInt, Nat.lt_of_lt_of_le (by decide) this⟩
  · exact ⟨recOps, Nat.lt_of_lt_of_le (by decide) this⟩
  · exact ⟨recCut, Nat.lt_of_lt_of_le (by decide) this⟩
  · exact ⟨recBytes, Nat.lt_of_lt_of_le (by decide) this⟩
  · exact ⟨recFaults, Nat.lt_of_lt_of_le (by decide) this⟩

end Go.Proofs.Ytdabehgbhndimaa
