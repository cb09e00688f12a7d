/- Openers: texts, lists of texts, lists of faults. Conditions: those of the form. -/
import Derived.Test.YtdabehgbhndimaaWsv
import Derived.Test.YtdabehgbhndimaaDpk
set_option linter.unusedSimpArgs false
set_option linter.unusedVariables false
namespace Go.Proofs.Ytdabehgbhndimaa
open Go Go.Vx Go.ChangeShapes Go.WideShapes Go.RowKit Dsk
section
variable {H : Type} {enc : TypeId × Value → H} {W : World} {base : Nat} {held : Bool} {fuel : Nat}

theorem uTxts : Try.prog.underlying 51 = some (.slice 33) := i51_ok.und
set_option maxRecDepth 100000 in
theorem open_txts {cs : List Value} {x : DataW H × List MemPlace} (h : DataW.trod enc Try.prog W base (fun _ => true) held fuel 51 cs = some x) (hw : ∀ n ∈ x.1.weights Try.prog 51, n ≤ reachBytes) :
    ∃ (s : Sl) (ss : List Sl) (ls : List (List UInt8)), cs = [.slice s.a s.len s.cap] ∧ TxtsIn W (fun k => k < W.heap.size) s ss ls := by
  obtain ⟨s, rows, rfl, hs, hl, hb, hr⟩ := open_rows uTxts cbs (by decide) h hw
  have key : ∀ rows : List (List Value), (∀ r ∈ rows, ∃ (x : Sl) (l : List UInt8), r = [Cell.sl.val x] ∧ Bytes W x l ∧ l.length ≤ 2 ^ 47 ∧ Lie (fun k => k < W.heap.size) x) → ∃ (ss : List Sl) (ls : List (List UInt8)), rows.flatten = ss.map Cell.sl.val ∧ ss.length = rows.length ∧ ss.length = ls.length ∧ ∀ (i : Nat) (x : Sl) (l : List UInt8), ss[i]? = some x → ls[i]? = some l → Bytes W x l ∧ l.length ≤ 2 ^ 47 ∧ Lie (fun k => k < W.heap.size) x := by
    intro rows
    induction rows with
    | nil => exact fun _ => ⟨[], [], rfl, rfl, rfl, fun i x l hx => by simp at hx⟩
    | cons r rs ih =>
      intro hr
      obtain ⟨x, l, rfl, h1, h2⟩ := hr _ List.mem_cons_self
      obtain ⟨ss, ls, g1, g2, g3, g4⟩ := ih fun r' hr' => hr r' (List.mem_cons_of_mem _ hr')
      refine ⟨x :: ss, l :: ls, by simp [g1], by simp [g2], by simp [g3], fun i x' l' hx hl => ?_⟩
      match i with
      | 0 => cases hx; cases hl; exact ⟨h1, h2⟩
      | i + 1 => exact g4 i x' l' (by simpa using hx) (by simpa using hl)
  obtain ⟨ss, ls, e1, e2, e3, hq⟩ := key rows fun r hr' => by
    obtain ⟨hrl, n, y, hy, hwy⟩ := hr r hr'
    obtain ⟨x, l, g1, g2, g3⟩ := open_bytes hy hwy
    exact ⟨x, l, g1, g2, g3, SlX.lie g2⟩
  rw [e1] at hs
  exact ⟨s, ss, ls, rfl, hs, SlX.lie hs, e3, hq⟩

set_option maxRecDepth 100000 in
theorem arg_txt {v : Value} {d : DataW H} {p : List MemPlace} (hv : Value.okWide Try.prog W .any base 33 v) (h : DataW.Trod enc Try.prog W 0 (fun _ => true) true 33 v d p) (hw : ∀ n ∈ d.weights Try.prog 33, n ≤ reachBytes) :
    ∃ (s : Sl) (l : List UInt8), v = .slice s.a s.len s.cap ∧ Bytes W s l ∧ l.length ≤ 2 ^ 47 := by
  obtain ⟨a, len, cap, rfl⟩ := okWide_slice uB hv
  obtain ⟨n, hn⟩ := h
  obtain ⟨s, xs, e, h1⟩ := open_bytes hn hw
  exact ⟨s, xs, by simpa [Value.cells] using e, h1⟩
set_option maxRecDepth 100000 in
theorem arg_txts {v : Value} {d : DataW H} {p : List MemPlace} (hv : Value.okWide Try.prog W .any base 51 v) (h : DataW.Trod enc Try.prog W 0 (fun _ => true) true 51 v d p) (hw : ∀ n ∈ d.weights Try.prog 51, n ≤ reachBytes) :
    ∃ (s : Sl) (ss : List Sl) (ls : List (List UInt8)), v = .slice s.a s.len s.cap ∧ TxtsIn W (fun k => k < W.heap.size) s ss ls := by
  obtain ⟨a, len, cap, rfl⟩ := okWide_slice uTxts hv
  obtain ⟨n, hn⟩ := h
  obtain ⟨s, ss, ls, e, h1⟩ := open_txts hn hw
  exact ⟨s, ss, ls, by simpa [Value.cells] using e, h1⟩
set_option maxRecDepth 100000 in
theorem arg_faults {v : Value} {d : DataW H} {p : List MemPlace} (hv : Value.okWide Try.prog W .any base 34 v) (h : DataW.Trod enc Try.prog W 0 (fun _ => true) true 34 v d p) (hw : ∀ n ∈ d.weights Try.prog 34, n ≤ reachBytes) :
    ∃ (s : Sl) (rows : List (Cells.T c74)) (fl : List (Int × Fault)), v = .slice s.a s.len s.cap ∧ FaultsIn W (fun k => k < W.heap.size) s rows fl ∧ fl.length * 56 ≤ 2 ^ 47 := by
  obtain ⟨a, len, cap, rfl⟩ := okWide_slice uF hv
  obtain ⟨n, hn⟩ := h
  obtain ⟨s, ss, ls, e, h1⟩ := open_faults hn hw
  exact ⟨s, ss, ls, by simpa [Value.cells] using e, h1⟩
theorem recTexts : Try.prog.readableRec 51 = true := by kernel_rfl
theorem recs' {t : TypeId} (h : t = 51 ∨ t = 3 ∨ t = 22 ∨ t = 37 ∨ t = 33 ∨ t = 34) : Try.prog.readableRec t = true ∧ t < Try.prog.types.size := by
  rcases h with rfl | h
  · exact ⟨recTexts, Nat.lt_of_lt_of_le (by decide) tsize⟩
  · exact recs h
end
end Go.Proofs.Ytdabehgbhndimaa
