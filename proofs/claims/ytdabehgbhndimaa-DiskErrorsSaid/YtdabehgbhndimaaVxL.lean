/-
  make and copy, at slices.
-/
import Derived.Test.YtdabehgbhndimaaVxI
set_option linter.unusedSimpArgs false
set_option linter.unusedVariables false
namespace Go.Vx
open Go
section
variable {w w' : World} {P : Program}

theorem makeSlice_r {ts e : TypeId} {ie : Inf} {z : Value} (hts : P.underlying ts = some (.slice e)) (he : InfOk P e ie) (hz : ie.zero = some z) (hzs : z.cells.size = ie.size) {n : Int} {K : Sl → World → Prop} (h0 : 0 ≤ n) (hn : n * ie.bytes ≤ 2 ^ 48) (hn2 : n ≤ 9223372036854775807)
    (hK : ∀ b w' c, w'.heap[b]? = some (.cells c e (0, 0)) → c.size = n.toNat * ie.size → (∀ i, i < c.size → c[i]? = z.cells[i % ie.size]?) → Ext w w' → b = w.heap.size → K ⟨some (at0 b), n.toNat, n.toNat⟩ w') :
    rawT P (.one (.one .sl)) (Instr.makeSlice ts (.int .i64 n) (.int .i64 n)) K w := by
  obtain ⟨j, hj, hs, hb, hz'⟩ := he.infoX
  have hw : IntKind.i64.wrap n = n := IntWalk.i64_in _ ⟨by omega, hn2⟩
  have hu := fun W => run_underlying hts W
  have hti : ∀ W, (typeInfo e).run P W = .ok j W := fun W => run_typeInfo W hj
  have hsz : ∀ W, (sizeOf e).run P W = .ok ie.size W := fun W => he.run_size W
  have hzv : ∀ W, (zeroValue e).run P W = .ok z W := fun W => he.run_zero W hz
  have hlarge : (decide (n < 0) || decide ((j.bytes : Int) * n > 2 ^ 48)) = false := by
    rw [hb, Int.mul_comm]
    simp only [Bool.or_eq_false_iff, decide_eq_false_iff_not]
    omega
  obtain ⟨c, hc⟩ : ∃ c : Array Value, c = (Array.range (n.toNat * ie.size)).map (fun k => (if n.toNat * ie.size = 0 then (#[] : Array Value) else z.cells)[k % (if n.toNat * ie.size = 0 then (#[] : Array Value) else z.cells).size]!) := ⟨_, rfl⟩
  refine ⟨⟨some (at0 w.heap.size), n.toNat, n.toNat⟩, w.alloc (.cells c e), ?_, hK _ _ c (heap_alloc w _) (by rw [hc]; simp) (fun i hi => ?_) (Ext.alloc w _) rfl⟩
  · have hlt : ¬ n < 0 := by omega
    have hgt : ¬ ((j.bytes : Int) * n > 2 ^ 48) := by rw [hb, Int.mul_comm]; omega
    have hgt2 : ¬ (281474976710656 < (j.bytes : Int) * n) := by omega
    by_cases hz0 : n.toNat * ie.size = 0
    · simp only [hz0, if_true] at hc
      simp only [Instr.makeSlice, Sem.run_bind, hu, Result.andThen_ok, asInt, asIntOf, Sem.run_pure, hti, hw, hlarge, Bool.false_or, decide_eq_true_eq, hlt, hsz]
      simp [hgt2, run_askRoom, hsz, hz0, newRow, newObj, Sem.run, World.alloc_eq, hc, RTy.val, Ty.val, Cell.val]
    · simp only [hz0, if_false] at hc
      simp only [Instr.makeSlice, Sem.run_bind, hu, Result.andThen_ok, asInt, asIntOf, Sem.run_pure, hti, hw, hlarge, Bool.false_or, decide_eq_true_eq, hlt, hsz]
      simp [hgt2, run_askRoom, hsz, hz0, hzv, newRow, newObj, Sem.run, World.alloc_eq, hc, RTy.val, Ty.val, Cell.val]
  · rw [hc] at hi ⊢
    have hi : i < n.toNat * ie.size := by simpa using hi
    have hz0 : ¬ n.toNat * ie.size = 0 := by omega
    have hpos : 0 < ie.size := Nat.pos_of_ne_zero fun h => hz0 (by rw [h]; simp)
    have hm : i % ie.size < z.cells.size := by rw [hzs]; exact Nat.mod_lt _ hpos
    simp only [if_neg hz0]
    have hg : z.cells[i % ie.size]! = z.cells[i % ie.size] := getElem!_pos z.cells _ hm
    rw [Array.getElem?_map, Array.getElem?_eq_getElem (by simpa using hi), Array.getElem?_eq_getElem hm]
    simp only [Option.map_some, Array.getElem_range, hzs, hg]

/-- copy onto a row of one's own; all of the source has room -/
theorem copy_r {ts xt rt e : TypeId} {sz : Nat} (hts : P.underlying ts = some (.slice e)) (hsz : ∀ w, (sizeOf e).run P w = .ok sz w) {b off dl dc : Nat} {c : Array Value} {t : TypeId} {x : Sl} {us : List Value} {K : Int → World → Prop}
    (hb : w.heap[b]? = some (.cells c t (0, 0))) (hfit : off + us.length ≤ c.size) (hx : SlX w x sz us) (hle : x.len ≤ dl) (h1 : ∀ v ∈ us, isOne v = true)
    (hK : ∀ w', w'.heap[b]? = some (.cells (setRow c off us) t (0, 0)) → Upd (fun k => k = b) w w' → w'.heap.size = w.heap.size → K x.len w') :
    rawT P (.one (.one (.int .i64))) (Builtin.copy_ #[ts, xt] rt #[.slice (some ⟨b, off, none⟩) dl dc, .slice x.a x.len x.cap]) K w := by
  obtain ⟨w1, hr, hu, hb1, hz⟩ := run_storeRow P us b off 0 c t w h1 hb (by omega)
  refine ⟨x.len, w1, ?_, hK w1 (by simpa using hb1) hu hz⟩
  have hmin : Nat.min x.len dl = x.len := Nat.min_eq_left hle
  have hfx := run_firstCellsX P hx
  simp [Builtin.copy_, run_underlying hts, Builtin.lenOf, hsz, hmin, hfx, hr, goInt, RTy.val, Ty.val, Cell.val]
end
end Go.Vx
