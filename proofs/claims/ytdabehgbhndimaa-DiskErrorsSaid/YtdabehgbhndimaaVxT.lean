/-
  Append, and how large the new row may be.
-/
import Derived.Test.YtdabehgbhndimaaVxN
set_option linter.unusedSimpArgs false
set_option linter.unusedVariables false
namespace Go.Vx
open Go
section
variable {w w' w'' : World} {S S' : Nat → Prop} {P : Program}
theorem append_runC (P : Program) {ts xt rt : TypeId} {e xe : TypeId} {i : TypeInfo} {z : Value} (hts : P.underlying ts = some (.slice e)) (hxt : P.underlying xt = some (.slice xe)) (hi : P.info? e = some i) (hz : i.zero = some z)
    {B : Nat} {s x : Sl} {vs us : List Value} (hs : SlOwn w B s e i.size vs) (hx : SlX w x i.size us) (h1 : ∀ v ∈ us, isOne v = true) (hzl : z.cells.size = i.size)
    (hroom : (s.len + x.len + (s.len + x.len) / 4 + 512) * i.bytes ≤ 2 ^ 48) (hb0 : 0 < i.bytes) (hB : B ≤ w.heap.size) :
    ∃ s' w', (Builtin.append_ #[ts, xt] rt #[.slice s.a s.len s.cap, .slice x.a x.len x.cap]).run P w = .ok (.slice s'.a s'.len s'.cap) w' ∧ SlOwn w' B s' e i.size (vs ++ us) ∧ s'.len = s.len + x.len ∧
      Upd (fun k => s.blk k) w w' ∧ (∀ k, s'.blk k → s.blk k ∨ w.heap.size ≤ k) ∧ (s'.cap = s.cap ∨ s'.cap < 2 ^ 63) := by
  have hfx := run_firstCellsX P hx
  have hfs := run_firstCells P hs.in
  have hu1 := fun W => run_underlying hts W
  have hu2 := fun W => run_underlying hxt W
  have hsz : ∀ W, (sizeOf e).run P W = .ok i.size W := fun W => by simp [sizeOf, run_typeInfo W hi]
  have hti : ∀ W, (typeInfo e).run P W = .ok i W := fun W => run_typeInfo W hi
  have hzv : ∀ W, (zeroValue e).run P W = .ok z W := fun W => by simp [zeroValue, run_typeInfo W hi, hz]
  have hlen := hs.len
  have hxlen := hx.len
  by_cases hneed : s.len + x.len ≤ s.cap
  · -- within the capacity
    rcases hs.at_ with ⟨ha, hc⟩ | ⟨b, off, c, ha, hB', hb, hcap, hv⟩
    · have hl0 : x.len = 0 := by omega
      have hsl : s.len = 0 := by omega
      have hus : us = [] := by rw [hl0, Nat.zero_mul] at hxlen; exact List.length_eq_zero_iff.1 hxlen
      refine ⟨⟨none, 0, s.cap⟩, w, ?_, ⟨by simp [hus, hlen, hsl], by simp, .inl ⟨rfl, hc⟩⟩, by simp [hl0, hsl], Upd.refl _ _, (fun k hk => by obtain ⟨p, hp, _⟩ := hk; cases hp), .inl rfl⟩
      have hfx' : (Builtin.firstCells i.size 0 (.slice x.a 0 x.cap)).run P w = .ok #[] w := by rw [hl0, hus] at hfx; exact hfx
      simp [Builtin.append_, hu1, hu2, hsz, Builtin.lenOf, hl0, hsl, ha, hfx', hc]
    · have hfit : s.len * i.size + us.length ≤ s.cap * i.size := by
        rw [hxlen, ← Nat.add_mul]; exact Nat.mul_le_mul_right _ hneed
      obtain ⟨w1, hr, hu, hb1, _⟩ := run_storeRow P us b (off + s.len * i.size) 0 c e w h1 hb (by omega)
      refine ⟨⟨s.a, s.len + x.len, s.cap⟩, w1, ?_, ⟨by simp [hlen, hxlen, Nat.add_mul], hneed, .inr ⟨b, off, setRow c (off + s.len * i.size + 0) us, ha, hB', hb1, by rw [size_setRow]; exact hcap, ?_⟩⟩, rfl, hu.mono fun k _ hk => ⟨_, ha, hk.symm⟩, fun k hk => .inl hk, .inl rfl⟩
      · simp [Builtin.append_, hu1, hu2, hsz, Builtin.lenOf, hneed, hfx, ha, addr_add, hr]
      · intro j v hj
        rw [Nat.add_zero]
        by_cases hjl : j < vs.length
        · rw [List.getElem?_append_left hjl] at hj
          rw [get_setRow_lt _ _ _ _ (by omega)]; exact hv j v hj
        · rw [List.getElem?_append_right (by omega)] at hj
          have hlt := (List.getElem?_eq_some_iff.1 hj).1
          rw [show off + j = off + s.len * i.size + (j - vs.length) by omega, get_setRow _ _ _ _ (by omega) hlt]
          exact hj
  · -- a new row
    have hle := nextslicecap_le (need := s.len + x.len) (old := s.cap) (by omega)
    have hroom' : ¬ (Builtin.nextslicecap (s.len + x.len) s.cap * i.bytes > 2 ^ 48) := by
      have := Nat.mul_le_mul_right i.bytes hle
      omega
    obtain ⟨nc, hnc, hncl, hnc63⟩ : ∃ nc, (Question.appendCap (s.len + x.len) s.cap e).cut (w.tape w.drawn (Question.appendCap (s.len + x.len) s.cap e)) = nc ∧ s.len + x.len ≤ nc ∧ nc < 2 ^ 63 := ⟨_, rfl, by simp only [Question.cut]; omega, by
      have h1 : s.len + x.len ≤ 2 ^ 48 := by have := Nat.mul_le_mul_left (s.len + x.len + (s.len + x.len) / 4 + 512) hb0; omega
      simp only [Question.cut]
      have h2 := Nat.mod_lt (w.tape w.drawn (Question.appendCap (s.len + x.len) s.cap e)) (show 0 < 2 ^ 63 - (s.len + x.len) by omega)
      omega⟩
    have hfx' : (Builtin.firstCells i.size x.len (.slice x.a x.len x.cap)).run P w.drew = .ok us.toArray w.drew := run_firstCellsX P (hx.ext (Ext.drew w))
    have hfs' : (Builtin.firstCells i.size s.len (.slice s.a s.len s.cap)).run P w.drew = .ok vs.toArray w.drew := run_firstCells P (hs.in.ext (Ext.drew w))
    let row := vs.toArray ++ us.toArray ++ Builtin.zeroCells z.cells (nc - (s.len + x.len))
    have hrow : row.size = nc * i.size := by
      simp only [row, Array.size_append, List.size_toArray, Builtin.zeroCells, Array.size_map, Array.size_range, hzl, hlen, hxlen]
      rw [← Nat.add_mul, ← Nat.add_mul]
      congr 1; omega
    refine ⟨⟨some ⟨w.heap.size, 0, none⟩, s.len + x.len, nc⟩, w.drew.alloc (.cells row e), ?_, ⟨by simp [hlen, hxlen, Nat.add_mul], hncl, .inr ⟨w.heap.size, 0, row, rfl, hB, heap_alloc w.drew _, by rw [hrow]; simp, ?_⟩⟩, rfl,
      (Upd.of_ext ((Ext.drew w).trans (Ext.alloc w.drew _))), fun k hk => .inr (by obtain ⟨p, hp, rfl⟩ := hk; cases hp; exact Nat.le_refl _), .inr hnc63⟩
    · have hb0' : ¬ i.bytes = 0 := by omega
      simp [Builtin.append_, hu1, hu2, hsz, Builtin.lenOf, hneed, hti, hb0', hroom', run_askRoom, hfs', hfx', hzv, newRow, newObj, Sem.run, Question.forced, hnc, row]
    · intro j v hj
      rw [Nat.zero_add]
      have hlt := (List.getElem?_eq_some_iff.1 hj).1
      have : row[j]? = (vs ++ us)[j]? := by
        simp only [row]
        rw [Array.getElem?_append_left (by simpa using hlt)]
        simp
      rw [this]; exact hj

theorem append_rc {ts xt rt e xe : TypeId} {sz bytes : Nat} (E : ElemOk P ts e sz bytes) (hxt : P.underlying xt = some (.slice xe)) {B : Nat} {s x : Sl} {vs us : List Value} {K : Sl → World → Prop}
    (hs : SlOwn w B s e sz vs) (hx : SlX w x sz us) (h1 : ∀ v ∈ us, isOne v = true) (hroom : (s.len + x.len + (s.len + x.len) / 4 + 512) * bytes ≤ 2 ^ 48) (hB : B ≤ w.heap.size)
    (h : ∀ s' w', SlOwn w' B s' e sz (vs ++ us) → s'.len = s.len + x.len → Upd s.blk w w' → (∀ k, s'.blk k → s.blk k ∨ w.heap.size ≤ k) → (s'.cap = s.cap ∨ s'.cap < 2 ^ 63) → K s' w') :
    rawT P (.one (.one .sl)) (Builtin.append_ #[ts, xt] rt #[.slice s.a s.len s.cap, .slice x.a x.len x.cap]) K w := by
  obtain ⟨i, z, hi, rfl, rfl, hz, hzs⟩ := E.e_
  obtain ⟨s', w', hr, ho, hl, hu, hb, hc⟩ := append_runC (rt := rt) P E.ts_ hxt hi hz hs hx h1 hzs hroom E.pos hB
  exact ⟨s', w', hr, h s' w' ho hl hu hb hc⟩
end
end Go.Vx
