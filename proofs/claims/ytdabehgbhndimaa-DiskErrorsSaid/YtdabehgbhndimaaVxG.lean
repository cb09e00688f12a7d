/-
  append, exactly: in place it writes behind what is there; and marks: an append of marks to marks leaves all marks marks.
-/
import Derived.Test.YtdabehgbhndimaaVxL
set_option linter.unusedSimpArgs false
set_option linter.unusedVariables false
namespace Go.Vx
open Go
section
variable {w w' : World} {P : Program}

/-- append of a slice to a slice of one's own, and what becomes of the block -/
theorem append_run2 (P : Program) {ts xt rt : TypeId} {e xe : TypeId} {i : TypeInfo} {z : Value} (hts : P.underlying ts = some (.slice e)) (hxt : P.underlying xt = some (.slice xe)) (hi : P.info? e = some i) (hz : i.zero = some z)
    {B : Nat} {s x : Sl} {vs us : List Value} (hs : SlOwn w B s e i.size vs) (hx : SlX w x i.size us) (h1 : ∀ v ∈ us, isOne v = true) (hzl : z.cells.size = i.size)
    (hroom : (s.len + x.len + (s.len + x.len) / 4 + 512) * i.bytes ≤ 2 ^ 48) (hb0 : 0 < i.bytes) (hB : B ≤ w.heap.size) :
    ∃ s' w', (Builtin.append_ #[ts, xt] rt #[.slice s.a s.len s.cap, .slice x.a x.len x.cap]).run P w = .ok (.slice s'.a s'.len s'.cap) w' ∧ SlOwn w' B s' e i.size (vs ++ us) ∧ s'.len = s.len + x.len ∧
      Upd (fun k => s.blk k) w w' ∧ (∀ k, s'.blk k → s.blk k ∨ w.heap.size ≤ k) ∧ (Ext w w' ∨ ∃ b off c, s.a = some ⟨b, off, none⟩ ∧ w.heap[b]? = some (.cells c e (0, 0)) ∧ w'.heap[b]? = some (.cells (setRow c (off + s.len * i.size) us) e (0, 0))) := by
  have hfx := run_firstCellsX P hx
  have hfs := run_firstCells P hs.in
  have hu1 := fun W => run_underlying hts W
  have hu2 := fun W => run_underlying hxt W
  have hsz : ∀ W, (sizeOf e).run P W = .ok i.size W := fun W => by simp [sizeOf, run_typeInfo W hi]
  have hti : ∀ W, (typeInfo e).run P W = .ok i W := fun W => run_typeInfo W hi
  have hzv : ∀ W, (zeroValue e).run P W = .ok z W := fun W => by simp [zeroValue, run_typeInfo W hi, hz]
  have hlen := hs.len
  have hxlen := hx.len
  by_cases hneed : s.len + x.len ≤ s.cap
  · -- within the capacity
    rcases hs.at_ with ⟨ha, hc⟩ | ⟨b, off, c, ha, hB', hb, hcap, hv⟩
    · have hl0 : x.len = 0 := by omega
      have hsl : s.len = 0 := by omega
      have hus : us = [] := by rw [hl0, Nat.zero_mul] at hxlen; exact List.length_eq_zero_iff.1 hxlen
      refine ⟨⟨none, 0, s.cap⟩, w, ?_, ⟨by simp [hus, hlen, hsl], by simp, .inl ⟨rfl, hc⟩⟩, by simp [hl0, hsl], Upd.refl _ _, (fun k hk => by obtain ⟨p, hp, _⟩ := hk; cases hp), .inl (Ext.refl w)⟩
      have hfx' : (Builtin.firstCells i.size 0 (.slice x.a 0 x.cap)).run P w = .ok #[] w := by rw [hl0, hus] at hfx; exact hfx
      simp [Builtin.append_, hu1, hu2, hsz, Builtin.lenOf, hl0, hsl, ha, hfx', hc]
    · have hfit : s.len * i.size + us.length ≤ s.cap * i.size := by
        rw [hxlen, ← Nat.add_mul]; exact Nat.mul_le_mul_right _ hneed
      obtain ⟨w1, hr, hu, hb1, _⟩ := run_storeRow P us b (off + s.len * i.size) 0 c e w h1 hb (by omega)
      refine ⟨⟨s.a, s.len + x.len, s.cap⟩, w1, ?_, ⟨by simp [hlen, hxlen, Nat.add_mul], hneed, .inr ⟨b, off, setRow c (off + s.len * i.size + 0) us, ha, hB', hb1, by rw [size_setRow]; exact hcap, ?_⟩⟩, rfl, hu.mono fun k _ hk => ⟨_, ha, hk.symm⟩, fun k hk => .inl hk, .inr ⟨b, off, c, ha, hb, hb1⟩⟩
      · simp [Builtin.append_, hu1, hu2, hsz, Builtin.lenOf, hneed, hfx, ha, addr_add, hr]
      · intro j v hj
        rw [Nat.add_zero]
        by_cases hjl : j < vs.length
        · rw [List.getElem?_append_left hjl] at hj
          rw [get_setRow_lt _ _ _ _ (by omega)]; exact hv j v hj
        · rw [List.getElem?_append_right (by omega)] at hj
          have hlt := (List.getElem?_eq_some_iff.1 hj).1
          rw [show off + j = off + s.len * i.size + (j - vs.length) by omega, get_setRow _ _ _ _ (by omega) hlt]
          exact hj
  · -- a new row
    have hle := nextslicecap_le (need := s.len + x.len) (old := s.cap) (by omega)
    have hroom' : ¬ (Builtin.nextslicecap (s.len + x.len) s.cap * i.bytes > 2 ^ 48) := by
      have := Nat.mul_le_mul_right i.bytes hle
      omega
    obtain ⟨nc, hnc, hncl⟩ : ∃ nc, (Question.appendCap (s.len + x.len) s.cap e).cut (w.tape w.drawn (Question.appendCap (s.len + x.len) s.cap e)) = nc ∧ s.len + x.len ≤ nc := ⟨_, rfl, by simp only [Question.cut]; omega⟩
    have hfx' : (Builtin.firstCells i.size x.len (.slice x.a x.len x.cap)).run P w.drew = .ok us.toArray w.drew := run_firstCellsX P (hx.ext (Ext.drew w))
    have hfs' : (Builtin.firstCells i.size s.len (.slice s.a s.len s.cap)).run P w.drew = .ok vs.toArray w.drew := run_firstCells P (hs.in.ext (Ext.drew w))
    let row := vs.toArray ++ us.toArray ++ Builtin.zeroCells z.cells (nc - (s.len + x.len))
    have hrow : row.size = nc * i.size := by
      simp only [row, Array.size_append, List.size_toArray, Builtin.zeroCells, Array.size_map, Array.size_range, hzl, hlen, hxlen]
      rw [← Nat.add_mul, ← Nat.add_mul]
      congr 1; omega
    have hext : Ext w (w.drew.alloc (.cells row e)) := (Ext.drew w).trans (Ext.alloc w.drew _)
    refine ⟨⟨some ⟨w.heap.size, 0, none⟩, s.len + x.len, nc⟩, w.drew.alloc (.cells row e), ?_, ⟨by simp [hlen, hxlen, Nat.add_mul], hncl, .inr ⟨w.heap.size, 0, row, rfl, hB, heap_alloc w.drew _, by rw [hrow]; simp, ?_⟩⟩, rfl,
      (Upd.of_ext hext), (fun k hk => .inr (by obtain ⟨p, hp, rfl⟩ := hk; cases hp; exact Nat.le_refl _)), .inl hext⟩
    · have hb0' : ¬ i.bytes = 0 := by omega
      simp [Builtin.append_, hu1, hu2, hsz, Builtin.lenOf, hneed, hti, hb0', hroom', run_askRoom, hfs', hfx', hzv, newRow, newObj, Sem.run, Question.forced, hnc, row]
    · intro j v hj
      rw [Nat.zero_add]
      have hlt := (List.getElem?_eq_some_iff.1 hj).1
      have : row[j]? = (vs ++ us)[j]? := by
        simp only [row]
        rw [Array.getElem?_append_left (by simpa using hlt)]
        simp
      rw [this]; exact hj

theorem get_setRow_all {v : Value} : ∀ (us : List Value) (c : Array Value) (off j : Nat), (∀ u ∈ us, u = v) → c[j]? = some v → (setRow c off us)[j]? = some v
  | [], _, _, _, _, h => h
  | u :: r, c, off, j, hu, h => by
    rw [setRow]
    refine get_setRow_all r _ _ _ (fun x hx => hu x (List.mem_cons_of_mem _ hx)) ?_
    rw [Array.getElem?_setIfInBounds]
    have hlt := (Array.getElem?_eq_some_iff.1 h).1
    by_cases hj : off = j
    · rw [if_pos hj, if_pos (by omega), hu u List.mem_cons_self]
    · rw [if_neg hj]; exact h

/-- a slice all of one value -/
abbrev AllV (w : World) (t : TypeId) (v : Value) (y : Sl) : Prop := SlIn w y t 1 (List.replicate y.len v)

/-- an append of a value to a slice that holds it alone: all slices of that value stay so -/
theorem append_all {ts xt rt e xe : TypeId} {bytes : Nat} (E : ElemOk P ts e 1 bytes) (hxt : P.underlying xt = some (.slice xe)) {B : Nat} {s x : Sl} {v : Value} {K : Sl → World → Prop}
    (hs : SlOwn w B s e 1 (List.replicate s.len v)) (hx : SlX w x 1 (List.replicate x.len v)) (h1 : isOne v = true) (hroom : (s.len + x.len + (s.len + x.len) / 4 + 512) * bytes ≤ 2 ^ 48) (hB : B ≤ w.heap.size)
    (h : ∀ s' w', SlOwn w' B s' e 1 (List.replicate s'.len v) → s'.len = s.len + x.len → Upd s.blk w w' → (∀ k, s'.blk k → s.blk k ∨ w.heap.size ≤ k) → (∀ y, AllV w e v y → AllV w' e v y) → (∀ y B, SlOwn w B y e 1 (List.replicate y.len v) → SlOwn w' B y e 1 (List.replicate y.len v)) → K s' w') :
    rawT P (.one (.one .sl)) (Builtin.append_ #[ts, xt] rt #[.slice s.a s.len s.cap, .slice x.a x.len x.cap]) K w := by
  obtain ⟨i, z, hi, hsz, rfl, hz, hzs⟩ := E.e_
  rw [← hsz] at hs hx
  obtain ⟨s', w', hr, ho, hl, hu, hb, hex⟩ := append_run2 (rt := rt) P E.ts_ hxt hi hz hs hx (fun u hu => by rw [List.eq_of_mem_replicate hu]; exact h1) (by rw [hsz]; exact hzs) hroom E.pos hB
  rw [hsz] at ho
  refine ⟨s', w', hr, h s' w' ?_ hl hu hb (fun y hy => ?_) fun y B hy => ?_⟩
  · rw [hl]
    have e : List.replicate s.len v ++ List.replicate x.len v = List.replicate (s.len + x.len) v := by simp
    rw [e] at ho; exact ho
  · rcases hex with hex | ⟨b, off, c, ha, hb1, hb2⟩
    · exact hy.ext hex
    · refine ⟨hy.len, hy.le, hy.at_.imp id fun ⟨b', off', c', fr', ha', hb', hcap, hv⟩ => ?_⟩
      by_cases hbb : b' = b
      · subst hbb
        rw [hb1] at hb'
        cases hb'
        exact ⟨b', off', _, _, ha', hb2, by rw [size_setRow]; exact hcap, fun i u hu => by
          have h3 := hv i u hu
          have h4 : u = v := List.eq_of_mem_replicate (List.mem_of_getElem? hu)
          subst h4
          exact get_setRow_all _ _ _ _ (fun q hq => List.eq_of_mem_replicate hq) h3⟩
      · exact ⟨b', off', c', fr', ha', hu.get hb' (fun ⟨p, hp, hpb⟩ => by rw [ha] at hp; cases hp; exact hbb hpb.symm), hcap, hv⟩
  · rcases hex with hex | ⟨b, off, c, ha, hb1, hb2⟩
    · exact hy.ext hex
    · refine ⟨hy.len, hy.le, hy.at_.imp id fun ⟨b', off', c', ha', hB', hb', hcap, hv⟩ => ?_⟩
      by_cases hbb : b' = b
      · subst hbb
        rw [hb1] at hb'
        cases hb'
        exact ⟨b', off', _, ha', hB', hb2, by rw [size_setRow]; exact hcap, fun i u hu => by
          have h3 := hv i u hu
          have h4 : u = v := List.eq_of_mem_replicate (List.mem_of_getElem? hu)
          subst h4
          exact get_setRow_all _ _ _ _ (fun q hq => List.eq_of_mem_replicate hq) h3⟩
      · exact ⟨b', off', c', ha', hB', hu.get hb' (fun ⟨p, hp, hpb⟩ => by rw [ha] at hp; cases hp; exact hbb hpb.symm), hcap, hv⟩

/-- an element of a row of one's own is set -/
theorem ix_st {c : Cell} {s : Sl} {t : TypeId} {B : Nat} {xs : List c.T} {n : Int} {x : c.T} {K : World → Prop} (h : SlOwn w B s t 1 (xs.map c.val)) (h0 : 0 ≤ n) (hn : n < s.len)
    (hK : ∀ w', SlOwn w' B s t 1 ((xs.set n.toNat x).map c.val) → Upd s.blk w w' → w'.heap.size = w.heap.size → K w') : ix s.a s.len n (fun p => stC (p.add (scaled n.toNat 1)) (c.val x) K) w := by
  have hl := h.len1
  rw [List.length_map] at hl
  rcases h.at_ with ⟨ha, hc⟩ | ⟨b, off, cs, ha, hB, hb, hcap, hv⟩
  · have := h.le; omega
  · have hle := h.le
    refine ⟨⟨b, off, none⟩, ⟨ha, h0, hn⟩, ?_⟩
    dsimp only
    rw [addr_add, scaled_eq, Nat.mul_one]
    refine stC_r hb (by omega) fun w1 u1 n1 hz => hK w1 ⟨by simp [hl], h.le, .inr ⟨b, off, _, ha, hB, n1, by simpa using hcap, fun i v hi => ?_⟩⟩ (u1.mono fun k _ hk => ⟨_, ha, hk.symm⟩) hz
    rw [List.getElem?_map, List.getElem?_set] at hi
    by_cases hin : n.toNat = i
    · rw [if_pos hin, if_pos (by omega)] at hi
      rw [Array.getElem?_setIfInBounds, if_pos (by omega), if_pos (by omega)]
      exact hi
    · rw [if_neg hin] at hi
      rw [Array.getElem?_setIfInBounds, if_neg (by omega)]
      exact hv i v (by rw [List.getElem?_map]; exact hi)
end
end Go.Vx
