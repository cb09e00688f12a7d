/-
  Memory: blocks that stay, new blocks, stores, rows of cells behind slices, append.
-/
import Derived.Test.YtdabehgbhndimaaVxF
set_option linter.unusedSimpArgs false
set_option linter.unusedVariables false
namespace Go.Vx
open Go

/-- From w to w' nothing that was there has turned, but for the blocks of S; nothing is gone. -/
structure Upd (S : Nat → Prop) (w w' : World) : Prop where
  os : w'.os = w.os
  tape : w'.tape = w.tape
  output : w'.output = w.output
  size : w.heap.size ≤ w'.heap.size
  at_ : ∀ k, k < w.heap.size → ¬ S k → w'.heap[k]? = w.heap[k]?

/-- Only new blocks. -/
abbrev Ext (w w' : World) : Prop := Upd (fun _ => False) w w'

theorem lt_of_heap {w : World} {k : Nat} {o : Obj} (h : w.heap[k]? = some o) : k < w.heap.size := (Array.getElem?_eq_some_iff.1 h).1

section
variable {S S' : Nat → Prop} {w w' w'' : World}

theorem Upd.refl (S : Nat → Prop) (w : World) : Upd S w w := ⟨rfl, rfl, rfl, Nat.le_refl _, fun _ _ _ => rfl⟩
theorem Ext.refl (w : World) : Ext w w := Upd.refl _ w
theorem Upd.get (h : Upd S w w') {k : Nat} {o : Obj} (hk : w.heap[k]? = some o) (hS : ¬ S k) : w'.heap[k]? = some o := by
  rw [h.at_ k (lt_of_heap hk) hS]; exact hk
theorem Upd.ext_get (h : Ext w w') {k : Nat} {o : Obj} (hk : w.heap[k]? = some o) : w'.heap[k]? = some o := h.get hk id
theorem Upd.mono (h : Upd S w w') (hs : ∀ k, k < w.heap.size → S k → S' k) : Upd S' w w' := ⟨h.os, h.tape, h.output, h.size, fun k hk hn => h.at_ k hk fun hS => hn (hs k hk hS)⟩
theorem Upd.trans (h : Upd S w w') (h' : Upd S w' w'') : Upd S w w'' :=
  ⟨h'.os.trans h.os, h'.tape.trans h.tape, h'.output.trans h.output, Nat.le_trans h.size h'.size, fun k hk hn => (h'.at_ k (Nat.lt_of_lt_of_le hk h.size) hn).trans (h.at_ k hk hn)⟩
theorem Upd.of_ext (h : Ext w w') : Upd S w w' := h.mono fun _ _ h => h.elim
/-- behind a step that turns only what is new -/
theorem Upd.new (h : Upd S w w') (h' : Upd S' w' w'') (hs : ∀ k, k < w.heap.size → S' k → S k) : Upd S w w'' :=
  ⟨h'.os.trans h.os, h'.tape.trans h.tape, h'.output.trans h.output, Nat.le_trans h.size h'.size, fun k hk hn => (h'.at_ k (Nat.lt_of_lt_of_le hk h.size) fun hS => hn (hs k hk hS)).trans (h.at_ k hk hn)⟩
theorem Ext.trans (h : Ext w w') (h' : Ext w' w'') : Ext w w'' := Upd.trans h h'
theorem Ext.step (h : Ext w w') (h' : Upd S' w' w'') (hs : ∀ k, S' k → w.heap.size ≤ k) : Ext w w'' := Upd.new h h' fun k hk hS => absurd (hs k hS) (by omega)

theorem Ext.alloc (w : World) (o : Obj) : Ext w (w.alloc o) :=
  ⟨rfl, rfl, rfl, by simp, fun k hk _ => by show (w.heap.push o)[k]? = _; rw [Array.getElem?_push, if_neg (by omega)]⟩
theorem heap_alloc (w : World) (o : Obj) : (w.alloc o).heap[w.heap.size]? = some o := by
  show (w.heap.push o)[w.heap.size]? = _
  simp
theorem Ext.drew (w : World) : Ext w w.drew := ⟨rfl, rfl, rfl, Nat.le_refl _, fun _ _ _ => rfl⟩

theorem cell_of {b off : Nat} {c : Array Value} {t : TypeId} {fr : Nat × Nat} {v : Value} (hb : w.heap[b]? = some (.cells c t fr)) (hc : c[off]? = some v) : w.cell? ⟨b, off, none⟩ = some v := by
  simp [World.cell?, hb, hc]

theorem upd_setCell {b off : Nat} {c : Array Value} {t : TypeId} {fr : Nat × Nat} (v : Value) (hb : w.heap[b]? = some (.cells c t fr)) :
    Upd (fun k => k = b) w (w.setCell ⟨b, off, none⟩ v) ∧ (w.setCell ⟨b, off, none⟩ v).heap[b]? = some (.cells (c.setIfInBounds off v) t fr) := by
  refine ⟨⟨rfl, rfl, rfl, by simp [World.setCell], fun k hk hn => ?_⟩, ?_⟩
  · simp only [World.setCell, Array.getElem?_modify]
    rw [if_neg (fun h => hn h.symm)]
  · simp [World.setCell, Array.getElem?_modify, hb]

/- the conditions, by rules -/
theorem newO_r {o : Obj} {K : Nat → World → Prop} (h : ∀ b w1, Ext w w1 → w1.heap[b]? = some o → b = w.heap.size → w1.heap.size = w.heap.size + 1 → K b w1) : newO o K w :=
  h _ _ (Ext.alloc w o) (heap_alloc w o) rfl (by simp)
theorem drew_r {K : World → Prop} (h : ∀ w1, Ext w w1 → w1.heap = w.heap → K w1) : drew K w := h _ (Ext.drew w) rfl
theorem ld_r {c : Cell} {b off : Nat} {K : c.T → World → Prop} {x : c.T} {cs : Array Value} {t : TypeId} {fr : Nat × Nat} (hb : w.heap[b]? = some (.cells cs t fr)) (hc : cs[off]? = some (c.val x)) (h : K x w) :
    ld c ⟨b, off, none⟩ K w := ⟨x, cell_of hb hc, h⟩
theorem lds_r {cs : List Cell} {b off : Nat} {K : Cells.T cs → World → Prop} {x : Cells.T cs} {c : Array Value} {t : TypeId} {fr : Nat × Nat} (hb : w.heap[b]? = some (.cells c t fr))
    (hc : ∀ i v, (Cells.vals cs x)[i]? = some v → c[off + i]? = some v) (h : K x w) : lds cs ⟨b, off, none⟩ K w := by
  refine ⟨x, ?_, h⟩
  have key : ∀ (l : List Value) (j : Nat), (∀ i v, l[i]? = some v → c[off + (j + i)]? = some v) → cellsAt w ⟨b, off, none⟩ j l := by
    intro l
    induction l with
    | nil => intro _ _; trivial
    | cons v r ih =>
      intro j hj
      refine ⟨?_, ih (j + 1) fun i u hu => ?_⟩
      · have := cell_of hb (hj 0 v rfl)
        have e : (⟨b, off, none⟩ : Addr).add j = ⟨b, off + j, none⟩ := by unfold Addr.add; split <;> simp_all
        rw [e]; simpa using this
      · have := hj (i + 1) u (by simpa using hu)
        rw [show off + (j + 1 + i) = off + (j + (i + 1)) by omega]; exact this
  exact key _ 0 (by simpa using hc)
theorem stC_r {b off : Nat} {v : Value} {K : World → Prop} {c : Array Value} {t : TypeId} (hb : w.heap[b]? = some (.cells c t (0, 0))) (ho : off < c.size)
    (h : ∀ w1, Upd (fun k => k = b) w w1 → w1.heap[b]? = some (.cells (c.setIfInBounds off v) t (0, 0)) → w1.heap.size = w.heap.size → K w1) : stC ⟨b, off, none⟩ v K w := by
  obtain ⟨h1, h2⟩ := upd_setCell (off := off) v hb
  refine ⟨⟨⟨c[off], cell_of hb (by simp [ho])⟩, ?_⟩, h _ h1 h2 (by simp [World.setCell])⟩
  simp [World.frozen?, hb]
theorem addr_add (b o n : Nat) : (⟨b, o, none⟩ : Addr).add n = ⟨b, o + n, none⟩ := by unfold Addr.add; split <;> simp_all

/-- a row of cells with others put in from a place on -/
def setRow (c : Array Value) : Nat → List Value → Array Value
  | _, [] => c
  | off, v :: r => setRow (c.setIfInBounds off v) (off + 1) r
theorem size_setRow : ∀ (vs : List Value) (c : Array Value) (off : Nat), (setRow c off vs).size = c.size
  | [], _, _ => rfl
  | v :: r, c, off => by rw [setRow, size_setRow r]; simp
theorem get_setRow_lt : ∀ (vs : List Value) (c : Array Value) (off i : Nat), i < off → (setRow c off vs)[i]? = c[i]?
  | [], _, _, _, _ => rfl
  | v :: r, c, off, i, h => by rw [setRow, get_setRow_lt r _ _ _ (by omega)]; simp [Array.getElem?_setIfInBounds, Nat.ne_of_gt h]
theorem get_setRow_ge : ∀ (vs : List Value) (c : Array Value) (off i : Nat), off + vs.length ≤ i → (setRow c off vs)[i]? = c[i]?
  | [], _, _, _, _ => rfl
  | v :: r, c, off, i, h => by
    simp only [List.length_cons] at h
    rw [setRow, get_setRow_ge r _ _ _ (by omega), Array.getElem?_setIfInBounds, if_neg (by omega)]
theorem get_setRow : ∀ (vs : List Value) (c : Array Value) (off i : Nat), off + vs.length ≤ c.size → i < vs.length → (setRow c off vs)[off + i]? = vs[i]?
  | v :: r, c, off, 0, h, _ => by
    simp only [List.length_cons] at h
    rw [setRow, Nat.add_zero, get_setRow_lt r _ _ _ (by omega), Array.getElem?_setIfInBounds]
    simp; omega
  | v :: r, c, off, i + 1, h, hi => by
    simp only [List.length_cons] at h hi
    rw [setRow, show off + (i + 1) = off + 1 + i by omega, get_setRow r _ _ _ (by simp; omega) (by omega)]
    simp

theorem run_storeRow (P : Program) : ∀ (vs : List Value) (b off i : Nat) (c : Array Value) (t : TypeId) (w : World), (∀ v ∈ vs, isOne v = true) → w.heap[b]? = some (.cells c t (0, 0)) → off + i + vs.length ≤ c.size →
    ∃ w1, (storeCells ⟨b, off, none⟩ vs i).run P w = .ok () w1 ∧ Upd (fun k => k = b) w w1 ∧ w1.heap[b]? = some (.cells (setRow c (off + i) vs) t (0, 0)) ∧ w1.heap.size = w.heap.size
  | [], b, off, i, c, t, w, _, hb, _ => ⟨w, rfl, Upd.refl _ _, hb, rfl⟩
  | v :: r, b, off, i, c, t, w, hv, hb, hs => by
    simp only [List.length_cons] at hs
    obtain ⟨h1, h2⟩ := upd_setCell (off := off + i) v hb
    have hsz : (w.setCell ⟨b, off + i, none⟩ v).heap.size = w.heap.size := by simp [World.setCell]
    obtain ⟨w1, hr, hu, hb1, hz⟩ := run_storeRow P r b off (i + 1) _ t _ (fun x hx => hv x (List.mem_cons_of_mem _ hx)) h2 (by simp; omega)
    refine ⟨w1, ?_, h1.trans hu, hb1, hz.trans hsz⟩
    have hst := run_store_one (P := P) (p := ⟨b, off + i, none⟩) (hv v List.mem_cons_self) (cell_of hb (v := c[off + i]'(by omega)) (by simp)) (by simp [World.frozen?, hb])
    simp only [storeCells, addr_add, Sem.run_bind, hst, Result.andThen_ok]
    exact hr

theorem aggSt_r {b off n : Nat} {vs : Array Value} {K : World → Prop} {c : Array Value} {t : TypeId} (hb : w.heap[b]? = some (.cells c t (0, 0))) (hn : vs.size = n) (h1 : vs.toList.all isOne = true) (ho : off + n ≤ c.size)
    (h : ∀ w1, Upd (fun k => k = b) w w1 → w1.heap[b]? = some (.cells (setRow c off vs.toList) t (0, 0)) → w1.heap.size = w.heap.size → K w1) : aggSt ⟨b, off, none⟩ (.agg vs) n K w := by
  have key : ∀ (l : List Value) (i : Nat) (c : Array Value) (w : World), w.heap[b]? = some (.cells c t (0, 0)) → off + i + l.length ≤ c.size →
      (∀ w1, Upd (fun k => k = b) w w1 → w1.heap[b]? = some (.cells (setRow c (off + i) l) t (0, 0)) → w1.heap.size = w.heap.size → K w1) → stCs ⟨b, off, none⟩ i l K w := by
    intro l
    induction l with
    | nil => intro i c w hb _ h; exact h w (Upd.refl _ _) hb rfl
    | cons v r ih =>
      intro i c w hb hs h
      simp only [List.length_cons] at hs
      rw [stCs, addr_add]
      exact stC_r hb (by omega) fun w1 u1 hb1 z1 => ih (i + 1) _ w1 hb1 (by simp; omega) fun w2 u2 hb2 hz => h w2 (u1.trans u2) hb2 (hz.trans z1)
  unfold aggSt
  have e : (Nat.beq (Value.agg vs).cells.toList.length n && (Value.agg vs).cells.toList.all isOne) = true := by
    rw [Bool.and_eq_true]
    refine ⟨?_, h1⟩
    show Nat.beq vs.toList.length n = true
    rw [Array.length_toList, hn]; exact Nat.beq_refl n
  rw [e]
  exact key _ 0 c w hb (by show off + 0 + vs.toList.length ≤ _; rw [Array.length_toList, hn]; omega) h

/-- A slice whose elements' cells read as listed. -/
structure SlIn (w : World) (s : Sl) (t : TypeId) (sz : Nat) (vs : List Value) : Prop where
  len : vs.length = s.len * sz
  le : s.len ≤ s.cap
  at_ : (s.a = none ∧ s.cap = 0) ∨ ∃ b off c fr, s.a = some ⟨b, off, none⟩ ∧ w.heap[b]? = some (.cells c t fr) ∧ off + s.cap * sz ≤ c.size ∧ ∀ i v, vs[i]? = some v → c[off + i]? = some v

/-- The same, in a block of one's own, from B on. -/
structure SlOwn (w : World) (B : Nat) (s : Sl) (t : TypeId) (sz : Nat) (vs : List Value) : Prop where
  len : vs.length = s.len * sz
  le : s.len ≤ s.cap
  at_ : (s.a = none ∧ s.cap = 0) ∨ ∃ b off c, s.a = some ⟨b, off, none⟩ ∧ B ≤ b ∧ w.heap[b]? = some (.cells c t (0, 0)) ∧ off + s.cap * sz ≤ c.size ∧ ∀ i v, vs[i]? = some v → c[off + i]? = some v

/-- The block behind a slice. -/
def Sl.blk (s : Sl) (k : Nat) : Prop := ∃ p, s.a = some p ∧ p.block = k

theorem SlOwn.in {B : Nat} {s : Sl} {t : TypeId} {sz : Nat} {vs : List Value} (h : SlOwn w B s t sz vs) : SlIn w s t sz vs :=
  ⟨h.len, h.le, h.at_.imp id fun ⟨b, off, c, h1, _, h2, h3, h4⟩ => ⟨b, off, c, _, h1, h2, h3, h4⟩⟩
theorem SlIn.upd {s : Sl} {t : TypeId} {sz : Nat} {vs : List Value} (h : SlIn w s t sz vs) (hu : Upd S w w') (hS : ∀ k, s.blk k → ¬ S k) : SlIn w' s t sz vs :=
  ⟨h.len, h.le, h.at_.imp id fun ⟨b, off, c, fr, h1, h2, h3, h4⟩ => ⟨b, off, c, fr, h1, hu.get h2 (hS b ⟨_, h1, rfl⟩), h3, h4⟩⟩
theorem SlIn.ext {s : Sl} {t : TypeId} {sz : Nat} {vs : List Value} (h : SlIn w s t sz vs) (hu : Ext w w') : SlIn w' s t sz vs := h.upd hu fun _ _ => id
theorem SlOwn.upd {B : Nat} {s : Sl} {t : TypeId} {sz : Nat} {vs : List Value} (h : SlOwn w B s t sz vs) (hu : Upd S w w') (hS : ∀ k, B ≤ k → s.blk k → ¬ S k) : SlOwn w' B s t sz vs :=
  ⟨h.len, h.le, h.at_.imp id fun ⟨b, off, c, h1, hB, h2, h3, h4⟩ => ⟨b, off, c, h1, hB, hu.get h2 (hS b hB ⟨_, h1, rfl⟩), h3, h4⟩⟩
theorem SlOwn.ext {B : Nat} {s : Sl} {t : TypeId} {sz : Nat} {vs : List Value} (h : SlOwn w B s t sz vs) (hu : Ext w w') : SlOwn w' B s t sz vs := h.upd hu fun _ _ _ => id
theorem SlOwn.mono {B B' : Nat} {s : Sl} {t : TypeId} {sz : Nat} {vs : List Value} (h : SlOwn w B s t sz vs) (hB : B' ≤ B) : SlOwn w B' s t sz vs :=
  ⟨h.len, h.le, h.at_.imp id fun ⟨b, off, c, h1, hb, h2⟩ => ⟨b, off, c, h1, Nat.le_trans hB hb, h2⟩⟩
theorem SlOwn.nil (w : World) (B : Nat) (t : TypeId) (sz : Nat) : SlOwn w B ⟨none, 0, 0⟩ t sz [] := ⟨by simp, Nat.le_refl _, .inl ⟨rfl, rfl⟩⟩
theorem SlIn.nil (w : World) (t : TypeId) (sz : Nat) : SlIn w ⟨none, 0, 0⟩ t sz [] := (SlOwn.nil w 0 t sz).in
theorem SlIn.blk_lt {s : Sl} {t : TypeId} {sz : Nat} {vs : List Value} (h : SlIn w s t sz vs) {k : Nat} (hk : s.blk k) : k < w.heap.size := by
  obtain ⟨p, hp, rfl⟩ := hk
  rcases h.at_ with ⟨hn, _⟩ | ⟨b, off, c, fr, h1, h2, _⟩
  · rw [hn] at hp; cases hp
  · rw [h1] at hp; cases hp; exact lt_of_heap h2
theorem SlOwn.blk_ge {B : Nat} {s : Sl} {t : TypeId} {sz : Nat} {vs : List Value} (h : SlOwn w B s t sz vs) {k : Nat} (hk : s.blk k) : B ≤ k := by
  obtain ⟨p, hp, rfl⟩ := hk
  rcases h.at_ with ⟨hn, _⟩ | ⟨b, off, c, h1, hB, _⟩
  · rw [hn] at hp; cases hp
  · rw [h1] at hp; cases hp; exact hB

/-- an element's address -/
theorem SlIn.ix {s : Sl} {t : TypeId} {sz : Nat} {vs : List Value} (h : SlIn w s t sz vs) {n : Int} (h0 : 0 ≤ n) (h1 : n < s.len) (hz : 0 < sz) {K : Addr → World → Prop}
    (hK : ∀ b off, s.a = some ⟨b, off, none⟩ → (∀ j v, vs[n.toNat * sz + j]? = some v → w.cell? ⟨b, off + n.toNat * sz + j, none⟩ = some v) → K ⟨b, off, none⟩ w) : ix s.a s.len n K w := by
  rcases h.at_ with ⟨_, hc⟩ | ⟨b, off, c, fr, ha, hb, _, hv⟩
  · have := h.le; omega
  · exact ⟨_, ⟨ha, h0, h1⟩, hK b off ha fun j v hj => by rw [Nat.add_assoc]; exact cell_of hb (hv _ _ hj)⟩

theorem cellsAt_of {b off : Nat} : ∀ (l : List Value) (i : Nat), (∀ j v, l[j]? = some v → w.cell? ⟨b, off + (i + j), none⟩ = some v) → cellsAt w ⟨b, off, none⟩ i l
  | [], _, _ => trivial
  | v :: r, i, h => ⟨by rw [addr_add]; exact h 0 v rfl, cellsAt_of r (i + 1) fun j u hj => by rw [show off + (i + 1 + j) = off + (i + (j + 1)) by omega]; exact h (j + 1) u (by simpa using hj)⟩

/-- the cells in a row behind an address -/
theorem run_loadRow (P : Program) {b off n : Nat} {c : Array Value} {t : TypeId} {fr : Nat × Nat} {vs : List Value} (hb : w.heap[b]? = some (.cells c t fr)) (hv : ∀ i v, vs[i]? = some v → c[off + i]? = some v) (hn : vs.length = n) :
    (loadCells ⟨b, off, none⟩ n).run P w = .ok vs.toArray w := by
  have := run_loadCells (P := P) vs ⟨b, off, none⟩ 0 #[] w (cellsAt_of vs 0 fun j v hj => by rw [Nat.zero_add]; exact cell_of hb (hv j v hj))
  rw [hn] at this
  simpa [loadCells] using this

theorem run_firstCells (P : Program) {s : Sl} {t : TypeId} {sz : Nat} {vs : List Value} (h : SlIn w s t sz vs) : (Builtin.firstCells sz s.len (.slice s.a s.len s.cap)).run P w = .ok vs.toArray w := by
  rcases h.at_ with ⟨ha, hc⟩ | ⟨b, off, c, fr, ha, hb, _, hv⟩
  · have hl : s.len = 0 := by have := h.le; omega
    have : vs = [] := by have := h.len; rw [hl, Nat.zero_mul] at this; exact List.length_eq_zero_iff.1 this
    rw [ha, this]; rfl
  · rw [ha]; exact run_loadRow P hb hv h.len

/-- A slice whose elements read as listed, whatever block it leads to; one without elements may lead anywhere. -/
structure SlX (w : World) (s : Sl) (sz : Nat) (vs : List Value) : Prop where
  at_ : (s.len = 0 ∧ vs = []) ∨ ∃ t, SlIn w s t sz vs
theorem SlIn.x {s : Sl} {t : TypeId} {sz : Nat} {vs : List Value} (h : SlIn w s t sz vs) : SlX w s sz vs := ⟨.inr ⟨t, h⟩⟩
theorem SlX.len {s : Sl} {sz : Nat} {vs : List Value} (h : SlX w s sz vs) : vs.length = s.len * sz := by
  rcases h.at_ with ⟨h1, h2⟩ | ⟨t, h⟩
  · rw [h1, h2]; simp
  · exact h.len
theorem SlX.ext {s : Sl} {sz : Nat} {vs : List Value} (h : SlX w s sz vs) (hu : Ext w w') : SlX w' s sz vs := ⟨h.at_.imp id fun ⟨t, h⟩ => ⟨t, h.ext hu⟩⟩
theorem run_firstCellsX (P : Program) {s : Sl} {sz : Nat} {vs : List Value} (h : SlX w s sz vs) : (Builtin.firstCells sz s.len (.slice s.a s.len s.cap)).run P w = .ok vs.toArray w := by
  rcases h.at_ with ⟨h1, h2⟩ | ⟨t, h⟩
  · rw [h1, h2]
    cases s.a with
    | none => rfl
    | some a =>
      show (loadCells a (0 * sz)).run P w = _
      rw [Nat.zero_mul]
      rfl
  · exact run_firstCells P h

theorem growBy_le (need : Nat) : ∀ (n c : Nat), c ≤ need + need / 4 + 192 → Builtin.growBy need n c ≤ need + need / 4 + 192
  | 0, c, h => h
  | n + 1, c, h => by
    rw [Builtin.growBy]
    split
    · exact h
    · exact growBy_le need n _ (by omega)
theorem nextslicecap_le {need old : Nat} (h : old < need) : Builtin.nextslicecap need old ≤ need + need / 4 + 512 := by
  unfold Builtin.nextslicecap
  split
  · omega
  · split
    · omega
    · have := growBy_le need 4 old (by omega); omega

theorem run_choose (P : Program) (q : Question) (hq : q.forced = false) : (choose q).run P w = .ok (q.cut (w.tape w.drawn q)) w.drew := by
  simp [choose, Sem.run, hq]

theorem run_askRoom (P : Program) (n : Nat) : (askRoom n).run P w = .ok () w := by
  unfold askRoom
  split
  · rfl
  · rfl

/-- append of a slice to a slice of one's own -/
theorem append_run (P : Program) {ts xt rt : TypeId} {e xe : TypeId} {i : TypeInfo} {z : Value} (hts : P.underlying ts = some (.slice e)) (hxt : P.underlying xt = some (.slice xe)) (hi : P.info? e = some i) (hz : i.zero = some z)
    {B : Nat} {s x : Sl} {vs us : List Value} (hs : SlOwn w B s e i.size vs) (hx : SlX w x i.size us) (h1 : ∀ v ∈ us, isOne v = true) (hzl : z.cells.size = i.size)
    (hroom : (s.len + x.len + (s.len + x.len) / 4 + 512) * i.bytes ≤ 2 ^ 48) (hb0 : 0 < i.bytes) (hB : B ≤ w.heap.size) :
    ∃ s' w', (Builtin.append_ #[ts, xt] rt #[.slice s.a s.len s.cap, .slice x.a x.len x.cap]).run P w = .ok (.slice s'.a s'.len s'.cap) w' ∧ SlOwn w' B s' e i.size (vs ++ us) ∧ s'.len = s.len + x.len ∧
      Upd (fun k => s.blk k) w w' ∧ (∀ k, s'.blk k → s.blk k ∨ w.heap.size ≤ k) := by
  have hfx := run_firstCellsX P hx
  have hfs := run_firstCells P hs.in
  have hu1 := fun W => run_underlying hts W
  have hu2 := fun W => run_underlying hxt W
  have hsz : ∀ W, (sizeOf e).run P W = .ok i.size W := fun W => by simp [sizeOf, run_typeInfo W hi]
  have hti : ∀ W, (typeInfo e).run P W = .ok i W := fun W => run_typeInfo W hi
  have hzv : ∀ W, (zeroValue e).run P W = .ok z W := fun W => by simp [zeroValue, run_typeInfo W hi, hz]
  have hlen := hs.len
  have hxlen := hx.len
  by_cases hneed : s.len + x.len ≤ s.cap
  · -- within the capacity
    rcases hs.at_ with ⟨ha, hc⟩ | ⟨b, off, c, ha, hB', hb, hcap, hv⟩
    · have hl0 : x.len = 0 := by omega
      have hsl : s.len = 0 := by omega
      have hus : us = [] := by rw [hl0, Nat.zero_mul] at hxlen; exact List.length_eq_zero_iff.1 hxlen
      refine ⟨⟨none, 0, s.cap⟩, w, ?_, ⟨by simp [hus, hlen, hsl], by simp, .inl ⟨rfl, hc⟩⟩, by simp [hl0, hsl], Upd.refl _ _, fun k hk => by obtain ⟨p, hp, _⟩ := hk; cases hp⟩
      have hfx' : (Builtin.firstCells i.size 0 (.slice x.a 0 x.cap)).run P w = .ok #[] w := by rw [hl0, hus] at hfx; exact hfx
      simp [Builtin.append_, hu1, hu2, hsz, Builtin.lenOf, hl0, hsl, ha, hfx', hc]
    · have hfit : s.len * i.size + us.length ≤ s.cap * i.size := by
        rw [hxlen, ← Nat.add_mul]; exact Nat.mul_le_mul_right _ hneed
      obtain ⟨w1, hr, hu, hb1, _⟩ := run_storeRow P us b (off + s.len * i.size) 0 c e w h1 hb (by omega)
      refine ⟨⟨s.a, s.len + x.len, s.cap⟩, w1, ?_, ⟨by simp [hlen, hxlen, Nat.add_mul], hneed, .inr ⟨b, off, setRow c (off + s.len * i.size + 0) us, ha, hB', hb1, by rw [size_setRow]; exact hcap, ?_⟩⟩, rfl, hu.mono fun k _ hk => ⟨_, ha, hk.symm⟩, fun k hk => .inl hk⟩
      · simp [Builtin.append_, hu1, hu2, hsz, Builtin.lenOf, hneed, hfx, ha, addr_add, hr]
      · intro j v hj
        rw [Nat.add_zero]
        by_cases hjl : j < vs.length
        · rw [List.getElem?_append_left hjl] at hj
          rw [get_setRow_lt _ _ _ _ (by omega)]; exact hv j v hj
        · rw [List.getElem?_append_right (by omega)] at hj
          have hlt := (List.getElem?_eq_some_iff.1 hj).1
          rw [show off + j = off + s.len * i.size + (j - vs.length) by omega, get_setRow _ _ _ _ (by omega) hlt]
          exact hj
  · -- a new row
    have hle := nextslicecap_le (need := s.len + x.len) (old := s.cap) (by omega)
    have hroom' : ¬ (Builtin.nextslicecap (s.len + x.len) s.cap * i.bytes > 2 ^ 48) := by
      have := Nat.mul_le_mul_right i.bytes hle
      omega
    obtain ⟨nc, hnc, hncl⟩ : ∃ nc, (Question.appendCap (s.len + x.len) s.cap e).cut (w.tape w.drawn (Question.appendCap (s.len + x.len) s.cap e)) = nc ∧ s.len + x.len ≤ nc := ⟨_, rfl, by simp only [Question.cut]; omega⟩
    have hfx' : (Builtin.firstCells i.size x.len (.slice x.a x.len x.cap)).run P w.drew = .ok us.toArray w.drew := run_firstCellsX P (hx.ext (Ext.drew w))
    have hfs' : (Builtin.firstCells i.size s.len (.slice s.a s.len s.cap)).run P w.drew = .ok vs.toArray w.drew := run_firstCells P (hs.in.ext (Ext.drew w))
    let row := vs.toArray ++ us.toArray ++ Builtin.zeroCells z.cells (nc - (s.len + x.len))
    have hrow : row.size = nc * i.size := by
      simp only [row, Array.size_append, List.size_toArray, Builtin.zeroCells, Array.size_map, Array.size_range, hzl, hlen, hxlen]
      rw [← Nat.add_mul, ← Nat.add_mul]
      congr 1; omega
    refine ⟨⟨some ⟨w.heap.size, 0, none⟩, s.len + x.len, nc⟩, w.drew.alloc (.cells row e), ?_, ⟨by simp [hlen, hxlen, Nat.add_mul], hncl, .inr ⟨w.heap.size, 0, row, rfl, hB, heap_alloc w.drew _, by rw [hrow]; simp, ?_⟩⟩, rfl,
      (Upd.of_ext ((Ext.drew w).trans (Ext.alloc w.drew _))), fun k hk => .inr (by obtain ⟨p, hp, rfl⟩ := hk; cases hp; exact Nat.le_refl _)⟩
    · have hb0' : ¬ i.bytes = 0 := by omega
      simp [Builtin.append_, hu1, hu2, hsz, Builtin.lenOf, hneed, hti, hb0', hroom', run_askRoom, hfs', hfx', hzv, newRow, newObj, Sem.run, Question.forced, hnc, row]
    · intro j v hj
      rw [Nat.zero_add]
      have hlt := (List.getElem?_eq_some_iff.1 hj).1
      have : row[j]? = (vs ++ us)[j]? := by
        simp only [row]
        rw [Array.getElem?_append_left (by simpa using hlt)]
        simp
      rw [this]; exact hj
end
end Go.Vx
