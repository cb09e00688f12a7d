/- The law's world: two banks and the document's two, in memory, and how it stays. Conditions: none. -/
import Derived.Test.YtocdfkeflakemaaRef5
import Derived.Test.YtocdfkeflakemaaVxL
set_option linter.unusedSimpArgs false
set_option linter.unusedVariables false
namespace Go.Proofs.Ytocdfkeflakemaa
open Go Go.Vx

abbrev qp (n : Nat) (p : Nat → Nat) (i : Nat) : Option Addr := if i < n then some (at0 (p i)) else none
abbrev fset {α : Type} (f : Nat → α) (j : Nat) (v : α) : Nat → α := fun i => if i = j then v else f i
/-- the world's box -/
abbrev wbox (np nr : Nat) (p r : Nat → Nat) (pen : Sl) : Array Value := #[.pointer (qp np p 0), .pointer (qp np p 1), .pointer (qp nr r 0), .pointer (qp nr r 1), .slice pen.a pen.len pen.cap]

structure WIn (w0 w : World) (x np nr : Nat) (p m r : Nat → Nat) (pen : Sl) (Z : Nat → Prop) (bk rk : Nat → Reg.Bk) : Prop where
  box : w.heap[x]? = some (.cells (wbox np nr p r pen) 52 (0, 0))
  bank : ∀ i, i < np → BankIn w (p i) (m i) Z (bk i)
  ref : ∀ i, i < nr → ∃ ks, RefIn w (r i) Z (rk i) ks
  okp : ∀ i, i < np → BkOk (bk i)
  okr : ∀ i, i < nr → BkOk (rk i)
  pp : ∀ i j, i < np → j < np → p i = p j → i = j
  mm : ∀ i j, i < np → j < np → m i = m j → i = j
  rr : ∀ i j, i < nr → j < nr → r i = r j → i = j
  gx : w0.heap.size ≤ x
  gp : ∀ i, i < np → w0.heap.size ≤ p i ∧ w0.heap.size ≤ m i
  gr : ∀ i, i < nr → w0.heap.size ≤ r i
  pen_ : pen = ⟨none, 0, 0⟩ ∨ ∃ pb c, pen = ⟨some (at0 pb), 300, 300⟩ ∧ w.heap[pb]? = some (.cells c 3 (0, 0)) ∧ c.size = 300 ∧ w0.heap.size ≤ pb ∧ Z pb
  zlt : ∀ k, Z k → k < w.heap.size
  upd : Ext w0 w

section
variable {w0 w w' : World} {x np nr : Nat} {p m r : Nat → Nat} {pen : Sl} {Z : Nat → Prop} {bk rk : Nat → Reg.Bk}

theorem WIn.ext (h : WIn w0 w x np nr p m r pen Z bk rk) (e : Ext w w') : WIn w0 w' x np nr p m r pen Z bk rk :=
  ⟨e.ext_get h.box, fun i hi => (h.bank i hi).ext e, fun i hi => let ⟨ks, hk⟩ := h.ref i hi; ⟨ks, hk.ext e⟩, h.okp, h.okr, h.pp, h.mm, h.rr, h.gx, h.gp, h.gr,
    h.pen_.imp id fun ⟨pb, c, h1, h2, h3⟩ => ⟨pb, c, h1, e.ext_get h2, h3⟩, fun k hk => Nat.lt_of_lt_of_le (h.zlt k hk) e.size, h.upd.trans e⟩
/-- more, or fewer, blocks that may be written; those that are more are new -/
theorem WIn.zset {Z' : Nat → Prop} (h : WIn w0 w x np nr p m r pen Z bk rk) (e : Ext w w') (hz : ∀ k, Z' k → Z k ∨ w.heap.size ≤ k) (hp : ∀ k, pen.blk k → Z' k) (hl : ∀ k, Z' k → k < w'.heap.size) : WIn w0 w' x np nr p m r pen Z' bk rk :=
  ⟨e.ext_get h.box, fun i hi => (h.bank i hi).updZ e id id (fun _ h => h.elim) hz, fun i hi => let ⟨ks, hk⟩ := h.ref i hi; ⟨ks, hk.updZ e id (fun _ h => h.elim) hz⟩, h.okp, h.okr, h.pp, h.mm, h.rr, h.gx, h.gp, h.gr,
    h.pen_.imp id fun ⟨pb, c, h1, h2, h3, h4, _⟩ => ⟨pb, c, h1, e.ext_get h2, h3, h4, hp pb ⟨_, by rw [h1], rfl⟩⟩, hl, h.upd.trans e⟩
theorem BankIn.map_at {pb m : Nat} {b : Reg.Bk} (h : BankIn w pb m Z b) : ∃ es c, w.heap[m]? = some (.map es c) := by
  obtain ⟨es, ⟨⟨c, h1, _⟩, _, _⟩, _⟩ := h.map
  exact ⟨_, c, h1⟩
/-- blocks turn of which none is a box of the world's, a bank's, the document's, a map, the pen -/
theorem WIn.other {S : Nat → Prop} (h : WIn w0 w x np nr p m r pen Z bk rk) (u : Upd S w w') (hS : ∀ k, S k → ∃ c t fr, w.heap[k]? = some (.cells c t fr) ∧ t ≠ 3 ∧ t ≠ 52 ∧ t ≠ 73 ∧ t ≠ 88) (hn : ∀ k, S k → w0.heap.size ≤ k) : WIn w0 w' x np nr p m r pen Z bk rk := by
  have hk : ∀ k, S k → k < w.heap.size → (∀ c t fr, w.heap[k]? = some (.cells c t fr) → t ≠ 3) ∨ Z k := fun k hk _ => .inl fun c t fr hc => by
    obtain ⟨c', t', fr', h1, h2, _⟩ := hS k hk
    rw [hc] at h1; cases h1; exact h2
  refine ⟨u.get h.box fun hx => ?_, fun i hi => (h.bank i hi).upd u (fun hx => ?_) (fun hx => ?_) hk, fun i hi => ?_, h.okp, h.okr, h.pp, h.mm, h.rr, h.gx, h.gp, h.gr, h.pen_.imp id fun ⟨pb, c, h1, h2, h3⟩ => ⟨pb, c, h1, u.get h2 fun hx => ?_, h3⟩, fun k hk => Nat.lt_of_lt_of_le (h.zlt k hk) u.size, h.upd.step u hn⟩
  · obtain ⟨c', t', fr', h1, h2, h3, h4, h5⟩ := hS _ hx; rw [h.box] at h1; cases h1; exact h3 rfl
  · obtain ⟨c', t', fr', h1, h2, h3, h4, h5⟩ := hS _ hx; rw [(h.bank i hi).box] at h1; cases h1; exact h4 rfl
  · obtain ⟨es, c, hm⟩ := (h.bank i hi).map_at
    obtain ⟨c', t', fr', h1, _⟩ := hS _ hx; rw [hm] at h1; cases h1
  · obtain ⟨ks, hR⟩ := h.ref i hi
    refine ⟨ks, hR.upd u (fun hx => ?_) hk⟩
    obtain ⟨c', t', fr', h1, h2, h3, h4, h5⟩ := hS _ hx; rw [hR.box] at h1; cases h1; exact h5 rfl
  · obtain ⟨c', t', fr', h1, h2', h3, h4, h5⟩ := hS _ hx; rw [h2] at h1; cases h1; exact h2' rfl
theorem WIn.setBank {i : Nat} {b' : Reg.Bk} (h : WIn w0 w x np nr p m r pen Z bk rk) (hi : i < np) (u : Upd (BM (p i) (m i)) w w') (hB : BankIn w' (p i) (m i) Z b') (hb : BkOk b') : WIn w0 w' x np nr p m r pen Z (fset bk i b') rk := by
  obtain ⟨es, c, hm⟩ := (h.bank i hi).map_at
  have hbx := (h.bank i hi).box
  have not : ∀ {k c t fr}, w.heap[k]? = some (.cells c t fr) → t ≠ 73 → ¬ BM (p i) (m i) k := by
    rintro k c t fr hc ht (rfl | rfl)
    · rw [hbx] at hc; cases hc; exact ht rfl
    · rw [hm] at hc; cases hc
  have hk : ∀ k, BM (p i) (m i) k → k < w.heap.size → (∀ c t fr, w.heap[k]? = some (.cells c t fr) → t ≠ 3) ∨ Z k := fun k hk _ => .inl fun c t fr hc => by
    intro ht; subst ht; exact not hc (by decide) hk
  refine ⟨u.get h.box (not h.box (by decide)), fun j hj => ?_, fun j hj => ?_, fun j hj => ?_, h.okr, h.pp, h.mm, h.rr, h.gx, h.gp, h.gr, h.pen_.imp id fun ⟨pb, c, h1, h2, h3⟩ => ⟨pb, c, h1, u.get h2 (not h2 (by decide)), h3⟩, fun k hk => Nat.lt_of_lt_of_le (h.zlt k hk) u.size, h.upd.step u ?_⟩
  · by_cases hji : j = i
    · subst hji; simp only [fset, if_true]; exact hB
    · simp only [fset, if_neg hji]
      refine (h.bank j hj).upd u ?_ ?_ hk
      · rintro (e | e)
        · exact hji (h.pp j i hj hi e)
        · have := (h.bank j hj).box; rw [e, hm] at this; cases this
      · obtain ⟨es', c', hm'⟩ := (h.bank j hj).map_at
        rintro (e | e)
        · rw [e, hbx] at hm'; cases hm'
        · exact hji (h.mm j i hj hi e)
  · obtain ⟨ks, hR⟩ := h.ref j hj
    exact ⟨ks, hR.upd u (not hR.box (by decide)) hk⟩
  · by_cases hji : j = i
    · subst hji; simp only [fset, if_true]; exact hb
    · simp only [fset, if_neg hji]; exact h.okp j hj
  · rintro k (rfl | rfl)
    · exact (h.gp i hi).1
    · exact (h.gp i hi).2
theorem WIn.setRef {i : Nat} {b' : Reg.Bk} {ks' : List (Cells.T c85)} (h : WIn w0 w x np nr p m r pen Z bk rk) (hi : i < nr) (u : Upd (fun k => k = r i) w w') (hR : RefIn w' (r i) Z b' ks') (hb : BkOk b') : WIn w0 w' x np nr p m r pen Z bk (fset rk i b') := by
  obtain ⟨ks, hR0⟩ := h.ref i hi
  have not : ∀ {k c t fr}, w.heap[k]? = some (.cells c t fr) → t ≠ 88 → ¬ (fun k => k = r i) k := by
    rintro k c t fr hc ht rfl
    rw [hR0.box] at hc; cases hc; exact ht rfl
  have notm : ∀ {k es c}, w.heap[k]? = some (.map es c) → ¬ (fun k => k = r i) k := by
    rintro k es c hc rfl
    rw [hR0.box] at hc; cases hc
  have hk : ∀ k, (fun k => k = r i) k → k < w.heap.size → (∀ c t fr, w.heap[k]? = some (.cells c t fr) → t ≠ 3) ∨ Z k := fun k hk _ => .inl fun c t fr hc => by
    intro ht; subst ht; exact not hc (by decide) hk
  refine ⟨u.get h.box (not h.box (by decide)), fun j hj => ?_, fun j hj => ?_, h.okp, fun j hj => ?_, h.pp, h.mm, h.rr, h.gx, h.gp, h.gr, h.pen_.imp id fun ⟨pb, c, h1, h2, h3⟩ => ⟨pb, c, h1, u.get h2 (not h2 (by decide)), h3⟩, fun k hk => Nat.lt_of_lt_of_le (h.zlt k hk) u.size, h.upd.step u (by rintro k rfl; exact h.gr i hi)⟩
  · obtain ⟨es, c, hm⟩ := (h.bank j hj).map_at
    exact (h.bank j hj).upd u (not (h.bank j hj).box (by decide)) (notm hm) hk
  · by_cases hji : j = i
    · subst hji; simp only [fset, if_true]; exact ⟨ks', hR⟩
    · simp only [fset, if_neg hji]
      obtain ⟨ks2, hR2⟩ := h.ref j hj
      exact ⟨ks2, hR2.upd u (fun e => hji (h.rr j i hj hi e)) hk⟩
  · by_cases hji : j = i
    · subst hji; simp only [fset, if_true]; exact hb
    · simp only [fset, if_neg hji]; exact h.okr j hj
/-- blocks of Z are written -/
theorem WIn.scratch {S : Nat → Prop} (h : WIn w0 w x np nr p m r pen Z bk rk) (u : Upd S w w') (hS : ∀ k, S k → Z k ∧ w0.heap.size ≤ k ∧ ∃ c, w.heap[k]? = some (.cells c 3 (0, 0))) (hp : ∀ pb, pen = ⟨some (at0 pb), 300, 300⟩ → ∃ c, w'.heap[pb]? = some (.cells c 3 (0, 0)) ∧ c.size = 300) : WIn w0 w' x np nr p m r pen Z bk rk := by
  have not : ∀ {k c t fr}, w.heap[k]? = some (.cells c t fr) → t ≠ 3 → ¬ S k := by
    rintro k c t fr hc ht hk
    obtain ⟨_, _, c', h1⟩ := hS k hk
    rw [hc] at h1; cases h1; exact ht rfl
  have notm : ∀ {k es c}, w.heap[k]? = some (.map es c) → ¬ S k := by
    rintro k es c hc hk
    obtain ⟨_, _, c', h1⟩ := hS k hk
    rw [hc] at h1; cases h1
  have hk : ∀ k, S k → k < w.heap.size → (∀ c t fr, w.heap[k]? = some (.cells c t fr) → t ≠ 3) ∨ Z k := fun k hk _ => .inr (hS k hk).1
  refine ⟨u.get h.box (not h.box (by decide)), fun j hj => ?_, fun j hj => ?_, h.okp, h.okr, h.pp, h.mm, h.rr, h.gx, h.gp, h.gr, h.pen_.imp id fun ⟨pb, c, h1, h2, h3, h4⟩ => ?_, fun k hk => Nat.lt_of_lt_of_le (h.zlt k hk) u.size, h.upd.step u fun k hk => (hS k hk).2.1⟩
  · obtain ⟨es, c, hm⟩ := (h.bank j hj).map_at
    exact (h.bank j hj).upd u (not (h.bank j hj).box (by decide)) (notm hm) hk
  · obtain ⟨ks, hR⟩ := h.ref j hj
    exact ⟨ks, hR.upd u (not hR.box (by decide)) hk⟩
  · obtain ⟨c', g1, g2⟩ := hp pb h1
    exact ⟨pb, c', h1, g1, g2, h4⟩

theorem wbox_get (i : Nat) (hi : i < 2) (hp : i < np) : (wbox np nr p r pen)[i]? = some (Cell.val .ptr (some (at0 (p i)))) := by
  match i, hi with
  | 0, _ => simp [wbox, qp, hp, Cell.val]
  | 1, _ => simp [wbox, qp, hp, Cell.val]
theorem wbox_getr (i : Nat) (hi : i < 2) (hr : i < nr) : (wbox np nr p r pen)[2 + i]? = some (Cell.val .ptr (some (at0 (r i)))) := by
  match i, hi with
  | 0, _ => simp [wbox, qp, hr, Cell.val]
  | 1, _ => simp [wbox, qp, hr, Cell.val]
theorem WIn.ldp (h : WIn w0 w x np nr p m r pen Z bk rk) {i : Nat} (hi : i < 2) (hp : i < np) {K : Option Addr → World → Prop} (hK : K (some (at0 (p i))) w) : ld .ptr (⟨x, i, none⟩ : Addr) K w := ld_r h.box (wbox_get i hi hp) hK
theorem WIn.ldr (h : WIn w0 w x np nr p m r pen Z bk rk) {i : Nat} (hi : i < 2) (hr : i < nr) {K : Option Addr → World → Prop} (hK : K (some (at0 (r i))) w) : ld .ptr (⟨x, 2 + i, none⟩ : Addr) K w := ld_r h.box (wbox_getr i hi hr) hK
theorem WIn.keepr (h : WIn w0 w x np nr p m r pen Z bk rk) {i : Nat} (hi : i < 2) (hr : i < nr) {K : World → Prop} (hK : K w) : keep (fun w => w.cell? (⟨x, 2 + i, none⟩ : Addr) = some (Cell.val .ptr (some (at0 (r i))))) K w := ⟨cell_of h.box (wbox_getr i hi hr), hK⟩
theorem WIn.ldpen (h : WIn w0 w x np nr p m r pen Z bk rk) {K : Sl → World → Prop} (hK : K pen w) : ld .sl (⟨x, 4, none⟩ : Addr) K w := ld_r h.box rfl hK

/-- another bank comes to a place -/
theorem WIn.newBank {j np' pb2 m2 : Nat} {b' : Reg.Bk} (h : WIn w0 w x np nr p m r pen Z bk rk) (hj : j < 2) (hnp : ∀ i, i < np' ↔ i < np ∨ i = j) (hB : BankIn w pb2 m2 Z b') (hb : BkOk b') (hf : ∀ i, i < np → p i < pb2 ∧ m i < m2) (hg : w0.heap.size ≤ pb2 ∧ w0.heap.size ≤ m2) {K : World → Prop}
    (hK : ∀ w', WIn w0 w' x np' nr (fset p j pb2) (fset m j m2) r pen Z (fset bk j b') rk → Upd (fun k => k = x) w w' → K w') : stC (⟨x, j, none⟩ : Addr) (.pointer (some (at0 pb2))) K w := by
  refine stC_r h.box (by simp [wbox]; omega) fun w1 u1 hb1 _ => hK w1 ⟨?_, fun i hi => ?_, fun i hi => ?_, fun i hi => ?_, h.okr, fun i i' hi hi' e => ?_, fun i i' hi hi' e => ?_, h.rr, h.gx, fun i hi => ?_, h.gr, h.pen_.imp id fun ⟨pb, c, h1, h2, h3⟩ => ⟨pb, c, h1, u1.get h2 ?_, h3⟩, fun k hk => Nat.lt_of_lt_of_le (h.zlt k hk) u1.size, h.upd.step u1 (by rintro k rfl; exact h.gx)⟩ u1
  · have hq : ∀ i, i ≠ j → qp np' (fset p j pb2) i = qp np p i := fun i hi => by
      simp only [qp, fset, if_neg hi]
      by_cases h1 : i < np
      · rw [if_pos h1, if_pos ((hnp i).2 (.inl h1))]
      · rw [if_neg h1, if_neg fun h2 => ((hnp i).1 h2).elim h1 hi]
    have hqj : qp np' (fset p j pb2) j = some (at0 pb2) := by simp only [qp, fset, if_true]; rw [if_pos ((hnp j).2 (.inr rfl))]
    match j, hj with
    | 0, _ => rw [wbox, hqj, hq 1 (by decide)]; exact hb1
    | 1, _ => rw [wbox, hqj, hq 0 (by decide)]; exact hb1
  · by_cases hij : i = j
    · subst hij; simp only [fset, if_true]
      exact hB.box_upd h.box (by decide) (by decide) u1
    · simp only [fset, if_neg hij]
      exact (h.bank i (((hnp i).1 hi).resolve_right hij)).box_upd h.box (by decide) (by decide) u1
  · obtain ⟨ks, hR⟩ := h.ref i hi
    exact ⟨ks, hR.box_upd h.box (by decide) (by decide) u1⟩
  · by_cases hij : i = j
    · subst hij; simp only [fset, if_true]; exact hb
    · simp only [fset, if_neg hij]; exact h.okp i (((hnp i).1 hi).resolve_right hij)
  · by_cases h1 : i = j <;> by_cases h2 : i' = j
    · rw [h1, h2]
    · simp only [fset, if_pos h1, if_neg h2] at e
      have := (hf i' (((hnp i').1 hi').resolve_right h2)).1; omega
    · simp only [fset, if_neg h1, if_pos h2] at e
      have := (hf i (((hnp i).1 hi).resolve_right h1)).1; omega
    · simp only [fset, if_neg h1, if_neg h2] at e
      exact h.pp i i' (((hnp i).1 hi).resolve_right h1) (((hnp i').1 hi').resolve_right h2) e
  · by_cases h1 : i = j <;> by_cases h2 : i' = j
    · rw [h1, h2]
    · simp only [fset, if_pos h1, if_neg h2] at e
      have := (hf i' (((hnp i').1 hi').resolve_right h2)).2; omega
    · simp only [fset, if_neg h1, if_pos h2] at e
      have := (hf i (((hnp i).1 hi).resolve_right h1)).2; omega
    · simp only [fset, if_neg h1, if_neg h2] at e
      exact h.mm i i' (((hnp i).1 hi).resolve_right h1) (((hnp i').1 hi').resolve_right h2) e
  · by_cases hij : i = j
    · subst hij; simp only [fset, if_true]; exact hg
    · simp only [fset, if_neg hij]; exact h.gp i (((hnp i).1 hi).resolve_right hij)
  · intro e; subst e; rw [h.box] at h2; cases h2
theorem WIn.newRef {j nr' r2 : Nat} {b' : Reg.Bk} {ks' : List (Cells.T c85)} (h : WIn w0 w x np nr p m r pen Z bk rk) (hj : j < 2) (hnr : ∀ i, i < nr' ↔ i < nr ∨ i = j) (hR : RefIn w r2 Z b' ks') (hb : BkOk b') (hf : ∀ i, i < nr → r i < r2) (hg : w0.heap.size ≤ r2) {K : World → Prop}
    (hK : ∀ w', WIn w0 w' x np nr' p m (fset r j r2) pen Z bk (fset rk j b') → Upd (fun k => k = x) w w' → K w') : stC (⟨x, 2 + j, none⟩ : Addr) (.pointer (some (at0 r2))) K w := by
  refine stC_r h.box (by simp [wbox]; omega) fun w1 u1 hb1 _ => hK w1 ⟨?_, fun i hi => (h.bank i hi).box_upd h.box (by decide) (by decide) u1, fun i hi => ?_, h.okp, fun i hi => ?_, h.pp, h.mm, fun i i' hi hi' e => ?_, h.gx, h.gp, fun i hi => ?_, h.pen_.imp id fun ⟨pb, c, h1, h2, h3⟩ => ⟨pb, c, h1, u1.get h2 ?_, h3⟩, fun k hk => Nat.lt_of_lt_of_le (h.zlt k hk) u1.size, h.upd.step u1 (by rintro k rfl; exact h.gx)⟩ u1
  · have hq : ∀ i, i ≠ j → qp nr' (fset r j r2) i = qp nr r i := fun i hi => by
      simp only [qp, fset, if_neg hi]
      by_cases h1 : i < nr
      · rw [if_pos h1, if_pos ((hnr i).2 (.inl h1))]
      · rw [if_neg h1, if_neg fun h2 => ((hnr i).1 h2).elim h1 hi]
    have hqj : qp nr' (fset r j r2) j = some (at0 r2) := by simp only [qp, fset, if_true]; rw [if_pos ((hnr j).2 (.inr rfl))]
    match j, hj with
    | 0, _ => rw [wbox, hqj, hq 1 (by decide)]; exact hb1
    | 1, _ => rw [wbox, hqj, hq 0 (by decide)]; exact hb1
  · by_cases hij : i = j
    · subst hij; simp only [fset, if_true]
      exact ⟨ks', hR.box_upd h.box (by decide) (by decide) u1⟩
    · simp only [fset, if_neg hij]
      obtain ⟨ks, hR⟩ := h.ref i (((hnr i).1 hi).resolve_right hij)
      exact ⟨ks, hR.box_upd h.box (by decide) (by decide) u1⟩
  · by_cases hij : i = j
    · subst hij; simp only [fset, if_true]; exact hb
    · simp only [fset, if_neg hij]; exact h.okr i (((hnr i).1 hi).resolve_right hij)
  · by_cases h1 : i = j <;> by_cases h2 : i' = j
    · rw [h1, h2]
    · simp only [fset, if_pos h1, if_neg h2] at e
      have := hf i' (((hnr i').1 hi').resolve_right h2); omega
    · simp only [fset, if_neg h1, if_pos h2] at e
      have := hf i (((hnr i).1 hi).resolve_right h1); omega
    · simp only [fset, if_neg h1, if_neg h2] at e
      exact h.rr i i' (((hnr i).1 hi).resolve_right h1) (((hnr i').1 hi').resolve_right h2) e
  · by_cases hij : i = j
    · subst hij; simp only [fset, if_true]; exact hg
    · simp only [fset, if_neg hij]; exact h.gr i (((hnr i).1 hi).resolve_right hij)
  · intro e; subst e; rw [h.box] at h2; cases h2
end
end Go.Proofs.Ytocdfkeflakemaa
