/-
  What a slice's block is, and rows that stay because blocks of other types turn.
-/
import Derived.Test.YtdabehgbhndimaaVxR
set_option linter.unusedSimpArgs false
set_option linter.unusedVariables false
namespace Go.Vx
open Go
section
variable {S : Nat → Prop} {w w' : World}
theorem SlIn.blk_cells {s : Sl} {t : TypeId} {sz : Nat} {vs : List Value} (h : SlIn w s t sz vs) {k : Nat} (hk : s.blk k) : ∃ c fr, w.heap[k]? = some (.cells c t fr) := by
  obtain ⟨p, hp, rfl⟩ := hk
  rcases h.at_ with ⟨hn, _⟩ | ⟨b, off, c, fr, h1, h2, _⟩
  · rw [hn] at hp; cases hp
  · rw [h1] at hp; cases hp; exact ⟨c, fr, h2⟩
/-- no block of the set has cells of the type -/
def NoTy (w : World) (S : Nat → Prop) (t : TypeId) : Prop := ∀ k, S k → ∀ c fr, w.heap[k]? ≠ some (.cells c t fr)
theorem SlIn.ty {s : Sl} {t : TypeId} {sz : Nat} {vs : List Value} (h : SlIn w s t sz vs) (u : Upd S w w') (hS : NoTy w S t) : SlIn w' s t sz vs :=
  h.upd u fun k hk hSk => by obtain ⟨c, fr, hc⟩ := h.blk_cells hk; exact hS k hSk c fr hc
theorem SlOwn.ty {B : Nat} {s : Sl} {t : TypeId} {sz : Nat} {vs : List Value} (h : SlOwn w B s t sz vs) (u : Upd S w w') (hS : NoTy w S t) : SlOwn w' B s t sz vs :=
  h.upd u fun k _ hk hSk => by obtain ⟨c, fr, hc⟩ := h.in.blk_cells hk; exact hS k hSk c fr hc
theorem NoTy.blk {s : Sl} {t t' : TypeId} {sz : Nat} {vs : List Value} (h : SlIn w s t sz vs) (ht : t ≠ t') : NoTy w s.blk t' := by
  intro k hk c fr hc
  obtain ⟨c', fr', hc'⟩ := h.blk_cells hk
  rw [hc] at hc'; cases hc'; exact ht rfl
theorem NoTy.box {b : Nat} {t t' : TypeId} {c : Array Value} {fr : Nat × Nat} (h : w.heap[b]? = some (.cells c t fr)) (ht : t ≠ t') : NoTy w (fun k => k = b) t' := by
  rintro k rfl c' fr' hc
  rw [hc] at h; cases h; exact ht rfl
theorem NoTy.mono {S' : Nat → Prop} {t : TypeId} (h : NoTy w S t) (hs : ∀ k, S' k → S k) : NoTy w S' t := fun k hk => h k (hs k hk)
/-- a row of slices, each with what it holds -/
structure Rows2 (w : World) (B : Nat) (s : Sl) (t2 t1 : TypeId) (vs : List Sl) (ls : List (List Value)) : Prop where
  row : SlOwn w B s t2 1 (vs.map fun s => .slice s.a s.len s.cap)
  len : vs.length = ls.length
  txt : ∀ (i : Nat) (x : Sl) (l : List Value), vs[i]? = some x → ls[i]? = some l → SlIn w x t1 1 l
theorem Rows2.ext {B : Nat} {s : Sl} {t2 t1 : TypeId} {vs : List Sl} {ls : List (List Value)} (h : Rows2 w B s t2 t1 vs ls) (e : Ext w w') : Rows2 w' B s t2 t1 vs ls :=
  ⟨h.row.ext e, h.len, fun i x l hx hl => (h.txt i x l hx hl).ext e⟩
theorem Rows2.ty {B : Nat} {s : Sl} {t2 t1 : TypeId} {vs : List Sl} {ls : List (List Value)} (h : Rows2 w B s t2 t1 vs ls) (u : Upd S w w') (h2 : NoTy w S t2) (h1 : NoTy w S t1) : Rows2 w' B s t2 t1 vs ls :=
  ⟨h.row.ty u h2, h.len, fun i x l hx hl => (h.txt i x l hx hl).ty u h1⟩
theorem Rows2.nil (w : World) (B : Nat) (t2 t1 : TypeId) : Rows2 w B ⟨none, 0, 0⟩ t2 t1 [] [] := ⟨SlOwn.nil w B t2 1, rfl, fun i x l hx => by simp at hx⟩
theorem Rows2.length {B : Nat} {s : Sl} {t2 t1 : TypeId} {vs : List Sl} {ls : List (List Value)} (h : Rows2 w B s t2 t1 vs ls) : ls.length = s.len := by
  have := h.row.len1; rw [List.length_map] at this; rw [← h.len]; exact this
/-- one more behind them -/
theorem Rows2.push {P : Program} {ts rt : TypeId} {B : Nat} {s : Sl} {t2 t1 : TypeId} {vs : List Sl} {ls : List (List Value)} {x : Sl} {l : List Value} {b : Nat} {K : Sl → World → Prop} (h : Rows2 w B s t2 t1 vs ls) {bytes : Nat} (E : ElemOk P ts t2 1 bytes) (hx : SlIn w x t1 1 l) (ht : t2 ≠ t1)
    (hb : w.heap[b]? = some (.cells #[.slice x.a x.len x.cap] t2 (0, 0))) (hroom : (s.len + 1 + (s.len + 1) / 4 + 512) * bytes ≤ 2 ^ 48) (hB : B ≤ w.heap.size)
    (hK : ∀ s' w', Rows2 w' B s' t2 t1 (vs ++ [x]) (ls ++ [l]) → Upd s.blk w w' → (∀ k, s'.blk k → s.blk k ∨ w.heap.size ≤ k) → K s' w') :
    rawT P (.one (.one .sl)) (Builtin.append_ #[ts, ts] rt #[.slice s.a s.len s.cap, .slice (some (at0 b)) 1 1]) K w := by
  have hone : SlIn w ⟨some (at0 b), 1, 1⟩ t2 1 [.slice x.a x.len x.cap] := SlIn.of_box (n := 1) (sz := 1) hb rfl
  refine append_r (x := ⟨some (at0 b), 1, 1⟩) E E.ts_ h.row hone (fun v hv => by simp at hv; subst hv; rfl) hroom hB fun s' w2 o2 _ u2 hbk => hK s' w2 ⟨by simpa using o2, by simp [h.len], fun i y l' hy hl => ?_⟩ u2 hbk
  have hno := NoTy.blk h.row.in ht
  by_cases hi : i < vs.length
  · rw [List.getElem?_append_left hi] at hy
    rw [List.getElem?_append_left (by rw [← h.len]; exact hi)] at hl
    exact (h.txt i y l' hy hl).ty u2 hno
  · rw [List.getElem?_append_right (by omega)] at hy
    rw [List.getElem?_append_right (by rw [← h.len]; omega)] at hl
    have h0 : i - vs.length = 0 := by have := (List.getElem?_eq_some_iff.1 hy).1; simp at this; omega
    rw [← h.len, h0] at hl
    rw [h0] at hy
    cases hy; cases hl
    exact hx.ty u2 hno
theorem equalIn_bool {P : Program} {t : TypeId} (n : Nat) (hu : P.underlying t = some .bool) (x y : Bool) (w : World) : (Op.equalIn (n + 1) t (.bool x) (.bool y)).run P w = .ok (x == y) w := by
  simp only [Op.equalIn, Sem.run_bind, run_underlying hu, Result.andThen_ok]
  rfl
theorem equal_bool {P : Program} {t : TypeId} (hu : P.underlying t = some .bool) (x y : Bool) (w : World) : (Op.equal t (.bool x) (.bool y)).run P w = .ok (x == y) w :=
  equalIn_bool 9999 hu x y w
theorem rdB_neqb {P : Program} {t : TypeId} (hu : P.underlying t = some .bool) {x y : Bool} {o1 o2 : Operand} {K : Bool → World → Prop} (h : K (x != y) w) : rdB P (do eqGuard .neq t o1 o2 (.bool x) (.bool y); binOp .neq t (.bool x) (.bool y) : Sem Value) K w := by
  refine ⟨_, ?_, h⟩
  have h1 : (eqGuard .neq t o1 o2 (.bool x) (.bool y)).run P w = .ok () w := rfl
  simp only [Sem.run_bind, h1, Result.andThen_ok, binOp, equal_bool hu]
  rfl
theorem rdB_eqb {P : Program} {t : TypeId} (hu : P.underlying t = some .bool) {x y : Bool} {o1 o2 : Operand} {K : Bool → World → Prop} (h : K (x == y) w) : rdB P (do eqGuard .eql t o1 o2 (.bool x) (.bool y); binOp .eql t (.bool x) (.bool y) : Sem Value) K w := by
  refine ⟨_, ?_, h⟩
  have h1 : (eqGuard .eql t o1 o2 (.bool x) (.bool y)).run P w = .ok () w := rfl
  simp only [Sem.run_bind, h1, Result.andThen_ok, binOp, equal_bool hu]
  rfl
end
end Go.Vx
