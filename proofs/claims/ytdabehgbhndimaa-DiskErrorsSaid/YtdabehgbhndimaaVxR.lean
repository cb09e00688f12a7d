/-
  Rows of more than one cell: an element, and one of its fields.
-/
import Derived.Test.YtdabehgbhndimaaVxS
set_option linter.unusedSimpArgs false
set_option linter.unusedVariables false
namespace Go.Vx
open Go

theorem vals_len : ∀ (cs : List Cell) (x : Cells.T cs), (Cells.vals cs x).length = cs.length
  | [], _ => rfl
  | c :: r, x => by simp [Cells.vals, vals_len r x.2]
/-- the cells of all the elements -/
def flat (cs : List Cell) (xs : List (Cells.T cs)) : List Value := xs.flatMap (Cells.vals cs)
theorem flat_nil (cs : List Cell) : flat cs [] = [] := rfl
theorem flat_append (cs : List Cell) (xs ys : List (Cells.T cs)) : flat cs (xs ++ ys) = flat cs xs ++ flat cs ys := by simp [flat]
theorem flat_one (cs : List Cell) (x : Cells.T cs) : flat cs [x] = Cells.vals cs x := by simp [flat]
theorem flat_len (cs : List Cell) : ∀ xs : List (Cells.T cs), (flat cs xs).length = xs.length * cs.length
  | [] => by simp [flat]
  | x :: r => by
    have := flat_len cs r
    simp only [flat] at this ⊢
    rw [List.flatMap_cons, List.length_append, vals_len, this, List.length_cons, Nat.succ_mul]
    omega
theorem flat_get (cs : List Cell) : ∀ (xs : List (Cells.T cs)) (n j : Nat) (x : Cells.T cs), xs[n]? = some x → j < cs.length → (flat cs xs)[n * cs.length + j]? = (Cells.vals cs x)[j]?
  | [], n, j, x, h, _ => by simp at h
  | y :: r, 0, j, x, h, hj => by
    simp at h
    subst h
    simp only [flat, List.flatMap_cons, Nat.zero_mul, Nat.zero_add]
    rw [List.getElem?_append_left (by rw [vals_len]; exact hj)]
  | y :: r, n + 1, j, x, h, hj => by
    have ih := flat_get cs r n j x (by simpa using h) hj
    simp only [flat, List.flatMap_cons] at ih ⊢
    rw [List.getElem?_append_right (by rw [vals_len, Nat.succ_mul]; omega), vals_len, ← ih]
    congr 1
    rw [Nat.succ_mul]; omega
section
variable {w : World}
theorem SlIn.lenR {s : Sl} {t : TypeId} {cs : List Cell} {xs : List (Cells.T cs)} (h : SlIn w s t cs.length (flat cs xs)) (hc : 0 < cs.length) : xs.length = s.len := by
  have := h.len
  rw [flat_len] at this
  exact Nat.eq_of_mul_eq_mul_right hc this
theorem SlOwn.lenR {B : Nat} {s : Sl} {t : TypeId} {cs : List Cell} {xs : List (Cells.T cs)} (h : SlOwn w B s t cs.length (flat cs xs)) (hc : 0 < cs.length) : xs.length = s.len := h.in.lenR hc

theorem ix_lds {cs : List Cell} {s : Sl} {t : TypeId} {xs : List (Cells.T cs)} {n : Int} {K : Addr → Cells.T cs → World → Prop} (h : SlIn w s t cs.length (flat cs xs)) (hc : 0 < cs.length) (h0 : 0 ≤ n) {x : Cells.T cs} (hx : xs[n.toNat]? = some x) (hK : ∀ p, K p x w) :
    ix s.a s.len n (fun p => lds cs (p.add (scaled (Int.toNat n) cs.length)) (K p)) w := by
  have hlt := (List.getElem?_eq_some_iff.1 hx).1
  have hl := h.lenR hc
  refine h.ix h0 (by omega) hc fun b off ha hv => ?_
  rw [addr_add]
  refine ⟨x, cellsAt_of _ 0 fun j v hj => ?_, hK _⟩
  have hjl : j < cs.length := by
    have := (List.getElem?_eq_some_iff.1 hj).1
    rwa [vals_len] at this
  have := hv j v (by rw [flat_get cs xs _ j x hx hjl]; exact hj)
  simpa [scaled_eq] using this

theorem ix_ldf {c : Cell} {cs : List Cell} {s : Sl} {t : TypeId} {xs : List (Cells.T cs)} {n : Int} {j : Nat} {K : Addr → c.T → World → Prop} (h : SlIn w s t cs.length (flat cs xs)) (h0 : 0 ≤ n) {x : Cells.T cs} {y : c.T} (hx : xs[n.toNat]? = some x) (hy : (Cells.vals cs x)[j]? = some (c.val y)) (hK : ∀ p, K p y w) :
    ix s.a s.len n (fun p => ld c ((p.add (scaled (Int.toNat n) cs.length)).add j) (K p)) w := by
  have hlt := (List.getElem?_eq_some_iff.1 hx).1
  have hjl : j < cs.length := by
    have := (List.getElem?_eq_some_iff.1 hy).1
    rwa [vals_len] at this
  have hl := h.lenR (by omega)
  refine h.ix h0 (by omega) (by omega) fun b off ha hv => ?_
  rw [addr_add, addr_add]
  refine ld_of (x := y) ?_ (hK _)
  have := hv j (c.val y) (by rw [flat_get cs xs _ j x hx hjl]; exact hy)
  simpa [scaled_eq] using this
theorem ix_ldf0 {c : Cell} {cs : List Cell} {s : Sl} {t : TypeId} {xs : List (Cells.T cs)} {n : Int} {K : Addr → c.T → World → Prop} (h : SlIn w s t cs.length (flat cs xs)) (h0 : 0 ≤ n) {x : Cells.T cs} {y : c.T} (hx : xs[n.toNat]? = some x) (hy : (Cells.vals cs x)[0]? = some (c.val y)) (hK : ∀ p, K p y w) :
    ix s.a s.len n (fun p => ld c (p.add (scaled (Int.toNat n) cs.length)) (K p)) w := by
  have hlt := (List.getElem?_eq_some_iff.1 hx).1
  have hjl : 0 < cs.length := by
    have := (List.getElem?_eq_some_iff.1 hy).1
    rwa [vals_len] at this
  have hl := h.lenR (by omega)
  refine h.ix h0 (by omega) (by omega) fun b off ha hv => ?_
  rw [addr_add]
  refine ld_of (x := y) ?_ (hK _)
  have := hv 0 (c.val y) (by rw [flat_get cs xs _ 0 x hx hjl]; exact hy)
  simpa [scaled_eq] using this
theorem SlX.in_of {s : Sl} {sz : Nat} {vs : List Value} (h : SlX w s sz vs) (hl : 0 < s.len) : ∃ t, SlIn w s t sz vs := by
  rcases h.at_ with ⟨h1, _⟩ | h
  · omega
  · exact h
theorem SlX.len1 {s : Sl} {vs : List Value} (h : SlX w s 1 vs) : vs.length = s.len := by have := h.len; omega
theorem SlX.lenR {s : Sl} {cs : List Cell} {xs : List (Cells.T cs)} (h : SlX w s cs.length (flat cs xs)) (hc : 0 < cs.length) : xs.length = s.len := by
  have := h.len
  rw [flat_len] at this
  exact Nat.eq_of_mul_eq_mul_right hc this
theorem ix_ldX {c : Cell} {s : Sl} {xs : List c.T} {n : Int} {K : Addr → c.T → World → Prop} (h : SlX w s 1 (xs.map c.val)) (h0 : 0 ≤ n) {x : c.T} (hx : xs[n.toNat]? = some x) (hK : ∀ p, K p x w) :
    ix s.a s.len n (fun p => ld c (p.add (scaled (Int.toNat n) 1)) (K p)) w := by
  have hlt := (List.getElem?_eq_some_iff.1 hx).1
  have hl := h.len1
  rw [List.length_map] at hl
  obtain ⟨t, h⟩ := h.in_of (by omega)
  exact ix_ld h h0 hx hK
theorem ix_ldsX {cs : List Cell} {s : Sl} {xs : List (Cells.T cs)} {n : Int} {K : Addr → Cells.T cs → World → Prop} (h : SlX w s cs.length (flat cs xs)) (hc : 0 < cs.length) (h0 : 0 ≤ n) {x : Cells.T cs} (hx : xs[n.toNat]? = some x) (hK : ∀ p, K p x w) :
    ix s.a s.len n (fun p => lds cs (p.add (scaled (Int.toNat n) cs.length)) (K p)) w := by
  have hlt := (List.getElem?_eq_some_iff.1 hx).1
  have hl := h.lenR hc
  obtain ⟨t, h⟩ := h.in_of (by omega)
  exact ix_lds h hc h0 hx hK
end
end Go.Vx
