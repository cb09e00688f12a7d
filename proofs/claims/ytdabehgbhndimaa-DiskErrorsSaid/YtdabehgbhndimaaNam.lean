/- Names in order, sums: plainly. Conditions: none. -/
import Derived.Test.YtdabehgbhndimaaDspec
import Derived.Test.YtdabehgbhndimaaVxQ
set_option linter.unusedSimpArgs false
set_option linter.unusedVariables false
namespace Go.Proofs.Ytdabehgbhndimaa
open Go Go.Vx Dsk

theorem nm_inj {a b : Nm} (h : a.data.toList = b.data.toList) : a = b := by
  cases a; cases b
  simp only at h
  congr 1
  exact Array.ext' h
theorem nm_mk (n : Nm) : (⟨n.data.toList.toArray⟩ : ByteArray) = n := by cases n; simp
theorem sort_perm {l l' : List (List UInt8)} (h : l.Perm l') : (l.mergeSort fun x y => decide (x ≤ y)) = l'.mergeSort fun x y => decide (x ≤ y) := by
  have tr : ∀ a b c : List UInt8, decide (a ≤ b) = true → decide (b ≤ c) = true → decide (a ≤ c) = true := fun a b c h1 h2 => by
    simp only [decide_eq_true_eq] at *; exact List.le_trans h1 h2
  have to : ∀ a b : List UInt8, (decide (a ≤ b) || decide (b ≤ a)) = true := fun a b => by
    simp only [Bool.or_eq_true, decide_eq_true_eq]; exact List.le_total a b
  refine List.Perm.eq_of_pairwise (le := fun x y => decide (x ≤ y) = true) (fun a b _ _ h1 h2 => ?_) (List.pairwise_mergeSort tr to l) (List.pairwise_mergeSort tr to l') (((List.mergeSort_perm l _).trans h).trans (List.mergeSort_perm l' _).symm)
  simp only [decide_eq_true_eq] at h1 h2
  exact List.le_antisymm h1 h2
theorem sortN_eq {l l' : List Nm} (h : l.Perm l') : sortN l = sortN l' := by
  unfold sortN
  rw [sort_perm (h.map _)]
theorem sortN_perm (l : List Nm) : (sortN l).Perm l := by
  have h := (List.mergeSort_perm (l.map fun n => n.data.toList) (fun x y => decide (x ≤ y))).map fun l : List UInt8 => (⟨l.toArray⟩ : ByteArray)
  have e : (l.map fun n : Nm => n.data.toList).map (fun l : List UInt8 => (⟨l.toArray⟩ : ByteArray)) = l := by
    rw [List.map_map]
    conv => rhs; rw [← List.map_id l]
    exact List.map_congr_left fun n _ => nm_mk n
  rw [e] at h
  exact h
theorem lists_perm {f : Dir} {l l' : List Nm} (h : Lists f l) (h' : Lists f l') : l.Perm l' := (List.perm_ext_iff_of_nodup h.1 h'.1).2 fun n => (h.2 n).trans (h'.2 n).symm
theorem names_eq {f : Dir} {l : List Nm} (h : Lists f l) : names f = sortN l := by
  unfold names
  have hx : ∃ l, Lists f l := ⟨l, h⟩
  rw [dif_pos hx]
  exact sortN_eq (lists_perm (f := f) hx.choose_spec h)
theorem names_lists {f : Dir} {l : List Nm} (h : Lists f l) : Lists f (names f) := by
  rw [names_eq h]
  have hp := sortN_perm l
  exact ⟨hp.nodup_iff.2 h.1, fun n => (hp.mem_iff).trans (h.2 n)⟩
theorem names_len {f : Dir} {l : List Nm} (h : Lists f l) : (names f).length = l.length := by rw [names_eq h]; exact (sortN_perm l).length_eq
theorem sumZ_perm {l l' : List Int} (h : l.Perm l') : sumZ l = sumZ l' := by
  induction h with
  | nil => rfl
  | cons x _ ih => simp only [sumZ, ih]
  | swap x y l => simp only [sumZ]; omega
  | trans _ _ h1 h2 => exact h1.trans h2
theorem sumZ_append (l l' : List Int) : sumZ (l ++ l') = sumZ l + sumZ l' := by
  induction l with
  | nil => simp [sumZ]
  | cons x r ih => simp only [List.cons_append, sumZ, ih]; omega
theorem used_eq {D : Dk} {o : Option Nat} {l : List Nm} (h : Lists D.seen l) : usedBut D o = sumZ (l.map (weigh D o)) := by
  unfold usedBut
  rw [names_eq h]
  exact sumZ_perm ((sortN_perm l).map _)
theorem weigh_nonneg (D : Dk) (o : Option Nat) (n : Nm) : 0 ≤ weigh D o n := by
  unfold weigh
  split
  · split <;> omega
  · omega
theorem sumZ_nonneg {l : List Int} (h : ∀ x ∈ l, 0 ≤ x) : 0 ≤ sumZ l := by
  induction l with
  | nil => exact Int.le_refl 0
  | cons x r ih =>
    have h1 := h x List.mem_cons_self
    have h2 := ih fun y hy => h y (List.mem_cons_of_mem _ hy)
    simp only [sumZ]; omega
theorem sumZ_le {l : List Int} {B : Int} (h : ∀ x ∈ l, x ≤ B) : sumZ l ≤ (l.length : Int) * B := by
  induction l with
  | nil => simp [sumZ]
  | cons x r ih =>
    have h1 := h x List.mem_cons_self
    have h2 := ih fun y hy => h y (List.mem_cons_of_mem _ hy)
    simp only [sumZ, List.length_cons, Int.natCast_add, Int.add_mul, Int.natCast_one, Int.one_mul]; omega

/- what a map's entries say of a directory -/
section
variable {κ : Type} [BEq κ] [LawfulBEq κ]
theorem kget_mem {es : List (KEnt κ)} (hn : (es.map (·.1)).Nodup) : ∀ x ∈ es, kget es x.1 = some x.2.1 := by
  induction es with
  | nil => intro x hx; cases hx
  | cons y r ih =>
    intro x hx
    simp only [List.map_cons, List.nodup_cons] at hn
    unfold kget
    rw [List.find?_cons]
    rcases List.mem_cons.1 hx with e | hx
    · subst e; simp
    · have hne : (y.1 == x.1) = false := by
        simp only [beq_eq_false_iff_ne, ne_eq]
        intro e
        exact hn.1 (by rw [e]; exact List.mem_map.2 ⟨x, hx, rfl⟩)
      rw [hne]
      exact ih hn.2 x hx
theorem mem_kget {es : List (KEnt κ)} {k : κ} {v : Value} (h : kget es k = some v) : ∃ x ∈ es, x.1 = k ∧ x.2.1 = v := by
  unfold kget at h
  obtain ⟨x, hx, rfl⟩ := Option.map_eq_some_iff.1 h
  exact ⟨x, List.mem_of_find?_eq_some hx, by simpa using List.find?_some hx, rfl⟩
end
end Go.Proofs.Ytdabehgbhndimaa
