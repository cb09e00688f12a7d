/- What keeps the disk's numbers small: plainly. Conditions: none. -/
import Derived.Test.YtdabehgbhndimaaNam
set_option linter.unusedSimpArgs false
set_option linter.unusedVariables false
namespace Go.Proofs.Ytdabehgbhndimaa
open Go Go.Vx Dsk

/-- a directory whose files are there, each under one name, few of them -/
structure Good (n : Nat) (f : Dir) : Prop where
  ids : ∀ k i, f k = some i → i < n
  few : ∃ l, Lists f l ∧ l.length ≤ 16
  inj : ∀ a b i, f a = some i → f b = some i → a = b
  okn : ∀ k i, f k = some i → okName k = true
structure DkOk (D : Dk) (N : Nat) : Prop where
  space : 0 ≤ D.space ∧ D.space ≤ 1048576
  fil : ∀ (i : Nat) (f : Fl), D.files[i]? = some f → f.data.length ≤ 1048576 ∧ f.synced ≤ f.data.length ∧ 0 ≤ f.count ∧ f.count ≤ N
  num : D.files.length ≤ N
  good : ∀ k, Good D.files.length (onAll (D.acts.take k) D.lasts)
  steps : 0 ≤ D.steps ∧ D.steps ≤ N
  acts : D.acts.length ≤ N

theorem DkOk.seen {D : Dk} {N : Nat} (h : DkOk D N) : Good D.files.length D.seen := by
  have := h.good D.acts.length
  rwa [List.take_length] at this
theorem DkOk.lasts {D : Dk} {N : Nat} (h : DkOk D N) : Good D.files.length D.lasts := h.good 0
theorem DkOk.mono {D : Dk} {N M : Nat} (h : DkOk D N) (hm : N ≤ M) : DkOk D M :=
  ⟨h.space, fun i f hf => let ⟨a, b, c, d⟩ := h.fil i f hf; ⟨a, b, c, by omega⟩, Nat.le_trans h.num hm, h.good, ⟨h.steps.1, by have := h.steps.2; omega⟩, Nat.le_trans h.acts hm⟩
theorem Good.mono {n m : Nat} {f : Dir} (h : Good n f) (hm : n ≤ m) : Good m f := ⟨fun k i hi => Nat.lt_of_lt_of_le (h.ids k i hi) hm, h.few, h.inj, h.okn⟩
theorem Good.names {n : Nat} {f : Dir} (h : Good n f) : Lists f (names f) ∧ (names f).length ≤ 16 := by
  obtain ⟨l, h1, h2⟩ := h.few
  exact ⟨names_lists h1, by rw [names_len h1]; exact h2⟩
theorem DkOk.fl {D : Dk} {N : Nat} (h : DkOk D N) (i : Nat) : (fl D i).data.length ≤ 1048576 ∧ (fl D i).synced ≤ (fl D i).data.length := by
  unfold Dsk.fl
  rw [List.getD_eq_getElem?_getD]
  cases hf : D.files[i]? with
  | none => simp
  | some f => have := h.fil i f hf; exact ⟨this.1, this.2.1⟩
theorem DkOk.weigh {D : Dk} {N : Nat} (h : DkOk D N) (o : Option Nat) (n : Nm) : Dsk.weigh D o n ≤ 1048576 := by
  unfold Dsk.weigh
  split
  · split
    · omega
    · rename_i i _ _
      have := (h.fl i).1
      omega
  · omega
theorem DkOk.used {D : Dk} {N : Nat} (h : DkOk D N) (o : Option Nat) : 0 ≤ usedBut D o ∧ usedBut D o ≤ 16777216 := by
  obtain ⟨h1, h2⟩ := h.seen.names
  unfold usedBut
  refine ⟨sumZ_nonneg fun x hx => ?_, ?_⟩
  · obtain ⟨n, _, rfl⟩ := List.mem_map.1 hx
    exact weigh_nonneg D o n
  · have := sumZ_le (l := (names D.seen).map (Dsk.weigh D o)) (B := 1048576) fun x hx => by
      obtain ⟨n, _, rfl⟩ := List.mem_map.1 hx
      exact h.weigh o n
    rw [List.length_map] at this
    have h3 : ((names D.seen).length : Int) ≤ 16 := by omega
    have h4 : ((names D.seen).length : Int) * 1048576 ≤ 16 * 1048576 := Int.mul_le_mul_of_nonneg_right h3 (by decide)
    omega
end Go.Proofs.Ytdabehgbhndimaa
