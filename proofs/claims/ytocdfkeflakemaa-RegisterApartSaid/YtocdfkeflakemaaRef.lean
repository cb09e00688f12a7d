/- What the reference's plain functions compute. Conditions: texts below 2^44 letters. -/
import Derived.Test.YtocdfkeflakemaaHole
import Derived.Test.YtocdfkeflakemaaSrt
set_option linter.unusedSimpArgs false
set_option linter.unusedVariables false
namespace Go.Proofs.Ytocdfkeflakemaa
open Go Go.Vx
section
variable {w w' : World}

theorem kb {K : Bool → World → Prop} {a b : Bool} (h : K a w) (e : a = true ↔ b = true) : K b w := by rw [Bool.eq_iff_iff.2 e] at h; exact h
theorem small_call {a : Int} {K : Bool → World → Prop} (h : K (decide (97 ≤ a ∧ a ≤ 122)) w) : callT Try.prog 64 #[.int .i64 a] (.one (.one .bool)) K w := by
  refine F64_calls ?_
  unfold F64
  repeat' (first | exact kb h (by (try simp only [decide_eq_true_eq, decide_eq_false_iff_not, beq_iff_eq, Bool.not_eq_true, beq_eq_false_iff_ne, ge_iff_le, Int.not_le, Bool.false_eq_true, false_iff, true_iff, iff_true, iff_false, ne_eq] at *); first | omega | (constructor <;> intro h9 <;> omega)) | refine sif_r (fun h1 => ?_) (fun h1 => ?_))
theorem digit_call {a : Int} {K : Bool → World → Prop} (h : K (decide (48 ≤ a ∧ a ≤ 57)) w) : callT Try.prog 65 #[.int .i64 a] (.one (.one .bool)) K w := by
  refine F65_calls ?_
  unfold F65
  repeat' (first | exact kb h (by (try simp only [decide_eq_true_eq, decide_eq_false_iff_not, beq_iff_eq, Bool.not_eq_true, beq_eq_false_iff_ne, ge_iff_le, Int.not_le, Bool.false_eq_true, false_iff, true_iff, iff_true, iff_false, ne_eq] at *); first | omega | (constructor <;> intro h9 <;> omega)) | refine sif_r (fun h1 => ?_) (fun h1 => ?_))
theorem great_call {a : Int} {K : Bool → World → Prop} (h : K (decide (65 ≤ a ∧ a ≤ 90)) w) : callT Try.prog 56 #[.int .i64 a] (.one (.one .bool)) K w := by
  refine F56_calls ?_
  unfold F56
  repeat' (first | exact kb h (by (try simp only [decide_eq_true_eq, decide_eq_false_iff_not, beq_iff_eq, Bool.not_eq_true, beq_eq_false_iff_ne, ge_iff_le, Int.not_le, Bool.false_eq_true, false_iff, true_iff, iff_true, iff_false, ne_eq] at *); first | omega | (constructor <;> intro h9 <;> omega)) | refine sif_r (fun h1 => ?_) (fun h1 => ?_))
theorem unnamed_call {a : Int} {K : Bool → World → Prop} (h : K (decide (a = 0 ∨ a = 34)) w) : callT Try.prog 55 #[.int .i64 a] (.one (.one .bool)) K w := by
  refine F55_calls ?_
  unfold F55
  repeat' (first | exact kb h (by (try simp only [decide_eq_true_eq, decide_eq_false_iff_not, beq_iff_eq, Bool.not_eq_true, beq_eq_false_iff_ne, ge_iff_le, Int.not_le, Bool.false_eq_true, false_iff, true_iff, iff_true, iff_false, ne_eq] at *); first | omega | (constructor <;> intro h9 <;> omega)) | refine sif_r (fun h1 => ?_) (fun h1 => ?_))
theorem read_call {a : Int} {K : Bool → World → Prop} (h : K (decide (a = 46 ∨ a = 58 ∨ a = 47)) w) : callT Try.prog 66 #[.int .i64 a] (.one (.one .bool)) K w := by
  refine F66_calls ?_
  unfold F66
  repeat' (first | exact kb h (by (try simp only [decide_eq_true_eq, decide_eq_false_iff_not, beq_iff_eq, Bool.not_eq_true, beq_eq_false_iff_ne, ge_iff_le, Int.not_le, Bool.false_eq_true, false_iff, true_iff, iff_true, iff_false, ne_eq] at *); first | omega | (constructor <;> intro h9 <;> omega)) | refine sif_r (fun h1 => ?_) (fun h1 => ?_))
theorem fnd_two (a : Int) : (Reg.fnd a).2 = true ↔ ((97 ≤ a ∧ a ≤ 122) ∨ (48 ≤ a ∧ a ≤ 57)) ∨ (65 ≤ a ∧ a ≤ 90) ∨ (a = 0 ∨ a = 34) ∨ (a = 45 ∨ a = 95 ∨ a = 46 ∨ a = 58 ∨ a = 47) := by
  unfold Reg.fnd
  split
  · simp_all
  split
  · simp_all
  split
  · simp_all
  split
  · simp_all
  · simp_all
theorem named_call {a : Int} {K : Bool → World → Prop} (h : K (Reg.fnd a).2 w) : callT Try.prog 54 #[.int .i64 a] (.one (.one .bool)) K w := by
  have hf := fnd_two a
  refine F54_calls ?_
  unfold F54
  have go : ∀ x : Bool, (x = true ↔ (Reg.fnd a).2 = true) → K x w := fun x hx => by rw [Bool.eq_iff_iff.2 hx]; exact h
  refine small_call (sif_r (fun h1 => ?_) (fun h1 => great_call (sif_r (fun h2 => ?_) (fun h2 => digit_call (sif_r (fun h3 => ?_) (fun h3 => unnamed_call (sif_r (fun h4 => ?_) (fun h4 => read_call (sif_r (fun h5 => ?_) (fun h5 => sif_r (fun h6 => ?_) (fun h6 => ?_)))))))))))
  all_goals (try have h1 := of_decide_eq_true h1)
  all_goals (try have h1 := of_decide_eq_false h1)
  all_goals (try have h2 := of_decide_eq_true h2)
  all_goals (try have h2 := of_decide_eq_false h2)
  all_goals (try have h3 := of_decide_eq_true h3)
  all_goals (try have h3 := of_decide_eq_false h3)
  all_goals (try have h4 := of_decide_eq_true h4)
  all_goals (try have h4 := of_decide_eq_false h4)
  all_goals (try have h5 := of_decide_eq_true h5)
  all_goals (try have h5 := of_decide_eq_false h5)
  all_goals refine go _ ?_
  all_goals rw [hf]
  all_goals (try simp only [beq_iff_eq, beq_eq_false_iff_ne, ne_eq] at h6)
  all_goals simp only [true_iff, beq_iff_eq]
  all_goals omega
theorem fnd_key (a : Int) (h : (Reg.fnd a).2 = true) : (Reg.fnd a).1 = (if 65 ≤ a ∧ a ≤ 90 then (a + 32, true) else if a = 0 ∨ a = 34 then (34, false) else (a, false)) := by
  unfold Reg.fnd at h ⊢
  split
  · rw [if_neg (by omega), if_neg (by omega)]
  split
  · rfl
  split
  · rfl
  split
  · rfl
  · rename_i h1 h2 h3 h4
    rw [if_neg h1, if_neg h2, if_neg h3, if_neg h4] at h
    cases h
theorem refuse2_call {a k : Int} {K : Int → World → Prop} (h : K (Reg.rfs a k).2 w) : callT Try.prog 60 #[.int .i64 a, .int .i64 k] (.one (.one (.int .i64))) K w := by
  refine F60_calls ?_
  unfold F60
  refine named_call (sif_r (fun h1 => ?_) (fun h1 => ?_))
  · have h1 : (Reg.fnd a).2 = false := by simpa using h1
    simp only [Reg.rfs] at h
    rw [if_pos h1] at h; exact h
  have h1 : (Reg.fnd a).2 = true := by simpa using h1
  have hk := fnd_key a h1
  have hr : ((Reg.fnd a).1.1 = 46 ∨ (Reg.fnd a).1.1 = 58 ∨ (Reg.fnd a).1.1 = 47) ↔ (a = 46 ∨ a = 58 ∨ a = 47) := by
    rw [hk]
    split
    · simp only; omega
    split
    · simp only; omega
    · simp only
  simp only [Reg.rfs] at h
  rw [if_neg (by simp [h1])] at h
  refine read_call (sif_r (fun h2 => ?_) (fun h2 => ?_))
  · rw [if_pos (hr.2 (of_decide_eq_true h2))] at h; exact h
  have h2 := of_decide_eq_false h2
  rw [if_neg (fun hh => h2 (hr.1 hh))] at h
  refine join_at (decide (k ≠ 0 ∧ k ≠ 1), ()) (sif_r (fun h3 => ⟨tupb (by simp at h3 ⊢; simp [h3]), rfl⟩) (fun h3 => ⟨tupb (by simp at h3 ⊢; simp [h3]), rfl⟩)) (sif_r (fun h3 => ?_) (fun h3 => ?_))
  · rw [if_pos (of_decide_eq_true h3)] at h; exact h
  · rw [if_neg (of_decide_eq_false h3)] at h; exact h

theorem lastBreak2_call {s : Sl} {l : List Int} {K : Sl → World → Prop} (hs : Txt w s l) (hl : l.length ≤ 2 ^ 60) (h : ∀ s' w', IntsO w' w.heap.size s' (Reg.lb l) → Ext w w' → K s' w') :
    callT Try.prog 79 #[.slice s.a s.len s.cap] (.one (.one .sl)) K w := by
  refine F79_calls ?_
  unfold F79
  have hn := hs.length
  have get : ∀ i, i < l.length → l[i]? = some (l.getD i 0) := fun i hi => by simp [List.getD, hi]
  have w2 : 2 ≤ l.length → IntKind.wrap .i64 (((s.len : Nat) : Int) - 2) = ((l.length - 2 : Nat) : Int) := fun h2 => by rw [IntWalk.i64_in _ ⟨by omega, by omega⟩]; omega
  have w1 : 1 ≤ l.length → IntKind.wrap .i64 (((s.len : Nat) : Int) - 1) = ((l.length - 1 : Nat) : Int) := fun h2 => by rw [IntWalk.i64_in _ ⟨by omega, by omega⟩]; omega
  refine join_at (decide (1 < l.length ∧ l.getD (l.length - 2) 0 = 13 ∧ l.getD (l.length - 1) 0 = 10), ()) ?_ ?_
  · refine sif_r (fun hc => ?_) (fun hc => ?_)
    · have hc : 1 < l.length := by simp at hc; omega
      rw [w2 (by omega), w1 (by omega)]
      refine ix_ldX (c := .int .i64) (xs := l) (x := l.getD (l.length - 2) 0) hs (by omega) (by rw [Int.toNat_natCast]; exact get _ (by omega)) fun p => ?_
      refine sif_r (fun hd => ?_) (fun hd => ?_)
      · refine ix_ldX (c := .int .i64) (xs := l) (x := l.getD (l.length - 1) 0) hs (by omega) (by rw [Int.toNat_natCast]; exact get _ (by omega)) fun p => ⟨tupb ?_, rfl⟩
        simp at hd ⊢
        simp [hc, hd]
      · refine ⟨tupb ?_, rfl⟩
        simp at hd ⊢
        intro _ h2
        exact absurd h2 hd
    · refine ⟨tupb ?_, rfl⟩
      simp at hc ⊢
      omega
  refine sif_r (fun hc => ?_) (fun hc => ?_)
  · have hc : 1 < l.length ∧ l.getD (l.length - 2) 0 = 13 ∧ l.getD (l.length - 1) 0 = 10 := by simpa using hc
    have hlb : Reg.lb l = [13, 10] := by simp only [Reg.lb, if_pos hc]
    refine newO_r fun b7 w1 e1 n1 hb1 _ => ?_
    refine h _ _ ?_ e1
    rw [hlb]
    exact ⟨rfl, Nat.le_refl _, .inr ⟨b7, 0, _, rfl, by omega, n1, by simp, fun i v hv => by rw [Nat.zero_add]; simpa using hv⟩⟩
  have hc : ¬ (1 < l.length ∧ l.getD (l.length - 2) 0 = 13 ∧ l.getD (l.length - 1) 0 = 10) := by simpa using hc
  refine join_at (decide (0 < l.length ∧ (l.getD (l.length - 1) 0 = 10 ∨ l.getD (l.length - 1) 0 = 13)), ()) ?_ ?_
  · refine sif_r (fun hd => ?_) (fun hd => ?_)
    · have hd : 0 < l.length := by simp at hd; omega
      rw [w1 (by omega)]
      refine ix_ldX (c := .int .i64) (xs := l) (x := l.getD (l.length - 1) 0) hs (by omega) (by rw [Int.toNat_natCast]; exact get _ (by omega)) fun p => ?_
      refine sif_r (fun he => ?_) (fun he => ?_)
      · refine ⟨tupb ?_, rfl⟩
        simp at he ⊢
        exact ⟨hd, .inl he⟩
      · refine ix_ldX (c := .int .i64) (xs := l) (x := l.getD (l.length - 1) 0) hs (by omega) (by rw [Int.toNat_natCast]; exact get _ (by omega)) fun p => ⟨tupb ?_, rfl⟩
        simp at he ⊢
        simp [hd, he]
    · refine ⟨tupb ?_, rfl⟩
      simp at hd ⊢
      omega
  refine sif_r (fun hd => ?_) (fun hd => ?_)
  · have hd : 0 < l.length ∧ (l.getD (l.length - 1) 0 = 10 ∨ l.getD (l.length - 1) 0 = 13) := by simpa using hd
    have hlb : Reg.lb l = [l.getD (l.length - 1) 0] := by simp only [Reg.lb, if_neg hc, if_pos hd]
    rw [w1 (by omega)]
    refine ix_ldX (c := .int .i64) (xs := l) (x := l.getD (l.length - 1) 0) hs (by omega) (by rw [Int.toNat_natCast]; exact get _ (by omega)) fun p => ?_
    refine newO_r fun b7 w1 e1 n1 hb1 _ => ?_
    refine h _ _ ?_ e1
    rw [hlb]
    exact ⟨rfl, Nat.le_refl _, .inr ⟨b7, 0, _, rfl, by omega, n1, by simp, fun i v hv => by rw [Nat.zero_add]; simpa using hv⟩⟩
  · have hd : ¬ (0 < l.length ∧ (l.getD (l.length - 1) 0 = 10 ∨ l.getD (l.length - 1) 0 = 13)) := by simpa using hd
    have hlb : Reg.lb l = [] := by simp only [Reg.lb, if_neg hc, if_neg hd]
    exact h _ _ (by rw [hlb]; exact SlOwn.nil w _ 3 1) (Ext.refl w)

theorem written2_call {a0 : Int} {s : Sl} {l : List Int} {K : (Int × Sl × Unit) → World → Prop} (hs : Txt w s l) (hl : l.length ≤ 2 ^ 44 - 512) (h : ∀ s' w', IntsO w' w.heap.size s' (Reg.wr a0 l) → Ext w w' → K (a0, s', ()) w') :
    callT Try.prog 61 #[.int .i64 a0, .slice s.a s.len s.cap] (.one (.agg c85)) K w := by
  refine F61_calls ?_
  unfold F61
  have S := St.start w
  refine S.newO fun b1 w1 S e1 => ?_
  refine clone_r (hs.ext e1) (by omega) fun s2 w2 o2 e2 => ?_
  have S := S.ext e2
  refine join_r (fun x w' => IntsO w' w.heap.size x.1 (Reg.wr a0 l) ∧ St (fun _ => False) w w' [(b1, .cells #[.int .i64 0, .slice none 0 0] 85 (0, 0))]) ?_ ?_
  · refine join_r (fun x w' => (x.1 = true ↔ a0 = 1 ∧ Reg.lb l = []) ∧ Ext w2 w') ?_ ?_
    · refine sif_r (fun hc => ?_) (fun hc => ⟨by simp at hc; simp [hc], Ext.refl _⟩)
      have hc : a0 = 1 := by simpa using hc
      refine lastBreak2_call o2.in.x (by omega) fun s3 w3 o3 e3 => ⟨?_, e3⟩
      have := o3.length
      simp only [hc, true_and, beq_iff_eq]
      rw [← List.length_eq_zero_iff]
      omega
    · rintro ⟨v, ⟨⟩⟩ w3 ⟨hv, e3⟩
      have S := S.ext e3
      have o3 := o2.ext e3
      refine sif_r (fun hc => ?_) (fun hc => ?_)
      · have hc := hv.1 hc
        refine S.newO fun b7 w4 S4 e4 => ?_
        have n4 : w4.heap[b7]? = some (.cells (iv [10]).toArray 3 (0, 0)) := S4.at_ 0 rfl
        have h10 : Ints w4 ⟨some (at0 b7), 1, 1⟩ [10] := box3 n4
        refine app_r (x := ⟨some (at0 b7), 1, 1⟩) (o3.ext e4) h10.x (by simp only [List.length_cons, List.length_nil]; omega) (by have := e3.size; have := e4.size; have := e2.size; omega) fun s5 w5 o5 u5 _ => ⟨?_, ?_⟩
        · simp only [Reg.wr, if_pos hc]; exact o5.mono e1.size
        · refine S4.tail.fresh u5 (fun k hk => .inr (by have := o2.blk_ge hk; have := e1.size; omega)) fun x hx hk => ?_
          have := o2.blk_ge hk
          have hx1 := S4.tail.lt x hx
          simp at hx
          subst hx
          have := S4.at_ 1 rfl
          obtain ⟨c, fr, hc'⟩ := (o3.ext e4).in.blk_cells hk
          rw [this] at hc'; cases hc'
      · have hc : ¬ (a0 = 1 ∧ Reg.lb l = []) := fun hh => by rw [hv.2 hh] at hc; cases hc
        simp only [Reg.wr, if_neg hc]
        exact ⟨o3.mono e1.size, S⟩
  · rintro ⟨s3, ⟨⟩⟩ w3 ⟨o3, S⟩
    dsimp only at o3 ⊢
    refine S.aggSt 0 rfl rfl rfl rfl fun w4 S4 u4 => S4.lds 0 (a0, s3, ()) rfl ?_
    exact h s3 w4 (o3.box (S.at_ 0 rfl) (by decide) u4) S4.upd
end
end Go.Proofs.Ytocdfkeflakemaa
