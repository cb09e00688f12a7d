/- What find, written, Grow, Concat and join compute, and the texts that they make. Conditions: texts below 2^44 letters. -/
import Derived.Test.YtocdfkeflakemaaFn
import Derived.Test.YtocdfkeflakemaaSpec
import Derived.Test.YtocdfkeflakemaaVxS
set_option linter.unusedSimpArgs false
set_option linter.unusedVariables false
namespace Go.Proofs.Ytocdfkeflakemaa
open Go Go.Vx

abbrev iv (l : List Int) : List Value := l.map (Value.int .i64)
/-- a slice that reads as a list of ints -/
abbrev Ints (w : World) (s : Sl) (l : List Int) : Prop := SlIn w s 3 1 (iv l)
abbrev IntsO (w : World) (B : Nat) (s : Sl) (l : List Int) : Prop := SlOwn w B s 3 1 (iv l)

theorem E23 : ElemOk Try.prog 23 3 1 8 := ElemOk.of (z := .int .i64 0) i23_ok i3_ok rfl rfl rfl (by decide)
theorem u23 : Try.prog.underlying 23 = some (.slice 3) := i23_ok.und

theorem iv_one (l : List Int) : ∀ v ∈ iv l, isOne v = true := by
  intro v hv
  obtain ⟨x, _, rfl⟩ := List.mem_map.1 hv
  rfl

section
variable {w : World}

theorem find_spec {a0 : Int} {K : (Int × Bool × Unit) × Bool × Unit → World → Prop}
    (h : ∀ w', Ext w w' → K ((((Reg.fnd a0).1.1, (Reg.fnd a0).1.2, ()), (Reg.fnd a0).2, ())) w') : F37 a0 K w := by
  unfold F37
  refine newO_r fun b1 w1 e1 n1 hb1 _ => ?_
  have out : ∀ (k : Int) (a ok : Bool), (Reg.fnd a0) = ((k, a), ok) → (aggSt (at0 b1) (.agg #[(.int .i64 k), (.bool a)]) 2 <| lds c64 (at0 b1) fun x6 => K (x6, ok, ())) w1 := by
    intro k a ok hk
    refine aggSt_r n1 rfl rfl (by simp) fun w2 u2 n2 _ => ?_
    refine lds_r (x := (k, a, ())) n2 ?_ ?_
    · intro i v hv
      match i with
      | 0 => simpa [Cells.vals, Cell.val, setRow] using hv
      | 1 => simpa [Cells.vals, Cell.val, setRow] using hv
      | i + 2 => simp [Cells.vals] at hv
    · have := h w2 (e1.step u2 (by rintro k rfl; omega))
      rw [hk] at this; exact this
  refine join_at (decide ((97 ≤ a0 ∧ a0 ≤ 122) ∨ (48 ≤ a0 ∧ a0 ≤ 57)), ()) ?_ ?_
  · refine join_at (decide (97 ≤ a0 ∧ a0 ≤ 122), ()) (sif_r (fun h => ⟨tupb (by (try simp only [decide_eq_true_eq, decide_eq_false_iff_not, beq_iff_eq, Bool.not_eq_true, beq_eq_false_iff_ne, ne_eq, Bool.false_eq_true, false_iff, iff_false, true_iff, iff_true, ge_iff_le, gt_iff_lt, Int.not_le, Int.not_lt] at *); first | omega | (constructor <;> intro h9 <;> omega)), rfl⟩) (fun h => ⟨tupb (by (try simp only [decide_eq_true_eq, decide_eq_false_iff_not, beq_iff_eq, Bool.not_eq_true, beq_eq_false_iff_ne, ne_eq, Bool.false_eq_true, false_iff, iff_false, true_iff, iff_true, ge_iff_le, gt_iff_lt, Int.not_le, Int.not_lt] at *); first | omega | (constructor <;> intro h9 <;> omega)), rfl⟩)) (sif_r (fun h => ⟨tupb (by (try simp only [decide_eq_true_eq, decide_eq_false_iff_not, beq_iff_eq, Bool.not_eq_true, beq_eq_false_iff_ne, ne_eq, Bool.false_eq_true, false_iff, iff_false, true_iff, iff_true, ge_iff_le, gt_iff_lt, Int.not_le, Int.not_lt] at *); first | omega | (constructor <;> intro h9 <;> omega)), rfl⟩) (fun h' => sif_r (fun h => ⟨tupb (by (try simp only [decide_eq_true_eq, decide_eq_false_iff_not, beq_iff_eq, Bool.not_eq_true, beq_eq_false_iff_ne, ne_eq, Bool.false_eq_true, false_iff, iff_false, true_iff, iff_true, ge_iff_le, gt_iff_lt, Int.not_le, Int.not_lt] at *); first | omega | (constructor <;> intro h9 <;> omega)), rfl⟩) (fun h => ⟨tupb (by (try simp only [decide_eq_true_eq, decide_eq_false_iff_not, beq_iff_eq, Bool.not_eq_true, beq_eq_false_iff_ne, ne_eq, Bool.false_eq_true, false_iff, iff_false, true_iff, iff_true, ge_iff_le, gt_iff_lt, Int.not_le, Int.not_lt] at *); first | omega | (constructor <;> intro h9 <;> omega)), rfl⟩)))
  refine sif_r (fun hc => ?_) (fun hc => ?_)
  · have hc : (97 ≤ a0 ∧ a0 ≤ 122) ∨ (48 ≤ a0 ∧ a0 ≤ 57) := by simpa using hc
    exact out a0 false true (by simp only [Reg.fnd, if_pos hc])
  have hc : ¬ ((97 ≤ a0 ∧ a0 ≤ 122) ∨ (48 ≤ a0 ∧ a0 ≤ 57)) := by simpa using hc
  refine join_at (decide (65 ≤ a0 ∧ a0 ≤ 90), ()) (sif_r (fun h => ⟨tupb (by (try simp only [decide_eq_true_eq, decide_eq_false_iff_not, beq_iff_eq, Bool.not_eq_true, beq_eq_false_iff_ne, ne_eq, Bool.false_eq_true, false_iff, iff_false, true_iff, iff_true, ge_iff_le, gt_iff_lt, Int.not_le, Int.not_lt] at *); first | omega | (constructor <;> intro h9 <;> omega)), rfl⟩) (fun h => ⟨tupb (by (try simp only [decide_eq_true_eq, decide_eq_false_iff_not, beq_iff_eq, Bool.not_eq_true, beq_eq_false_iff_ne, ne_eq, Bool.false_eq_true, false_iff, iff_false, true_iff, iff_true, ge_iff_le, gt_iff_lt, Int.not_le, Int.not_lt] at *); first | omega | (constructor <;> intro h9 <;> omega)), rfl⟩)) ?_
  refine sif_r (fun hd => ?_) (fun hd => ?_)
  · have hd : 65 ≤ a0 ∧ a0 ≤ 90 := by simpa using hd
    have e1 : IntKind.wrap .i64 (a0 + 97) = a0 + 97 := IntWalk.i64_in _ ⟨by omega, by omega⟩
    have e2 : IntKind.wrap .i64 (a0 + 97 - 65) = a0 + 32 := by rw [IntWalk.i64_in _ ⟨by omega, by omega⟩]; omega
    rw [e1, e2]
    exact out (a0 + 32) true true (by simp only [Reg.fnd, if_neg hc, if_pos hd])
  have hd : ¬ (65 ≤ a0 ∧ a0 ≤ 90) := by simpa using hd
  refine join_at (decide (a0 = 0 ∨ a0 = 34), ()) (sif_r (fun h => ⟨tupb (by (try simp only [decide_eq_true_eq, decide_eq_false_iff_not, beq_iff_eq, Bool.not_eq_true, beq_eq_false_iff_ne, ne_eq, Bool.false_eq_true, false_iff, iff_false, true_iff, iff_true, ge_iff_le, gt_iff_lt, Int.not_le, Int.not_lt] at *); first | omega | (constructor <;> intro h9 <;> omega)), rfl⟩) (fun h => ⟨tupb (by (try simp only [decide_eq_true_eq, decide_eq_false_iff_not, beq_iff_eq, Bool.not_eq_true, beq_eq_false_iff_ne, ne_eq, Bool.false_eq_true, false_iff, iff_false, true_iff, iff_true, ge_iff_le, gt_iff_lt, Int.not_le, Int.not_lt] at *); first | omega | (constructor <;> intro h9 <;> omega)), rfl⟩)) ?_
  refine sif_r (fun he => ?_) (fun he => ?_)
  · have he : a0 = 0 ∨ a0 = 34 := by simpa using he
    exact out 34 false true (by simp only [Reg.fnd, if_neg hc, if_neg hd, if_pos he])
  have he : ¬ (a0 = 0 ∨ a0 = 34) := by simpa using he
  refine join_at (decide (a0 = 45 ∨ a0 = 95 ∨ a0 = 46 ∨ a0 = 58 ∨ a0 = 47), ()) (sif_r (fun h => ⟨tupb (by (try simp only [decide_eq_true_eq, decide_eq_false_iff_not, beq_iff_eq, Bool.not_eq_true, beq_eq_false_iff_ne, ne_eq, Bool.false_eq_true, false_iff, iff_false, true_iff, iff_true, ge_iff_le, gt_iff_lt, Int.not_le, Int.not_lt] at *); first | omega | (constructor <;> intro h9 <;> omega)), rfl⟩) (fun h => sif_r (fun h => ⟨tupb (by (try simp only [decide_eq_true_eq, decide_eq_false_iff_not, beq_iff_eq, Bool.not_eq_true, beq_eq_false_iff_ne, ne_eq, Bool.false_eq_true, false_iff, iff_false, true_iff, iff_true, ge_iff_le, gt_iff_lt, Int.not_le, Int.not_lt] at *); first | omega | (constructor <;> intro h9 <;> omega)), rfl⟩) (fun h => sif_r (fun h => ⟨tupb (by (try simp only [decide_eq_true_eq, decide_eq_false_iff_not, beq_iff_eq, Bool.not_eq_true, beq_eq_false_iff_ne, ne_eq, Bool.false_eq_true, false_iff, iff_false, true_iff, iff_true, ge_iff_le, gt_iff_lt, Int.not_le, Int.not_lt] at *); first | omega | (constructor <;> intro h9 <;> omega)), rfl⟩) (fun h => sif_r (fun h => ⟨tupb (by (try simp only [decide_eq_true_eq, decide_eq_false_iff_not, beq_iff_eq, Bool.not_eq_true, beq_eq_false_iff_ne, ne_eq, Bool.false_eq_true, false_iff, iff_false, true_iff, iff_true, ge_iff_le, gt_iff_lt, Int.not_le, Int.not_lt] at *); first | omega | (constructor <;> intro h9 <;> omega)), rfl⟩) (fun h => ⟨tupb (by (try simp only [decide_eq_true_eq, decide_eq_false_iff_not, beq_iff_eq, Bool.not_eq_true, beq_eq_false_iff_ne, ne_eq, Bool.false_eq_true, false_iff, iff_false, true_iff, iff_true, ge_iff_le, gt_iff_lt, Int.not_le, Int.not_lt] at *); first | omega | (constructor <;> intro h9 <;> omega)), rfl⟩))))) ?_
  refine sif_r (fun hf => ?_) (fun hf => ?_)
  · have hf : a0 = 45 ∨ a0 = 95 ∨ a0 = 46 ∨ a0 = 58 ∨ a0 = 47 := by simpa using hf
    exact out a0 false true (by simp only [Reg.fnd, if_neg hc, if_neg hd, if_neg he, if_pos hf])
  · have hf : ¬ (a0 = 45 ∨ a0 = 95 ∨ a0 = 46 ∨ a0 = 58 ∨ a0 = 47) := by simpa using hf
    exact out 0 false false (by simp only [Reg.fnd, if_neg hc, if_neg hd, if_neg he, if_neg hf])

theorem find_call {a0 : Int} {K : (Int × Bool × Unit) × Bool × Unit → World → Prop}
    (h : ∀ w', Ext w w' → K ((((Reg.fnd a0).1.1, (Reg.fnd a0).1.2, ()), (Reg.fnd a0).2, ())) w') : callT Try.prog 37 #[.int .i64 a0] (.tup [.agg c64, .one .bool]) K w := F37_calls (find_spec h)

theorem clone_call {s : Sl} {l : List Int} {K : Sl → World → Prop} (hs : Ints w s l) (hl : l.length ≤ 2 ^ 44) (h : ∀ s' w', IntsO w' w.heap.size s' l → Ext w w' → K s' w') :
    callT Try.prog 39 #[.slice s.a s.len s.cap] (.one (.one .sl)) K w := by
  refine F39_calls ?_
  unfold F39
  refine sif_r (fun hc => ?_) (fun hc => ?_)
  · have hn : s.a = none := by simpa using hc
    have : l = [] := by
      rcases hs.at_ with ⟨_, hcap⟩ | ⟨b, off, c, fr, ha, _⟩
      · have h1 := hs.len1; have h2 := hs.le
        rw [List.length_map] at h1
        exact List.length_eq_zero_iff.1 (by omega)
      · rw [hn] at ha; cases ha
    subst this
    exact h _ w (SlOwn.nil w _ 3 1) (Ext.refl w)
  · refine newO_r fun b1 w1 e1 n1 hb1 _ => ?_
    have o1 : SlOwn w1 w.heap.size ⟨some (at0 b1), 0, 0⟩ 3 1 [] := ⟨rfl, Nat.le_refl _, .inr ⟨b1, 0, #[], rfl, by omega, n1, by simp, fun _ _ hv => by simp at hv⟩⟩
    have hl' := hs.len1
    rw [List.length_map] at hl'
    refine append_r (s := ⟨some (at0 b1), 0, 0⟩) (x := s) E23 u23 o1 (hs.ext e1) (iv_one l) (by simp only; omega) e1.size fun s' w2 o2 _ u2 _ => ?_
    refine h s' w2 (by simpa using o2) (e1.step u2 ?_)
    rintro k ⟨p, hp, rfl⟩
    cases hp
    exact Nat.le_of_eq hb1.symm

theorem lastBreak_call {s : Sl} {l : List Int} {K : Sl → World → Prop} (hs : Ints w s l) (hl : l.length ≤ 2 ^ 60) (h : ∀ s', Ints w s' (Reg.lb l) → (s'.a = none ↔ Reg.lb l = []) → (∀ k, s'.blk k → s.blk k) → K s' w) :
    callT Try.prog 46 #[.slice s.a s.len s.cap] (.one (.one .sl)) K w := by
  refine F46_calls ?_
  unfold F46
  have hn : l.length = s.len := by have := hs.len1; rwa [List.length_map] at this
  have hle := hs.le
  have get : ∀ i, i < l.length → l[i]? = some (l.getD i 0) := fun i hi => by simp [List.getD, hi]
  have w2 : 2 ≤ l.length → IntKind.wrap .i64 (((s.len : Nat) : Int) - 2) = ((l.length - 2 : Nat) : Int) := fun h2 => by rw [IntWalk.i64_in _ ⟨by omega, by omega⟩]; omega
  have w1 : 1 ≤ l.length → IntKind.wrap .i64 (((s.len : Nat) : Int) - 1) = ((l.length - 1 : Nat) : Int) := fun h2 => by rw [IntWalk.i64_in _ ⟨by omega, by omega⟩]; omega
  have notnil : 1 ≤ l.length → s.a ≠ none := by
    intro h1 ha
    rcases hs.at_ with ⟨_, hc⟩ | ⟨b, off, c, fr, ha', _⟩
    · omega
    · rw [ha] at ha'; cases ha'
  refine join_at (decide (1 < l.length ∧ l.getD (l.length - 2) 0 = 13 ∧ l.getD (l.length - 1) 0 = 10), ()) ?_ ?_
  · refine sif_r (fun hc => ?_) (fun hc => ?_)
    · have hc : 1 < l.length := by simp at hc; omega
      rw [w2 (by omega), w1 (by omega)]
      refine ix_ld (c := .int .i64) (xs := l) (x := l.getD (l.length - 2) 0) hs (by omega) (by rw [Int.toNat_natCast]; exact get _ (by omega)) fun p => ?_
      refine sif_r (fun hd => ?_) (fun hd => ?_)
      · refine ix_ld (c := .int .i64) (xs := l) (x := l.getD (l.length - 1) 0) hs (by omega) (by rw [Int.toNat_natCast]; exact get _ (by omega)) fun p => ⟨tupb ?_, rfl⟩
        simp at hd ⊢
        simp [hc, hd]
      · refine ⟨tupb ?_, rfl⟩
        simp at hd ⊢
        intro _ h2
        exact absurd h2 hd
    · refine ⟨tupb ?_, rfl⟩
      simp at hc ⊢
      omega
  refine sif_r (fun hc => ?_) (fun hc => ?_)
  · have hc : 1 < l.length ∧ l.getD (l.length - 2) 0 = 13 ∧ l.getD (l.length - 1) 0 = 10 := by simpa using hc
    have hlb : Reg.lb l = [13, 10] := by simp only [Reg.lb, if_pos hc]
    rw [w2 (by omega)]
    refine slc_r hs (by omega) (by omega) (by omega) (by omega) (by omega) fun s' hs' hl' ha' hb' => ?_
    refine h s' ?_ ?_ hb'
    · rw [hlb]
      have e : (((iv l).drop ((((l.length - 2 : Nat) : Int)).toNat * 1)).take (((((s.len : Nat) : Int)).toNat - (((l.length - 2 : Nat) : Int)).toNat) * 1)) = iv [13, 10] := by
        rw [Int.toNat_natCast, Int.toNat_natCast, Nat.mul_one, Nat.mul_one]
        apply List.ext_getElem?
        intro i
        rw [List.getElem?_take, List.getElem?_drop, List.getElem?_map]
        match i with
        | 0 => rw [if_pos (by omega), Nat.add_zero, get _ (by omega), hc.2.1]; rfl
        | 1 => rw [if_pos (by omega), show l.length - 2 + 1 = l.length - 1 by omega, get _ (by omega), hc.2.2]; rfl
        | i + 2 => rw [if_neg (by omega)]; rfl
      rw [e] at hs'; exact hs'
    · rw [hlb, ha']; simp [notnil (by omega)]
  have hc : ¬ (1 < l.length ∧ l.getD (l.length - 2) 0 = 13 ∧ l.getD (l.length - 1) 0 = 10) := by simpa using hc
  refine join_at (decide (0 < l.length ∧ (l.getD (l.length - 1) 0 = 10 ∨ l.getD (l.length - 1) 0 = 13)), ()) ?_ ?_
  · refine sif_r (fun hd => ?_) (fun hd => ?_)
    · have hd : 0 < l.length := by simp at hd; omega
      rw [w1 (by omega)]
      refine ix_ld (c := .int .i64) (xs := l) (x := l.getD (l.length - 1) 0) hs (by omega) (by rw [Int.toNat_natCast]; exact get _ (by omega)) fun p => ?_
      refine sif_r (fun he => ?_) (fun he => ?_)
      · refine ⟨tupb ?_, rfl⟩
        simp at he ⊢
        exact ⟨hd, .inl he⟩
      · refine ix_ld (c := .int .i64) (xs := l) (x := l.getD (l.length - 1) 0) hs (by omega) (by rw [Int.toNat_natCast]; exact get _ (by omega)) fun p => ⟨tupb ?_, rfl⟩
        simp at he ⊢
        simp [hd, he]
    · refine ⟨tupb ?_, rfl⟩
      simp at hd ⊢
      omega
  refine sif_r (fun hd => ?_) (fun hd => ?_)
  · have hd : 0 < l.length ∧ (l.getD (l.length - 1) 0 = 10 ∨ l.getD (l.length - 1) 0 = 13) := by simpa using hd
    have hlb : Reg.lb l = [l.getD (l.length - 1) 0] := by simp only [Reg.lb, if_neg hc, if_pos hd]
    rw [w1 (by omega)]
    refine slc_r hs (by omega) (by omega) (by omega) (by omega) (by omega) fun s' hs' hl' ha' hb' => ?_
    refine h s' ?_ ?_ hb'
    · rw [hlb]
      have e : (((iv l).drop ((((l.length - 1 : Nat) : Int)).toNat * 1)).take (((((s.len : Nat) : Int)).toNat - (((l.length - 1 : Nat) : Int)).toNat) * 1)) = iv [l.getD (l.length - 1) 0] := by
        rw [Int.toNat_natCast, Int.toNat_natCast, Nat.mul_one, Nat.mul_one]
        apply List.ext_getElem?
        intro i
        rw [List.getElem?_take, List.getElem?_drop, List.getElem?_map]
        match i with
        | 0 => rw [if_pos (by omega), Nat.add_zero, get _ (by omega)]; rfl
        | i + 1 => rw [if_neg (by omega)]; rfl
      rw [e] at hs'; exact hs'
    · rw [hlb, ha']; simp [notnil (by omega)]
  · have hd : ¬ (0 < l.length ∧ (l.getD (l.length - 1) 0 = 10 ∨ l.getD (l.length - 1) 0 = 13)) := by simpa using hd
    have hlb : Reg.lb l = [] := by simp only [Reg.lb, if_neg hc, if_neg hd]
    exact h _ (by rw [hlb]; exact SlIn.nil w 3 1) (by simp [hlb]) (by rintro k ⟨p, hp, _⟩; cases hp)

theorem Ints.length {s : Sl} {l : List Int} (h : Ints w s l) : l.length = s.len := by have := h.len1; rwa [List.length_map] at this
theorem IntsO.length {B : Nat} {s : Sl} {l : List Int} (h : IntsO w B s l) : l.length = s.len := by have := h.len1; rwa [List.length_map] at this

theorem written_call {r : Int × Sl × Unit} {l : List Int} {K : (Int × Sl × Unit) → World → Prop} (hs : Ints w r.2.1 l) (hl : l.length ≤ 2 ^ 44 - 512) (h : ∀ s' w', IntsO w' w.heap.size s' (Reg.wr r.1 l) → Ext w w' → K (r.1, s', ()) w') :
    callT Try.prog 33 #[.agg (Cells.vals c28 r).toArray] (.one (.agg c28)) K w := by
  refine F33_calls ?_
  unfold F33
  have S := St.start w
  refine S.newO fun b1 w1 S e1 => ?_
  refine S.newO fun b2 w2 S e2 => ?_
  refine S.ld 1 (x := r.2.1) rfl rfl ?_
  have hsz : w.heap.size ≤ w2.heap.size := S.upd.size
  have hlt := S.lt
  have hs2 : Ints w2 r.2.1 l := hs.ext (e1.trans e2)
  refine clone_call hs2 (by omega) fun s3 w3 o3 e3 => ?_
  have S := S.ext e3
  have hn3 := o3.length
  refine join_r (fun s w' => IntsO w' w.heap.size s.1 (Reg.wr r.1 l) ∧ St (fun _ => False) w w' [(b2, .cells #[.int .i64 0, .slice none 0 0] 28 (0, 0)), (b1, .cells #[.int .i64 r.1, .slice r.2.1.a r.2.1.len r.2.1.cap] 28 (0, 0))]) ?_ ?_
  · refine join_at (decide (r.1 = 1 ∧ Reg.lb l = []), ()) ?_ ?_
    · refine S.ld 1 (x := r.1) rfl rfl (sif_r (fun hc => ?_) (fun hc => ?_))
      · have hc : r.1 = 1 := by simpa using hc
        refine lastBreak_call o3.in (by omega) fun s' hs' ha hb => ⟨tupb ?_, rfl⟩
        simp [hc, ha]
      · have hc : ¬ r.1 = 1 := by simpa using hc
        exact ⟨tupb (by simp [hc]), rfl⟩
    · refine sif_r (fun hc => ?_) (fun hc => ?_)
      · have hc : r.1 = 1 ∧ Reg.lb l = [] := by simpa using hc
        refine newO_r fun b4 w4 e4 n4 hb4 _ => ?_
        have S := S.ext e4
        have h10 : Ints w4 ⟨some (at0 b4), 1, 1⟩ [10] := ⟨rfl, Nat.le_refl _, .inr ⟨b4, 0, #[.int .i64 10], _, rfl, n4, by simp, fun i v hv => by rw [Nat.zero_add]; simpa using hv⟩⟩
        refine append_r (x := ⟨some (at0 b4), 1, 1⟩) E23 u23 (o3.ext e4) h10 (iv_one [10]) (by simp only; omega) (by have := e4.size; have := e3.size; omega) fun s5 w5 o5 hl5 u5 _ => ⟨?_, ?_⟩
        · have e : iv l ++ iv [10] = iv (Reg.wr r.1 l) := by simp only [Reg.wr, if_pos hc, iv, List.map_append]
          rw [e] at o5
          exact o5.mono hsz
        · refine S.fresh u5 (fun k hk => .inr (by have := o3.blk_ge hk; omega)) fun x hx hk => by have := hlt x hx; have := o3.blk_ge hk; omega
      · have hc : ¬ (r.1 = 1 ∧ Reg.lb l = []) := by simpa using hc
        refine ⟨?_, S⟩
        simp only [Reg.wr, if_neg hc]
        exact o3.mono hsz
  · rintro ⟨s6, ⟨⟩⟩ w6 ⟨o6, S⟩
    refine S.ld 1 (x := r.1) rfl rfl ?_
    refine S.aggSt 0 rfl rfl rfl rfl fun w7 S7 u7 => ?_
    refine S7.lds 0 (r.1, s6, ()) rfl ?_
    exact h s6 w7 (o6.box (S.at_ 0 rfl) (by decide) u7) S7.upd

/-- an index into a made list -/
theorem grow_call {n : Int} {K : Sl → World → Prop} (h0 : 0 ≤ n) (h1 : n ≤ 2 ^ 45) (h : ∀ s' w', SlOwn w' w.heap.size s' 3 1 [] → s'.len = 0 → Ext w w' → K s' w') :
    callT Try.prog 78 #[.slice none 0 0, .int .i64 n] (.one (.one .sl)) K w := by
  refine F78_calls (a0 := ⟨none, 0, 0⟩) ?_
  unfold F78
  refine join_id (sif_r (fun hc => ?_) (fun _ => ?_))
  · simp at hc; omega
  have e0 : IntKind.wrap .i64 (((0 : Nat) : Int) - ((0 : Nat) : Int)) = 0 := by decide
  have e1 : IntKind.wrap .i64 (n - 0) = n := by rw [IntWalk.i64_in _ ⟨by omega, by omega⟩]; omega
  simp only [e0, e1]
  refine join_id (sif_r (fun hc => ?_) (fun hc => ?_))
  · refine chk_r (by decide) ?_
    rw [show Sl.cut none 0 ((0 : Nat) : Int) ((0 : Nat) : Int) 1 = ⟨none, 0, 0⟩ from rfl]
    refine append0_r E23 i3_ok.und h0 (by omega) (by omega) fun s2 w2 vs o2 hl2 e2 _ => ?_
    have hle := o2.le
    refine slc_ro o2 (Int.le_refl _) (Int.le_refl _) (by omega) (by omega) (Int.le_refl _) fun s3 o3 hl3 _ _ => ?_
    exact h s3 w2 (by simpa using o3) (by simpa using hl3) e2
  · exact h _ _ (SlOwn.nil w _ 3 1) rfl (Ext.refl w)

/-- the slices of a row, as it holds them -/
abbrev sv (s : Sl) : Value := .slice s.a s.len s.cap
theorem E34 : ElemOk Try.prog 34 23 1 24 := ElemOk.of (z := .slice none 0 0) i34_ok i23_ok rfl rfl rfl (by decide)

theorem concat_call {x : Sl} {ss : List Sl} {ls : List (List Int)} {K : Sl → World → Prop} (hx : SlIn w x 23 1 (ss.map sv)) (hs : ss.length = ls.length) (hi : ∀ (i : Nat) (s : Sl) (l : List Int), ss[i]? = some s → ls[i]? = some l → Ints w s l) (hx60 : ss.length ≤ 2 ^ 60)
    (hsum : (ls.map List.length).sum ≤ 2 ^ 44 + 200000) (h : ∀ s' w', IntsO w' w.heap.size s' ls.flatten → Ext w w' → K s' w') :
    callT Try.prog 59 #[.slice x.a x.len x.cap] (.one (.one .sl)) K w := by
  refine F59_calls ?_
  unfold F59
  have hxl : ss.length = x.len := by have := hx.len1; rwa [List.length_map] at this
  have hsmall : x.len ≤ 2 ^ 60 := by omega
  have pre : ∀ n, ((ls.take n).map List.length).sum ≤ (ls.map List.length).sum := by
    intro n
    have : ls = ls.take n ++ ls.drop n := (List.take_append_drop n ls).symm
    conv => rhs; rw [this]
    rw [List.map_append, List.sum_append]; omega
  have step : ∀ n l, ls[n]? = some l → ((ls.take (n + 1)).map List.length).sum = ((ls.take n).map List.length).sum + l.length := by
    intro n l hl
    have hlt := (List.getElem?_eq_some_iff.1 hl).1
    rw [List.take_add_one, hl]
    simp
  refine join_r (fun s w' => s = ((((ls.map List.length).sum : Nat) : Int), ()) ∧ w = w') ?_ ?_
  · refine sloop_r (fun s w' => w = w' ∧ ∃ n : Nat, n ≤ x.len ∧ s = (((((ls.take n).map List.length).sum : Nat) : Int), (n : Int), ())) (fun s _ => (x.len - s.2.1).toNat) ⟨rfl, 0, by omega, rfl⟩ ?_
    rintro _ _ ⟨rfl, n, hn, rfl⟩
    dsimp only
    refine sif_r (fun hc => ?_) (fun hc => ?_)
    · have hc : n < x.len := by simpa using hc
      obtain ⟨s, hsn⟩ : ∃ s, ss[n]? = some s := ⟨_, List.getElem?_eq_getElem (by omega)⟩
      obtain ⟨l, hln⟩ : ∃ l, ls[n]? = some l := ⟨_, List.getElem?_eq_getElem (by omega)⟩
      have hil := (hi n s l hsn hln).length
      have hst := step n l hln
      have hp := pre (n + 1)
      have hlt := Nat.lt_succ_self n
      refine join_id ?_
      refine ix_ld (c := .sl) (xs := ss) (x := s) hx (by omega) (by simpa using hsn) fun p => ?_
      have e : IntKind.wrap .i64 ((((ls.take n).map List.length).sum : Nat) + ((s.len : Nat) : Int)) = ((((ls.take (n + 1)).map List.length).sum : Nat) : Int) := by
        rw [IntWalk.i64_in _ ⟨by omega, by omega⟩]; omega
      have e2 : IntKind.wrap .i64 ((n : Int) + 1) = ((n + 1 : Nat) : Int) := by rw [IntWalk.i64_in _ ⟨by omega, by omega⟩]; omega
      simp only [e, e2]
      refine sif_r (fun hd => ?_) (fun _ => ?_)
      · simp at hd; omega
      · refine ⟨⟨rfl, n + 1, by omega, rfl⟩, ?_⟩
        omega
    · have hc : n = x.len := by have hc := of_decide_eq_false hc; omega
      refine ⟨?_, rfl⟩
      rw [List.take_of_length_le (by omega)]
  rintro _ _ ⟨rfl, rfl⟩
  refine grow_call (by omega) (by omega) fun s1 w1 o1 hl1 e1 => ?_
  refine join_r (fun s w' => IntsO w' w.heap.size s.1 ls.flatten ∧ Ext w w') ?_ ?_
  · refine sloop_r (fun s w' => ∃ n : Nat, n ≤ x.len ∧ s.2.1 = (n : Int) ∧ IntsO w' w.heap.size s.1 (ls.take n).flatten ∧ Ext w w') (fun s _ => (x.len - s.2.1).toNat) ⟨0, by omega, rfl, (by rw [List.take_zero]; exact o1), e1⟩ ?_
    rintro ⟨s2, _, ⟨⟩⟩ w2 ⟨n, hn, rfl, o2, e2⟩
    dsimp only
    refine sif_r (fun hc => ?_) (fun hc => ?_)
    · have hc : n < x.len := by simpa using hc
      obtain ⟨s, hsn⟩ : ∃ s, ss[n]? = some s := ⟨_, List.getElem?_eq_getElem (by omega)⟩
      obtain ⟨l, hln⟩ : ∃ l, ls[n]? = some l := ⟨_, List.getElem?_eq_getElem (by omega)⟩
      have hil := (hi n s l hsn hln).length
      have hst := step n l hln
      have hp := pre (n + 1)
      have hlt := Nat.lt_succ_self n
      have hfl : (ls.take n).flatten.length = ((ls.take n).map List.length).sum := List.length_flatten
      have hol : (ls.take n).flatten.length = s2.len := o2.length
      refine ix_ld (c := .sl) (xs := ss) (x := s) (hx.ext e2) (by omega) (by simpa using hsn) fun p => ?_
      refine append_r (x := s) E23 u23 o2 ((hi n s l hsn hln).ext e2) (iv_one l) (by omega) e2.size fun s3 w3 o3 hl3 u3 _ => ?_
      have e3 : IntKind.wrap .i64 ((n : Int) + 1) = ((n + 1 : Nat) : Int) := by rw [IntWalk.i64_in _ ⟨by omega, by omega⟩]; omega
      simp only [e3]
      refine ⟨⟨n + 1, by omega, rfl, ?_, e2.step u3 fun k hk => o2.blk_ge hk⟩, by omega⟩
      have e4 : iv (ls.take n).flatten ++ iv l = iv (ls.take (n + 1)).flatten := by
        rw [List.take_add_one, hln]; simp [iv]
      rw [e4] at o3; exact o3
    · have hc : n = x.len := by have hc := of_decide_eq_false hc; omega
      refine ⟨?_, e2⟩
      rw [List.take_of_length_le (by omega)] at o2
      exact o2
  · rintro ⟨s3, ⟨⟩⟩ w3 ⟨o3, e3⟩
    exact h s3 w3 o3 e3

theorem lb_le (l : List Int) : (Reg.lb l).length ≤ 2 := by
  unfold Reg.lb
  split
  · simp
  · split <;> simp

theorem join_call {o m : Int × Sl × Unit} {lo lm : List Int} {K : (Int × Sl × Unit) → World → Prop} (ho : Ints w o.2.1 lo) (hm : Ints w m.2.1 lm) (h1 : lo.length ≤ 140000) (h2 : lm.length ≤ 2 ^ 44)
    (h : ∀ s' w', IntsO w' w.heap.size s' (Reg.jn (o.1, lo) (m.1, lm)).2 → Ext w w' → K ((Reg.jn (o.1, lo) (m.1, lm)).1, s', ()) w') :
    callT Try.prog 48 #[.agg (Cells.vals c28 o).toArray, .agg (Cells.vals c28 m).toArray] (.one (.agg c28)) K w := by
  refine F48_calls ?_
  unfold F48
  have S := St.start w
  refine S.newO fun b1 w1 S e1 => ?_
  refine S.newO fun b2 w2 S e2 => ?_
  refine S.newO fun b3 w3 S e3 => ?_
  have ho3 := ho.ext S.upd
  have hm3 := hm.ext S.upd
  have hn1 := lb_le lo
  have hn2 := lb_le lm
  refine join_r (fun s w' => w3 = w' ∧ Ints w3 s.1 (if m.1 = 1 ∧ o.1 = 0 then Reg.lb lm else []) ∧ Ints w3 s.2.1 (if ¬ (m.1 = 1 ∧ o.1 = 0) ∧ o.1 = 1 ∧ m.1 = 0 then Reg.lb lo else [])) ?_ ?_
  · refine join_at (decide (m.1 = 1 ∧ o.1 = 0), ()) ?_ ?_
    · refine S.ld 1 (x := m.1) rfl rfl (sif_r (fun hc => ?_) (fun hc => ?_))
      · have hc : m.1 = 1 := by simpa using hc
        refine S.ld 2 (x := o.1) rfl rfl ⟨tupb ?_, rfl⟩
        simp [hc]
      · have hc : ¬ m.1 = 1 := by simpa using hc
        exact ⟨tupb (by simp [hc]), rfl⟩
    refine sif_r (fun hc => ?_) (fun hc => ?_)
    · have hc : m.1 = 1 ∧ o.1 = 0 := by simpa using hc
      refine S.ld 1 (x := m.2.1) rfl rfl ?_
      refine lastBreak_call hm3 (by omega) fun s' hs' _ _ => ⟨rfl, ?_, ?_⟩
      · rw [if_pos hc]; exact hs'
      · rw [if_neg (fun h => h.1 hc)]; exact SlIn.nil w3 3 1
    · have hc : ¬ (m.1 = 1 ∧ o.1 = 0) := by simpa using hc
      refine join_at (decide (o.1 = 1 ∧ m.1 = 0), ()) ?_ ?_
      · refine S.ld 2 (x := o.1) rfl rfl (sif_r (fun hd => ?_) (fun hd => ?_))
        · have hd : o.1 = 1 := by simpa using hd
          refine S.ld 1 (x := m.1) rfl rfl ⟨tupb ?_, rfl⟩
          simp [hd]
        · have hd : ¬ o.1 = 1 := by simpa using hd
          exact ⟨tupb (by simp [hd]), rfl⟩
      refine sif_r (fun hd => ?_) (fun hd => ?_)
      · have hd : o.1 = 1 ∧ m.1 = 0 := by simpa using hd
        refine S.ld 2 (x := o.2.1) rfl rfl ?_
        refine lastBreak_call ho3 (by omega) fun s' hs' _ _ => ⟨rfl, ?_, ?_⟩
        · rw [if_neg hc]; exact SlIn.nil w3 3 1
        · rw [if_pos ⟨hc, hd⟩]; exact hs'
      · have hd : ¬ (o.1 = 1 ∧ m.1 = 0) := by simpa using hd
        refine ⟨rfl, ?_, ?_⟩
        · rw [if_neg hc]; exact SlIn.nil w3 3 1
        · rw [if_neg (fun h => hd h.2)]; exact SlIn.nil w3 3 1
  · rintro ⟨sb, se, ⟨⟩⟩ _ ⟨rfl, hsb, hse⟩
    dsimp only at hsb hse ⊢
    refine S.drew fun w4 S e4 _ => ?_
    refine S.ld 2 (x := o.1) rfl rfl ?_
    refine S.ld 1 (x := m.1) rfl rfl ?_
    refine S.ld 2 (x := o.2.1) rfl rfl ?_
    refine S.ld 1 (x := m.2.1) rfl rfl ?_
    refine S.newO fun b5 w5 S e5 => ?_
    refine S.keep 2 rfl rfl (S.keep 3 rfl rfl ?_)
    have e35 := e4.trans e5
    have l1 : (if m.1 = 1 ∧ o.1 = 0 then Reg.lb lm else []).length ≤ 2 := by split <;> simp [hn2]
    have l2 : (if ¬ (m.1 = 1 ∧ o.1 = 0) ∧ o.1 = 1 ∧ m.1 = 0 then Reg.lb lo else []).length ≤ 2 := by split <;> simp [hn1]
    generalize hL1 : (if m.1 = 1 ∧ o.1 = 0 then Reg.lb lm else []) = L1 at hsb l1
    generalize hL2 : (if ¬ (m.1 = 1 ∧ o.1 = 0) ∧ o.1 = 1 ∧ m.1 = 0 then Reg.lb lo else []) = L2 at hse l2
    have hii : ∀ (i : Nat) (s : Sl) (l : List Int), [o.2.1, sb, m.2.1, se][i]? = some s → [lo, L1, lm, L2][i]? = some l → Ints w5 s l := by
      intro i s l hs hl
      match i with
      | 0 => cases hs; cases hl; exact ho3.ext e35
      | 1 => cases hs; cases hl; exact hsb.ext e35
      | 2 => cases hs; cases hl; exact hm3.ext e35
      | 3 => cases hs; cases hl; exact hse.ext e35
      | i + 4 => simp at hs
    refine concat_call (x := ⟨some (at0 b5), 4, 4⟩) (ss := [o.2.1, sb, m.2.1, se]) (ls := [lo, L1, lm, L2]) (SlIn.of_box (S.at_ 0 rfl) rfl) rfl hii (by simp) (by simp only [List.map_cons, List.map_nil, List.sum_cons, List.sum_nil]; omega) fun s' w6 o6 e6 => ?_
    have S := S.ext e6
    refine S.keep 2 rfl rfl (S.keep 3 rfl rfl ?_)
    have hge := S.ge 1 (b := b3) rfl
    refine S.aggSt 1 rfl rfl rfl rfl fun w7 S7 u7 => ?_
    refine S7.lds 1 (if m.1 > o.1 then m.1 else o.1, s', ()) rfl ?_
    have o7 := o6.box (S.at_ 1 rfl) (by decide) u7
    refine h s' w7 ?_ S7.upd
    have e : [lo, L1, lm, L2].flatten = (Reg.jn (o.1, lo) (m.1, lm)).2 := by
      subst hL1 hL2
      simp only [Reg.jn, List.flatten_cons, List.flatten_nil, List.append_nil, List.append_assoc]
    rw [e] at o7
    exact o7.mono (by have := (e1.trans (e2.trans (e3.trans e35))).size; omega)
end
end Go.Proofs.Ytocdfkeflakemaa
