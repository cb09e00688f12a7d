/- YtolhlldgnfbemaaGreatMTi4: parts of the proof, put together by program. -/
import Derived.Test.YtolhlldgnfbemaaGreatMTi3
set_option linter.unusedVariables false
set_option linter.unusedSimpArgs false
set_option linter.unusedSectionVars false
set_option maxRecDepth 100000
namespace Go.Proofs.YtolhlldgnfbemaaGreat
open Trx Gly Clu
namespace Lns
structure Ln where
 from_ : Nat
 to_ : Nat
 next : Nat
 kind : Nat
 deriving DecidableEq
def isb (A : List Int) (n : Nat) : Bool := match A[n]? with
 | some a => isE a (A.drop (n + 1))
 | none => false
theorem nb_succ : ∀ (A : List Int) (n : Nat), nb A (n + 1) = nb A n + (if isb A n then 1 else 0)
 | [], n => by cases n <;> simp [nb, isb]
 | a :: r, 0 => by simp [nb, nb_zero, isb]
 | a :: r, n + 1 => by
  have ih := nb_succ r n
  rw [nb, ih, nb]
  have : isb (a :: r) (n + 1) = isb r n := by simp [isb]
  rw [this]; omega
theorem isb_iff {A : List Int} {n : Nat} {a : Int} (h : A[n]? = some a) : isb A n = true ↔ a = 10 ∨ (a = 13 ∧ A[n + 1]? ≠ some 10) := by
 unfold isb
 rw [h]
 simp only [isE, Bool.or_eq_true, beq_iff_eq, Bool.and_eq_true, bne_iff_ne, ne_eq, List.head?_drop]
theorem sk_get {A : List Int} {k m : Nat} (h : sk A k = some m) : k ≤ brs A ∧ m ≤ A.length ∧ nb A m = k ∧ ∀ j, j < m → nb A j < k := by
 by_cases hk : k ≤ brs A
 ·obtain ⟨m', h1, h2, h3, h4⟩ := sk_some A k hk
  rw [h] at h1; cases h1
  exact ⟨hk, h2, h3, h4⟩
 ·rw [sk_none A k (by omega)] at h; cases h
theorem sk_ok {A : List Int} {k : Nat} (h : k ≤ brs A) : ∃ m, sk A k = some m := by
 obtain ⟨m, h1, _⟩ := sk_some A k h
 exact ⟨m, h1⟩
theorem sk_zero (A : List Int) : sk A 0 = some 0 := by cases A <;> rfl
theorem sk_lt {A : List Int} {i j m x : Nat} (h1 : sk A i = some m) (h2 : sk A j = some x) (hij : i < j) : m < x := by
 obtain ⟨_, _, g1, _⟩ := sk_get h1
 obtain ⟨_, _, g2, g3⟩ := sk_get h2
 rcases Nat.lt_or_ge m x with h | h
 ·exact h
 ·have := nb_mono A x m h; omega
theorem sk_end {A : List Int} {k m : Nat} (h : sk A (k + 1) = some m) : 0 < m ∧ isb A (m - 1) = true := by
 obtain ⟨_, _, h3, h4⟩ := sk_get h
 cases m with
 | zero => rw [nb_zero] at h3; omega
 | succ m =>
  refine ⟨by omega, ?_⟩
  have := h4 m (by omega)
  rw [nb_succ] at h3
  rw [Nat.add_sub_cancel]
  cases hb : isb A m with
  | true => rfl
  | false => rw [hb] at h3; simp at h3; omega
def lnC (A : List Int) (f x : Nat) : Ln := if A[x - 1]? = some 13 then ⟨f, x - 1, x, 3⟩ else if f + 1 < x ∧ A[x - 2]? = some 13 then ⟨f, x - 2, x, 2⟩ else ⟨f, x - 1, x, 1⟩
def lnAt (A : List Int) (i : Nat) : Option Ln := match sk A i with
 | none => none
 | some f => some (match sk A (i + 1) with | some x => lnC A f x | none => ⟨f, A.length, A.length, 0⟩)
def lnI (A : List Int) (i : Int) : Option Ln := if i < 0 then none else lnAt A i.toNat
def ended (A : List Int) : Bool := decide (0 < A.length) && sk A (brs A) == some A.length
def lnN (A : List Int) : Nat := brs A + (if ended A then 0 else 1)
theorem lnAt_some {A : List Int} {i : Nat} {l : Ln} (h : lnAt A i = some l) : i ≤ brs A ∧ sk A i = some l.from_ := by
 unfold lnAt at h
 split at h
 ·cases h
 ·rename_i f hf
  cases h
  refine ⟨(sk_get hf).1, ?_⟩
  split
  ·unfold lnC; split
   ·exact hf
   ·split <;> exact hf
  ·exact hf
theorem lnAt_ok {A : List Int} {i : Nat} (h : i ≤ brs A) : ∃ l, lnAt A i = some l := by
 obtain ⟨m, hm⟩ := sk_ok h
 unfold lnAt; rw [hm]; exact ⟨_, rfl⟩
structure LnOk (A : List Int) (i : Nat) (l : Ln) : Prop where
 ft : l.from_ ≤ l.to_
 tn : l.to_ ≤ l.next
 nl : l.next ≤ A.length
 nbf : ∀ k, l.from_ ≤ k → k < l.next → nb A k = i
 nbF : nb A l.from_ = i
 tail : sk A (i + 1) = none → l.kind = 0 ∧ l.to_ = A.length ∧ l.next = A.length
 brk : ∀ x, sk A (i + 1) = some x → l.next = x ∧ l.to_ < l.next ∧ l.kind ≠ 0 ∧ nb A x = i + 1
 plain : ∀ j a, l.from_ ≤ j → j < l.to_ → A[j]? = some a → a ≠ 10 ∧ a ≠ 13
 atTo : ∀ a, l.to_ < l.next → A[l.to_]? = some a → a = 10 ∨ a = 13
 noLF : ∀ j, l.from_ ≤ j → j < l.to_ → A[j]? ≠ some 13
theorem ln_ok {A : List Int} {i : Nat} {l : Ln} (h : lnAt A i = some l) : LnOk A i l := by
 obtain ⟨hi, hf⟩ := lnAt_some h
 obtain ⟨_, hfl, hnf, hfmin⟩ := sk_get hf
 unfold lnAt at h
 rw [hf] at h
 simp only [Option.some.injEq] at h
 cases hx : sk A (i + 1) with
 | none =>
  rw [hx] at h
  simp only at h
  have hbr : brs A ≤ i := by
   rcases Nat.lt_or_ge i (brs A) with h1 | h1
   ·obtain ⟨m, hm⟩ := sk_ok (A := A) (k := i + 1) (by omega)
    rw [hm] at hx; cases hx
   ·exact h1
  have hall : ∀ k, l.from_ ≤ k → nb A k = i := fun k hk => by
   have h1 := nb_mono A _ _ hk
   have h2 := nb_mono A k (max k A.length) (by omega)
   rw [nb_ge A (max k A.length) (by omega)] at h2
   omega
  have pl : ∀ j a, l.from_ ≤ j → j < A.length → A[j]? = some a → a ≠ 10 ∧ a ≠ 13 := by
   have no : ∀ j, l.from_ ≤ j → isb A j = false := fun j hj => by
    have h1 := hall j hj
    have h2 := hall (j + 1) (by omega)
    rw [nb_succ, h1] at h2
    cases hb : isb A j with
    | false => rfl
    | true => rw [hb] at h2; simp at h2
   intro j a hj hjl ha
   have h1 := no j hj
   constructor
   ·intro e
    have := (isb_iff ha).2 (.inl e)
    rw [h1] at this; cases this
   ·intro e
    have h2 := no (j + 1) (by omega)
    by_cases h10 : A[j + 1]? = some 10
    ·have := (isb_iff h10).2 (.inl rfl)
     rw [h2] at this; cases this
    ·have := (isb_iff ha).2 (.inr ⟨e, h10⟩)
     rw [h1] at this; cases this
  have el : l = ⟨l.from_, A.length, A.length, 0⟩ := h.symm
  have e1 : l.to_ = A.length := by rw [el]
  have e2 : l.next = A.length := by rw [el]
  have e3 : l.kind = 0 := by rw [el]
  exact ⟨by omega, by omega, by omega, fun k h1 _ => hall k h1, hnf, fun _ => ⟨e3, e1, e2⟩, (fun x hx' => by rw [hx] at hx'; cases hx'), fun j a h1 h2 => pl j a h1 (by omega), fun a h1 => by omega, fun j h1 h2 h3 => (pl j 13 h1 (by omega) h3).2 rfl⟩
 | some x =>
  rw [hx] at h
  simp only at h
  obtain ⟨hib, hxl, hnx, hxmin⟩ := sk_get hx
  obtain ⟨hx0, hxe⟩ := sk_end hx
  have hfx := sk_lt hf hx (by omega)
  have hmid : ∀ k, l.from_ ≤ k → k < x → nb A k = i := fun k h1 h2 => by
   have := nb_mono A _ _ h1
   have := hxmin k h2
   omega
  have no : ∀ j, l.from_ ≤ j → j + 1 < x → isb A j = false := fun j hj hjx => by
   have h1 := hmid j hj (by omega)
   have h2 := hmid (j + 1) (by omega) hjx
   rw [nb_succ, h1] at h2
   cases hb : isb A j with
   | false => rfl
   | true => rw [hb] at h2; simp at h2
  obtain ⟨a, ha⟩ : ∃ a, A[x - 1]? = some a := ⟨_, List.getElem?_eq_getElem (by omega)⟩
  have hend := (isb_iff ha).1 hxe
  have nx : x - 1 + 1 = x := by omega
  have fin : ∀ t, l.to_ = t → l.next = x → l.from_ ≤ t → t < x → l.kind ≠ 0 → (∀ a, A[t]? = some a → a = 10 ∨ a = 13) → (t + 1 = x ∨ (t + 2 = x ∧ A[t]? = some 13)) → (t + 1 = x → ∀ j, j + 1 = t → l.from_ ≤ j → A[t]? = some 10 → A[j]? ≠ some 13) → LnOk A i l := by
   intro t e1 e2 h1 h2 h3 h4 h5 h6
   have pl : ∀ j a, l.from_ ≤ j → j < t → A[j]? = some a → a ≠ 10 ∧ a ≠ 13 := by
    intro j a hj hjt ha
    have g1 := no j hj (by omega)
    refine ⟨fun e => ?_, fun e => ?_⟩
    ·have := (isb_iff ha).2 (.inl e)
     rw [g1] at this; cases this
    ·by_cases h10 : A[j + 1]? = some 10
     ·by_cases hj2 : j + 2 < x
      ·have g2 := no (j + 1) (by omega) (by omega)
       have := (isb_iff h10).2 (.inl rfl)
       rw [g2] at this; cases this
      ·rcases h5 with h5 | h5
       ·have ht : t = j + 1 := by omega
        subst ht
        exact h6 h5 j rfl hj h10 (by rw [ha, e])
       ·omega
     ·have := (isb_iff ha).2 (.inr ⟨e, h10⟩)
      rw [g1] at this; cases this
   exact ⟨by omega, by omega, by omega, fun k g1 g2 => hmid k g1 (by omega), hnf, (fun hn => by rw [hx] at hn; cases hn), (fun y hy => by rw [hx] at hy; cases hy; exact ⟨e2, by omega, h3, hnx⟩), fun j a g1 g2 => pl j a g1 (by omega), fun a _ g => h4 a (by rw [← e1]; exact g), fun j g1 g2 g3 => (pl j 13 g1 (by omega) g3).2 rfl⟩
  unfold lnC at h
  split at h
  ·rename_i h13
   have el : l = ⟨l.from_, x - 1, x, 3⟩ := h.symm
   refine fin (x - 1) (by rw [el]) (by rw [el]) (by omega) (by omega) (by rw [el]; exact (by decide : (3 : Nat) ≠ 0)) (fun a h => by rw [h13] at h; cases h; exact .inr rfl) (.inl (by omega)) (fun _ j _ _ h => by rw [h13] at h; cases h)
  ·rename_i h13
   have ha10 : a = 10 := by
    rcases hend with h | h
    ·exact h
    ·exact absurd (by rw [ha, h.1]) h13
   split at h
   ·rename_i h2
    have el : l = ⟨l.from_, x - 2, x, 2⟩ := h.symm
    exact fin (x - 2) (by rw [el]) (by rw [el]) (by omega) (by omega) (by rw [el]; exact (by decide : (2 : Nat) ≠ 0)) (fun a h => by rw [h2.2] at h; cases h; exact .inr rfl) (.inr ⟨by omega, h2.2⟩) (fun h => by omega)
   ·rename_i h2
    have el : l = ⟨l.from_, x - 1, x, 1⟩ := h.symm
    refine fin (x - 1) (by rw [el]) (by rw [el]) (by omega) (by omega) (by rw [el]; exact (by decide : (1 : Nat) ≠ 0)) (fun b h => by rw [ha] at h; cases h; exact .inl ha10) (.inl (by omega)) (fun _ j hj hfj _ h => h2 ⟨by omega, ?_⟩)
    rw [← h]; congr 1; omega
theorem ln_of (A : List Int) {at_ : Nat} (h : at_ ≤ A.length) : ∃ l, lnAt A (nb A at_) = some l ∧ l.from_ ≤ at_ ∧ (at_ < l.next ∨ (sk A (nb A at_ + 1) = none ∧ l.next = A.length)) := by
 have hle : nb A at_ ≤ brs A := by rw [brs_nb]; exact nb_mono A _ _ h
 obtain ⟨l, hl⟩ := lnAt_ok hle
 obtain ⟨_, hf⟩ := lnAt_some hl
 obtain ⟨_, _, g1, g2⟩ := sk_get hf
 have ok := ln_ok hl
 refine ⟨l, hl, ?_, ?_⟩
 ·rcases Nat.lt_or_ge at_ l.from_ with h1 | h1
  ·have := g2 at_ h1; omega
  ·exact h1
 ·cases hx : sk A (nb A at_ + 1) with
  | none => exact .inr ⟨rfl, (ok.tail hx).2.2⟩
  | some x =>
   obtain ⟨e1, _, _, e2⟩ := ok.brk x hx
   left
   rcases Nat.lt_or_ge at_ l.next with h1 | h1
   ·exact h1
   ·have := nb_mono A l.next at_ h1
    rw [e1, e2] at this; omega
end Lns
end Go.Proofs.YtolhlldgnfbemaaGreat
namespace Go.Proofs.YtolhlldgnfbemaaGreat
open Trx Gly Clu Lns
namespace Obx
structure Cel where
 from_ : Nat
 to_ : Nat
 kind : Nat
 alone : Bool
 atom : Int
noncomputable def celAt (A : List Int) (off i j : Nat) : Cel := ⟨off + i, off + j, wrd (A[i]?.getD 0), decide (j = i + 1), A[i]?.getD 0⟩
noncomputable def celsL (A : List Int) (off : Nat) : List Nat → List Cel
 | i :: j :: r => celAt A off i j :: celsL A off (j :: r)
 | _ => []
noncomputable def cels (A : List Int) (off : Nat) : List Cel := celsL A off (cuts A)
theorem celsL_len (A : List Int) (off : Nat) : ∀ L : List Nat, (celsL A off L).length = L.length - 1
 | [] => rfl
 | [_] => rfl
 | i :: j :: r => by rw [celsL, List.length_cons, celsL_len A off (j :: r)]; simp
theorem celsL_get (A : List Int) (off : Nat) : ∀ (L : List Nat) (m i j : Nat), L[m]? = some i → L[m + 1]? = some j → (celsL A off L)[m]? = some (celAt A off i j)
 | [], _, _, _, h, _ => by simp at h
 | [_], m, _, _, _, h => by simp at h
 | i :: j :: r, 0, _, _, h, h' => by
  simp at h h'
  subst h h'
  rfl
 | i :: j :: r, m + 1, x, y, h, h' => by
  rw [celsL, List.getElem?_cons_succ]
  exact celsL_get A off (j :: r) m x y (by simpa using h) (by simpa using h')
theorem celsL_of (A : List Int) (off : Nat) : ∀ (L : List Nat) (m : Nat) (c : Cel), (celsL A off L)[m]? = some c → ∃ i j, L[m]? = some i ∧ L[m + 1]? = some j ∧ c = celAt A off i j := by
 intro L m c h
 have hl := (List.getElem?_eq_some_iff.1 h).1
 rw [celsL_len] at hl
 have h1 : L[m]? = some L[m] := List.getElem?_eq_getElem (by omega)
 have h2 : L[m + 1]? = some L[m + 1] := List.getElem?_eq_getElem (by omega)
 have := celsL_get A off L m _ _ h1 h2
 rw [h] at this
 exact ⟨_, _, h1, h2, Option.some.inj this⟩
theorem cuts_head (A : List Int) : (cuts A)[0]? = some 0 := by
 unfold cuts cutsTo
 rw [List.range_succ_eq_map, List.filter_cons_of_pos (bk_zero A)]
 rfl
theorem cuts_inj {A : List Int} {m n i j : Nat} (hmn : m < n) (h : (cuts A)[m]? = some i) (h' : (cuts A)[n]? = some j) : i < j := by
 have hp := cuts_lt (A := A)
 obtain ⟨h1, rfl⟩ := List.getElem?_eq_some_iff.1 h
 obtain ⟨h2, rfl⟩ := List.getElem?_eq_some_iff.1 h'
 exact List.pairwise_iff_getElem.1 hp m n h1 h2 hmn
theorem cuts_bk {A : List Int} {m i : Nat} (h : (cuts A)[m]? = some i) : bk A i = true := mem_cuts.1 (List.mem_of_getElem? h)
theorem cuts_last (A : List Int) : (cuts A)[(cuts A).length - 1]? = some A.length := by
 have h : A.length ∈ cuts A := mem_cuts.2 (bk_len A)
 obtain ⟨m, hm⟩ := List.getElem?_of_mem h
 have hl := (List.getElem?_eq_some_iff.1 hm).1
 by_cases he : m = (cuts A).length - 1
 ·rw [← he]; exact hm
 ·have h2 : (cuts A)[(cuts A).length - 1]? = some (cuts A)[(cuts A).length - 1] := List.getElem?_eq_getElem (by omega)
  have := cuts_inj (by omega) hm h2
  have := bk_le (cuts_bk h2)
  omega
theorem cuts_pos (A : List Int) : 0 < (cuts A).length := by
 have := (List.getElem?_eq_some_iff.1 (cuts_head A)).1
 exact this
structure CelOk (A : List Int) (off m : Nat) (c : Cel) : Prop where
 ex : ∃ i j, (cuts A)[m]? = some i ∧ (cuts A)[m + 1]? = some j ∧ i < j ∧ j ≤ A.length ∧ c.from_ = off + i ∧ c.to_ = off + j ∧ bk A i = true ∧ bk A j = true ∧ A[i]? = some c.atom ∧ c.kind = wrd c.atom ∧ (c.alone = true ↔ j = i + 1)
theorem cels_ok {A : List Int} {off m : Nat} {c : Cel} (h : (cels A off)[m]? = some c) : CelOk A off m c := by
 obtain ⟨i, j, h1, h2, rfl⟩ := celsL_of A off _ m c h
 have hij := cuts_inj (by omega) h1 h2
 have hj := bk_le (cuts_bk h2)
 have ha : A[i]? = some A[i] := List.getElem?_eq_getElem (by omega)
 refine ⟨i, j, h1, h2, hij, hj, rfl, rfl, cuts_bk h1, cuts_bk h2, ?_, rfl, by simp [celAt]⟩
 simp [celAt, ha]
theorem cels_len (A : List Int) (off : Nat) : (cels A off).length = (cuts A).length - 1 := celsL_len A off _
theorem cels_next {A : List Int} {off m : Nat} {c d : Cel} (h : (cels A off)[m]? = some c) (h' : (cels A off)[m + 1]? = some d) : c.to_ = d.from_ := by
 obtain ⟨i, j, h1, h2, h3, h4, h5, h6, _⟩ := (cels_ok h).ex
 obtain ⟨i', j', g1, g2, g3, g4, g5, g6, _⟩ := (cels_ok h').ex
 rw [h2] at g1
 have : j = i' := Option.some.inj g1
 omega
theorem cels_first {A : List Int} {off : Nat} {c : Cel} (h : (cels A off)[0]? = some c) : c.from_ = off := by
 obtain ⟨i, j, h1, h2, h3, h4, h5, h6, _⟩ := (cels_ok h).ex
 rw [cuts_head] at h1
 have : 0 = i := Option.some.inj h1
 omega
theorem cels_last {A : List Int} {off m : Nat} {c : Cel} (h : (cels A off)[m]? = some c) (hm : m + 1 = (cels A off).length) : c.to_ = off + A.length := by
 obtain ⟨i, j, h1, h2, h3, h4, h5, h6, _⟩ := (cels_ok h).ex
 have := cuts_pos A
 rw [cels_len] at hm
 have e : m + 1 = (cuts A).length - 1 := hm
 rw [e, cuts_last] at h2
 have : A.length = j := Option.some.inj h2
 omega
theorem cels_le (A : List Int) (off : Nat) : (cels A off).length ≤ A.length := by
 rw [cels_len]
 have := cutsTo_len A A.length
 unfold cuts; omega
noncomputable def firstI (C : List Cel) (at_ : Int) : Nat := C.findIdx fun c => decide (at_ < (c.to_ : Int))
theorem firstI_le (C : List Cel) (at_ : Int) : firstI C at_ ≤ C.length := List.findIdx_le_length
theorem firstI_eq {C : List Cel} {at_ : Int} {i : Nat} (hi : i ≤ C.length) (h1 : ∀ (j : Nat) (c : Cel), j < i → C[j]? = some c → (c.to_ : Int) ≤ at_) (h2 : ∀ c, C[i]? = some c → at_ < (c.to_ : Int)) : firstI C at_ = i := by
 unfold firstI
 by_cases he : i = C.length
 ·subst he
  rw [List.findIdx_eq_length]
  intro c hc
  obtain ⟨j, hj⟩ := List.getElem?_of_mem hc
  have := h1 j c (List.getElem?_eq_some_iff.1 hj).1 hj
  rw [decide_eq_false_iff_not]; omega
 ·have hlt : i < C.length := by omega
  rw [List.findIdx_eq hlt]
  refine ⟨decide_eq_true (h2 _ (List.getElem?_eq_getElem hlt)), fun j hj => ?_⟩
  have := h1 j _ hj (List.getElem?_eq_getElem (by omega))
  rw [decide_eq_false_iff_not]; omega
theorem firstI_spec {C : List Cel} {at_ : Int} : (∀ (j : Nat) (c : Cel), j < firstI C at_ → C[j]? = some c → (c.to_ : Int) ≤ at_) ∧ (∀ c, C[firstI C at_]? = some c → at_ < (c.to_ : Int)) := by
 constructor
 ·intro j c hj hc
  have := List.not_of_lt_findIdx hj
  obtain ⟨h, rfl⟩ := List.getElem?_eq_some_iff.1 hc
  simpa using this
 ·intro c hc
  obtain ⟨h, rfl⟩ := List.getElem?_eq_some_iff.1 hc
  have := List.findIdx_getElem (w := h)
  exact of_decide_eq_true this
end Obx
end Go.Proofs.YtolhlldgnfbemaaGreat
namespace Go.Proofs.YtolhlldgnfbemaaGreat
open Trx Gly Clu Lns Obx
namespace Obx
noncomputable def lineC (A : List Int) (l : Ln) : List Cel := cels ((A.drop l.from_).take (l.to_ - l.from_)) l.from_
end Obx
namespace Obx
def frm (C : List Cel) (j : Nat) : Nat := (C[j]?.map (·.from_)).getD 0
theorem frm_of {C : List Cel} {j : Nat} {c : Cel} (h : C[j]? = some c) : frm C j = c.from_ := by unfold frm; rw [h]; rfl
structure CelA (A : List Int) (l : Ln) (c : Cel) (ci cj : Nat) : Prop where
 from_ : c.from_ = l.from_ + ci
 to_ : c.to_ = l.from_ + cj
 lt : ci < cj
 le : c.to_ ≤ l.to_
 atom : A[c.from_]? = some c.atom
 kind : c.kind = wrd c.atom
 alone : c.alone = decide (c.to_ = c.from_ + 1)
theorem lineC_at {A : List Int} {l : Ln} (h1 : l.from_ ≤ l.to_) (h2 : l.to_ ≤ A.length) {i : Nat} {c : Cel} (hc : (lineC A l)[i]? = some c) : ∃ ci cj, (cuts ((A.drop l.from_).take (l.to_ - l.from_)))[i]? = some ci ∧ (cuts ((A.drop l.from_).take (l.to_ - l.from_)))[i + 1]? = some cj ∧ CelA A l c ci cj := by
 obtain ⟨ci, cj, g1, g2, g3, g4, g5, g6, _, _, g9, g10, g11⟩ := (cels_ok hc).ex
 rw [List.length_take, List.length_drop] at g4
 refine ⟨ci, cj, g1, g2, g5, g6, g3, by omega, ?_, g10, ?_⟩
 ·rw [List.getElem?_take, if_pos (by omega), List.getElem?_drop] at g9
  rw [g5]; exact g9
 ·rw [Bool.eq_iff_iff, g11]; simp; omega
end Obx
namespace Obx
structure Chain (C : List Cel) : Prop where
 pos : ∀ (i : Nat) c, C[i]? = some c → c.from_ < c.to_
 next : ∀ (i : Nat) c d, C[i]? = some c → C[i + 1]? = some d → c.to_ = d.from_
theorem Chain.mono {C : List Cel} (h : Chain C) : ∀ (d i : Nat) c e, C[i]? = some c → C[i + 1 + d]? = some e → c.to_ ≤ e.from_
 | 0, i, c, e, h1, h2 => Nat.le_of_eq (h.next i c e h1 h2)
 | d + 1, i, c, e, h1, h2 => by
  obtain ⟨x, hx⟩ : ∃ x, C[i + 1]? = some x := ⟨_, List.getElem?_eq_getElem (by have := (List.getElem?_eq_some_iff.1 h2).1; omega)⟩
  have e1 := h.next i c x h1 hx
  have := h.mono d (i + 1) x e hx (by rw [show i + 1 + 1 + d = i + 1 + (d + 1) by omega]; exact h2)
  have := h.pos _ x hx
  omega
theorem Chain.lt {C : List Cel} (h : Chain C) {i j : Nat} {c e : Cel} (hij : i < j) (h1 : C[i]? = some c) (h2 : C[j]? = some e) : c.to_ ≤ e.from_ := h.mono (j - i - 1) i c e h1 (by rw [show i + 1 + (j - i - 1) = j by omega]; exact h2)
theorem cels_chain (A : List Int) (off : Nat) : Chain (cels A off) := ⟨fun i c h => by obtain ⟨a, b, _, _, g, _, g1, g2, _⟩ := (cels_ok h).ex; omega, fun i c d h h' => cels_next h h'⟩
end Obx
namespace Mot
noncomputable def rowL (A : List Int) (i : Nat) : Ln := (lnAt A i).getD ⟨0, 0, 0, 0⟩
noncomputable def rowC (A : List Int) (i : Nat) : List Cel := lineC A (rowL A i)
def inT (A : List Int) (x : Int) : Nat := (min (max x 0) (A.length : Int)).toNat
noncomputable def ofI (A : List Int) (x : Int) : Nat := nb A (inT A x)
noncomputable def rowI (A : List Int) (x : Int) (tail : Bool) : Nat := if tail then ofI A x else min (ofI A x) (lnN A - 1)
noncomputable def placeR (A : List Int) (i : Nat) (c : Int) : Nat := if c.toNat < (rowC A i).length then frm (rowC A i) c.toNat else (rowL A i).to_
noncomputable def clampP (A : List Int) (x : Int) (past : Bool) : Nat :=
 if (rowL A (rowI A x past)).to_ ≤ inT A x then (if past then (rowL A (rowI A x past)).to_ else placeR A (rowI A x past) (((rowC A (rowI A x past)).length : Int) - 1))
 else placeR A (rowI A x past) ((firstI (rowC A (rowI A x past)) (inT A x : Int) : Nat) : Int)
noncomputable def lineI (A : List Int) (x : Int) : Nat := (max (min x ((lnN A : Int) - 1)) 0).toNat
noncomputable def placeP (A : List Int) (line col : Int) (past : Bool) : Nat := placeR A (lineI A line) (if ((rowC A (lineI A line)).length : Int) ≤ col ∧ past = false then ((rowC A (lineI A line)).length : Int) - 1 else col)
noncomputable def columnP (A : List Int) (x : Int) : Nat := firstI (rowC A (ofI A x)) x
def kOf (count : Int) : Nat := if 0 < count then (min count 9999).toNat else 1
abbrev Ld := (Int × Int × Int) × Int
noncomputable def landP (A : List Int) (x : Nat) (kind : Int) : Ld := (((x : Int), kind, (columnP A (x : Int) : Int)), 0)
def noP (e : Int) : Ld := ((0, 0, 0), e)
def seekL (C : List Cel) (a : Int) (L : List Nat) (k : Nat) : Option Nat := (L.filter fun j => decide (C[j]?.map (·.atom) = some a))[k - 1]?
def upL (n c : Nat) : List Nat := List.range' (c + 1) (n - (c + 1))
def downL (c : Nat) : List Nat := (List.range c).reverse
noncomputable def signR (A : List Int) (i : Nat) : Nat := if (rowC A i).findIdx (fun c => c.kind != 0) < (rowC A i).length then (rowC A i).findIdx (fun c => c.kind != 0) else (rowC A i).length - 1
noncomputable def blankR (A : List Int) (i : Nat) : Bool := (rowC A i).all fun c => c.kind == 0
noncomputable def charsP (A : List Int) (x kind count arg : Int) (past : Bool) : Ld :=
 let s := clampP A x past
 let i := rowI A (s : Int) past
 let n := (rowC A i).length
 let c := firstI (rowC A i) (s : Int)
 let most := if past then n else n - 1
 let k := kOf count
 if kind = 1 then (if c = 0 then noP 80 else landP A (placeR A i ((c : Int) - k)) 0) else
 if kind = 2 then (if c = most then noP 80 else landP A (placeR A i (min ((c : Int) + k) most)) 0) else
 if kind = 3 then landP A (rowL A i).from_ 0 else
 if kind = 4 then landP A (placeR A i (signR A i)) 0 else
 if kind = 5 then
  let j := if i < lnN A - 1 ∧ 1 < k then min (i + k - 1) (lnN A - 1) else i
  (((placeR A j (((rowC A j).length : Int) - 1) : Nat), 1, 100000), 0) else
 if kind = 6 then landP A (placeR A i (min ((k : Int) - 1) most)) 0 else
 if kind = 7 ∨ kind = 9 then (match seekL (rowC A i) arg (upL n c) k with
  | none => noP 80
  | some j => landP A (placeR A i (if kind = 9 then (j : Int) - 1 else j)) 1) else
 if kind = 8 ∨ kind = 10 then (match seekL (rowC A i) arg (downL c) k with
  | none => noP 80
  | some j => landP A (placeR A i (if kind = 10 then (j : Int) + 1 else j)) 0) else noP 1
noncomputable def toRowP (A : List Int) (line goal : Int) : Ld := (((placeP A line goal false : Nat), 2, goal), 0)
noncomputable def toSignP (A : List Int) (line : Int) : Ld := landP A (placeR A (lineI A line) (signR A (lineI A line))) 2
noncomputable def rowsP (A : List Int) (x goal kind count : Int) : Ld :=
 let s := clampP A x false
 let i := rowI A (s : Int) false
 let k := kOf count
 let g := max goal 0
 if kind = 11 then (if i = lnN A - 1 then noP 80 else toRowP A ((i : Int) + k) g) else
 if kind = 12 then (if i = 0 then noP 80 else toRowP A ((i : Int) - k) g) else
 if kind = 13 then (if i = lnN A - 1 then noP 80 else toSignP A ((i : Int) + k)) else
 if kind = 14 then (if i = 0 then noP 80 else toSignP A ((i : Int) - k)) else
 if kind = 15 then toSignP A ((i : Int) + k - 1) else
 if kind = 16 then toSignP A (if 0 < count then (k : Int) - 1 else lnN A) else
 if kind = 17 then toSignP A ((k : Int) - 1) else
 if kind = 18 then (if count ≤ 0 ∨ 100 < k then noP 80 else toSignP A (((k * lnN A + 99) / 100 : Nat) - 1)) else noP 1
noncomputable def rowP (A : List Int) (i : Nat) : List (Nat × Nat) := if (rowC A i).length = 0 then [(i, 0)] else (List.range (rowC A i).length).map fun c => (i, c)
noncomputable def allP (A : List Int) : List (Nat × Nat) := (List.range (lnN A)).flatMap (rowP A)
noncomputable def offP (A : List Int) (p : Nat × Nat) : Nat := placeR A p.1 (p.2 : Int)
def kindB (C : List Cel) (j : Nat) (big : Bool) : Nat := if big then min ((C[j]?.map (·.kind)).getD 0) 1 else (C[j]?.map (·.kind)).getD 0
noncomputable def begB (A : List Int) (big : Bool) (p : Nat × Nat) : Bool := (rowC A p.1).length == 0 || (kindB (rowC A p.1) p.2 big != 0 && (p.2 == 0 || kindB (rowC A p.1) (p.2 - 1) big != kindB (rowC A p.1) p.2 big))
noncomputable def endB (A : List Int) (big : Bool) (p : Nat × Nat) : Bool := (rowC A p.1).length == 0 || (decide (p.2 < (rowC A p.1).length) && kindB (rowC A p.1) p.2 big != 0 && (p.2 + 1 == (rowC A p.1).length || kindB (rowC A p.1) (p.2 + 1) big != kindB (rowC A p.1) p.2 big))
noncomputable def endN (A : List Int) (big : Bool) (p : Nat × Nat) : Bool := (rowC A p.1).length != 0 && endB A big p
noncomputable def marksP (A : List Int) (f : Nat × Nat → Bool) : List Nat := ((allP A).filter f).map (offP A)
def afterL (l : List Nat) (least k : Nat) : Option Nat := (l.filter fun x => decide (least ≤ x))[k - 1]?
def beforeL (l : List Nat) (below k : Nat) : Option Nat := (l.filter fun x => decide (x < below)).reverse[k - 1]?
noncomputable def lastPl (A : List Int) : Nat := placeR A (lnN A - 1) (((rowC A (lnN A - 1)).length : Int) - 1)
noncomputable def wordsM (A : List Int) (x kind count : Int) (past : Bool) : Ld :=
 let s := clampP A x past
 let k := kOf count
 let big := decide ((25 ≤ kind ∧ kind ≤ 28) ∨ kind = 30)
 if kind = 21 ∨ kind = 25 then
  let to := (afterL (marksP A (begB A big)) (s + 1) k).getD (if past then (rowL A (lnN A - 1)).to_ else lastPl A)
  if to ≤ s then noP 80 else landP A to 0 else
 if kind = 22 ∨ kind = 26 then (if s = 0 then noP 80 else landP A ((beforeL (marksP A (begB A big)) s k).getD 0) 0) else
 if kind = 23 ∨ kind = 27 then
  let to := (afterL (marksP A (endN A big)) (s + 1) k).getD (lastPl A)
  if to ≤ s then noP 80 else landP A to 1 else
 if kind = 24 ∨ kind = 28 then (if s = 0 then noP 80 else landP A ((beforeL (marksP A (endB A big)) s k).getD 0) 1) else
 if kind = 29 ∨ kind = 30 then landP A ((afterL (marksP A (endN A big)) s k).getD (max (lastPl A) s)) 1 else noP 1
def sortB (c : Cel) : Option Nat := if c.alone = false then none else if c.atom = 40 then some 0 else if c.atom = 91 then some 1 else if c.atom = 123 then some 2 else if c.atom = 41 then some 3 else if c.atom = 93 then some 4 else if c.atom = 125 then some 5 else none
noncomputable def brkP (A : List Int) (p : Nat × Nat) : Option Nat := ((rowC A p.1)[p.2]?).bind sortB
def shutL (own : Nat) : List ((Nat × Nat) × Nat) → Nat → Option (Nat × Nat)
 | [], _ => none
 | (p, b) :: r, d => if b % 3 ≠ own % 3 then shutL own r d else if b = own then shutL own r (d + 1) else if d = 1 then some p else shutL own r (d - 1)
noncomputable def brksP (A : List Int) : List ((Nat × Nat) × Nat) := (allP A).filterMap fun p => (brkP A p).map fun b => (p, b)
noncomputable def matchP (A : List Int) (s i : Nat) : Option Nat :=
 match (brksP A).findIdx? fun q => q.1.1 == i && decide (s ≤ offP A q.1) with
 | none => none
 | some m => match (brksP A)[m]? with
  | none => none
  | some q => (shutL q.2 (if q.2 < 3 then (brksP A).drop (m + 1) else ((brksP A).take m).reverse) 1).map (offP A)
noncomputable def parasM (A : List Int) (x kind count : Int) : Ld :=
 let s := clampP A x false
 let i := rowI A (s : Int) false
 let k := kOf count
 if kind = 31 then (match ((upL (lnN A) i).filter fun j => blankR A j && !blankR A (j - 1))[k - 1]? with
  | some j => landP A (rowL A j).from_ 0
  | none => if lastPl A = s then noP 80 else landP A (lastPl A) 1) else
 if kind = 32 then (match ((downL i).filter fun j => blankR A j && !blankR A (j + 1))[k - 1]? with
  | some j => landP A (rowL A j).from_ 0
  | none => if s = 0 then noP 80 else landP A 0 0) else
 if kind = 33 then (match matchP A s i with
  | some to => landP A to 1
  | none => noP 80) else noP 1
end Mot
namespace Mot
variable {A : List Int} {i : Nat}
theorem rowL_at (h : i ≤ brs A) : lnAt A i = some (rowL A i) := by
 obtain ⟨l, hl⟩ := lnAt_ok h
 unfold rowL; rw [hl]; rfl
theorem row_ok (h : i ≤ brs A) : LnOk A i (rowL A i) := ln_ok (rowL_at h)
theorem brs_le (A : List Int) : brs A ≤ A.length := by rw [brs_nb]; exact nb_le _ _
theorem lnN_bounds (A : List Int) : 1 ≤ lnN A ∧ lnN A ≤ brs A + 1 := by
 unfold lnN
 by_cases h : ended A = true
 ·rw [if_pos h]
  unfold ended at h
  rw [Bool.and_eq_true, decide_eq_true_eq, beq_iff_eq] at h
  refine ⟨?_, by omega⟩
  rcases Nat.eq_zero_or_pos (brs A) with q | q
  ·rw [q, sk_zero] at h
   have := Option.some.inj h.2
   omega
  ·omega
 ·rw [if_neg h]; omega
theorem lnN_ge (A : List Int) : brs A ≤ lnN A := by unfold lnN; omega
theorem nb_le_brs (A : List Int) (n : Nat) : nb A n ≤ brs A := by
 rw [brs_nb]
 rcases Nat.lt_or_ge n A.length with h | h
 ·exact nb_mono A _ _ (by omega)
 ·rw [nb_ge A n h, ← brs_nb]; exact Nat.le_refl _
theorem inT_le (A : List Int) (x : Int) : inT A x ≤ A.length := by unfold inT; omega
theorem inT_of {A : List Int} {n : Nat} (h : n ≤ A.length) : inT A (n : Int) = n := by unfold inT; omega
theorem ofI_le (A : List Int) (x : Int) : ofI A x ≤ brs A := nb_le_brs A _
theorem rowI_le (A : List Int) (x : Int) (tail : Bool) : rowI A x tail ≤ brs A := by
 unfold rowI
 split
 ·exact ofI_le A x
 ·have := ofI_le A x; omega
theorem lineI_le (A : List Int) (x : Int) : lineI A x < lnN A ∧ lineI A x ≤ brs A := by
 have := lnN_bounds A
 unfold lineI; omega
theorem rowC_chain (A : List Int) (i : Nat) : Chain (rowC A i) := cels_chain _ _
theorem rowB_len (h : i ≤ brs A) : ((A.drop (rowL A i).from_).take ((rowL A i).to_ - (rowL A i).from_)).length = (rowL A i).to_ - (rowL A i).from_ := by
 have ok := row_ok h
 have := ok.ft; have := ok.tn; have := ok.nl
 rw [List.length_take, List.length_drop]; omega
theorem rowC_first {c : Cel} (hc : (rowC A i)[0]? = some c) : c.from_ = (rowL A i).from_ := cels_first hc
theorem rowC_last (h : i ≤ brs A) {c : Cel} {m : Nat} (hc : (rowC A i)[m]? = some c) (hm : m + 1 = (rowC A i).length) : c.to_ = (rowL A i).to_ := by
 have := cels_last hc hm
 rw [rowB_len h] at this
 have := (row_ok h).ft
 omega
theorem rowC_le (h : i ≤ brs A) {c : Cel} {m : Nat} (hc : (rowC A i)[m]? = some c) : (rowL A i).from_ ≤ c.from_ ∧ c.from_ < c.to_ ∧ c.to_ ≤ (rowL A i).to_ := by
 obtain ⟨ci, cj, _, _, q⟩ := lineC_at (row_ok h).ft (by have := (row_ok h).tn; have := (row_ok h).nl; omega) hc
 have := q.from_; have := q.to_; have := q.le; have := q.lt
 omega
theorem rowC_len (h : i ≤ brs A) : (rowC A i).length ≤ (rowL A i).to_ - (rowL A i).from_ := by
 have := cels_le ((A.drop (rowL A i).from_).take ((rowL A i).to_ - (rowL A i).from_)) (rowL A i).from_
 rw [rowB_len h] at this; exact this
theorem rowC_nil (h : i ≤ brs A) : (rowC A i).length = 0 ↔ (rowL A i).from_ = (rowL A i).to_ := by
 have ft := (row_ok h).ft
 constructor
 ·intro h0
  have hl := cels_len ((A.drop (rowL A i).from_).take ((rowL A i).to_ - (rowL A i).from_)) (rowL A i).from_
  have hcl := cuts_last ((A.drop (rowL A i).from_).take ((rowL A i).to_ - (rowL A i).from_))
  have hch := cuts_head ((A.drop (rowL A i).from_).take ((rowL A i).to_ - (rowL A i).from_))
  have hl2 : (cuts ((A.drop (rowL A i).from_).take ((rowL A i).to_ - (rowL A i).from_))).length - 1 = 0 := by rw [← hl]; exact h0
  rw [hl2, hch, rowB_len h] at hcl
  have := Option.some.inj hcl
  omega
 ·intro he
  have := rowC_len h
  omega
theorem cel_get {C : List Cel} {j : Nat} (h : j < C.length) : ∃ c, C[j]? = some c := ⟨_, List.getElem?_eq_getElem h⟩
theorem placeR_lt {c : Nat} (hc : c < (rowC A i).length) : placeR A i (c : Int) = frm (rowC A i) c := by
 unfold placeR; rw [Int.toNat_natCast, if_pos hc]
theorem placeR_ge {c : Int} (hc : (rowC A i).length ≤ c.toNat) : placeR A i c = (rowL A i).to_ := by
 unfold placeR; rw [if_neg (by omega)]
theorem placeR_neg {c : Int} (hc : c ≤ 0) : placeR A i c = placeR A i 0 := by
 unfold placeR
 rw [show c.toNat = 0 by omega]; rfl
theorem placeR_in (h : i ≤ brs A) (c : Int) : (rowL A i).from_ ≤ placeR A i c ∧ placeR A i c ≤ (rowL A i).to_ := by
 have ft := (row_ok h).ft
 unfold placeR
 by_cases hc : c.toNat < (rowC A i).length
 ·obtain ⟨x, hx⟩ := cel_get hc
  rw [if_pos hc, frm_of hx]
  have := rowC_le h hx
  omega
 ·rw [if_neg hc]; omega
theorem placeR_zero (h : i ≤ brs A) : placeR A i 0 = (rowL A i).from_ := by
 by_cases h0 : (rowC A i).length = 0
 ·rw [placeR_ge (by omega)]
  exact ((rowC_nil h).1 h0).symm
 ·obtain ⟨x, hx⟩ := cel_get (C := rowC A i) (j := 0) (by omega)
  have := placeR_lt (A := A) (i := i) (c := 0) (by omega)
  rw [show ((0 : Nat) : Int) = 0 from rfl] at this
  rw [this, frm_of hx]
  exact rowC_first hx
theorem placeR_mono (h : i ≤ brs A) {c d : Nat} (hcd : c < d) (hd : d ≤ (rowC A i).length) : placeR A i (c : Int) < placeR A i (d : Int) := by
 obtain ⟨x, hx⟩ := cel_get (C := rowC A i) (j := c) (by omega)
 rw [placeR_lt (by omega), frm_of hx]
 by_cases hd2 : d < (rowC A i).length
 ·obtain ⟨y, hy⟩ := cel_get hd2
  rw [placeR_lt hd2, frm_of hy]
  have := (rowC_chain A i).lt hcd hx hy
  have := (rowC_chain A i).pos _ x hx
  omega
 ·rw [placeR_ge (by omega)]
  have := rowC_le h hx
  omega
theorem col_place (h : i ≤ brs A) {c : Nat} (hc : c ≤ (rowC A i).length) : firstI (rowC A i) (placeR A i (c : Int) : Int) = c := by
 refine firstI_eq hc (fun j x hj hx => ?_) fun x hx => ?_
 ·have hle : x.to_ ≤ placeR A i (c : Int) := by
   by_cases hc2 : c < (rowC A i).length
   ·obtain ⟨y, hy⟩ := cel_get hc2
    rw [placeR_lt hc2, frm_of hy]
    exact (rowC_chain A i).lt hj hx hy
   ·rw [placeR_ge (by omega)]
    exact (rowC_le h hx).2.2
  omega
 ·have hlt := (List.getElem?_eq_some_iff.1 hx).1
  rw [placeR_lt hlt, frm_of hx]
  have := (rowC_chain A i).pos _ x hx
  omega
theorem row_next {j : Nat} (hij : i < j) (hj : j ≤ brs A) : (rowL A i).next ≤ (rowL A j).from_ := by
 induction j with
 | zero => omega
 | succ j ih =>
  have h1 := rowL_at (A := A) (i := j) (by omega)
  have h2 := rowL_at (A := A) hj
  have hs := (lnAt_some h2).2
  have hst := ((ln_ok h1).brk _ hs).1
  by_cases he : i = j
  ·subst he; omega
  ·have := ih (by omega) (by omega)
   have ok := row_ok (A := A) (i := j) (by omega)
   have := ok.ft; have := ok.tn
   omega
theorem row_of {n : Nat} (hn : n ≤ A.length) : (rowL A (nb A n)).from_ ≤ n ∧ (n < (rowL A (nb A n)).next ∨ (nb A n = brs A ∧ (rowL A (nb A n)).next = A.length)) := by
 obtain ⟨l, hl, h1, h2⟩ := ln_of A hn
 have : rowL A (nb A n) = l := by unfold rowL; rw [hl]; rfl
 rw [this]
 refine ⟨h1, h2.imp id fun ⟨hs, h3⟩ => ⟨?_, h3⟩⟩
 have hb := nb_le_brs A n
 rcases Nat.lt_or_ge (nb A n) (brs A) with q | q
 ·obtain ⟨x, hx⟩ := sk_ok (A := A) (k := nb A n + 1) (by omega)
  rw [hx] at hs; cases hs
 ·omega
theorem of_in (h : i ≤ brs A) {n : Nat} (h1 : (rowL A i).from_ ≤ n) (h2 : n ≤ (rowL A i).to_) : nb A n = i := by
 have ok := row_ok h
 have := ok.tn; have := ok.nl
 rcases Nat.lt_or_ge n (rowL A i).next with q | q
 ·exact ok.nbf n h1 q
 ·have hn : n = (rowL A i).next ∧ n = (rowL A i).to_ := by omega
  cases hx : sk A (i + 1) with
  | none =>
   obtain ⟨_, h3, h4⟩ := ok.tail hx
   by_cases hf : (rowL A i).from_ < n
   ·have h5 := ok.nbf (n - 1) (by omega) (by omega)
    have h6 := nb_succ A (n - 1)
    have hno : isb A (n - 1) = false := by
     obtain ⟨a, ha⟩ : ∃ a, A[n - 1]? = some a := ⟨_, List.getElem?_eq_getElem (by omega)⟩
     have hp := ok.plain (n - 1) a (by omega) (by omega) ha
     cases hb : isb A (n - 1) with
     | false => rfl
     | true =>
      rcases (isb_iff ha).1 hb with q | q
      ·exact absurd q hp.1
      ·exact absurd q.1 hp.2
    rw [hno, show n - 1 + 1 = n by omega] at h6
    simp at h6
    omega
   ·have : n = (rowL A i).from_ := by omega
    rw [this]; exact ok.nbF
  | some x =>
   have := (ok.brk x hx).2.1
   omega
theorem of_place (h : i ≤ brs A) (c : Int) : nb A (placeR A i c) = i := of_in h (placeR_in h c).1 (placeR_in h c).2
theorem place_le (h : i ≤ brs A) (c : Int) : placeR A i c ≤ A.length := by
 have := (placeR_in h c).2
 have ok := row_ok h
 have := ok.tn; have := ok.nl
 omega
theorem ofI_place (h : i ≤ brs A) (c : Int) : ofI A (placeR A i c : Int) = i := by
 unfold ofI
 rw [inT_of (place_le h c)]; exact of_place h c
end Mot
namespace Mot
variable {A : List Int} {p q : Nat × Nat}
noncomputable def nextW (A : List Int) (p : Nat × Nat) : Option (Nat × Nat) := if p.2 + 1 < (rowC A p.1).length then some (p.1, p.2 + 1) else if lnN A ≤ p.1 + 1 then none else some (p.1 + 1, 0)
noncomputable def prevW (A : List Int) (p : Nat × Nat) : Option (Nat × Nat) := if 0 < p.2 then some (p.1, p.2 - 1) else if p.1 = 0 then none else some (p.1 - 1, (rowC A (p.1 - 1)).length - 1)
noncomputable def aft (A : List Int) (p : Nat × Nat) : List (Nat × Nat) := ((List.range' (p.2 + 1) ((rowC A p.1).length - (p.2 + 1))).map fun c => (p.1, c)) ++ (List.range' (p.1 + 1) (lnN A - (p.1 + 1))).flatMap (rowP A)
noncomputable def bef (A : List Int) (p : Nat × Nat) : List (Nat × Nat) := ((List.range p.2).reverse.map fun c => (p.1, c)) ++ (List.range p.1).reverse.flatMap fun i => (rowP A i).reverse
theorem rowP_cons (A : List Int) (i : Nat) : rowP A i = (i, 0) :: (List.range' 1 ((rowC A i).length - 1)).map fun c => (i, c) := by
 unfold rowP
 by_cases h : (rowC A i).length = 0
 ·rw [if_pos h, h]; rfl
 ·rw [if_neg h]
  obtain ⟨n, hn⟩ : ∃ n, (rowC A i).length = n + 1 := ⟨(rowC A i).length - 1, by omega⟩
  rw [hn, List.range_eq_range', List.range'_succ, List.map_cons]; rfl
theorem rowP_rev (A : List Int) (i : Nat) : (rowP A i).reverse = (i, (rowC A i).length - 1) :: (List.range ((rowC A i).length - 1)).reverse.map fun c => (i, c) := by
 unfold rowP
 by_cases h : (rowC A i).length = 0
 ·rw [if_pos h, h]; rfl
 ·rw [if_neg h]
  obtain ⟨n, hn⟩ : ∃ n, (rowC A i).length = n + 1 := ⟨(rowC A i).length - 1, by omega⟩
  rw [hn, List.range_succ, List.map_append, List.reverse_append, Nat.add_sub_cancel, List.map_reverse]; rfl
theorem aft_some (h : nextW A p = some q) : aft A p = q :: aft A q := by
 unfold nextW at h
 unfold aft
 split at h
 ·rename_i hc
  cases h
  obtain ⟨n, hn⟩ : ∃ n, (rowC A p.1).length - (p.2 + 1) = n + 1 := ⟨(rowC A p.1).length - (p.2 + 1) - 1, by omega⟩
  rw [hn, List.range'_succ, List.map_cons, List.cons_append]
  dsimp only
  rw [show (rowC A p.1).length - (p.2 + 1 + 1) = n by omega]
 ·rename_i hc
  split at h
  ·cases h
  ·rename_i hl
   cases h
   rw [show (rowC A p.1).length - (p.2 + 1) = 0 by omega]
   obtain ⟨n, hn⟩ : ∃ n, lnN A - (p.1 + 1) = n + 1 := ⟨lnN A - (p.1 + 1) - 1, by omega⟩
   rw [hn, List.range'_succ, List.flatMap_cons, rowP_cons]
   dsimp only
   rw [show lnN A - (p.1 + 1 + 1) = n by omega]
   simp
theorem aft_none (h : nextW A p = none) : aft A p = [] := by
 unfold nextW at h
 unfold aft
 split at h
 ·cases h
 ·rename_i hc
  split at h
  ·rename_i hl
   rw [show (rowC A p.1).length - (p.2 + 1) = 0 by omega, show lnN A - (p.1 + 1) = 0 by omega]; rfl
  ·cases h
theorem bef_some (h : prevW A p = some q) : bef A p = q :: bef A q := by
 unfold prevW at h
 unfold bef
 split at h
 ·rename_i hc
  cases h
  obtain ⟨n, hn⟩ : ∃ n, p.2 = n + 1 := ⟨p.2 - 1, by omega⟩
  rw [hn, List.range_succ, List.reverse_append]
  simp
 ·rename_i hc
  split at h
  ·cases h
  ·rename_i hl
   cases h
   obtain ⟨n, hn⟩ : ∃ n, p.1 = n + 1 := ⟨p.1 - 1, by omega⟩
   rw [show p.2 = 0 by omega, hn, List.range_succ, List.reverse_append, Nat.add_sub_cancel]
   show ([] : List (Nat × Nat)) ++ (n :: (List.range n).reverse).flatMap _ = _
   rw [List.nil_append, List.flatMap_cons, rowP_rev]
   simp
theorem bef_none (h : prevW A p = none) : bef A p = [] := by
 unfold prevW at h
 unfold bef
 split at h
 ·cases h
 ·rename_i hc
  split at h
  ·rename_i hl
   rw [show p.2 = 0 by omega, hl]; rfl
  ·cases h
structure On (A : List Int) (p : Nat × Nat) : Prop where
 row : p.1 ≤ brs A
 col : p.2 ≤ (rowC A p.1).length
theorem nextW_on (h : On A p) (hq : nextW A p = some q) : On A q ∧ q.1 < lnN A ∧ (q.2 < (rowC A q.1).length ∨ ((rowC A q.1).length = 0 ∧ q.2 = 0)) ∧ p.1 ≤ q.1 := by
 have hb := lnN_bounds A
 have hg := lnN_ge A
 have hr := h.row
 unfold nextW at hq
 split at hq
 ·rename_i hc
  cases hq
  refine ⟨⟨h.row, by dsimp only; omega⟩, ?_, .inl hc, Nat.le_refl _⟩
  dsimp only
  rcases Nat.lt_or_ge p.1 (lnN A) with u | u
  ·exact u
  ·exfalso
   have hp : p.1 = lnN A ∧ lnN A = brs A := by omega
   have := tail_len (A := A) (by omega)
   rw [hp.1, hp.2] at hc
   omega
 ·split at hq
  ·cases hq
  ·rename_i hl
   cases hq
   refine ⟨⟨by dsimp only; omega, Nat.zero_le _⟩, by dsimp only; omega, ?_, by dsimp only; omega⟩
   dsimp only
   rcases Nat.eq_zero_or_pos (rowC A (p.1 + 1)).length with u | u
   ·exact .inr ⟨u, rfl⟩
   ·exact .inl u
where
  tail_len {A : List Int} (h : lnN A = brs A) : (rowC A (brs A)).length = 0 := by
    rw [rowC_nil (Nat.le_refl _)]
    unfold lnN at h
    have he : ended A = true := by
      by_cases h1 : ended A = true
      · exact h1
      · rw [if_neg h1] at h; omega
    unfold ended at he
    rw [Bool.and_eq_true, beq_iff_eq] at he
    have hf := (lnAt_some (rowL_at (A := A) (Nat.le_refl _))).2
    rw [he.2] at hf
    have e1 := Option.some.inj hf
    have ok := row_ok (A := A) (i := brs A) (Nat.le_refl _)
    have := ok.ft; have := ok.tn; have := ok.nl
    omega
theorem tail_nil {A : List Int} (h : lnN A = brs A) : (rowC A (brs A)).length = 0 := nextW_on.tail_len h
structure Plc (A : List Int) (p : Nat × Nat) : Prop where
 row : p.1 < lnN A
 col : p.2 < (rowC A p.1).length ∨ ((rowC A p.1).length = 0 ∧ p.2 = 0)
theorem Plc.on (h : Plc A p) : On A p := ⟨by have := lnN_bounds A; have := h.row; omega, by have := h.col; omega⟩
theorem mem_rowP {i : Nat} : q ∈ rowP A i ↔ q.1 = i ∧ (q.2 < (rowC A i).length ∨ ((rowC A i).length = 0 ∧ q.2 = 0)) := by
 unfold rowP
 by_cases h : (rowC A i).length = 0
 ·rw [if_pos h, List.mem_singleton]
  constructor
  ·rintro rfl; exact ⟨rfl, .inr ⟨h, rfl⟩⟩
  ·rintro ⟨h1, h2⟩
   rcases h2 with h2 | h2
   ·omega
   ·exact Prod.ext h1 h2.2
 ·rw [if_neg h, List.mem_map]
  constructor
  ·rintro ⟨c, hc, rfl⟩
   exact ⟨rfl, .inl (List.mem_range.1 hc)⟩
  ·rintro ⟨h1, h2⟩
   refine ⟨q.2, List.mem_range.2 (by omega), ?_⟩
   rw [← h1]
theorem mem_aft : q ∈ aft A p ↔ (q.1 = p.1 ∧ p.2 < q.2 ∧ q.2 < (rowC A p.1).length) ∨ (p.1 < q.1 ∧ q.1 < lnN A ∧ (q.2 < (rowC A q.1).length ∨ ((rowC A q.1).length = 0 ∧ q.2 = 0))) := by
 unfold aft
 rw [List.mem_append, List.mem_map, List.mem_flatMap]
 constructor
 ·rintro (⟨c, hc, rfl⟩ | ⟨i, hi, hq⟩)
  ·rw [List.mem_range'_1] at hc
   exact .inl ⟨rfl, by dsimp only; omega, by dsimp only; omega⟩
  ·rw [List.mem_range'_1] at hi
   obtain ⟨h1, h2⟩ := mem_rowP.1 hq
   subst h1
   exact .inr ⟨by omega, by omega, h2⟩
 ·rintro (⟨h1, h2, h3⟩ | ⟨h1, h2, h3⟩)
  ·refine .inl ⟨q.2, by rw [List.mem_range'_1]; omega, ?_⟩
   rw [← h1]
  ·exact .inr ⟨q.1, by rw [List.mem_range'_1]; omega, mem_rowP.2 ⟨rfl, h3⟩⟩
theorem mem_bef : q ∈ bef A p ↔ (q.1 = p.1 ∧ q.2 < p.2) ∨ (q.1 < p.1 ∧ (q.2 < (rowC A q.1).length ∨ ((rowC A q.1).length = 0 ∧ q.2 = 0))) := by
 unfold bef
 rw [List.mem_append, List.mem_map, List.mem_flatMap]
 constructor
 ·rintro (⟨c, hc, rfl⟩ | ⟨i, hi, hq⟩)
  ·rw [List.mem_reverse, List.mem_range] at hc
   exact .inl ⟨rfl, hc⟩
  ·rw [List.mem_reverse, List.mem_range] at hi
   rw [List.mem_reverse] at hq
   obtain ⟨h1, h2⟩ := mem_rowP.1 hq
   subst h1
   exact .inr ⟨hi, h2⟩
 ·rintro (⟨h1, h2⟩ | ⟨h1, h2⟩)
  ·refine .inl ⟨q.2, by rw [List.mem_reverse, List.mem_range]; exact h2, ?_⟩
   rw [← h1]
  ·exact .inr ⟨q.1, by rw [List.mem_reverse, List.mem_range]; exact h1, by rw [List.mem_reverse]; exact mem_rowP.2 ⟨rfl, h2⟩⟩
theorem off_lt_rows (hp : On A p) (hq : On A q) (h : p.1 < q.1) : offP A p < offP A q := by
 have h1 := (placeR_in hp.row (p.2 : Int)).2
 have h2 := (placeR_in hq.row (q.2 : Int)).1
 have h3 := row_next h hq.row
 have hr := hq.row
 obtain ⟨x, hx⟩ := sk_ok (A := A) (k := p.1 + 1) (by omega)
 have := ((row_ok hp.row).brk x hx).2.1
 unfold offP; omega
theorem off_lt (hp : On A p) (hq : On A q) (h : p.1 < q.1 ∨ (p.1 = q.1 ∧ p.2 < q.2)) : offP A p < offP A q := by
 rcases h with h | ⟨h1, h2⟩
 ·exact off_lt_rows hp hq h
 ·unfold offP
  rw [h1]
  exact placeR_mono hq.row h2 hq.col
theorem aft_off (hp : On A p) (hq : q ∈ aft A p) : offP A p < offP A q := by
 have hb := lnN_bounds A
 rcases mem_aft.1 hq with ⟨h1, h2, h3⟩ | ⟨h1, h2, h3⟩
 ·exact off_lt hp ⟨by rw [h1]; exact hp.row, by rw [h1]; omega⟩ (.inr ⟨h1.symm, h2⟩)
 ·exact off_lt hp ⟨by omega, by omega⟩ (.inl h1)
theorem bef_off (hp : On A p) (hq : q ∈ bef A p) : offP A q < offP A p := by
 have hr := hp.row
 rcases mem_bef.1 hq with ⟨h1, h2⟩ | ⟨h1, h2⟩
 ·exact off_lt ⟨by omega, by rw [h1]; have := hp.col; omega⟩ hp (.inr ⟨h1, h2⟩)
 ·exact off_lt ⟨by omega, by omega⟩ hp (.inl h1)
theorem flat_split (A : List Int) {i n : Nat} (h : i < n) : (List.range n).flatMap (rowP A) = (List.range i).flatMap (rowP A) ++ (rowP A i ++ (List.range' (i + 1) (n - (i + 1))).flatMap (rowP A)) := by
 have e : List.range n = List.range i ++ (i :: List.range' (i + 1) (n - (i + 1))) := by
  rw [List.range_eq_range', List.range_eq_range', ← List.range'_succ]
  have := @List.range'_append_1 0 i (n - (i + 1) + 1)
  rw [Nat.zero_add] at this
  rw [this]
  congr 1; omega
 rw [e, List.flatMap_append, List.flatMap_cons]
theorem bef_rows (A : List Int) (i : Nat) : ((List.range i).reverse.flatMap fun i => (rowP A i).reverse).reverse = (List.range i).flatMap (rowP A) := by
 induction i with
 | zero => rfl
 | succ i ih =>
  rw [List.range_succ, List.reverse_append, List.flatMap_append]
  show (([i].reverse).flatMap _ ++ _).reverse = _
  rw [List.flatMap_append, List.reverse_append, ih]
  simp
theorem all_split (h : Plc A p) : allP A = (bef A p).reverse ++ p :: aft A p := by
 unfold allP
 rw [flat_split A h.row]
 unfold bef aft
 rw [List.reverse_append, bef_rows, List.append_assoc]
 congr 1
 rw [← List.cons_append, ← List.append_assoc]
 congr 1
 unfold rowP
 rcases h.col with hc | ⟨hc, h0⟩
 ·rw [if_neg (by omega), List.map_reverse, List.reverse_reverse]
  have e : List.range (rowC A p.1).length = List.range p.2 ++ (p.2 :: List.range' (p.2 + 1) ((rowC A p.1).length - (p.2 + 1))) := by
   rw [List.range_eq_range', List.range_eq_range', ← List.range'_succ]
   have := @List.range'_append_1 0 p.2 ((rowC A p.1).length - (p.2 + 1) + 1)
   rw [Nat.zero_add] at this
   rw [this]
   congr 1; omega
  rw [e, List.map_append, List.map_cons]
 ·rw [if_pos hc, hc, h0]
  show [(p.1, 0)] = _
  have : p = (p.1, 0) := Prod.ext rfl h0
  simp [← this]
theorem all_past (h : On A p) (hn : ¬ Plc A p) : allP A = (bef A p).reverse ++ aft A p := by
 have hb := lnN_bounds A
 have hg := lnN_ge A
 have hr := h.row; have hc := h.col
 by_cases h1 : p.1 < lnN A
 ·have h2 : 0 < (rowC A p.1).length ∧ p.2 = (rowC A p.1).length := by
   rcases Nat.eq_zero_or_pos (rowC A p.1).length with u | u
   ·exact absurd ⟨h1, .inr ⟨u, by omega⟩⟩ hn
   ·refine ⟨u, ?_⟩
    rcases Nat.lt_or_ge p.2 (rowC A p.1).length with v | v
    ·exact absurd ⟨h1, .inl v⟩ hn
    ·omega
  unfold allP
  rw [flat_split A h1]
  unfold bef aft
  rw [List.reverse_append, bef_rows, List.append_assoc, List.map_reverse, List.reverse_reverse]
  congr 1
  rw [show (rowC A p.1).length - (p.2 + 1) = 0 by omega]
  unfold rowP
  rw [if_neg (by omega), h2.2]; rfl
 ·have hp : p.1 = lnN A ∧ lnN A = brs A := by omega
  have hz := tail_nil hp.2
  unfold allP bef aft
  rw [List.reverse_append, bef_rows]
  have h0 : p.2 = 0 := by rw [hp.1, hp.2] at hc; omega
  rw [show lnN A - (p.1 + 1) = 0 by omega, h0, hp.1]
  rw [show (rowC A (lnN A)).length - (0 + 1) = 0 by rw [hp.2]; omega]
  simp
end Mot
namespace Mot
variable {A : List Int} {p q : Nat × Nat}
theorem first_in {i n : Nat} (h : i ≤ brs A) (h1 : (rowL A i).from_ ≤ n) (h2 : n < (rowL A i).to_) : firstI (rowC A i) (n : Int) < (rowC A i).length ∧ placeR A i ((firstI (rowC A i) (n : Int) : Nat) : Int) ≤ n := by
 obtain ⟨s1, s2⟩ := firstI_spec (C := rowC A i) (at_ := (n : Int))
 have hle := firstI_le (rowC A i) (n : Int)
 have hlt : firstI (rowC A i) (n : Int) < (rowC A i).length := by
  rcases Nat.lt_or_ge (firstI (rowC A i) (n : Int)) (rowC A i).length with q | q
  ·exact q
  ·exfalso
   have hn : (rowC A i).length ≠ 0 := fun h0 => by have := (rowC_nil h).1 h0; omega
   obtain ⟨z, hz⟩ := cel_get (C := rowC A i) (j := (rowC A i).length - 1) (by omega)
   have := s1 _ z (by omega) hz
   have := rowC_last h hz (by omega)
   omega
 refine ⟨hlt, ?_⟩
 rw [placeR_lt hlt]
 obtain ⟨c, hc⟩ := cel_get hlt
 rw [frm_of hc]
 cases hf : firstI (rowC A i) (n : Int) with
 | zero =>
  rw [hf] at hc
  have := rowC_first hc
  omega
 | succ m =>
  rw [hf] at hc
  obtain ⟨d, hd⟩ := cel_get (C := rowC A i) (j := m) (by omega)
  have := s1 m d (by omega) hd
  have := (rowC_chain A i).next m d c hd hc
  omega
theorem clamp_is (A : List Int) (x : Int) (past : Bool) : ∃ c : Nat, c ≤ (rowC A (rowI A x past)).length ∧ (past = false → c < (rowC A (rowI A x past)).length ∨ (rowC A (rowI A x past)).length = 0) ∧ clampP A x past = placeR A (rowI A x past) (c : Int) := by
 have hi := rowI_le A x past
 unfold clampP
 by_cases h : (rowL A (rowI A x past)).to_ ≤ inT A x
 ·rw [if_pos h]
  cases past with
  | true => exact ⟨_, Nat.le_refl _, (fun h => by cases h), by rw [if_pos rfl]; exact (placeR_ge (by omega)).symm⟩
  | false =>
   rw [if_neg (by decide)]
   refine ⟨(rowC A (rowI A x false)).length - 1, by omega, fun _ => by omega, ?_⟩
   rcases Nat.eq_zero_or_pos (rowC A (rowI A x false)).length with u | u
   ·rw [u]
    exact placeR_neg (by omega)
   ·rw [show ((rowC A (rowI A x false)).length : Int) - 1 = (((rowC A (rowI A x false)).length - 1 : Nat) : Int) by omega]
 ·rw [if_neg h]
  have hf : (rowL A (rowI A x past)).from_ ≤ inT A x := by
   have hro := (row_of (A := A) (inT_le A x)).1
   unfold rowI at h ⊢
   cases past with
   | true => exact hro
   | false =>
    rw [if_neg (by decide)] at h ⊢
    rcases Nat.lt_or_ge (lnN A - 1) (ofI A x) with u | u
    ·exfalso
     rw [Nat.min_eq_right (by omega)] at h
     have hb := lnN_bounds A
     have hro2 := row_next (A := A) (i := lnN A - 1) (j := ofI A x) u (ofI_le A x)
     have ok := row_ok (A := A) (i := lnN A - 1) (by omega)
     have := ok.tn
     unfold ofI at hro2
     omega
    ·rw [Nat.min_eq_left u]; exact hro
  obtain ⟨g1, g2⟩ := first_in hi hf (by omega)
  exact ⟨_, by omega, fun _ => .inl g1, rfl⟩
noncomputable def posP (A : List Int) (x : Int) (past : Bool) : Nat × Nat := (rowI A x past, firstI (rowC A (rowI A x past)) (clampP A x past : Int))
theorem clamp_row (A : List Int) (x : Int) (past : Bool) : rowI A (clampP A x past : Int) past = rowI A x past := by
 obtain ⟨c, _, _, hc⟩ := clamp_is A x past
 have hi := rowI_le A x past
 rw [hc]
 have ho := ofI_place hi (c : Int)
 show (if past then ofI A _ else min (ofI A _) (lnN A - 1)) = _
 rw [ho]
 cases past with
 | true => rfl
 | false =>
  rw [if_neg (by decide)]
  unfold rowI
  rw [if_neg (by decide)]; omega
theorem pos_is (A : List Int) (x : Int) (past : Bool) : On A (posP A x past) ∧ offP A (posP A x past) = clampP A x past ∧ (past = false → Plc A (posP A x past)) := by
 obtain ⟨c, h1, h2, hc⟩ := clamp_is A x past
 have hi := rowI_le A x past
 have hcol : firstI (rowC A (rowI A x past)) (clampP A x past : Int) = c := by rw [hc]; exact col_place hi h1
 unfold posP
 rw [hcol]
 refine ⟨⟨hi, h1⟩, hc.symm, fun hp => ⟨?_, ?_⟩⟩
 ·subst hp
  have hb := lnN_bounds A
  show rowI A x false < _
  unfold rowI
  rw [if_neg (by decide)]; omega
 ·rcases h2 hp with q | q
  ·exact .inl q
  ·exact .inr ⟨q, by dsimp only at h1 ⊢; omega⟩
theorem clamp_on {i c : Nat} (h : i ≤ brs A) (hc : c ≤ (rowC A i).length) : clampP A (placeR A i (c : Int) : Int) true = placeR A i (c : Int) := by
 have hr : rowI A (placeR A i (c : Int) : Int) true = i := by unfold rowI; rw [if_pos rfl]; exact ofI_place h _
 unfold clampP
 rw [hr, inT_of (place_le h _), if_pos rfl]
 by_cases hl : (rowL A i).to_ ≤ placeR A i (c : Int)
 ·rw [if_pos hl]
  have := (placeR_in h (c : Int)).2; omega
 ·rw [if_neg hl, col_place h hc]
theorem clamp_in {i c : Nat} (h : i < lnN A) (hc : c < (rowC A i).length ∨ ((rowC A i).length = 0 ∧ c = 0)) : clampP A (placeR A i (c : Int) : Int) false = placeR A i (c : Int) := by
 have hb := lnN_bounds A
 have hi : i ≤ brs A := by omega
 have hr : rowI A (placeR A i (c : Int) : Int) false = i := by unfold rowI; rw [if_neg (by decide), ofI_place hi]; omega
 unfold clampP
 rw [hr, inT_of (place_le hi _), if_neg (show ¬ (false = true) by decide)]
 rcases hc with hc | ⟨h0, rfl⟩
 ·have h1 := placeR_mono hi hc (Nat.le_refl _)
  rw [placeR_ge (c := ((rowC A i).length : Int)) (by omega)] at h1
  rw [if_neg (by omega), col_place hi (by omega)]
 ·have e1 : placeR A i ((0 : Nat) : Int) = (rowL A i).to_ := placeR_ge (by omega)
  rw [e1, if_pos (Nat.le_refl _), h0, placeR_neg (by omega)]
  exact e1
theorem marks_aft (f : Nat × Nat → Bool) (h : On A p) : (marksP A f).filter (fun x => decide (offP A p + 1 ≤ x)) = ((aft A p).filter f).map (offP A) := by
 have hA : ∀ l : List (Nat × Nat), (∀ q ∈ l, offP A q ≤ offP A p) → ((l.filter f).map (offP A)).filter (fun x => decide (offP A p + 1 ≤ x)) = [] := fun l hl => by
  rw [List.filter_eq_nil_iff]
  intro x hx
  obtain ⟨q, hq, rfl⟩ := List.mem_map.1 hx
  have := hl q (List.mem_filter.1 hq).1
  simp; omega
 have hB : ((aft A p).filter f).map (offP A) = (((aft A p).filter f).map (offP A)).filter (fun x => decide (offP A p + 1 ≤ x)) := by
  refine (List.filter_eq_self.2 fun x hx => ?_).symm
  obtain ⟨q, hq, rfl⟩ := List.mem_map.1 hx
  have := aft_off h (List.mem_filter.1 hq).1
  simp; omega
 have hC : ∀ q ∈ (bef A p).reverse, offP A q ≤ offP A p := fun q hq => Nat.le_of_lt (bef_off h (List.mem_reverse.1 hq))
 unfold marksP
 by_cases hp : Plc A p
 ·rw [all_split hp]
  have e : (bef A p).reverse ++ p :: aft A p = ((bef A p).reverse ++ [p]) ++ aft A p := by simp
  rw [e, List.filter_append, List.map_append, List.filter_append, hA _ (fun q hq => by
   rcases List.mem_append.1 hq with hq | hq
   ·exact hC q hq
   ·rw [List.mem_singleton.1 hq]; exact Nat.le_refl _), List.nil_append, ← hB]
 ·rw [all_past h hp, List.filter_append, List.map_append, List.filter_append, hA _ hC, List.nil_append, ← hB]
theorem marks_bef (f : Nat × Nat → Bool) (h : On A p) : ((marksP A f).filter (fun x => decide (x < offP A p))).reverse = ((bef A p).filter f).map (offP A) := by
 have hA : ∀ l : List (Nat × Nat), (∀ q ∈ l, offP A p ≤ offP A q) → ((l.filter f).map (offP A)).filter (fun x => decide (x < offP A p)) = [] := fun l hl => by
  rw [List.filter_eq_nil_iff]
  intro x hx
  obtain ⟨q, hq, rfl⟩ := List.mem_map.1 hx
  have := hl q (List.mem_filter.1 hq).1
  simp; omega
 have hB : ((((bef A p).reverse).filter f).map (offP A)).filter (fun x => decide (x < offP A p)) = (((bef A p).reverse).filter f).map (offP A) := by
  refine List.filter_eq_self.2 fun x hx => ?_
  obtain ⟨q, hq, rfl⟩ := List.mem_map.1 hx
  have := bef_off h (List.mem_reverse.1 (List.mem_filter.1 hq).1)
  simp; omega
 have hC : ∀ q ∈ aft A p, offP A p ≤ offP A q := fun q hq => Nat.le_of_lt (aft_off h hq)
 have fin : ((((bef A p).reverse).filter f).map (offP A)).reverse = ((bef A p).filter f).map (offP A) := by
  rw [List.filter_reverse, List.map_reverse, List.reverse_reverse]
 unfold marksP
 by_cases hp : Plc A p
 ·rw [all_split hp, List.filter_append, List.map_append, List.filter_append, hB, hA (p :: aft A p) (fun q hq => by
   rcases List.mem_cons.1 hq with rfl | hq
   ·exact Nat.le_refl _
   ·exact hC q hq), List.append_nil, fin]
 ·rw [all_past h hp, List.filter_append, List.map_append, List.filter_append, hB, hA _ hC, List.append_nil, fin]
theorem after_aft (f : Nat × Nat → Bool) (h : On A p) (k : Nat) : afterL (marksP A f) (offP A p + 1) k = (((aft A p).filter f)[k - 1]?).map (offP A) := by
 unfold afterL
 rw [marks_aft f h, List.getElem?_map]
theorem before_bef (f : Nat × Nat → Bool) (h : On A p) (k : Nat) : beforeL (marksP A f) (offP A p) k = (((bef A p).filter f)[k - 1]?).map (offP A) := by
 unfold beforeL
 rw [marks_bef f h, List.getElem?_map]
theorem marks_here (f : Nat × Nat → Bool) (h : On A p) (hf : f p = true → Plc A p) : (marksP A f).filter (fun x => decide (offP A p ≤ x)) = ((if f p then [p] else []) ++ (aft A p).filter f).map (offP A) := by
 have hA : ∀ l : List (Nat × Nat), (∀ q ∈ l, offP A q < offP A p) → ((l.filter f).map (offP A)).filter (fun x => decide (offP A p ≤ x)) = [] := fun l hl => by
  rw [List.filter_eq_nil_iff]
  intro x hx
  obtain ⟨q, hq, rfl⟩ := List.mem_map.1 hx
  have := hl q (List.mem_filter.1 hq).1
  simp; omega
 have hB : ∀ l : List (Nat × Nat), (∀ q ∈ l, offP A p ≤ offP A q) → ((l.filter f).map (offP A)).filter (fun x => decide (offP A p ≤ x)) = (l.filter f).map (offP A) := fun l hl => by
  refine List.filter_eq_self.2 fun x hx => ?_
  obtain ⟨q, hq, rfl⟩ := List.mem_map.1 hx
  have := hl q (List.mem_filter.1 hq).1
  simp; omega
 have hC : ∀ q ∈ (bef A p).reverse, offP A q < offP A p := fun q hq => bef_off h (List.mem_reverse.1 hq)
 have hD : ∀ q ∈ aft A p, offP A p ≤ offP A q := fun q hq => Nat.le_of_lt (aft_off h hq)
 unfold marksP
 by_cases hp : Plc A p
 ·rw [all_split hp, List.filter_append, List.map_append, List.filter_append, hA _ hC, List.nil_append, hB (p :: aft A p) (fun q hq => by
   rcases List.mem_cons.1 hq with rfl | hq
   ·exact Nat.le_refl _
   ·exact hD q hq)]
  cases hfp : f p with
  | true => rw [List.filter_cons_of_pos hfp, if_pos rfl]; rfl
  | false => rw [List.filter_cons_of_neg (by rw [hfp]; decide), if_neg (by decide)]; rfl
 ·rw [all_past h hp, List.filter_append, List.map_append, List.filter_append, hA _ hC, List.nil_append, hB _ hD]
  have : f p = false := by
   cases hfp : f p with
   | false => rfl
   | true => exact absurd (hf hfp) hp
  rw [this, if_neg (by decide), List.nil_append]
end Mot
namespace Mot
variable {A : List Int} {p q : Nat × Nat}
def Stand (A : List Int) (n : Nat) (past : Bool) : Prop := ∃ p, On A p ∧ offP A p = n ∧ (past = false → Plc A p)
theorem stand_clamp (A : List Int) (x : Int) (past : Bool) : Stand A (clampP A x past) past := by
 obtain ⟨h1, h2, h3⟩ := pos_is A x past
 exact ⟨_, h1, h2, h3⟩
theorem stand_past {n : Nat} {past : Bool} (h : Stand A n past) : Stand A n true := by
 obtain ⟨p, h1, h2, _⟩ := h
 exact ⟨p, h1, h2, fun hc => by cases hc⟩
theorem Stand.clamp {n : Nat} {past : Bool} (h : Stand A n past) : clampP A (n : Int) past = n := by
 obtain ⟨⟨i, c⟩, h1, rfl, h3⟩ := h
 cases past with
 | true => exact clamp_on h1.row h1.col
 | false => exact clamp_in (h3 rfl).row (h3 rfl).col
theorem stand_place {i : Nat} (h : i ≤ brs A) (c : Int) : Stand A (placeR A i c) true := by
 by_cases hc : c.toNat ≤ (rowC A i).length
 ·refine ⟨(i, c.toNat), ⟨h, hc⟩, ?_, fun hc => by cases hc⟩
  show placeR A i ((c.toNat : Nat) : Int) = _
  unfold placeR
  rw [Int.toNat_natCast]
 ·refine ⟨(i, (rowC A i).length), ⟨h, Nat.le_refl _⟩, ?_, fun hc => by cases hc⟩
  show placeR A i ((rowC A i).length : Int) = _
  rw [placeR_ge (c := ((rowC A i).length : Int)) (by omega), placeR_ge (by omega)]
theorem stand_in {i : Nat} (h : i < lnN A) {c : Int} (hc : c < (rowC A i).length ∨ (rowC A i).length = 0) : Stand A (placeR A i c) false := by
 have hb := lnN_bounds A
 by_cases h0 : (rowC A i).length = 0
 ·refine ⟨(i, 0), ⟨by dsimp only; omega, by dsimp only; omega⟩, ?_, fun _ => ⟨h, .inr ⟨h0, rfl⟩⟩⟩
  show placeR A i ((0 : Nat) : Int) = _
  rw [placeR_ge (c := ((0 : Nat) : Int)) (by omega), placeR_ge (by omega)]
 ·refine ⟨(i, c.toNat), ⟨by dsimp only; omega, by dsimp only; omega⟩, ?_, fun _ => ⟨h, .inl (by dsimp only; omega)⟩⟩
  show placeR A i ((c.toNat : Nat) : Int) = _
  unfold placeR
  rw [Int.toNat_natCast]
theorem rowI_lt (A : List Int) (x : Int) : rowI A x false < lnN A := by
 have := lnN_bounds A
 unfold rowI
 rw [if_neg (by decide)]; omega
theorem signR_le (A : List Int) (i : Nat) : signR A i < (rowC A i).length ∨ (rowC A i).length = 0 := by
 unfold signR
 split
 ·left; assumption
 ·omega
theorem seekL_mem {C : List Cel} {a : Int} {L : List Nat} {k j : Nat} (h : seekL C a L k = some j) : j ∈ L ∧ ∃ c, C[j]? = some c := by
 unfold seekL at h
 have := List.mem_of_getElem? h
 rw [List.mem_filter, decide_eq_true_eq] at this
 refine ⟨this.1, ?_⟩
 cases hc : C[j]? with
 | none => rw [hc] at this; simp at this
 | some c => exact ⟨c, rfl⟩
theorem kOf_pos (c : Int) : 1 ≤ kOf c := by unfold kOf; split <;> omega
theorem kOf_le (c : Int) : kOf c ≤ 9999 := by unfold kOf; split <;> omega
theorem mem_all : p ∈ allP A ↔ Plc A p := by
 unfold allP
 rw [List.mem_flatMap]
 constructor
 ·rintro ⟨i, hi, hp⟩
  obtain ⟨h1, h2⟩ := mem_rowP.1 hp
  subst h1
  exact ⟨List.mem_range.1 hi, h2⟩
 ·rintro ⟨h1, h2⟩
  exact ⟨p.1, List.mem_range.2 h1, mem_rowP.2 ⟨rfl, h2⟩⟩
theorem stand_mark {f : Nat × Nat → Bool} {n : Nat} (h : n ∈ marksP A f) (past : Bool) : Stand A n past := by
 obtain ⟨p, hp, rfl⟩ := List.mem_map.1 h
 have := mem_all.1 (List.mem_filter.1 hp).1
 exact ⟨p, this.on, rfl, fun _ => this⟩
theorem after_mem {l : List Nat} {n k x : Nat} (h : afterL l n k = some x) : x ∈ l := (List.mem_filter.1 (List.mem_of_getElem? h)).1
theorem before_mem {l : List Nat} {n k x : Nat} (h : beforeL l n k = some x) : x ∈ l := (List.mem_filter.1 (List.mem_reverse.1 (List.mem_of_getElem? h))).1
theorem stand_last (A : List Int) (past : Bool) : Stand A (lastPl A) past := by
 have hb := lnN_bounds A
 have : Stand A (lastPl A) false := stand_in (by omega) (by omega)
 cases past with
 | true => exact stand_past this
 | false => exact this
theorem stand_zero (A : List Int) (past : Bool) : Stand A 0 past := by
 have hb := lnN_bounds A
 have h0 : (rowL A 0).from_ = 0 := by
  have := (lnAt_some (rowL_at (A := A) (Nat.zero_le _))).2
  rw [sk_zero] at this
  exact (Option.some.inj this).symm
 have : Stand A (placeR A 0 0) false := stand_in (by omega) (by omega)
 rw [placeR_zero (Nat.zero_le _), h0] at this
 cases past with
 | true => exact stand_past this
 | false => exact this
theorem mem_brks {x : (Nat × Nat) × Nat} (h : x ∈ brksP A) : Plc A x.1 ∧ brkP A x.1 = some x.2 := by
 unfold brksP at h
 obtain ⟨p, hp, he⟩ := List.mem_filterMap.1 h
 obtain ⟨b, hb, rfl⟩ := Option.map_eq_some_iff.1 he
 exact ⟨mem_all.1 hp, hb⟩
end Mot
namespace Mot
variable {A : List Int}
abbrev Bk := (Nat × Nat) × Nat
theorem all_rise (A : List Int) : (allP A).Pairwise fun p q => offP A p < offP A q := by
 have hb := lnN_bounds A
 unfold allP
 rw [List.pairwise_flatMap]
 refine ⟨fun i hi => ?_, ?_⟩
 ·rw [List.mem_range] at hi
  unfold rowP
  split
  ·exact List.pairwise_singleton _ _
  ·rw [List.pairwise_map]
   refine List.Pairwise.imp_of_mem (fun {a b} ha hc hab => ?_) List.pairwise_lt_range
   rw [List.mem_range] at ha hc
   exact off_lt (p := (i, a)) (q := (i, b)) ⟨by dsimp only; omega, by dsimp only; omega⟩ ⟨by dsimp only; omega, by dsimp only; omega⟩ (.inr ⟨rfl, hab⟩)
 ·refine List.Pairwise.imp_of_mem (fun {i j} hi hj hij p hp q hq => ?_) List.pairwise_lt_range
  rw [List.mem_range] at hi hj
  obtain ⟨p1, p2⟩ := mem_rowP.1 hp
  obtain ⟨q1, q2⟩ := mem_rowP.1 hq
  exact off_lt (by subst p1; exact (Plc.on ⟨hi, p2⟩)) (by subst q1; exact (Plc.on ⟨hj, q2⟩)) (.inl (by omega))
theorem brks_rise (A : List Int) : (brksP A).Pairwise fun x y => offP A x.1 < offP A y.1 := by
 unfold brksP
 rw [List.pairwise_filterMap]
 refine (all_rise A).imp fun {p q} h x hx y hy => ?_
 obtain ⟨_, _, rfl⟩ := Option.map_eq_some_iff.1 hx
 obtain ⟨_, _, rfl⟩ := Option.map_eq_some_iff.1 hy
 exact h
theorem find_at {α : Type} {f : α → Bool} : ∀ (l : List α) {x : α} {r : List α}, (∀ y ∈ l, f y = false) → f x = true → (l ++ x :: r).findIdx? f = some l.length
 | [], x, r, _, hx => by rw [List.nil_append, List.findIdx?_cons, hx]; rfl
 | y :: l, x, r, hl, hx => by
  rw [List.cons_append, List.findIdx?_cons, hl y List.mem_cons_self, find_at l (fun z hz => hl z (List.mem_cons_of_mem _ hz)) hx]; rfl
theorem find_own {l r : List Bk} {x : Bk} (e : brksP A = l ++ x :: r) : (brksP A).findIdx? (fun q => q.1.1 == x.1.1 && decide (offP A x.1 ≤ offP A q.1)) = some l.length ∧ (brksP A)[l.length]? = some x := by
 have hr := brks_rise A
 rw [e] at hr ⊢
 rw [List.pairwise_append] at hr
 refine ⟨find_at l (fun y hy => ?_) (by simp), by simp⟩
 have := hr.2.2 y hy x List.mem_cons_self
 rw [Bool.and_eq_false_iff, decide_eq_false_iff_not]
 exact .inr (by omega)
theorem paras_match (A : List Int) (x count : Int) : parasM A x 33 count = match matchP A (clampP A x false) (rowI A (clampP A x false : Int) false) with
  | some to => landP A to 1
  | none => noP 80 := by
 unfold parasM
 dsimp only
 rw [if_neg (by decide), if_neg (by decide), if_pos rfl]
 all_goals (cases matchP A (clampP A x false) (rowI A (clampP A x false : Int) false) <;> rfl)
end Mot
namespace Mot
variable {A : List Int}
structure Timed (f : Int → Int → Int → Ld) : Prop where
 one : ∀ x g c, c ≤ 1 → f x g c = f x g 0
 err : ∀ x g c, (f x g c).2 = (f x g 0).2
 bad : ∀ x g c, (f x g 0).2 ≠ 0 → (f x g c).1.1 = (f x g 0).1.1
 more : ∀ x g (n : Nat), 1 ≤ n → n < 9999 → (f x g 0).2 = 0 → (f x g ((n : Int) + 1)).1.1 = if (f (f x g 0).1.1 (f x g 0).1.2.2 n).2 = 0 then (f (f x g 0).1.1 (f x g 0).1.2.2 n).1.1 else (f x g 0).1.1
def runT (f : Int → Int → Int → Ld) : Nat → Ld → Ld
 | 0, m => m
 | n + 1, m => if (f m.1.1 m.1.2.2 0).2 = 0 then runT f n (f m.1.1 m.1.2.2 0) else m
theorem Timed.run {f : Int → Int → Int → Ld} (h : Timed f) : ∀ (n : Nat) (x g : Int), n < 9999 → (f x g 0).2 = 0 → (f x g ((n : Int) + 1)).1.1 = (runT f n (f x g 0)).1.1
 | 0, x, g, _, _ => by rw [h.one x g _ (by omega)]; rfl
 | n + 1, x, g, hn, h0 => by
  have e := h.more x g (n + 1) (by omega) (by omega) h0
  rw [e, runT, h.err]
  split
  ·rename_i h1
   have := h.run n _ _ (by omega) h1
   rw [← this]
   congr 3
  ·rfl
theorem Timed.is {f : Int → Int → Int → Ld} (h : Timed f) (x g c : Int) (hc : c ≤ 60) : (f x g c).2 = (f x g 0).2 ∧ ((f x g 0).2 ≠ 0 → (f x g c).1.1 = (f x g 0).1.1) ∧ ((f x g 0).2 = 0 → (f x g c).1.1 = (runT f (c - 1).toNat (f x g 0)).1.1) := by
 refine ⟨h.err x g c, h.bad x g c, fun h0 => ?_⟩
 rcases Int.le_total c 1 with hc1 | hc1
 ·rw [h.one x g c hc1, show (c - 1).toNat = 0 by omega]; rfl
 ·rw [← h.run _ x g (by omega) h0, show (((c - 1).toNat : Nat) : Int) + 1 = c by omega]
theorem timed_const (e : Int) (he : e ≠ 0) : Timed fun _ _ _ => noP e := ⟨fun _ _ _ _ => rfl, fun _ _ _ => rfl, fun _ _ _ _ => rfl, fun _ _ _ _ _ h => absurd h he⟩
theorem kOf_one {c : Int} (h : c ≤ 1) : kOf c = 1 := by unfold kOf; split <;> omega
theorem kOf_nat {n : Nat} (h : 1 ≤ n) : kOf (n : Int) = min n 9999 := by unfold kOf; rw [if_pos (by omega)]; omega
theorem timed_of {σ : Type} {f : Int → Int → Int → Ld} (st : Int → σ) (F : σ → Nat → Option σ) (G : Int → Int) (out : Int → σ → Nat)
  (hc : ∀ x g c d, kOf c = kOf d → f x g c = f x g d)
  (h0 : ∀ x g c, F (st x) (kOf c) = none → f x g c = noP 80)
  (h1 : ∀ x g c q, F (st x) (kOf c) = some q → (f x g c).2 = 0 ∧ (f x g c).1.1 = (out (G g) q : Int) ∧ st (out (G g) q : Int) = q ∧ G (f x g c).1.2.2 = G g)
  (hB : ∀ x k, 1 ≤ k → F (st x) (k + 1) = (F (st x) 1).bind fun q => some ((F q k).getD q)) : Timed f := by
 have k0 : kOf 0 = 1 := kOf_one (by decide)
 have hN : ∀ x (k : Nat), 1 ≤ k → (F (st x) k = none ↔ F (st x) 1 = none) := fun x k hk => by
  rcases Nat.lt_or_ge 1 k with h | h
  ·obtain ⟨m, rfl⟩ : ∃ m, k = m + 1 := ⟨k - 1, by omega⟩
   rw [hB x m (by omega)]
   cases F (st x) 1 <;> simp
  ·rw [show k = 1 by omega]
 have hE : ∀ x g c, F (st x) (kOf c) = none ∧ f x g c = noP 80 ∨ ∃ q, F (st x) (kOf c) = some q ∧ (f x g c).2 = 0 ∧ (f x g c).1.1 = (out (G g) q : Int) ∧ st (out (G g) q : Int) = q ∧ G (f x g c).1.2.2 = G g := fun x g c => by
  cases hF : F (st x) (kOf c) with
  | none => exact .inl ⟨rfl, h0 x g c hF⟩
  | some q => exact .inr ⟨q, rfl, h1 x g c q hF⟩
 have both : ∀ x g c, (F (st x) 1 = none ∧ f x g c = noP 80 ∧ f x g 0 = noP 80) ∨ ((f x g c).2 = 0 ∧ (f x g 0).2 = 0) := fun x g c => by
  rcases hE x g c with ⟨a1, a2⟩ | ⟨q, a1, a2, _⟩
  ·have a3 := (hN x (kOf c) (kOf_pos c)).1 a1
   exact .inl ⟨a3, a2, h0 x g 0 (by rw [k0]; exact a3)⟩
  ·rcases hE x g 0 with ⟨b1, _⟩ | ⟨_, _, b2, _⟩
   ·rw [k0] at b1
    rw [(hN x (kOf c) (kOf_pos c)).2 b1] at a1; cases a1
   ·exact .inr ⟨a2, b2⟩
 refine ⟨fun x g c h => hc x g c 0 (by rw [kOf_one h, k0]), fun x g c => ?_, fun x g c h => ?_, fun x g n hn hlt h => ?_⟩
 ·rcases both x g c with ⟨_, a, b⟩ | ⟨a, b⟩
  ·rw [a, b]
  ·rw [a, b]
 ·rcases both x g c with ⟨_, a, b⟩ | ⟨a, b⟩
  ·rw [a, b]
  ·exact absurd b h
 ·rcases hE x g 0 with ⟨_, a2⟩ | ⟨q, a1, a2, a3, a4, a5⟩
  ·rw [a2] at h; cases h
  ·rw [k0] at a1
   rcases hE x g ((n : Int) + 1) with ⟨b1, _⟩ | ⟨r, b1, _, b3, _, _⟩
   ·rw [(hN x _ (kOf_pos _)).1 b1] at a1; cases a1
   ·rw [b3, a3]
    have hk1 : kOf ((n : Int) + 1) = min (n + 1) 9999 := kOf_nat (n := n + 1) (by omega)
    have hkn := kOf_nat hn
    have hr : F (st x) (min (n + 1) 9999) = some r := by rw [← hk1]; exact b1
    have inner : ∀ k, 1 ≤ k → kOf (n : Int) = k → F (st x) (k + 1) = some r → ((out (G g) r : Nat) : Int) = if (f ((out (G g) q : Nat) : Int) (f x g 0).1.2.2 n).2 = 0 then (f ((out (G g) q : Nat) : Int) (f x g 0).1.2.2 n).1.1 else ((out (G g) q : Nat) : Int) := fun k hk hkk hF => by
     rw [hB x k hk, a1] at hF
     have hF := Option.some.inj hF
     rcases hE ((out (G g) q : Nat) : Int) (f x g 0).1.2.2 n with ⟨c1, c2⟩ | ⟨r', c1, c2, c3, _⟩
     ·rw [a4, hkk] at c1
      rw [c1] at hF
      rw [c2, if_neg (by decide), ← hF]; rfl
     ·rw [a4, hkk] at c1
      rw [c1] at hF
      rw [if_pos c2, c3, a5, ← hF]; rfl
    refine inner n hn (by rw [hkn]; omega) ?_
    rw [show n + 1 = min (n + 1) 9999 by omega]; exact hr
def foreN (M : List Nat) (last s k : Nat) : Option Nat := if (afterL M (s + 1) k).getD last ≤ s then none else some ((afterL M (s + 1) k).getD last)
def backN (M : List Nat) (φ : Nat → Nat) (s k : Nat) : Option Nat := if s = 0 then none else some ((beforeL M (φ s) k).getD 0)
theorem fore_step {M : List Nat} {last : Nat} (hM : M.Pairwise (· < ·)) (hl : ∀ m ∈ M, m ≤ last) (s k : Nat) (hk : 1 ≤ k) : foreN M last s (k + 1) = (foreN M last s 1).bind fun q => some ((foreN M last q k).getD q) := by
 obtain ⟨k, rfl⟩ : ∃ j, k = j + 1 := ⟨k - 1, by omega⟩
 unfold foreN afterL
 cases hL : M.filter fun x => decide (s + 1 ≤ x) with
 | nil =>
  simp only [List.getElem?_nil, Option.getD_none]
  split
  ·rfl
  ·have : (M.filter fun x => decide (last + 1 ≤ x)) = [] := List.filter_eq_nil_iff.2 fun x hx => by have := hl x hx; simp; omega
   simp only [Option.bind_some, this, List.getElem?_nil, Option.getD_none]
   rw [if_pos (Nat.le_refl _)]; rfl
 | cons q r =>
  have hq : q ∈ M ∧ s + 1 ≤ q := by
   have : q ∈ M.filter fun x => decide (s + 1 ≤ x) := by rw [hL]; exact List.mem_cons_self
   rw [List.mem_filter, decide_eq_true_eq] at this; exact this
  have hp : (q :: r).Pairwise (· < ·) := by rw [← hL]; exact hM.filter _
  rw [List.pairwise_cons] at hp
  have hr : (M.filter fun x => decide (q + 1 ≤ x)) = r := by
   have e1 : (M.filter fun x => decide (q + 1 ≤ x)) = (M.filter fun x => decide (s + 1 ≤ x)).filter fun x => decide (q + 1 ≤ x) := by
    rw [List.filter_filter]
    refine List.filter_congr fun x _ => ?_
    rw [Bool.eq_iff_iff, Bool.and_eq_true, decide_eq_true_eq, decide_eq_true_eq]; omega
   rw [e1, hL, List.filter_cons_of_neg (by simp), List.filter_eq_self.2 fun x hx => by have := hp.1 x hx; simp; omega]
  have hql := hl q hq.1
  have e0 : (q :: r)[1 - 1]? = some q := rfl
  have e1 : (q :: r)[k + 1 + 1 - 1]? = r[k]? := rfl
  have hqs : ¬ q ≤ s := by omega
  rw [e0, e1, Option.getD_some, if_neg hqs, Option.bind_some, hr]
  show (if (r[k]?).getD last ≤ s then none else _) = some ((if (r[k]?).getD last ≤ q then none else some ((r[k]?).getD last)).getD q)
  have hge : q ≤ (r[k]?).getD last := by
   cases hk : r[k]? with
   | none => exact hql
   | some x => exact Nat.le_of_lt (hp.1 x (List.mem_of_getElem? hk))
  generalize (r[k]?).getD last = to at hge ⊢
  rw [if_neg (by omega)]
  split
  ·show _ = some q
   congr 1; omega
  ·rfl
theorem back_step {M : List Nat} {φ : Nat → Nat} (hM : M.Pairwise (· < ·)) (hφ : ∀ m ∈ M, φ m = m) (s k : Nat) (hk : 1 ≤ k) : backN M φ s (k + 1) = (backN M φ s 1).bind fun q => some ((backN M φ q k).getD q) := by
 obtain ⟨k, rfl⟩ : ∃ j, k = j + 1 := ⟨k - 1, by omega⟩
 unfold backN beforeL
 by_cases h0 : s = 0
 ·rw [if_pos h0, if_pos h0]; rfl
 rw [if_neg h0, if_neg h0, Option.bind_some]
 cases hL : (M.filter fun x => decide (x < φ s)).reverse with
 | nil =>
  simp only [List.getElem?_nil, Option.getD_none]
  rw [if_pos trivial]; rfl
 | cons q r =>
  have hq : q ∈ M ∧ q < φ s := by
   have : q ∈ (M.filter fun x => decide (x < φ s)).reverse := by rw [hL]; exact List.mem_cons_self
   rw [List.mem_reverse, List.mem_filter, decide_eq_true_eq] at this; exact this
  have hp : (q :: r).Pairwise (fun a b => b < a) := by rw [← hL, List.pairwise_reverse]; exact hM.filter _
  rw [List.pairwise_cons] at hp
  have hr : (M.filter fun x => decide (x < q)).reverse = r := by
   have e1 : (M.filter fun x => decide (x < q)).reverse = ((M.filter fun x => decide (x < φ s)).reverse).filter fun x => decide (x < q) := by
    rw [List.filter_reverse, List.filter_filter]
    congr 1
    refine List.filter_congr fun x _ => ?_
    rw [Bool.eq_iff_iff, Bool.and_eq_true, decide_eq_true_eq, decide_eq_true_eq]; omega
   rw [e1, hL, List.filter_cons_of_neg (by simp), List.filter_eq_self.2 fun x hx => by have := hp.1 x hx; simp; omega]
  have e0 : (q :: r)[1 - 1]? = some q := rfl
  have e1 : (q :: r)[k + 1 + 1 - 1]? = r[k]? := rfl
  rw [e0, e1, Option.getD_some, hφ q hq.1, hr]
  show some ((r[k]?).getD 0) = some ((if q = 0 then none else some ((r[k]?).getD 0)).getD q)
  split
  ·rename_i hq0
   have : r[k]? = none := by
    cases hk : r[k]? with
    | none => rfl
    | some x => have := hp.1 x (List.mem_of_getElem? hk); omega
   rw [this]
   show some 0 = some q
   rw [hq0]
  ·rfl
theorem pos_of {p : Nat × Nat} {past : Bool} (h1 : On A p) (h3 : past = false → Plc A p) : posP A (offP A p : Int) past = p := by
 have hb := lnN_bounds A
 have hc : clampP A (offP A p : Int) past = offP A p := Stand.clamp ⟨p, h1, rfl, h3⟩
 have hr : rowI A (offP A p : Int) past = p.1 := by
  unfold rowI offP
  rw [ofI_place h1.row]
  cases past with
  | true => rfl
  | false => rw [if_neg (by decide)]; have := (h3 rfl).row; omega
 unfold posP
 rw [hc, hr]
 unfold offP
 rw [col_place h1.row h1.col]
noncomputable def mostR (A : List Int) (i : Nat) (past : Bool) : Nat := if past then (rowC A i).length else (rowC A i).length - 1
theorem pos_most (A : List Int) (x : Int) (past : Bool) : (posP A x past).2 ≤ mostR A (posP A x past).1 past ∧ mostR A (posP A x past).1 past ≤ (rowC A (posP A x past).1).length := by
 obtain ⟨h1, _, h3⟩ := pos_is A x past
 unfold mostR
 cases past with
 | true => exact ⟨h1.col, Nat.le_refl _⟩
 | false => have := (h3 rfl).col; rw [if_neg (by decide)]; omega
theorem chars_one (A : List Int) (x count arg : Int) (past : Bool) : charsP A x 1 count arg past = if (posP A x past).2 = 0 then noP 80 else landP A (offP A ((posP A x past).1, (posP A x past).2 - kOf count)) 0 := by
 have e : charsP A x 1 count arg past = if firstI (rowC A (rowI A (clampP A x past : Int) past)) (clampP A x past : Int) = 0 then noP 80 else landP A (placeR A (rowI A (clampP A x past : Int) past) (((firstI (rowC A (rowI A (clampP A x past : Int) past)) (clampP A x past : Int) : Nat) : Int) - kOf count)) 0 := by
  unfold charsP
  try dsimp only
  rw [if_pos rfl]
 rw [e, clamp_row]
 unfold posP
 try dsimp only
 split
 ·rfl
 ·congr 1
  unfold offP
  try dsimp only
  generalize firstI (rowC A (rowI A x past)) (clampP A x past : Int) = c
  rcases Nat.le_total c (kOf count) with u | u
  ·rw [placeR_neg (by omega), placeR_neg (c := ((c - kOf count : Nat) : Int)) (by omega)]
  ·congr 1; omega
theorem chars_two (A : List Int) (x count arg : Int) (past : Bool) : charsP A x 2 count arg past = if (posP A x past).2 = mostR A (posP A x past).1 past then noP 80 else landP A (offP A ((posP A x past).1, min ((posP A x past).2 + kOf count) (mostR A (posP A x past).1 past))) 0 := by
 have e : charsP A x 2 count arg past = if firstI (rowC A (rowI A (clampP A x past : Int) past)) (clampP A x past : Int) = mostR A (rowI A (clampP A x past : Int) past) past then noP 80 else landP A (placeR A (rowI A (clampP A x past : Int) past) (min (((firstI (rowC A (rowI A (clampP A x past : Int) past)) (clampP A x past : Int) : Nat) : Int) + kOf count) (mostR A (rowI A (clampP A x past : Int) past) past))) 0 := by
  unfold charsP
  try dsimp only
  rw [if_neg (by decide), if_pos rfl]; rfl
 rw [e, clamp_row]
 unfold posP
 try dsimp only
 split
 ·rfl
 ·congr 1
  unfold offP
  try dsimp only
  congr 1; omega
def TimesK (k : Int) : Prop := k = 1 ∨ k = 2 ∨ (11 ≤ k ∧ k ≤ 14) ∨ (21 ≤ k ∧ k ≤ 28) ∨ k = 31 ∨ k = 32
theorem timed_chars (A : List Int) {kind : Int} (arg : Int) (past : Bool) (hk : TimesK kind) : Timed fun x _ c => charsP A x kind c arg past := by
 by_cases h1 : kind = 1
 ·subst h1
  refine timed_of (fun x => posP A x past) (fun p k => if p.2 = 0 then none else some (p.1, p.2 - k)) (fun _ => 0) (fun _ q => offP A q) (fun x _ c d h => ?_) (fun x _ c h => ?_) (fun x _ c q h => ?_) (fun x k hk => ?_)
  ·rw [chars_one, chars_one, h]
  ·rw [chars_one]
   split at h
   ·rename_i h0; exact if_pos h0
   ·cases h
  ·obtain ⟨o1, _, o3⟩ := pos_is A x past
   split at h
   ·cases h
   ·rename_i h0
    cases h
    rw [chars_one, if_neg h0]
    refine ⟨rfl, rfl, pos_of ⟨o1.row, by have := o1.col; dsimp only; omega⟩ (fun hp => ⟨(o3 hp).row, ?_⟩), rfl⟩
    have := (o3 hp).col
    dsimp only; omega
  ·try dsimp only
   split
   ·rfl
   ·rw [Option.bind_some]
    try dsimp only
    split
    ·rw [Option.getD_none]
     congr 2; omega
    ·rw [Option.getD_some]
     congr 2; omega
 by_cases h2 : kind = 2
 ·subst h2
  refine timed_of (fun x => posP A x past) (fun p k => if p.2 = mostR A p.1 past then none else some (p.1, min (p.2 + k) (mostR A p.1 past))) (fun _ => 0) (fun _ q => offP A q) (fun x _ c d h => ?_) (fun x _ c h => ?_) (fun x _ c q h => ?_) (fun x k hk => ?_)
  ·rw [chars_two, chars_two, h]
  ·rw [chars_two]
   split at h
   ·rename_i h0; exact if_pos h0
   ·cases h
  ·obtain ⟨o1, _, o3⟩ := pos_is A x past
   obtain ⟨m1, m2⟩ := pos_most A x past
   split at h
   ·cases h
   ·rename_i h0
    cases h
    rw [chars_two, if_neg h0]
    refine ⟨rfl, rfl, pos_of ⟨o1.row, by dsimp only; omega⟩ (fun hp => ⟨(o3 hp).row, ?_⟩), rfl⟩
    have := (o3 hp).col
    subst hp
    unfold mostR
    try dsimp only
    rw [if_neg (by decide)]; omega
  ·obtain ⟨m1, m2⟩ := pos_most A x past
   try dsimp only
   split
   ·rfl
   ·rename_i h0
    rw [Option.bind_some]
    try dsimp only
    split
    ·rw [Option.getD_none]
     congr 2; omega
    ·rw [Option.getD_some]
     congr 2; omega
 have e : (fun (x : Int) (_ : Int) (c : Int) => charsP A x kind c arg past) = fun _ _ _ => noP 1 := by
  funext x g c
  unfold charsP TimesK at *
  try dsimp only
  rw [if_neg h1, if_neg h2, if_neg (by omega), if_neg (by omega), if_neg (by omega), if_neg (by omega), if_neg (by omega), if_neg (by omega)]
 rw [e]
 exact timed_const 1 (by decide)
theorem row_place {i : Nat} (h : i < lnN A) (c : Int) : rowI A (placeR A i c : Int) false = i := by
 have hb := lnN_bounds A
 unfold rowI
 rw [if_neg (by decide), ofI_place (by omega)]; omega
theorem row_placeP (A : List Int) (line col : Int) : rowI A (placeP A line col false : Int) false = lineI A line := by
 unfold placeP
 exact row_place (lineI_le A line).1 _
theorem timed_rows (A : List Int) {kind : Int} (hk : TimesK kind) : Timed fun x g c => rowsP A x g kind c := by
 have hb := lnN_bounds A
 have hcl : ∀ x : Int, rowI A (clampP A x false : Int) false < lnN A := fun x => rowI_lt A _
 have cl2 : ∀ (i : Nat) (c : Int), i < lnN A → rowI A (clampP A (placeR A i c : Int) false : Int) false = i := fun i c h => by rw [clamp_row, row_place h]
 have cl3 : ∀ (l c : Int), rowI A (clampP A (placeP A l c false : Int) false : Int) false = lineI A l := fun l c => by rw [clamp_row, row_placeP]
 have downF : ∀ x (k : Nat), 1 ≤ k → (fun (i k : Nat) => if i = lnN A - 1 then none else some (min (i + k) (lnN A - 1))) (rowI A (clampP A x false : Int) false) (k + 1) = ((fun (i k : Nat) => if i = lnN A - 1 then none else some (min (i + k) (lnN A - 1))) (rowI A (clampP A x false : Int) false) 1).bind fun q => some (((fun (i k : Nat) => if i = lnN A - 1 then none else some (min (i + k) (lnN A - 1))) q k).getD q) := fun x k hk => by
  have := hcl x
  try dsimp only
  split
  ·rfl
  ·rw [Option.bind_some]
   try dsimp only
   split
   ·rw [Option.getD_none]; congr 1; omega
   ·rw [Option.getD_some]; congr 1; omega
 have upF : ∀ x (k : Nat), 1 ≤ k → (fun (i k : Nat) => if i = 0 then none else some (i - k)) (rowI A (clampP A x false : Int) false) (k + 1) = ((fun (i k : Nat) => if i = 0 then none else some (i - k)) (rowI A (clampP A x false : Int) false) 1).bind fun q => some (((fun (i k : Nat) => if i = 0 then none else some (i - k)) q k).getD q) := fun x k hk => by
  try dsimp only
  split
  ·rfl
  ·rw [Option.bind_some]
   try dsimp only
   split
   ·rw [Option.getD_none]; congr 1; omega
   ·rw [Option.getD_some]; congr 1; omega
 have ln1 : ∀ (i k : Nat), i < lnN A → lineI A ((i : Int) + k) = min (i + k) (lnN A - 1) := fun i k h => by unfold lineI; omega
 have ln2 : ∀ (i k : Nat), i < lnN A → lineI A ((i : Int) - k) = i - k := fun i k h => by unfold lineI; omega
 have ln3 : ∀ (i : Nat), i < lnN A → lineI A (i : Int) = i := fun i h => by unfold lineI; omega
 have plc : ∀ (l : Int) (i : Nat) (g : Int), lineI A l = i → i < lnN A → placeP A l g false = placeP A (i : Int) g false := fun l i g h hi => by unfold placeP; rw [h, ln3 i hi]
 by_cases h1 : kind = 11
 ·subst h1
  have e : ∀ x g c, rowsP A x g 11 c = if rowI A (clampP A x false : Int) false = lnN A - 1 then noP 80 else toRowP A ((rowI A (clampP A x false : Int) false : Nat) + (kOf c : Int)) (max g 0) := fun x g c => by
   unfold rowsP; dsimp only; rw [if_pos rfl]
  refine timed_of (fun x => rowI A (clampP A x false : Int) false) (fun i k => if i = lnN A - 1 then none else some (min (i + k) (lnN A - 1))) (fun g => max g 0) (fun g q => placeP A (q : Int) g false) (fun x g c d h => ?_) (fun x g c h => ?_) (fun x g c q h => ?_) downF
  ·(try dsimp only); rw [e, e, h]
  ·(try dsimp only at h ⊢); rw [e]
   split at h
   ·rename_i h0; exact if_pos h0
   ·cases h
  ·try dsimp only at h ⊢
   split at h
   ·cases h
   ·rename_i h0
    cases h
    have := hcl x
    rw [e, if_neg h0]
    refine ⟨rfl, ?_, ?_, ?_⟩
    ·show ((placeP A _ (max g 0) false : Nat) : Int) = _
     rw [plc _ _ _ (ln1 _ _ this) (by omega)]
    ·rw [cl3, ln3 _ (by omega)]
    ·show max (max g 0) 0 = max g 0
     omega
 by_cases h2 : kind = 12
 ·subst h2
  have e : ∀ x g c, rowsP A x g 12 c = if rowI A (clampP A x false : Int) false = 0 then noP 80 else toRowP A ((rowI A (clampP A x false : Int) false : Nat) - (kOf c : Int)) (max g 0) := fun x g c => by
   unfold rowsP; dsimp only; rw [if_neg (by decide), if_pos rfl]
  refine timed_of (fun x => rowI A (clampP A x false : Int) false) (fun i k => if i = 0 then none else some (i - k)) (fun g => max g 0) (fun g q => placeP A (q : Int) g false) (fun x g c d h => ?_) (fun x g c h => ?_) (fun x g c q h => ?_) upF
  ·(try dsimp only); rw [e, e, h]
  ·(try dsimp only at h ⊢); rw [e]
   split at h
   ·rename_i h0; exact if_pos h0
   ·cases h
  ·try dsimp only at h ⊢
   split at h
   ·cases h
   ·rename_i h0
    cases h
    have := hcl x
    rw [e, if_neg h0]
    refine ⟨rfl, ?_, ?_, ?_⟩
    ·show ((placeP A _ (max g 0) false : Nat) : Int) = _
     rw [plc _ _ _ (ln2 _ _ this) (by omega)]
    ·rw [cl3, ln3 _ (by omega)]
    ·show max (max g 0) 0 = max g 0
     omega
 by_cases h3 : kind = 13
 ·subst h3
  have e : ∀ x g c, rowsP A x g 13 c = if rowI A (clampP A x false : Int) false = lnN A - 1 then noP 80 else toSignP A ((rowI A (clampP A x false : Int) false : Nat) + (kOf c : Int)) := fun x g c => by
   unfold rowsP; dsimp only; rw [if_neg (by decide), if_neg (by decide), if_pos rfl]
  refine timed_of (fun x => rowI A (clampP A x false : Int) false) (fun i k => if i = lnN A - 1 then none else some (min (i + k) (lnN A - 1))) (fun g => 0) (fun g q => placeR A q (signR A q)) (fun x g c d h => ?_) (fun x g c h => ?_) (fun x g c q h => ?_) downF
  ·(try dsimp only); rw [e, e, h]
  ·(try dsimp only at h ⊢); rw [e]
   split at h
   ·rename_i h0; exact if_pos h0
   ·cases h
  ·try dsimp only at h ⊢
   split at h
   ·cases h
   ·rename_i h0
    cases h
    have := hcl x
    rw [e, if_neg h0]
    refine ⟨rfl, ?_, ?_, rfl⟩
    ·show ((placeR A (lineI A _) (signR A (lineI A _)) : Nat) : Int) = _
     rw [ln1 _ _ this]
    ·rw [cl2 _ _ (by omega)]
 by_cases h4 : kind = 14
 ·subst h4
  have e : ∀ x g c, rowsP A x g 14 c = if rowI A (clampP A x false : Int) false = 0 then noP 80 else toSignP A ((rowI A (clampP A x false : Int) false : Nat) - (kOf c : Int)) := fun x g c => by
   unfold rowsP; dsimp only; rw [if_neg (by decide), if_neg (by decide), if_neg (by decide), if_pos rfl]
  refine timed_of (fun x => rowI A (clampP A x false : Int) false) (fun i k => if i = 0 then none else some (i - k)) (fun g => 0) (fun g q => placeR A q (signR A q)) (fun x g c d h => ?_) (fun x g c h => ?_) (fun x g c q h => ?_) upF
  ·(try dsimp only); rw [e, e, h]
  ·(try dsimp only at h ⊢); rw [e]
   split at h
   ·rename_i h0; exact if_pos h0
   ·cases h
  ·try dsimp only at h ⊢
   split at h
   ·cases h
   ·rename_i h0
    cases h
    have := hcl x
    rw [e, if_neg h0]
    refine ⟨rfl, ?_, ?_, rfl⟩
    ·show ((placeR A (lineI A _) (signR A (lineI A _)) : Nat) : Int) = _
     rw [ln2 _ _ this]
    ·rw [cl2 _ _ (by omega)]
 have e : (fun (x : Int) (g : Int) (c : Int) => rowsP A x g kind c) = fun _ _ _ => noP 1 := by
  funext x g c
  unfold rowsP TimesK at *
  try dsimp only
  rw [if_neg h1, if_neg h2, if_neg h3, if_neg h4, if_neg (by omega), if_neg (by omega), if_neg (by omega), if_neg (by omega)]
 rw [e]
 exact timed_const 1 (by decide)
theorem last_plc (A : List Int) : Plc A (lnN A - 1, (rowC A (lnN A - 1)).length - 1) ∧ offP A (lnN A - 1, (rowC A (lnN A - 1)).length - 1) = lastPl A := by
 have hb := lnN_bounds A
 refine ⟨⟨by dsimp only; omega, by dsimp only; omega⟩, ?_⟩
 unfold offP lastPl
 try dsimp only
 rcases Nat.eq_zero_or_pos (rowC A (lnN A - 1)).length with u | u
 ·rw [u]
  exact (placeR_neg (by omega)).symm
 ·congr 1; omega
theorem plc_last {p : Nat × Nat} (h : Plc A p) : offP A p ≤ lastPl A := by
 obtain ⟨h1, h2⟩ := last_plc A
 have hr := h.row; have hc := h.col
 by_cases he : p = (lnN A - 1, (rowC A (lnN A - 1)).length - 1)
 ·rw [he, h2]; exact Nat.le_refl _
 ·rw [← h2]
  refine Nat.le_of_lt (off_lt h.on h1.on ?_)
  try dsimp only
  rcases Nat.lt_or_ge p.1 (lnN A - 1) with u | u
  ·exact .inl u
  ·have hp : p.1 = lnN A - 1 := by omega
   rw [hp] at hc
   refine .inr ⟨hp, ?_⟩
   have : p.2 ≠ (rowC A (lnN A - 1)).length - 1 := fun h => he (Prod.ext hp h)
   omega
theorem marks_rise (A : List Int) (f : Nat × Nat → Bool) : (marksP A f).Pairwise (· < ·) := by
 unfold marksP
 rw [List.pairwise_map]
 exact (all_rise A).filter _
theorem marks_last {f : Nat × Nat → Bool} {m : Nat} (h : m ∈ marksP A f) : m ≤ lastPl A := by
 obtain ⟨p, hp, rfl⟩ := List.mem_map.1 h
 exact plc_last (mem_all.1 (List.mem_filter.1 hp).1)
theorem last_end (A : List Int) : lastPl A ≤ (rowL A (lnN A - 1)).to_ := by
 have hb := lnN_bounds A
 exact (placeR_in (by omega) _).2
theorem timed_fore {M : List Nat} {last : Nat} {past : Bool} {f : Int → Int → Int → Ld} (hM : M.Pairwise (· < ·)) (hl : ∀ m ∈ M, m ≤ last) (hs : ∀ m ∈ M, Stand A m past) (hsl : Stand A last past)
  (hc : ∀ x g c d, kOf c = kOf d → f x g c = f x g d)
  (hf : ∀ x g c, (foreN M last (clampP A x past) (kOf c) = none → f x g c = noP 80) ∧ ∀ q, foreN M last (clampP A x past) (kOf c) = some q → ∃ kd, f x g c = landP A q kd) : Timed f := by
 refine timed_of (fun x => clampP A x past) (foreN M last) (fun _ => 0) (fun _ q => q) hc (fun x g c h => (hf x g c).1 h) (fun x g c q h => ?_) (fun x k hk => fore_step hM hl _ k hk)
 obtain ⟨kd, e⟩ := (hf x g c).2 q h
 rw [e]
 refine ⟨rfl, rfl, ?_, rfl⟩
 unfold foreN at h
 split at h
 ·cases h
 ·have h := Option.some.inj h
  have : Stand A q past := by
   rw [← h]
   cases ha : afterL M (clampP A x past + 1) (kOf c) with
   | none => exact hsl
   | some m => exact hs m (after_mem ha)
  exact this.clamp
theorem timed_back {M : List Nat} {φ : Nat → Nat} {past : Bool} {f : Int → Int → Int → Ld} (hM : M.Pairwise (· < ·)) (hφ : ∀ m ∈ M, φ m = m) (hs : ∀ m ∈ M, Stand A m past)
  (hc : ∀ x g c d, kOf c = kOf d → f x g c = f x g d)
  (hf : ∀ x g c, (backN M φ (clampP A x past) (kOf c) = none → f x g c = noP 80) ∧ ∀ q, backN M φ (clampP A x past) (kOf c) = some q → ∃ kd, f x g c = landP A q kd) : Timed f := by
 refine timed_of (fun x => clampP A x past) (backN M φ) (fun _ => 0) (fun _ q => q) hc (fun x g c h => (hf x g c).1 h) (fun x g c q h => ?_) (fun x k hk => back_step hM hφ _ k hk)
 obtain ⟨kd, e⟩ := (hf x g c).2 q h
 rw [e]
 refine ⟨rfl, rfl, ?_, rfl⟩
 unfold backN at h
 split at h
 ·cases h
 ·have h := Option.some.inj h
  have : Stand A q past := by
   rw [← h]
   cases ha : beforeL M (φ (clampP A x past)) (kOf c) with
   | none => exact stand_zero A past
   | some m => exact hs m (before_mem ha)
  exact this.clamp
theorem timed_words (A : List Int) {kind : Int} (past : Bool) (hk : TimesK kind) : Timed fun x _ c => wordsM A x kind c past := by
 have hdep : ∀ x (g : Int) c d, kOf c = kOf d → (fun x (_ : Int) c => wordsM A x kind c past) x g c = (fun x (_ : Int) c => wordsM A x kind c past) x g d := fun x g c d h => by
  dsimp only; unfold wordsM; rw [h]
 have hb := lnN_bounds A
 have hend : Stand A (if past then (rowL A (lnN A - 1)).to_ else lastPl A) past := by
  cases past with
  | true =>
   rw [if_pos rfl]
   have := stand_place (A := A) (i := lnN A - 1) (by omega) ((rowC A (lnN A - 1)).length : Int)
   rwa [placeR_ge (by omega)] at this
  | false => exact stand_last A false
 have hlast : ∀ (f : Nat × Nat → Bool) m, m ∈ marksP A f → m ≤ (if past then (rowL A (lnN A - 1)).to_ else lastPl A) := fun f m hm => by
  have h1 := marks_last hm
  have h2 := last_end A
  split <;> omega
 have fore : ∀ (M : List Nat) (last : Nat) (kd : Int) (x g c : Int), wordsM A x kind c past = (if (afterL M (clampP A x past + 1) (kOf c)).getD last ≤ clampP A x past then noP 80 else landP A ((afterL M (clampP A x past + 1) (kOf c)).getD last) kd) → (foreN M last (clampP A x past) (kOf c) = none → wordsM A x kind c past = noP 80) ∧ ∀ q, foreN M last (clampP A x past) (kOf c) = some q → ∃ kd, wordsM A x kind c past = landP A q kd := fun M last kd x g c e => by
  rw [e]; unfold foreN
  split
  ·exact ⟨fun _ => rfl, fun q hq => by cases hq⟩
  ·exact ⟨fun h => (by cases h), fun q hq => ⟨kd, by cases hq; rfl⟩⟩
 have back : ∀ (M : List Nat) (kd : Int) (x g c : Int), wordsM A x kind c past = (if clampP A x past = 0 then noP 80 else landP A ((beforeL M (clampP A x past) (kOf c)).getD 0) kd) → (backN M id (clampP A x past) (kOf c) = none → wordsM A x kind c past = noP 80) ∧ ∀ q, backN M id (clampP A x past) (kOf c) = some q → ∃ kd, wordsM A x kind c past = landP A q kd := fun M kd x g c e => by
  rw [e]; unfold backN
  split
  ·exact ⟨fun _ => rfl, fun q hq => by cases hq⟩
  ·exact ⟨fun h => (by cases h), fun q hq => ⟨kd, by cases hq; rfl⟩⟩
 by_cases h1 : kind = 21 ∨ kind = 25
 ·refine timed_fore (A := A) (past := past) (marks_rise A (begB A (decide ((25 ≤ kind ∧ kind ≤ 28) ∨ kind = 30)))) (hlast _) (fun m hm => stand_mark hm past) hend hdep fun x g c => fore _ _ 0 x g c ?_
  unfold wordsM; dsimp only; rw [if_pos h1]
 by_cases h2 : kind = 22 ∨ kind = 26
 ·refine timed_back (A := A) (past := past) (φ := id) (marks_rise A (begB A (decide ((25 ≤ kind ∧ kind ≤ 28) ∨ kind = 30)))) (fun _ _ => rfl) (fun m hm => stand_mark hm past) hdep fun x g c => back _ 0 x g c ?_
  unfold wordsM; dsimp only; rw [if_neg h1, if_pos h2]
 by_cases h3 : kind = 23 ∨ kind = 27
 ·refine timed_fore (A := A) (past := past) (marks_rise A (endN A (decide ((25 ≤ kind ∧ kind ≤ 28) ∨ kind = 30)))) (fun m hm => marks_last hm) (fun m hm => stand_mark hm past) (stand_last A past) hdep fun x g c => fore _ _ 1 x g c ?_
  unfold wordsM; dsimp only; rw [if_neg h1, if_neg h2, if_pos h3]
 by_cases h4 : kind = 24 ∨ kind = 28
 ·refine timed_back (A := A) (past := past) (φ := id) (marks_rise A (endB A (decide ((25 ≤ kind ∧ kind ≤ 28) ∨ kind = 30)))) (fun _ _ => rfl) (fun m hm => stand_mark hm past) hdep fun x g c => back _ 1 x g c ?_
  unfold wordsM; dsimp only; rw [if_neg h1, if_neg h2, if_neg h3, if_pos h4]
 have e : (fun (x : Int) (_ : Int) (c : Int) => wordsM A x kind c past) = fun _ _ _ => noP 1 := by
  funext x g c
  unfold wordsM
  unfold TimesK at hk
  try dsimp only
  rw [if_neg h1, if_neg h2, if_neg h3, if_neg h4, if_neg (by omega)]
 rw [e]
 exact timed_const 1 (by decide)
noncomputable def rowM (A : List Int) (L : List Nat) (P : Nat → Bool) : List Nat := (L.filter P).map fun j => (rowL A j).from_
theorem from_off (A : List Int) {j : Nat} (h : j ≤ brs A) : offP A (j, 0) = (rowL A j).from_ := placeR_zero h
theorem from_plc {j : Nat} (h : j < lnN A) : Plc A (j, 0) := ⟨h, by dsimp only; omega⟩
theorem rowM_rise {L : List Nat} {P : Nat → Bool} (hL : L.Pairwise (· < ·)) (hn : ∀ j ∈ L, j < lnN A) : (rowM A L P).Pairwise (· < ·) := by
 have hb := lnN_bounds A
 unfold rowM
 rw [List.pairwise_map]
 refine List.Pairwise.imp_of_mem (fun {i j} hi hj hij => ?_) (hL.filter P)
 have h1 := hn i (List.mem_filter.1 hi).1
 have h2 := hn j (List.mem_filter.1 hj).1
 rw [← from_off A (by omega), ← from_off A (by omega)]
 exact off_lt (from_plc h1).on (from_plc h2).on (.inl hij)
theorem rowM_stand {L : List Nat} {P : Nat → Bool} (hn : ∀ j ∈ L, j < lnN A) {m : Nat} (hm : m ∈ rowM A L P) : ∃ j, j < lnN A ∧ m = (rowL A j).from_ ∧ Stand A m false := by
 have hb := lnN_bounds A
 obtain ⟨j, hj, rfl⟩ := List.mem_map.1 hm
 have h1 := hn j (List.mem_filter.1 hj).1
 exact ⟨j, h1, rfl, (j, 0), (from_plc h1).on, from_off A (by omega), fun _ => from_plc h1⟩
theorem rowM_aft (P : Nat → Bool) {i s : Nat} (hi : i < lnN A) (h1 : (rowL A i).from_ ≤ s) (h2 : ∀ j, i < j → j < lnN A → s < (rowL A j).from_) : (rowM A (upL (lnN A) 0) P).filter (fun x => decide (s + 1 ≤ x)) = rowM A (upL (lnN A) i) P := by
 have hb := lnN_bounds A
 have e : upL (lnN A) 0 = List.range' 1 i ++ upL (lnN A) i := by
  unfold upL
  have := @List.range'_append_1 1 i (lnN A - (i + 1))
  rw [Nat.add_comm 1 i] at this
  rw [this]
  congr 1; omega
 unfold rowM
 rw [e, List.filter_append, List.map_append, List.filter_append]
 have a : ((List.range' 1 i).filter P |>.map fun j => (rowL A j).from_).filter (fun x => decide (s + 1 ≤ x)) = [] := by
  rw [List.filter_eq_nil_iff]
  intro x hx
  obtain ⟨j, hj, rfl⟩ := List.mem_map.1 hx
  have hj := (List.mem_filter.1 hj).1
  rw [List.mem_range'_1] at hj
  have : (rowL A j).from_ ≤ (rowL A i).from_ := by
   rcases Nat.lt_or_ge j i with u | u
   ·have := row_next (A := A) u (by omega)
    have := (row_ok (A := A) (i := j) (by omega)).ft
    have := (row_ok (A := A) (i := j) (by omega)).tn
    omega
   ·rw [show j = i by omega]; exact Nat.le_refl _
  simp; omega
 have b : ((upL (lnN A) i).filter P |>.map fun j => (rowL A j).from_).filter (fun x => decide (s + 1 ≤ x)) = ((upL (lnN A) i).filter P).map fun j => (rowL A j).from_ := by
  refine List.filter_eq_self.2 fun x hx => ?_
  obtain ⟨j, hj, rfl⟩ := List.mem_map.1 hx
  have hj := (List.mem_filter.1 hj).1
  unfold upL at hj
  rw [List.mem_range'_1] at hj
  have := h2 j (by omega) (by omega)
  simp; omega
 rw [a, b]; rfl
theorem rowM_bef (P : Nat → Bool) {i : Nat} (hi : i < lnN A) : ((rowM A (List.range (lnN A)) P).filter (fun x => decide (x < (rowL A i).from_))).reverse = rowM A (downL i) P := by
 have hb := lnN_bounds A
 have e : List.range (lnN A) = List.range i ++ List.range' i (lnN A - i) := by
  rw [List.range_eq_range', List.range_eq_range']
  have := @List.range'_append_1 0 i (lnN A - i)
  rw [Nat.zero_add] at this
  rw [this]; congr 1; omega
 have hlt : ∀ j, j < i → (rowL A j).from_ < (rowL A i).from_ := fun j h => by
  rw [← from_off A (by omega), ← from_off A (by omega)]
  exact off_lt (from_plc (by omega)).on (from_plc hi).on (.inl h)
 have hge : ∀ j, i ≤ j → j < lnN A → (rowL A i).from_ ≤ (rowL A j).from_ := fun j h h2 => by
  rcases Nat.lt_or_ge i j with u | u
  ·rw [← from_off A (by omega), ← from_off A (by omega)]
   exact Nat.le_of_lt (off_lt (from_plc hi).on (from_plc h2).on (.inl u))
  ·rw [show j = i by omega]; exact Nat.le_refl _
 unfold rowM downL
 rw [e, List.filter_append, List.map_append, List.filter_append]
 have a : ((List.range' i (lnN A - i)).filter P |>.map fun j => (rowL A j).from_).filter (fun x => decide (x < (rowL A i).from_)) = [] := by
  rw [List.filter_eq_nil_iff]
  intro x hx
  obtain ⟨j, hj, rfl⟩ := List.mem_map.1 hx
  have hj := (List.mem_filter.1 hj).1
  rw [List.mem_range'_1] at hj
  have := hge j (by omega) (by omega)
  simp; omega
 have b : ((List.range i).filter P |>.map fun j => (rowL A j).from_).filter (fun x => decide (x < (rowL A i).from_)) = ((List.range i).filter P).map fun j => (rowL A j).from_ := by
  refine List.filter_eq_self.2 fun x hx => ?_
  obtain ⟨j, hj, rfl⟩ := List.mem_map.1 hx
  have := hlt j (List.mem_range.1 (List.mem_filter.1 hj).1)
  simp; omega
 rw [a, b, List.append_nil, List.filter_reverse, List.map_reverse]
theorem cur_row (A : List Int) (x : Int) : rowI A (clampP A x false : Int) false < lnN A ∧ (rowL A (rowI A (clampP A x false : Int) false)).from_ ≤ clampP A x false ∧ ∀ j, rowI A (clampP A x false : Int) false < j → j < lnN A → clampP A x false < (rowL A j).from_ := by
 obtain ⟨o1, o2, o3⟩ := pos_is A x false
 have hb := lnN_bounds A
 have hlt := rowI_lt A (clampP A x false : Int)
 rw [clamp_row] at hlt ⊢
 have h1 : (posP A x false).1 = rowI A x false := rfl
 refine ⟨hlt, ?_, fun j h1 h2 => ?_⟩
 ·rw [← o2]
  exact (placeR_in o1.row _).1
 ·rw [← o2, ← from_off A (by omega)]
  exact off_lt o1 (from_plc h2).on (.inl h1)
theorem timed_paras (A : List Int) {kind : Int} (hk : TimesK kind) : Timed fun x _ c => parasM A x kind c := by
 have hdep : ∀ x (g : Int) c d, kOf c = kOf d → (fun x (_ : Int) c => parasM A x kind c) x g c = (fun x (_ : Int) c => parasM A x kind c) x g d := fun x g c d h => by
  dsimp only; unfold parasM; rw [h]
 have hb := lnN_bounds A
 by_cases h1 : kind = 31
 ·have hup : ∀ j ∈ upL (lnN A) 0, j < lnN A := fun j hj => by unfold upL at hj; rw [List.mem_range'_1] at hj; omega
  refine timed_fore (A := A) (past := false) (M := rowM A (upL (lnN A) 0) fun j => blankR A j && !blankR A (j - 1)) (last := lastPl A) (rowM_rise (by unfold upL; exact List.pairwise_lt_range') hup) (fun m hm => ?_) (fun m hm => (rowM_stand hup hm).choose_spec.2.2) (stand_last A false) hdep fun x g c => ?_
  ·obtain ⟨j, hj, rfl, _⟩ := rowM_stand hup hm
   rw [← from_off A (by omega)]
   exact plc_last (from_plc hj)
  ·obtain ⟨c1, c2, c3⟩ := cur_row A x
   have hls : clampP A x false ≤ lastPl A := by
    obtain ⟨_, o2, o3⟩ := pos_is A x false
    rw [← o2]; exact plc_last (o3 rfl)
   unfold foreN afterL parasM
   try dsimp only
   rw [rowM_aft _ c1 c2 c3, if_pos h1]
   unfold rowM
   rw [List.getElem?_map]
   cases hj : ((upL (lnN A) (rowI A (clampP A x false : Int) false)).filter fun j => blankR A j && !blankR A (j - 1))[kOf c - 1]? with
   | none =>
    dsimp only [Option.map_none, Option.getD_none]
    by_cases he : lastPl A = clampP A x false
    ·rw [if_pos (by omega), if_pos he]
     exact ⟨fun _ => rfl, fun q hq => by cases hq⟩
    ·rw [if_neg (by omega), if_neg he]
     exact ⟨fun h => (by cases h), fun q hq => ⟨1, by cases hq; rfl⟩⟩
   | some j =>
    dsimp only [Option.map_some, Option.getD_some]
    have hm := (List.mem_filter.1 (List.mem_of_getElem? hj)).1
    unfold upL at hm
    rw [List.mem_range'_1] at hm
    rw [if_neg (by have := c3 j (by omega) (by omega); omega)]
    exact ⟨fun h => (by cases h), fun q hq => ⟨0, by cases hq; rfl⟩⟩
 by_cases h2 : kind = 32
 ·have hup : ∀ j ∈ List.range (lnN A), j < lnN A := fun j hj => List.mem_range.1 hj
  refine timed_back (A := A) (past := false) (M := rowM A (List.range (lnN A)) fun j => blankR A j && !blankR A (j + 1)) (φ := fun s => (rowL A (rowI A (s : Int) false)).from_) (rowM_rise List.pairwise_lt_range hup) (fun m hm => ?_) (fun m hm => (rowM_stand hup hm).choose_spec.2.2) hdep fun x g c => ?_
  ·obtain ⟨j, hj, rfl, _⟩ := rowM_stand hup hm
   try dsimp only
   have := row_place hj 0
   rw [placeR_zero (by omega)] at this
   rw [this]
  ·obtain ⟨c1, c2, c3⟩ := cur_row A x
   unfold backN beforeL parasM
   try dsimp only
   rw [rowM_bef _ c1, if_neg h1, if_pos h2]
   unfold rowM
   rw [List.getElem?_map]
   cases hj : ((downL (rowI A (clampP A x false : Int) false)).filter fun j => blankR A j && !blankR A (j + 1))[kOf c - 1]? with
   | none =>
    dsimp only [Option.map_none, Option.getD_none]
    by_cases he : clampP A x false = 0
    ·rw [if_pos he, if_pos he]
     exact ⟨fun _ => rfl, fun q hq => by cases hq⟩
    ·rw [if_neg he, if_neg he]
     exact ⟨fun h => (by cases h), fun q hq => ⟨0, by cases hq; rfl⟩⟩
   | some j =>
    dsimp only [Option.map_some, Option.getD_some]
    have hm := (List.mem_filter.1 (List.mem_of_getElem? hj)).1
    unfold downL at hm
    rw [List.mem_reverse, List.mem_range] at hm
    have h0 : (rowL A j).from_ < (rowL A (rowI A (clampP A x false : Int) false)).from_ := by
     rw [← from_off A (by omega), ← from_off A (by omega)]
     exact off_lt (from_plc (by omega)).on (from_plc c1).on (.inl hm)
    rw [if_neg (by omega)]
    exact ⟨fun h => (by cases h), fun q hq => ⟨0, by cases hq; rfl⟩⟩
 have e : (fun (x : Int) (_ : Int) (c : Int) => parasM A x kind c) = fun _ _ _ => noP 1 := by
  funext x g c
  unfold parasM
  unfold TimesK at hk
  try dsimp only
  rw [if_neg h1, if_neg h2, if_neg (by omega)]
 rw [e]
 exact timed_const 1 (by decide)
end Mot
namespace Mot
variable {A : List Int} {i : Nat}
noncomputable def rowB (A : List Int) (i : Nat) : List Int := (A.drop (rowL A i).from_).take ((rowL A i).to_ - (rowL A i).from_)
noncomputable def bndR (A : List Int) (i j : Nat) : Nat := placeR A i (j : Int) - (rowL A i).from_
theorem rowB_length (h : i ≤ brs A) : (rowB A i).length = (rowL A i).to_ - (rowL A i).from_ := rowB_len h
theorem rowC_cuts (A : List Int) (i : Nat) : (rowC A i).length + 1 = (cuts (rowB A i)).length := by
 have h1 : (rowC A i).length = (cuts (rowB A i)).length - 1 := cels_len _ _
 have h2 := cuts_pos (rowB A i)
 omega
theorem row_cuts (h : i ≤ brs A) : cuts (rowB A i) = (List.range ((rowC A i).length + 1)).map (bndR A i) := by
 have hn := rowC_cuts A i
 refine List.ext_getElem? fun j => ?_
 rw [List.getElem?_map]
 rcases Nat.lt_or_ge j (rowC A i).length with hj | hj
 ·obtain ⟨c, hc⟩ := cel_get hj
  obtain ⟨ci, cj, g1, _, q⟩ := lineC_at (row_ok h).ft (by have := (row_ok h).tn; have := (row_ok h).nl; omega) hc
  have g1 : (cuts (rowB A i))[j]? = some ci := g1
  rw [g1, List.getElem?_range (by omega)]
  show some ci = some (bndR A i j)
  unfold bndR
  rw [placeR_lt hj, frm_of hc, q.from_]
  congr 1; omega
 ·rcases Nat.lt_or_ge (rowC A i).length j with u | u
  ·rw [List.getElem?_eq_none (by omega), List.getElem?_eq_none (by rw [List.length_range]; omega)]; rfl
  ·have hjn : j = (rowC A i).length := by omega
   have hl := cuts_last (rowB A i)
   rw [← hn, Nat.add_sub_cancel] at hl
   rw [hjn, hl, List.getElem?_range (by omega)]
   show some _ = some (bndR A i _)
   unfold bndR
   rw [placeR_ge (by omega), rowB_length h]
theorem bnd_lt (h : i ≤ brs A) {c d : Nat} (hcd : c < d) (hd : d ≤ (rowC A i).length) : bndR A i c < bndR A i d := by
 have := placeR_mono h hcd hd
 have := (placeR_in h (c : Int)).1
 unfold bndR; omega
theorem bnd_place (h : i ≤ brs A) (c : Nat) : (rowL A i).from_ + bndR A i c = placeR A i (c : Int) := by
 have := (placeR_in h (c : Int)).1
 unfold bndR; omega
theorem bnd_bk (h : i ≤ brs A) {c : Nat} (hc : c ≤ (rowC A i).length) : bk (rowB A i) (bndR A i c) = true := by
 rw [← mem_cuts, row_cuts h]
 exact List.mem_map.2 ⟨c, List.mem_range.2 (by omega), rfl⟩
theorem bnd_atom (h : i ≤ brs A) {j : Nat} (hj : j < (rowC A i).length) : (rowB A i)[bndR A i j]? = ((rowC A i)[j]?).map (·.atom) := by
 obtain ⟨c, hc⟩ := cel_get hj
 obtain ⟨ci, cj, _, _, q⟩ := lineC_at (row_ok h).ft (by have := (row_ok h).tn; have := (row_ok h).nl; omega) hc
 have h1 := q.from_; have h2 := q.to_; have h3 := q.lt; have h4 := q.le
 have hb : bndR A i j = ci := by
  unfold bndR
  rw [placeR_lt hj, frm_of hc]; omega
 rw [hb, hc]
 unfold rowB
 rw [List.getElem?_take, if_pos (by omega), List.getElem?_drop, ← h1]
 exact q.atom
end Mot
namespace Mot
variable {A : List Int}
theorem chars_seek (A : List Int) (x count arg : Int) (past : Bool) :
  charsP A x 7 count arg past = (match seekL (rowC A (posP A x past).1) arg (upL (rowC A (posP A x past).1).length (posP A x past).2) (kOf count) with | none => noP 80 | some j => landP A (placeR A (posP A x past).1 (j : Int)) 1) ∧
  charsP A x 9 count arg past = (match seekL (rowC A (posP A x past).1) arg (upL (rowC A (posP A x past).1).length (posP A x past).2) (kOf count) with | none => noP 80 | some j => landP A (placeR A (posP A x past).1 ((j : Int) - 1)) 1) ∧
  charsP A x 8 count arg past = (match seekL (rowC A (posP A x past).1) arg (downL (posP A x past).2) (kOf count) with | none => noP 80 | some j => landP A (placeR A (posP A x past).1 (j : Int)) 0) ∧
  charsP A x 10 count arg past = (match seekL (rowC A (posP A x past).1) arg (downL (posP A x past).2) (kOf count) with | none => noP 80 | some j => landP A (placeR A (posP A x past).1 ((j : Int) + 1)) 0) := by
 have hr := clamp_row A x past
 refine ⟨?_, ?_, ?_, ?_⟩
 ·unfold charsP posP
  dsimp only
  rw [hr, if_neg (by decide), if_neg (by decide), if_neg (by decide), if_neg (by decide), if_neg (by decide), if_neg (by decide), if_pos (by decide)]
  all_goals (cases seekL (rowC A (rowI A x past)) arg (upL (rowC A (rowI A x past)).length (firstI (rowC A (rowI A x past)) (clampP A x past : Int))) (kOf count) <;> rfl)
 ·unfold charsP posP
  dsimp only
  rw [hr, if_neg (by decide), if_neg (by decide), if_neg (by decide), if_neg (by decide), if_neg (by decide), if_neg (by decide), if_pos (by decide)]
  all_goals (cases seekL (rowC A (rowI A x past)) arg (upL (rowC A (rowI A x past)).length (firstI (rowC A (rowI A x past)) (clampP A x past : Int))) (kOf count) <;> rfl)
 ·unfold charsP posP
  dsimp only
  rw [hr, if_neg (by decide), if_neg (by decide), if_neg (by decide), if_neg (by decide), if_neg (by decide), if_neg (by decide), if_neg (by decide), if_pos (by decide)]
  all_goals (cases seekL (rowC A (rowI A x past)) arg (downL (firstI (rowC A (rowI A x past)) (clampP A x past : Int))) (kOf count) <;> rfl)
 ·unfold charsP posP
  dsimp only
  rw [hr, if_neg (by decide), if_neg (by decide), if_neg (by decide), if_neg (by decide), if_neg (by decide), if_neg (by decide), if_neg (by decide), if_pos (by decide)]
  all_goals (cases seekL (rowC A (rowI A x past)) arg (downL (firstI (rowC A (rowI A x past)) (clampP A x past : Int))) (kOf count) <;> rfl)
end Mot
namespace Mot
variable {A : List Int} {p q : Nat × Nat}
noncomputable def foreW (A : List Int) (f : Nat × Nat → Bool) (p : Nat × Nat) (k : Nat) : Option (Nat × Nat) := ((aft A p).filter f)[k - 1]?
noncomputable def backW (A : List Int) (f : Nat × Nat → Bool) (p : Nat × Nat) (k : Nat) : Option (Nat × Nat) := ((bef A p).filter f)[k - 1]?
theorem foreW_none {f : Nat × Nat → Bool} {k : Nat} (h : nextW A p = none) : foreW A f p k = none := by unfold foreW; rw [aft_none h]; rfl
theorem foreW_no {f : Nat × Nat → Bool} {k : Nat} (h : nextW A p = some q) (hf : f q = false) : foreW A f p k = foreW A f q k := by
 unfold foreW; rw [aft_some h, List.filter_cons_of_neg (by rw [hf]; decide)]
theorem foreW_one {f : Nat × Nat → Bool} (h : nextW A p = some q) (hf : f q = true) : foreW A f p 1 = some q := by
 unfold foreW; rw [aft_some h, List.filter_cons_of_pos hf]; rfl
theorem foreW_more {f : Nat × Nat → Bool} {k : Nat} (h : nextW A p = some q) (hf : f q = true) (hk : 1 ≤ k) : foreW A f p (k + 1) = foreW A f q k := by
 unfold foreW; rw [aft_some h, List.filter_cons_of_pos hf]
 obtain ⟨j, rfl⟩ : ∃ j, k = j + 1 := ⟨k - 1, by omega⟩
 rfl
theorem backW_none {f : Nat × Nat → Bool} {k : Nat} (h : prevW A p = none) : backW A f p k = none := by unfold backW; rw [bef_none h]; rfl
theorem backW_no {f : Nat × Nat → Bool} {k : Nat} (h : prevW A p = some q) (hf : f q = false) : backW A f p k = backW A f q k := by
 unfold backW; rw [bef_some h, List.filter_cons_of_neg (by rw [hf]; decide)]
theorem backW_one {f : Nat × Nat → Bool} (h : prevW A p = some q) (hf : f q = true) : backW A f p 1 = some q := by
 unfold backW; rw [bef_some h, List.filter_cons_of_pos hf]; rfl
theorem backW_more {f : Nat × Nat → Bool} {k : Nat} (h : prevW A p = some q) (hf : f q = true) (hk : 1 ≤ k) : backW A f p (k + 1) = backW A f q k := by
 unfold backW; rw [bef_some h, List.filter_cons_of_pos hf]
 obtain ⟨j, rfl⟩ : ∃ j, k = j + 1 := ⟨k - 1, by omega⟩
 rfl
noncomputable def brkF (A : List Int) (p : Nat × Nat) : Option Bk := (brkP A p).map fun b => (p, b)
theorem brks_eq (A : List Int) : brksP A = (allP A).filterMap (brkF A) := rfl
noncomputable def aftB (A : List Int) (p : Nat × Nat) : List Bk := (aft A p).filterMap (brkF A)
noncomputable def befB (A : List Int) (p : Nat × Nat) : List Bk := (bef A p).filterMap (brkF A)
theorem brks_at (h : Plc A p) : brksP A = (befB A p).reverse ++ (p :: aft A p).filterMap (brkF A) := by
 rw [brks_eq, all_split h, List.filterMap_append, List.filterMap_reverse]; rfl
noncomputable def headB (A : List Int) (i : Nat) (p : Nat × Nat) : Option Bk := match ((p :: aft A p).filterMap (brkF A)).head? with
 | none => none
 | some q => if q.1.1 = i then some q else none
theorem headB_here {b : Nat} (h : brkP A p = some b) : headB A p.1 p = some (p, b) := by
 have e : brkF A p = some (p, b) := by unfold brkF; rw [h]; rfl
 unfold headB
 rw [List.filterMap_cons_some e]
 exact if_pos rfl
theorem headB_none {i : Nat} (h : brkP A p = none) (hn : nextW A p = none) : headB A i p = none := by
 have e : brkF A p = none := by unfold brkF; rw [h]; rfl
 unfold headB
 rw [List.filterMap_cons_none e, aft_none hn]; rfl
theorem headB_next {i : Nat} (h : brkP A p = none) (hn : nextW A p = some q) : headB A i p = headB A i q := by
 have e : brkF A p = none := by unfold brkF; rw [h]; rfl
 unfold headB
 rw [List.filterMap_cons_none e, aft_some hn]
theorem brkF_row {x : Bk} {r : Nat × Nat} (h : brkF A r = some x) : x.1 = r := by
 unfold brkF at h
 obtain ⟨b, _, rfl⟩ := Option.map_eq_some_iff.1 h
 rfl
theorem headB_other {i : Nat} (h : i < p.1) : headB A i p = none := by
 unfold headB
 split
 ·rfl
 ·rename_i x hx
  have hm := List.mem_of_mem_head? hx
  obtain ⟨r, hr, he⟩ := List.mem_filterMap.1 hm
  have e := brkF_row he
  refine if_neg ?_
  rw [e]
  rcases List.mem_cons.1 hr with rfl | hr
  ·omega
  ·rcases mem_aft.1 hr with ⟨h1, _⟩ | ⟨h1, _⟩ <;> omega
theorem shut_fore_none {own d : Nat} (h : nextW A p = none) : shutL own (aftB A p) d = none := by unfold aftB; rw [aft_none h]; rfl
theorem shut_fore_skip {own d : Nat} (h : nextW A p = some q) (hb : brkP A q = none) : shutL own (aftB A p) d = shutL own (aftB A q) d := by
 have e : brkF A q = none := by unfold brkF; rw [hb]; rfl
 unfold aftB; rw [aft_some h, List.filterMap_cons_none e]
theorem shut_fore_some {own d b : Nat} (h : nextW A p = some q) (hb : brkP A q = some b) : shutL own (aftB A p) d = if b % 3 ≠ own % 3 then shutL own (aftB A q) d else if b = own then shutL own (aftB A q) (d + 1) else if d = 1 then some q else shutL own (aftB A q) (d - 1) := by
 have e : brkF A q = some (q, b) := by unfold brkF; rw [hb]; rfl
 unfold aftB; rw [aft_some h, List.filterMap_cons_some e, shutL]
theorem shut_back_none {own d : Nat} (h : prevW A p = none) : shutL own (befB A p) d = none := by unfold befB; rw [bef_none h]; rfl
theorem shut_back_skip {own d : Nat} (h : prevW A p = some q) (hb : brkP A q = none) : shutL own (befB A p) d = shutL own (befB A q) d := by
 have e : brkF A q = none := by unfold brkF; rw [hb]; rfl
 unfold befB; rw [bef_some h, List.filterMap_cons_none e]
theorem shut_back_some {own d b : Nat} (h : prevW A p = some q) (hb : brkP A q = some b) : shutL own (befB A p) d = if b % 3 ≠ own % 3 then shutL own (befB A q) d else if b = own then shutL own (befB A q) (d + 1) else if d = 1 then some q else shutL own (befB A q) (d - 1) := by
 have e : brkF A q = some (q, b) := by unfold brkF; rw [hb]; rfl
 unfold befB; rw [bef_some h, List.filterMap_cons_some e, shutL]
theorem drop_at {α : Type} : ∀ (l : List α) {x : α} {r : List α}, (l ++ x :: r).drop (l.length + 1) = r
 | [], _, _ => rfl
 | _ :: l, _, _ => drop_at l
theorem match_walk (h : Plc A p) : matchP A (offP A p) p.1 = (headB A p.1 p).bind fun q => (shutL q.2 (if q.2 < 3 then aftB A q.1 else befB A q.1) 1).map (offP A) := by
 have hl1 : ∀ y ∈ (befB A p).reverse, (fun q : Bk => q.1.1 == p.1 && decide (offP A p ≤ offP A q.1)) y = false := fun y hy => by
  rw [List.mem_reverse] at hy
  obtain ⟨r, hr, he⟩ := List.mem_filterMap.1 hy
  have := bef_off h.on hr
  dsimp only
  rw [brkF_row he, Bool.and_eq_false_iff, decide_eq_false_iff_not]
  exact .inr (by omega)
 have hge : ∀ y ∈ (p :: aft A p).filterMap (brkF A), offP A p ≤ offP A y.1 ∧ p.1 ≤ y.1.1 := fun y hy => by
  obtain ⟨r, hr, he⟩ := List.mem_filterMap.1 hy
  rw [brkF_row he]
  rcases List.mem_cons.1 hr with rfl | hr
  ·exact ⟨Nat.le_refl _, Nat.le_refl _⟩
  ·refine ⟨Nat.le_of_lt (aft_off h.on hr), ?_⟩
   rcases mem_aft.1 hr with ⟨h1, _⟩ | ⟨h1, _⟩ <;> omega
 have none_of : ∀ {m : Option Nat}, (brksP A).findIdx? (fun q => q.1.1 == p.1 && decide (offP A p ≤ offP A q.1)) = none → matchP A (offP A p) p.1 = none := fun {m} hh => by unfold matchP; rw [hh]
 cases hL : (p :: aft A p).filterMap (brkF A) with
 | nil =>
  have hh : headB A p.1 p = none := by unfold headB; rw [hL]; rfl
  rw [hh]
  refine none_of (m := none) ?_
  rw [brks_at h, hL, List.append_nil, List.findIdx?_eq_none_iff]
  exact hl1
 | cons q r =>
  have hqm : q ∈ (p :: aft A p).filterMap (brkF A) := by rw [hL]; exact List.mem_cons_self
  obtain ⟨g1, g2⟩ := hge q hqm
  have hB : brksP A = (befB A p).reverse ++ q :: r := by rw [brks_at h, hL]
  by_cases hq : q.1.1 = p.1
  ·have hh : headB A p.1 p = some q := by unfold headB; rw [hL]; exact if_pos hq
   rw [hh]
   have hf : (brksP A).findIdx? (fun q => q.1.1 == p.1 && decide (offP A p ≤ offP A q.1)) = some (befB A p).reverse.length := by
    rw [hB]
    exact find_at _ hl1 (by rw [hq, decide_eq_true g1]; simp)
   have hmem : q ∈ brksP A := by rw [hB]; exact List.mem_append_right _ List.mem_cons_self
   obtain ⟨hpl, hbk⟩ := mem_brks hmem
   have eq1 : brkF A q.1 = some q := by unfold brkF; rw [hbk]; rfl
   have hB2 : brksP A = (befB A q.1).reverse ++ q :: aftB A q.1 := by rw [brks_at hpl, List.filterMap_cons_some eq1]; rfl
   have hlen : (befB A p).reverse.length = (befB A q.1).reverse.length := by
    have a1 := (find_own hB).1
    have a2 := (find_own hB2).1
    rw [a1] at a2
    exact Option.some.inj a2
   obtain ⟨s1, s2⟩ := List.append_inj (hB.symm.trans hB2) hlen
   have s3 : r = aftB A q.1 := (List.cons.inj s2).2
   unfold matchP
   rw [hf]
   dsimp only
   have hget : (brksP A)[(befB A p).reverse.length]? = some q := by rw [hB]; simp
   rw [hget, Option.bind_some]
   dsimp only
   have hd : (brksP A).drop ((befB A p).reverse.length + 1) = aftB A q.1 := by rw [hB, ← s3]; exact drop_at _
   have ht : ((brksP A).take (befB A p).reverse.length).reverse = befB A q.1 := by rw [hB, List.take_left, s1, List.reverse_reverse]
   rw [hd, ht]
  ·have hh : headB A p.1 p = none := by unfold headB; rw [hL]; exact if_neg hq
   rw [hh]
   refine none_of (m := none) ?_
   rw [hB, List.findIdx?_eq_none_iff]
   intro y hy
   rcases List.mem_append.1 hy with hy | hy
   ·exact hl1 y hy
   ·have hyr : y.1.1 ≠ p.1 := by
     rcases List.mem_cons.1 hy with rfl | hyr
     ·exact hq
     ·intro he
      have hr := brks_rise A
      rw [hB, List.pairwise_append] at hr
      have h1 := (List.pairwise_cons.1 hr.2.1).1 y hyr
      have hmq : q ∈ brksP A := by rw [hB]; exact List.mem_append_right _ List.mem_cons_self
      have hmy : y ∈ brksP A := by rw [hB]; exact List.mem_append_right _ hy
      have := off_lt_rows (mem_brks hmy).1.on (mem_brks hmq).1.on (by omega)
      omega
    rw [Bool.and_eq_false_iff, beq_eq_false_iff_ne]
    exact .inl hyr
def upF (f : Nat → Bool) (j n k : Nat) : Option Nat := ((List.range' j (n - j)).filter f)[k - 1]?
def dnF (f : Nat → Bool) (j k : Nat) : Option Nat := ((List.range j).reverse.filter f)[k - 1]?
theorem upF_none {f : Nat → Bool} {j n k : Nat} (h : n ≤ j) : upF f j n k = none := by unfold upF; rw [show n - j = 0 by omega]; rfl
theorem up_cons {j n : Nat} (h : j < n) : List.range' j (n - j) = j :: List.range' (j + 1) (n - (j + 1)) := by
 obtain ⟨m, hm⟩ : ∃ m, n - j = m + 1 := ⟨n - j - 1, by omega⟩
 rw [hm, List.range'_succ, show n - (j + 1) = m by omega]
theorem upF_no {f : Nat → Bool} {j n k : Nat} (h : j < n) (hf : f j = false) : upF f j n k = upF f (j + 1) n k := by
 unfold upF; rw [up_cons h, List.filter_cons_of_neg (by rw [hf]; decide)]
theorem upF_one {f : Nat → Bool} {j n : Nat} (h : j < n) (hf : f j = true) : upF f j n 1 = some j := by
 unfold upF; rw [up_cons h, List.filter_cons_of_pos hf]; rfl
theorem upF_more {f : Nat → Bool} {j n k : Nat} (h : j < n) (hf : f j = true) (hk : 1 ≤ k) : upF f j n (k + 1) = upF f (j + 1) n k := by
 unfold upF; rw [up_cons h, List.filter_cons_of_pos hf]
 obtain ⟨i, rfl⟩ : ∃ i, k = i + 1 := ⟨k - 1, by omega⟩
 rfl
theorem dnF_no {f : Nat → Bool} {j k : Nat} (hf : f j = false) : dnF f (j + 1) k = dnF f j k := by
 unfold dnF; rw [List.range_succ, List.reverse_append, List.reverse_singleton, List.singleton_append, List.filter_cons_of_neg (by rw [hf]; decide)]
theorem dnF_one {f : Nat → Bool} {j : Nat} (hf : f j = true) : dnF f (j + 1) 1 = some j := by
 unfold dnF; rw [List.range_succ, List.reverse_append, List.reverse_singleton, List.singleton_append, List.filter_cons_of_pos hf]; rfl
theorem dnF_more {f : Nat → Bool} {j k : Nat} (hf : f j = true) (hk : 1 ≤ k) : dnF f (j + 1) (k + 1) = dnF f j k := by
 unfold dnF; rw [List.range_succ, List.reverse_append, List.reverse_singleton, List.singleton_append, List.filter_cons_of_pos hf]
 obtain ⟨i, rfl⟩ : ∃ i, k = i + 1 := ⟨k - 1, by omega⟩
 rfl
theorem sign_at {i c : Nat} {x : Cel} (hx : (rowC A i)[c]? = some x) (hk : x.kind ≠ 0) (h0 : ∀ (j : Nat) y, j < c → (rowC A i)[j]? = some y → y.kind = 0) : signR A i = c := by
 have hl := (List.getElem?_eq_some_iff.1 hx).1
 have e : (rowC A i).findIdx (fun c => c.kind != 0) = c := by
  rw [List.findIdx_eq hl]
  refine ⟨?_, fun j hj => ?_⟩
  ·rw [List.getElem?_eq_getElem hl] at hx
   rw [Option.some.inj hx]; simpa using hk
  ·have := h0 j _ hj (List.getElem?_eq_getElem (by omega))
   simpa using this
 unfold signR
 rw [e, if_pos hl]
theorem sign_none {i : Nat} (h0 : ∀ (j : Nat) y, (rowC A i)[j]? = some y → y.kind = 0) : signR A i = (rowC A i).length - 1 := by
 have e : (rowC A i).findIdx (fun c => c.kind != 0) = (rowC A i).length := by
  rw [List.findIdx_eq_length]
  intro c hc
  obtain ⟨j, hj⟩ := List.getElem?_of_mem hc
  have := h0 j c hj
  simpa using this
 unfold signR
 rw [e, if_neg (Nat.lt_irrefl _)]
theorem blank_is (A : List Int) (i : Nat) : blankR A i = ((rowC A i).length == 0 || kindB (rowC A i) (signR A i) true == 0) := by
 by_cases h0 : ∀ (j : Nat) y, (rowC A i)[j]? = some y → y.kind = 0
 ·have hb : blankR A i = true := by
   unfold blankR
   rw [List.all_eq_true]
   intro c hc
   obtain ⟨j, hj⟩ := List.getElem?_of_mem hc
   rw [h0 j c hj]; rfl
  rw [hb, sign_none h0]
  rcases Nat.eq_zero_or_pos (rowC A i).length with u | u
  ·rw [u]; rfl
  ·obtain ⟨c, hc⟩ := cel_get (C := rowC A i) (j := (rowC A i).length - 1) (by omega)
   unfold kindB
   rw [hc, if_pos rfl]
   show true = (_ || min c.kind 1 == 0)
   rw [h0 _ c hc]; simp
 ·have hex : ∃ (c : Nat) (x : Cel), (rowC A i)[c]? = some x ∧ x.kind ≠ 0 := Classical.byContradiction fun hn => h0 fun j y hy => Classical.byContradiction fun hk => hn ⟨j, y, hy, hk⟩
  have hf : (rowC A i).findIdx (fun c => c.kind != 0) < (rowC A i).length := by
   obtain ⟨c, x, hx, hk⟩ := hex
   rw [List.findIdx_lt_length]
   exact ⟨x, List.mem_of_getElem? hx, by simpa using hk⟩
  have hs : signR A i = (rowC A i).findIdx (fun c => c.kind != 0) := by unfold signR; rw [if_pos hf]
  have hk := List.findIdx_getElem (w := hf)
  have hb : blankR A i = false := by
   unfold blankR
   rw [List.all_eq_false]
   exact ⟨_, List.getElem_mem hf, by simpa using hk⟩
  rw [hb, hs]
  unfold kindB
  rw [List.getElem?_eq_getElem hf, if_pos rfl]
  have hk2 : ((rowC A i)[(rowC A i).findIdx fun c => c.kind != 0]'hf).kind ≠ 0 := by simpa using hk
  have hn0 : (rowC A i).length ≠ 0 := by omega
  show false = (_ || min _ 1 == 0)
  symm
  rw [Bool.or_eq_false_iff, beq_eq_false_iff_ne, beq_eq_false_iff_ne]
  refine ⟨hn0, ?_⟩
  show min ((rowC A i)[(rowC A i).findIdx fun c => c.kind != 0]'hf).kind 1 ≠ 0
  omega
end Mot
end Go.Proofs.YtolhlldgnfbemaaGreat
namespace Go.Proofs.YtolhlldgnfbemaaGreat
open Go Go.Vx Cdc Trx
section
variable {w w' : World} {S : Nat → Prop} {p : Nat} {e : Enc} {lim na : Nat} {O : Nat → Prop} {M : Parts}
theorem sub_one (A : List Int) (n : Nat) : sub A (n : Int) ((n : Int) + 1) = (A.drop n).take 1 := by
 unfold sub
 have : ((n : Int) + 1).toNat - (n : Int).toNat = 1 := by omega
 rw [this, Int.toNat_natCast]
theorem take_one {A : List Int} {n : Nat} {a : Int} (h : A[n]? = some a) : (A.drop n).take 1 = [a] := by
 rw [List.take_one, List.head?_drop, h]; rfl
theorem take_none {A : List Int} {n : Nat} (h : A[n]? = none) : (A.drop n).take 1 = [] := by
 rw [List.take_one, List.head?_drop, h]; rfl
theorem last_take {A : List Int} {n : Nat} (h0 : 0 < n) (h : n ≤ A.length) : (A.take n).getLast? = A[n - 1]? := by
 rw [List.getLast?_eq_getElem?, List.length_take, List.getElem?_take]
 have : min n A.length = n := by omega
 rw [this, if_pos (by omega)]
theorem atoms_take (l : As) (n : Nat) : atoms (l.take n) = (atoms l).take n := by simp [atoms]
theorem cr_split {L : As} (h : Posd L) {n : Nat} (h0 : 0 < n) (hn : n ≤ L.length) : split13 (atoms L) n = ((msr (L.take n)).cr && ((atoms L)[n]? == some 10)) := by
 have hl : (atoms L).length = L.length := List.length_map _
 rw [msr_cr (h.take n), atoms_take, last_take h0 (by omega)]
 unfold split13
 rw [decide_eq_true h0]
 rfl
theorem breaks_call {at_ : Int} (h : Txt w p e lim na O M) {K : Int → World → Prop} (hK : ∀ w', Ext w w' → K ((nb (atoms (aOf e M)) at_.toNat : Nat) : Int) w') :
  callT Tryz.prog 50 #[.pointer (some (at0 p)), .int .i64 at_] (.one (.one (.int .i64))) K w := by
 refine F50_calls ?_
 unfold F50
 have few := h.few; have lims := h.lims
 have hal : (atoms (aOf e M)).length = (aOf e M).length := List.length_map _
 have hpos := aOf_posd e M
 refine sif_r (fun hc => ?_) (fun hc => ?_)
 ·simp only [decide_eq_true_eq] at hc
  have e0 : at_.toNat = 0 := by omega
  have := hK w (Ext.refl w)
  rw [e0, nb_zero] at this
  exact this
 simp only [decide_eq_false_iff_not] at hc
 obtain ⟨n, rfl⟩ : ∃ n : Nat, at_ = (n : Int) := ⟨at_.toNat, by omega⟩
 rw [Int.toNat_natCast] at hK
 refine len_call h fun w1 e1 => sif_r (fun hg => ?_) (fun hg => ?_)
 ·simp only [decide_eq_true_eq, ge_iff_le] at hg
  obtain ⟨t, ht, hi, hf, rd⟩ := h.tree
  refine rd e1 (tsum_call (ht.ext e1) fun w2 e2 => ?_)
  have := hK w2 (e1.trans e2)
  rw [nb_ge _ _ (by omega), ← msr_breaks hpos, ← hi.tot] at this
  exact this
 simp only [decide_eq_false_iff_not, ge_iff_le] at hg
 have hb : (msr ((aOf e M).take n)).breaks = nb (atoms (aOf e M)) n + (if split13 (atoms (aOf e M)) n then 1 else 0) := by rw [msr_breaks (hpos.take n), atoms_take, brs_take]
 have hsp := cr_split hpos (n := n) (by omega) (by omega)
 have hnl := nb_le (atoms (aOf e M)) n
 refine ahead_call (h.ext e1) (by omega) fun w2 e2 => (St.start w2).newO fun b w3 S3 e3 => S3.aggSt 0 rfl rfl rfl rfl fun w4 S4 u4 => ?_
 have e04 := (e1.trans e2).trans S4.upd
 refine join_r (fun x w' => x = (split13 (atoms (aOf e M)) n, ()) ∧ St (fun _ => False) w2 w' [(b, .cells (Cells.vals c91 (smT (msr ((aOf e M).take n)))).toArray 91 (0, 0))]) ?_ ?_
 ·refine S4.ld 0 rfl (x := (msr ((aOf e M).take n)).cr) rfl (sif_r (fun hr => ?_) (fun hr => ?_))
  ·have ew : IntKind.wrap .i64 ((n : Int) + 1) = (n : Int) + 1 := wrap64 (by omega) (by omega)
   rw [ew]
   refine atoms_call (h.ext e04) fun s w5 o5 e5 => ?_
   obtain ⟨a, ha⟩ : ∃ a, (atoms (aOf e M))[n]? = some a := ⟨_, List.getElem?_eq_getElem (by omega)⟩
   rw [sub_one, take_one ha] at o5
   refine ix_ld (c := .int .i64) (xs := [a]) o5.in (by decide) (x := a) rfl fun p => ⟨?_, S4.ext e5⟩
   rw [hsp, hr, ha]
   rfl
  ·refine ⟨?_, S4⟩
   rw [hsp, hr]; rfl
 ·rintro _ w5 ⟨rfl, S5⟩
  have e05 := (e1.trans e2).trans S5.upd
  refine sif_r (fun hr => S5.ld 0 rfl (x := (((msr ((aOf e M).take n)).breaks : Nat) : Int)) rfl ?_) (fun hr => S5.ld 0 rfl (x := (((msr ((aOf e M).take n)).breaks : Nat) : Int)) rfl ?_)
  ·have hr' : split13 (atoms (aOf e M)) n = true := hr
   rw [hb, hr', wrap64 (by simp only [if_true]; omega) (by simp only [if_true]; omega)]
   have : ((nb (atoms (aOf e M)) n + (if true = true then 1 else 0) : Nat) : Int) - 1 = ((nb (atoms (aOf e M)) n : Nat) : Int) := by simp
   rw [this]; exact hK w5 e05
  ·have hr' : split13 (atoms (aOf e M)) n = false := hr
   rw [hb, hr']
   exact hK w5 e05
theorem least (P : Nat → Prop) [DecidablePred P] : ∀ n, P n → ∃ j, j ≤ n ∧ P j ∧ ∀ i, i < j → ¬ P i := by
 intro n
 induction n using Nat.strongRecOn with
 | ind n ih =>
  intro hn
  by_cases h : ∃ i, i < n ∧ P i
  ·obtain ⟨i, hi, hp⟩ := h
   obtain ⟨j, h1, h2, h3⟩ := ih i hi hp
   exact ⟨j, by omega, h2, h3⟩
  ·exact ⟨n, Nat.le_refl _, hn, fun i hi hp => h ⟨i, hi, hp⟩⟩
theorem brk_mono {l m : As} (h : Posd l) (h' : Posd m) : (msr l).breaks ≤ (msr (l ++ m)).breaks := by
 rw [msr_append h h']
 exact keyOf_mono (k := 1) (msr_ok h) (msr_ok h')
theorem brk_take_mono {L : As} (h : Posd L) {i j : Nat} (hij : i ≤ j) : (msr (L.take i)).breaks ≤ (msr (L.take j)).breaks := by
 obtain ⟨d, rfl⟩ : ∃ d, j = i + d := ⟨j - i, by omega⟩
 rw [List.take_add]
 exact brk_mono (h.take i) ((h.drop i).take d)
def skI (A : List Int) (k : Int) : Int := if k < 0 then -1 else match sk A k.toNat with | some m => (m : Int) | none => -1
set_option maxHeartbeats 1000000 in
theorem seek_call {k : Int} (h : Txt w p e lim na O M) {K : Int → World → Prop} (hK : ∀ w', Ext w w' → K (skI (atoms (aOf e M)) k) w') :
  callT Tryz.prog 66 #[.pointer (some (at0 p)), .int .i64 k] (.one (.one (.int .i64))) K w := by
 refine F66_calls ?_
 unfold F66
 have few := h.few; have lims := h.lims; have hsz := h.sz
 have hal : (atoms (aOf e M)).length = (aOf e M).length := List.length_map _
 have hpos := aOf_posd e M
 obtain ⟨t, ht, hi, hf, rd⟩ := h.tree
 refine sif_r (fun hc => ?_) (fun hc => ?_)
 ·simp only [beq_iff_eq] at hc
  subst hc
  have := hK w (Ext.refl w)
  unfold skI at this
  have e0 : sk (atoms (aOf e M)) 0 = some 0 := by cases atoms (aOf e M) <;> rfl
  rw [if_neg (by decide), show (0 : Int).toNat = 0 by rfl, e0] at this
  exact this
 simp only [beq_eq_false_iff_ne] at hc
 have htb : (tot t.items).breaks = brs (atoms (aOf e M)) := by rw [hi.tot, msr_breaks hpos]
 refine join_r (fun x w' => x = (decide (k < 0) || decide (((brs (atoms (aOf e M)) : Nat) : Int) < k), ()) ∧ Ext w w') ?_ ?_
 ·refine sif_r (fun hn => ⟨by rw [hn]; rfl, Ext.refl w⟩) (fun hn => rd (Ext.refl w) (tsum_call ht fun w1 e1 => ⟨?_, e1⟩))
  rw [hn, Bool.false_or, ← htb]; rfl
 rintro _ w1 ⟨rfl, e1⟩
 refine sif_r (fun hb => ?_) (fun hb => ?_)
 ·have := hK w1 e1
  simp only [Bool.or_eq_true, decide_eq_true_eq] at hb
  unfold skI at this
  by_cases hn : k < 0
  ·rw [if_pos hn] at this; exact this
  ·rw [if_neg hn, sk_none _ _ (by omega)] at this; exact this
 simp only [Bool.or_eq_false_iff, decide_eq_false_iff_not] at hb
 obtain ⟨n, rfl⟩ : ∃ n : Nat, k = (n : Int) := ⟨k.toNat, by omega⟩
 have hn1 : 1 ≤ n := by omega
 have hnb : n ≤ brs (atoms (aOf e M)) := by omega
 have il := hi.len; have fl := hf.few
 have kk : ∀ j, keyOf 1 (tot (t.items.take j)) = (msr (aOf e (M.take j))).breaks := fun j => by
  have := (hi.take j).tot
  show (tot (t.items.take j)).breaks = _
  rw [this]
 obtain ⟨j, hjl, hj1, hj0⟩ := least (fun j => n ≤ keyOf 1 (tot (t.items.take j))) t.items.length (by
  show n ≤ keyOf 1 (tot (t.items.take t.items.length))
  rw [kk, il, List.take_length, msr_breaks hpos]; exact hnb)
 obtain ⟨i, rfl⟩ : ∃ i, j = i + 1 := by
  cases j with
  | zero =>
   have hj1' : n ≤ keyOf 1 (tot (t.items.take 0)) := hj1
   rw [kk, List.take_zero, msr_breaks (aOf_posd e _)] at hj1'
   exact absurd hj1' (by simp [aOf, brs]; omega)
  | succ i => exact ⟨i, rfl⟩
 have hfind : findI 1 n t.items = i + 1 := findI_eq hjl hj1 fun j hj => by have := hj0 j hj; omega
 have hlow : (msr (aOf e (M.take i))).breaks < n := by have := hj0 i (by omega); simp only [kk] at this; omega
 have hhigh : n ≤ (msr (aOf e (M.take (i + 1)))).breaks := by have h2 : n ≤ keyOf 1 (tot (t.items.take (i + 1))) := hj1; rw [kk] at h2; exact h2
 obtain ⟨x, hx⟩ : ∃ x, t.items[i]? = some x := ⟨_, List.getElem?_eq_getElem (by omega)⟩
 obtain ⟨y, hy, hp⟩ := hi.get i hx
 have hM1 : aOf e (M.take (i + 1)) = aOf e (M.take i) ++ ats e y.2 := by
  rw [List.take_add_one, hy, aOf_app]
  show _ ++ aOf e [y] = _
  simp [aOf]
 have hMA : aOf e M = aOf e (M.take (i + 1)) ++ aOf e (M.drop (i + 1)) := by rw [← aOf_app, List.take_append_drop]
 have htkq : ∀ q, q ≤ (ats e y.2).length → (aOf e M).take ((aOf e (M.take i)).length + q) = aOf e (M.take i) ++ (ats e y.2).take q := fun q hq => by
  rw [hMA, hM1, List.append_assoc, List.take_length_add_append, List.take_append_of_le_length hq]
 have hpi := aOf_posd e (M.take i)
 have hpy := ats_posd e y.2
 have hszs : szs (aOf e (M.take i)) + y.2.length ≤ 1048576 := by
  have := congrArg szs hMA
  rw [szs_append, hM1, szs_append, szs_all] at this; omega
 refine rd e1 (find_call (k := 1) (n := n) (by decide) (by omega) (ht.ext e1) hf fun w2 e2 => ?_)
 have ew : IntKind.wrap .i64 (((i + 1 : Nat) : Int) - 1) = (i : Int) := by rw [wrap64 (by omega) (by omega)]; omega
 rw [hfind, ew]
 have e12 := e1.trans e2
 refine rd e12 (upto_call (ht.ext e12) hf (by omega) fun w3 e3 => ?_)
 have e13 := e12.trans e3
 have etk : tot (t.items.take i) = msr (aOf e (M.take i)) := (hi.take i).tot
 rw [etk]
 refine (St.start w3).newO fun b12 w4 S4 e4 => S4.aggSt 0 rfl rfl rfl rfl fun w5 S5 u5 => ?_
 refine rd (e13.trans S5.upd) (at_call (ht.ext (e13.trans S5.upd)) hf (by omega) fun w6 e6 => ?_)
 have e0 : atI t.items i = (x, true) := by unfold atI; rw [hx]
 rw [e0]
 refine (S5.ext e6).newO fun b16 w7 S7 e7 => S7.aggSt 0 rfl rfl rfl rfl fun w8 S8 u8 => ?_
 let Ls : Nat → List (Nat × Obj) := fun q => [(b16, .cells (Cells.vals c93 (pcT x)).toArray 93 (0, 0)), (b12, .cells (Cells.vals c91 (smT (msr (aOf e (M.take i) ++ (ats e y.2).take q)))).toArray 91 (0, 0))]
 have S8' : St (fun _ => False) w3 w8 (Ls 0) := by show St _ _ _ [_, _]; rw [List.take_zero, List.append_nil]; exact S8
 refine join_r (fun _ w' => ∃ q, q ≤ (ats e y.2).length ∧ n ≤ (msr (aOf e (M.take i) ++ (ats e y.2).take q)).breaks ∧ (∀ j, j < (aOf e (M.take i)).length + q → (msr ((aOf e M).take j)).breaks < n) ∧ St (fun _ => False) w3 w' (Ls q)) ?_ ?_
 ·refine sloop_r (fun s w' => ∃ q, q ≤ (ats e y.2).length ∧ s = (((szs ((ats e y.2).take q) : Nat) : Int), ()) ∧ (∀ j, j < (aOf e (M.take i)).length + q → (msr ((aOf e M).take j)).breaks < n) ∧ St (fun _ => False) w3 w' (Ls q)) (fun s _ => ((y.2.length : Int) - s.1).toNat) ⟨0, Nat.zero_le _, rfl, fun j hj => ?_, S8'⟩ ?_
  ·have h1 := brk_take_mono hpos (i := j) (j := (aOf e (M.take i)).length + 0) (by omega)
   rw [htkq 0 (Nat.zero_le _), List.take_zero, List.append_nil] at h1
   omega
  rintro _ w9 ⟨q, hq, rfl, hlt, S9⟩
  have hbl := hp.by_.len
  have hsy : szs ((ats e y.2).take q) ≤ y.2.length := pos_le q
  refine join_r (fun s w' => s = (decide (szs ((ats e y.2).take q) < y.2.length) && decide ((msr (aOf e (M.take i) ++ (ats e y.2).take q)).breaks < n), ()) ∧ w9 = w') ?_ ?_
  ·refine S9.ld 0 rfl (x := x.bytes) rfl (sif_r (fun hc => S9.ld 1 rfl (x := (((msr (aOf e (M.take i) ++ (ats e y.2).take q)).breaks : Nat) : Int)) rfl ⟨tupb ?_, rfl⟩) (fun hc => ⟨tupb ?_, rfl⟩))
   ·simp only [decide_eq_true_eq, Bool.and_eq_true] at hc ⊢; omega
   ·simp only [decide_eq_false_iff_not, Bool.and_eq_true, decide_eq_true_eq] at hc ⊢
    constructor
    ·intro h; cases h
    ·intro h; omega
  rintro _ w10 ⟨rfl, rfl⟩
  refine sif_r (fun hc => ?_) (fun hc => ?_)
  ·simp only [Bool.and_eq_true, decide_eq_true_eq] at hc
   obtain ⟨a, m, hqa, hnx, htk, hss, hm1, hsl⟩ := pos_step (e := e) (l := y.2) (j := q) hc.1
   have hql : q < (ats e y.2).length := (List.getElem?_eq_some_iff.1 hqa).1
   refine S9.drew fun w11 S11 e11 _ => ((h.ext e13).ext S11.upd).enc (S11.ld 0 rfl (x := x.bytes) rfl (next_call ((hp.by_.ext e13).ext S11.upd) hc.1 fun w12 e12 => ?_))
   rw [hnx]
   have S12 := S11.ext e12
   have pq := hpi.app (hpy.take q)
   refine S12.drew fun w13 S13 e13' _ => S13.lds 1 (smT _) rfl (single_call fun w14 e14 => ?_)
   have S14 := S13.ext e14
   refine S14.keeps 1 rfl (add_call (msr_ok pq) (one1_ok a hm1) ?_ fun w15 e15 => ?_)
   ·rw [msr_bytes pq, szs_append]
    show szs (aOf e (M.take i)) + szs ((ats e y.2).take q) + m < 2 ^ 60
    omega
   have S15 := S14.ext e15
   rw [← msr_snoc pq hm1, List.append_assoc, ← htk]
   refine S15.aggSt 1 rfl rfl rfl rfl fun w16 S16 u16 => ?_
   have ewa : IntKind.wrap .i64 (((szs ((ats e y.2).take q) : Nat) : Int) + (m : Int)) = ((szs ((ats e y.2).take (q + 1)) : Nat) : Int) := by
    rw [wrap64 (by omega) (by omega)]; omega
   refine ⟨⟨q + 1, by omega, by dsimp only; rw [ewa], fun j hj => ?_, S16⟩, ?_⟩
   ·by_cases hjq : j < (aOf e (M.take i)).length + q
    ·exact hlt j hjq
    ·have : j = (aOf e (M.take i)).length + q := by omega
     subst this
     rw [htkq q (by omega)]; exact hc.2
   ·dsimp only
    rw [ewa]; omega
  ·refine ⟨q, hq, ?_, hlt, S9⟩
   by_cases hb : (msr (aOf e (M.take i) ++ (ats e y.2).take q)).breaks < n
   ·have hnl : ¬ szs ((ats e y.2).take q) < y.2.length := fun h2 => by simp [h2, hb] at hc
    rw [pos_end hnl, ← hM1]; exact hhigh
   ·omega
 ·rintro _ w9 ⟨q, hq, hge, hlt, S9⟩
  have hatoms : (msr (aOf e (M.take i) ++ (ats e y.2).take q)).atoms = (aOf e (M.take i)).length + q := by
   rw [msr_atoms (hpi.app (hpy.take q)), List.length_append, List.length_take]; omega
  have htk := htkq q hq
  have hmle : (aOf e (M.take i)).length + q ≤ (aOf e M).length := by
   have := congrArg List.length hMA
   rw [List.length_append, hM1, List.length_append] at this; omega
  rw [← htk] at hge hatoms
  have S9' : St (fun _ => False) w3 w9 [(b16, .cells (Cells.vals c93 (pcT x)).toArray 93 (0, 0)), (b12, .cells (Cells.vals c91 (smT (msr ((aOf e M).take ((aOf e (M.take i)).length + q))))).toArray 91 (0, 0))] := by rw [htk]; exact S9
  generalize hm : (aOf e (M.take i)).length + q = m at *
  have hm0 : 0 < m := by
   rcases Nat.eq_zero_or_pos m with h0 | h0
   ·subst h0; rw [List.take_zero] at hge
    have : (msr []).breaks = 0 := rfl
    omega
   ·exact h0
  have hres : sk (atoms (aOf e M)) n = some (if split13 (atoms (aOf e M)) m then m + 1 else m) := by
   refine sk_of _ n m hn1 (by omega) ?_ fun j hj => ?_
   ·rw [← atoms_take, ← msr_breaks (hpos.take m)]; exact hge
   ·rw [← atoms_take, ← msr_breaks (hpos.take j)]; exact hlt j hj
  have hsp := cr_split hpos (n := m) hm0 (by omega)
  have hres2 : skI (atoms (aOf e M)) (n : Int) = if split13 (atoms (aOf e M)) m then (m : Int) + 1 else (m : Int) := by
   unfold skI
   rw [if_neg (by omega), Int.toNat_natCast, hres]
   dsimp only
   split <;> omega
  rw [hres2] at hK
  have ea : ∀ {P : Int → World → Prop} {W : World}, P (m : Int) W → P (((msr ((aOf e M).take m)).atoms : Nat) : Int) W := by
   intro P W hP; rw [hatoms]; exact hP
  refine S9'.ld 1 rfl (x := (((msr ((aOf e M).take m)).atoms : Nat) : Int)) rfl (S9'.ld 1 rfl (x := (((msr ((aOf e M).take m)).atoms : Nat) : Int)) rfl ?_)
  rw [hatoms]
  have ew1 : IntKind.wrap .i64 ((m : Int) + 1) = (m : Int) + 1 := wrap64 (by omega) (by omega)
  rw [ew1]
  refine atoms_call ((h.ext e13).ext S9'.upd) fun s w10 o10 e10 => ?_
  have S10 := S9'.ext e10
  rw [sub_one] at o10
  refine join_r (fun x w' => x = (split13 (atoms (aOf e M)) m, ()) ∧ w10 = w') ?_ ?_
  ·refine S10.ld 1 rfl (x := (msr ((aOf e M).take m)).cr) rfl (sif_r (fun hr => ?_) (fun hr => ?_))
   ·rw [hsp, hr, Bool.true_and]
    cases ha : (atoms (aOf e M))[m]? with
    | none =>
     rw [take_none ha] at o10
     have hl := o10.len1
     refine sif_r (fun hc => ?_) (fun hc => ⟨rfl, rfl⟩)
     simp only [beq_iff_eq] at hc
     simp at hl; omega
    | some a =>
     rw [take_one ha] at o10
     have hl := o10.len1
     refine sif_r (fun hc => ix_ld (c := .int .i64) (xs := [a]) o10.in (by decide) (x := a) rfl fun p => ⟨rfl, rfl⟩) (fun hc => ?_)
     simp only [beq_eq_false_iff_ne] at hc
     simp at hl; omega
   ·rw [hsp, hr]; exact ⟨rfl, rfl⟩
  rintro _ w11 ⟨rfl, rfl⟩
  have e0 := (e13.trans S10.upd)
  refine sif_r (fun hr => S10.ld 1 rfl (x := (((msr ((aOf e M).take m)).atoms : Nat) : Int)) rfl ?_) (fun hr => S10.ld 1 rfl (x := (((msr ((aOf e M).take m)).atoms : Nat) : Int)) rfl ?_)
  ·rw [hatoms, ew1]
   have := hK w10 e0
   rw [if_pos hr] at this
   exact this
  ·rw [hatoms]
   have := hK w10 e0
   have hr' : split13 (atoms (aOf e M)) m = false := hr
   rw [if_neg (by rw [hr']; decide)] at this
   exact this
end
end Go.Proofs.YtolhlldgnfbemaaGreat
