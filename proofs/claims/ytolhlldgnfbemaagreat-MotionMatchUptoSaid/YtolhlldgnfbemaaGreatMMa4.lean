/- YtolhlldgnfbemaaGreatMMa4: parts of the proof, put together by program. -/
import Derived.Test.YtolhlldgnfbemaaGreatMMa3
set_option linter.unusedVariables false
set_option linter.unusedSimpArgs false
set_option linter.unusedSectionVars false
set_option maxRecDepth 100000
namespace Go.Proofs.YtolhlldgnfbemaaGreat
open Trx Gly Clu
namespace Lns
structure Ln where
 from_ : Nat
 to_ : Nat
 next : Nat
 kind : Nat
 deriving DecidableEq
def isb (A : List Int) (n : Nat) : Bool := match A[n]? with
 | some a => isE a (A.drop (n + 1))
 | none => false
theorem nb_succ : ∀ (A : List Int) (n : Nat), nb A (n + 1) = nb A n + (if isb A n then 1 else 0)
 | [], n => by cases n <;> simp [nb, isb]
 | a :: r, 0 => by simp [nb, nb_zero, isb]
 | a :: r, n + 1 => by
  have ih := nb_succ r n
  rw [nb, ih, nb]
  have : isb (a :: r) (n + 1) = isb r n := by simp [isb]
  rw [this]; omega
theorem isb_iff {A : List Int} {n : Nat} {a : Int} (h : A[n]? = some a) : isb A n = true ↔ a = 10 ∨ (a = 13 ∧ A[n + 1]? ≠ some 10) := by
 unfold isb
 rw [h]
 simp only [isE, Bool.or_eq_true, beq_iff_eq, Bool.and_eq_true, bne_iff_ne, ne_eq, List.head?_drop]
theorem sk_get {A : List Int} {k m : Nat} (h : sk A k = some m) : k ≤ brs A ∧ m ≤ A.length ∧ nb A m = k ∧ ∀ j, j < m → nb A j < k := by
 by_cases hk : k ≤ brs A
 ·obtain ⟨m', h1, h2, h3, h4⟩ := sk_some A k hk
  rw [h] at h1; cases h1
  exact ⟨hk, h2, h3, h4⟩
 ·rw [sk_none A k (by omega)] at h; cases h
theorem sk_ok {A : List Int} {k : Nat} (h : k ≤ brs A) : ∃ m, sk A k = some m := by
 obtain ⟨m, h1, _⟩ := sk_some A k h
 exact ⟨m, h1⟩
theorem sk_zero (A : List Int) : sk A 0 = some 0 := by cases A <;> rfl
theorem sk_lt {A : List Int} {i j m x : Nat} (h1 : sk A i = some m) (h2 : sk A j = some x) (hij : i < j) : m < x := by
 obtain ⟨_, _, g1, _⟩ := sk_get h1
 obtain ⟨_, _, g2, g3⟩ := sk_get h2
 rcases Nat.lt_or_ge m x with h | h
 ·exact h
 ·have := nb_mono A x m h; omega
theorem sk_end {A : List Int} {k m : Nat} (h : sk A (k + 1) = some m) : 0 < m ∧ isb A (m - 1) = true := by
 obtain ⟨_, _, h3, h4⟩ := sk_get h
 cases m with
 | zero => rw [nb_zero] at h3; omega
 | succ m =>
  refine ⟨by omega, ?_⟩
  have := h4 m (by omega)
  rw [nb_succ] at h3
  rw [Nat.add_sub_cancel]
  cases hb : isb A m with
  | true => rfl
  | false => rw [hb] at h3; simp at h3; omega
def lnC (A : List Int) (f x : Nat) : Ln := if A[x - 1]? = some 13 then ⟨f, x - 1, x, 3⟩ else if f + 1 < x ∧ A[x - 2]? = some 13 then ⟨f, x - 2, x, 2⟩ else ⟨f, x - 1, x, 1⟩
def lnAt (A : List Int) (i : Nat) : Option Ln := match sk A i with
 | none => none
 | some f => some (match sk A (i + 1) with | some x => lnC A f x | none => ⟨f, A.length, A.length, 0⟩)
def lnI (A : List Int) (i : Int) : Option Ln := if i < 0 then none else lnAt A i.toNat
def ended (A : List Int) : Bool := decide (0 < A.length) && sk A (brs A) == some A.length
def lnN (A : List Int) : Nat := brs A + (if ended A then 0 else 1)
theorem lnAt_some {A : List Int} {i : Nat} {l : Ln} (h : lnAt A i = some l) : i ≤ brs A ∧ sk A i = some l.from_ := by
 unfold lnAt at h
 split at h
 ·cases h
 ·rename_i f hf
  cases h
  refine ⟨(sk_get hf).1, ?_⟩
  split
  ·unfold lnC; split
   ·exact hf
   ·split <;> exact hf
  ·exact hf
theorem lnAt_ok {A : List Int} {i : Nat} (h : i ≤ brs A) : ∃ l, lnAt A i = some l := by
 obtain ⟨m, hm⟩ := sk_ok h
 unfold lnAt; rw [hm]; exact ⟨_, rfl⟩
structure LnOk (A : List Int) (i : Nat) (l : Ln) : Prop where
 ft : l.from_ ≤ l.to_
 tn : l.to_ ≤ l.next
 nl : l.next ≤ A.length
 nbf : ∀ k, l.from_ ≤ k → k < l.next → nb A k = i
 nbF : nb A l.from_ = i
 tail : sk A (i + 1) = none → l.kind = 0 ∧ l.to_ = A.length ∧ l.next = A.length
 brk : ∀ x, sk A (i + 1) = some x → l.next = x ∧ l.to_ < l.next ∧ l.kind ≠ 0 ∧ nb A x = i + 1
 plain : ∀ j a, l.from_ ≤ j → j < l.to_ → A[j]? = some a → a ≠ 10 ∧ a ≠ 13
 atTo : ∀ a, l.to_ < l.next → A[l.to_]? = some a → a = 10 ∨ a = 13
 noLF : ∀ j, l.from_ ≤ j → j < l.to_ → A[j]? ≠ some 13
theorem ln_ok {A : List Int} {i : Nat} {l : Ln} (h : lnAt A i = some l) : LnOk A i l := by
 obtain ⟨hi, hf⟩ := lnAt_some h
 obtain ⟨_, hfl, hnf, hfmin⟩ := sk_get hf
 unfold lnAt at h
 rw [hf] at h
 simp only [Option.some.injEq] at h
 cases hx : sk A (i + 1) with
 | none =>
  rw [hx] at h
  simp only at h
  have hbr : brs A ≤ i := by
   rcases Nat.lt_or_ge i (brs A) with h1 | h1
   ·obtain ⟨m, hm⟩ := sk_ok (A := A) (k := i + 1) (by omega)
    rw [hm] at hx; cases hx
   ·exact h1
  have hall : ∀ k, l.from_ ≤ k → nb A k = i := fun k hk => by
   have h1 := nb_mono A _ _ hk
   have h2 := nb_mono A k (max k A.length) (by omega)
   rw [nb_ge A (max k A.length) (by omega)] at h2
   omega
  have pl : ∀ j a, l.from_ ≤ j → j < A.length → A[j]? = some a → a ≠ 10 ∧ a ≠ 13 := by
   have no : ∀ j, l.from_ ≤ j → isb A j = false := fun j hj => by
    have h1 := hall j hj
    have h2 := hall (j + 1) (by omega)
    rw [nb_succ, h1] at h2
    cases hb : isb A j with
    | false => rfl
    | true => rw [hb] at h2; simp at h2
   intro j a hj hjl ha
   have h1 := no j hj
   constructor
   ·intro e
    have := (isb_iff ha).2 (.inl e)
    rw [h1] at this; cases this
   ·intro e
    have h2 := no (j + 1) (by omega)
    by_cases h10 : A[j + 1]? = some 10
    ·have := (isb_iff h10).2 (.inl rfl)
     rw [h2] at this; cases this
    ·have := (isb_iff ha).2 (.inr ⟨e, h10⟩)
     rw [h1] at this; cases this
  have el : l = ⟨l.from_, A.length, A.length, 0⟩ := h.symm
  have e1 : l.to_ = A.length := by rw [el]
  have e2 : l.next = A.length := by rw [el]
  have e3 : l.kind = 0 := by rw [el]
  exact ⟨by omega, by omega, by omega, fun k h1 _ => hall k h1, hnf, fun _ => ⟨e3, e1, e2⟩, (fun x hx' => by rw [hx] at hx'; cases hx'), fun j a h1 h2 => pl j a h1 (by omega), fun a h1 => by omega, fun j h1 h2 h3 => (pl j 13 h1 (by omega) h3).2 rfl⟩
 | some x =>
  rw [hx] at h
  simp only at h
  obtain ⟨hib, hxl, hnx, hxmin⟩ := sk_get hx
  obtain ⟨hx0, hxe⟩ := sk_end hx
  have hfx := sk_lt hf hx (by omega)
  have hmid : ∀ k, l.from_ ≤ k → k < x → nb A k = i := fun k h1 h2 => by
   have := nb_mono A _ _ h1
   have := hxmin k h2
   omega
  have no : ∀ j, l.from_ ≤ j → j + 1 < x → isb A j = false := fun j hj hjx => by
   have h1 := hmid j hj (by omega)
   have h2 := hmid (j + 1) (by omega) hjx
   rw [nb_succ, h1] at h2
   cases hb : isb A j with
   | false => rfl
   | true => rw [hb] at h2; simp at h2
  obtain ⟨a, ha⟩ : ∃ a, A[x - 1]? = some a := ⟨_, List.getElem?_eq_getElem (by omega)⟩
  have hend := (isb_iff ha).1 hxe
  have nx : x - 1 + 1 = x := by omega
  have fin : ∀ t, l.to_ = t → l.next = x → l.from_ ≤ t → t < x → l.kind ≠ 0 → (∀ a, A[t]? = some a → a = 10 ∨ a = 13) → (t + 1 = x ∨ (t + 2 = x ∧ A[t]? = some 13)) → (t + 1 = x → ∀ j, j + 1 = t → l.from_ ≤ j → A[t]? = some 10 → A[j]? ≠ some 13) → LnOk A i l := by
   intro t e1 e2 h1 h2 h3 h4 h5 h6
   have pl : ∀ j a, l.from_ ≤ j → j < t → A[j]? = some a → a ≠ 10 ∧ a ≠ 13 := by
    intro j a hj hjt ha
    have g1 := no j hj (by omega)
    refine ⟨fun e => ?_, fun e => ?_⟩
    ·have := (isb_iff ha).2 (.inl e)
     rw [g1] at this; cases this
    ·by_cases h10 : A[j + 1]? = some 10
     ·by_cases hj2 : j + 2 < x
      ·have g2 := no (j + 1) (by omega) (by omega)
       have := (isb_iff h10).2 (.inl rfl)
       rw [g2] at this; cases this
      ·rcases h5 with h5 | h5
       ·have ht : t = j + 1 := by omega
        subst ht
        exact h6 h5 j rfl hj h10 (by rw [ha, e])
       ·omega
     ·have := (isb_iff ha).2 (.inr ⟨e, h10⟩)
      rw [g1] at this; cases this
   exact ⟨by omega, by omega, by omega, fun k g1 g2 => hmid k g1 (by omega), hnf, (fun hn => by rw [hx] at hn; cases hn), (fun y hy => by rw [hx] at hy; cases hy; exact ⟨e2, by omega, h3, hnx⟩), fun j a g1 g2 => pl j a g1 (by omega), fun a _ g => h4 a (by rw [← e1]; exact g), fun j g1 g2 g3 => (pl j 13 g1 (by omega) g3).2 rfl⟩
  unfold lnC at h
  split at h
  ·rename_i h13
   have el : l = ⟨l.from_, x - 1, x, 3⟩ := h.symm
   refine fin (x - 1) (by rw [el]) (by rw [el]) (by omega) (by omega) (by rw [el]; exact (by decide : (3 : Nat) ≠ 0)) (fun a h => by rw [h13] at h; cases h; exact .inr rfl) (.inl (by omega)) (fun _ j _ _ h => by rw [h13] at h; cases h)
  ·rename_i h13
   have ha10 : a = 10 := by
    rcases hend with h | h
    ·exact h
    ·exact absurd (by rw [ha, h.1]) h13
   split at h
   ·rename_i h2
    have el : l = ⟨l.from_, x - 2, x, 2⟩ := h.symm
    exact fin (x - 2) (by rw [el]) (by rw [el]) (by omega) (by omega) (by rw [el]; exact (by decide : (2 : Nat) ≠ 0)) (fun a h => by rw [h2.2] at h; cases h; exact .inr rfl) (.inr ⟨by omega, h2.2⟩) (fun h => by omega)
   ·rename_i h2
    have el : l = ⟨l.from_, x - 1, x, 1⟩ := h.symm
    refine fin (x - 1) (by rw [el]) (by rw [el]) (by omega) (by omega) (by rw [el]; exact (by decide : (1 : Nat) ≠ 0)) (fun b h => by rw [ha] at h; cases h; exact .inl ha10) (.inl (by omega)) (fun _ j hj hfj _ h => h2 ⟨by omega, ?_⟩)
    rw [← h]; congr 1; omega
theorem ln_of (A : List Int) {at_ : Nat} (h : at_ ≤ A.length) : ∃ l, lnAt A (nb A at_) = some l ∧ l.from_ ≤ at_ ∧ (at_ < l.next ∨ (sk A (nb A at_ + 1) = none ∧ l.next = A.length)) := by
 have hle : nb A at_ ≤ brs A := by rw [brs_nb]; exact nb_mono A _ _ h
 obtain ⟨l, hl⟩ := lnAt_ok hle
 obtain ⟨_, hf⟩ := lnAt_some hl
 obtain ⟨_, _, g1, g2⟩ := sk_get hf
 have ok := ln_ok hl
 refine ⟨l, hl, ?_, ?_⟩
 ·rcases Nat.lt_or_ge at_ l.from_ with h1 | h1
  ·have := g2 at_ h1; omega
  ·exact h1
 ·cases hx : sk A (nb A at_ + 1) with
  | none => exact .inr ⟨rfl, (ok.tail hx).2.2⟩
  | some x =>
   obtain ⟨e1, _, _, e2⟩ := ok.brk x hx
   left
   rcases Nat.lt_or_ge at_ l.next with h1 | h1
   ·exact h1
   ·have := nb_mono A l.next at_ h1
    rw [e1, e2] at this; omega
end Lns
end Go.Proofs.YtolhlldgnfbemaaGreat
namespace Go.Proofs.YtolhlldgnfbemaaGreat
open Trx Gly Clu Lns
namespace Obx
structure Cel where
 from_ : Nat
 to_ : Nat
 kind : Nat
 alone : Bool
 atom : Int
noncomputable def celAt (A : List Int) (off i j : Nat) : Cel := ⟨off + i, off + j, wrd (A[i]?.getD 0), decide (j = i + 1), A[i]?.getD 0⟩
noncomputable def celsL (A : List Int) (off : Nat) : List Nat → List Cel
 | i :: j :: r => celAt A off i j :: celsL A off (j :: r)
 | _ => []
noncomputable def cels (A : List Int) (off : Nat) : List Cel := celsL A off (cuts A)
theorem celsL_len (A : List Int) (off : Nat) : ∀ L : List Nat, (celsL A off L).length = L.length - 1
 | [] => rfl
 | [_] => rfl
 | i :: j :: r => by rw [celsL, List.length_cons, celsL_len A off (j :: r)]; simp
theorem celsL_get (A : List Int) (off : Nat) : ∀ (L : List Nat) (m i j : Nat), L[m]? = some i → L[m + 1]? = some j → (celsL A off L)[m]? = some (celAt A off i j)
 | [], _, _, _, h, _ => by simp at h
 | [_], m, _, _, _, h => by simp at h
 | i :: j :: r, 0, _, _, h, h' => by
  simp at h h'
  subst h h'
  rfl
 | i :: j :: r, m + 1, x, y, h, h' => by
  rw [celsL, List.getElem?_cons_succ]
  exact celsL_get A off (j :: r) m x y (by simpa using h) (by simpa using h')
theorem celsL_of (A : List Int) (off : Nat) : ∀ (L : List Nat) (m : Nat) (c : Cel), (celsL A off L)[m]? = some c → ∃ i j, L[m]? = some i ∧ L[m + 1]? = some j ∧ c = celAt A off i j := by
 intro L m c h
 have hl := (List.getElem?_eq_some_iff.1 h).1
 rw [celsL_len] at hl
 have h1 : L[m]? = some L[m] := List.getElem?_eq_getElem (by omega)
 have h2 : L[m + 1]? = some L[m + 1] := List.getElem?_eq_getElem (by omega)
 have := celsL_get A off L m _ _ h1 h2
 rw [h] at this
 exact ⟨_, _, h1, h2, Option.some.inj this⟩
theorem cuts_head (A : List Int) : (cuts A)[0]? = some 0 := by
 unfold cuts cutsTo
 rw [List.range_succ_eq_map, List.filter_cons_of_pos (bk_zero A)]
 rfl
theorem cuts_inj {A : List Int} {m n i j : Nat} (hmn : m < n) (h : (cuts A)[m]? = some i) (h' : (cuts A)[n]? = some j) : i < j := by
 have hp := cuts_lt (A := A)
 obtain ⟨h1, rfl⟩ := List.getElem?_eq_some_iff.1 h
 obtain ⟨h2, rfl⟩ := List.getElem?_eq_some_iff.1 h'
 exact List.pairwise_iff_getElem.1 hp m n h1 h2 hmn
theorem cuts_bk {A : List Int} {m i : Nat} (h : (cuts A)[m]? = some i) : bk A i = true := mem_cuts.1 (List.mem_of_getElem? h)
theorem cuts_last (A : List Int) : (cuts A)[(cuts A).length - 1]? = some A.length := by
 have h : A.length ∈ cuts A := mem_cuts.2 (bk_len A)
 obtain ⟨m, hm⟩ := List.getElem?_of_mem h
 have hl := (List.getElem?_eq_some_iff.1 hm).1
 by_cases he : m = (cuts A).length - 1
 ·rw [← he]; exact hm
 ·have h2 : (cuts A)[(cuts A).length - 1]? = some (cuts A)[(cuts A).length - 1] := List.getElem?_eq_getElem (by omega)
  have := cuts_inj (by omega) hm h2
  have := bk_le (cuts_bk h2)
  omega
theorem cuts_pos (A : List Int) : 0 < (cuts A).length := by
 have := (List.getElem?_eq_some_iff.1 (cuts_head A)).1
 exact this
structure CelOk (A : List Int) (off m : Nat) (c : Cel) : Prop where
 ex : ∃ i j, (cuts A)[m]? = some i ∧ (cuts A)[m + 1]? = some j ∧ i < j ∧ j ≤ A.length ∧ c.from_ = off + i ∧ c.to_ = off + j ∧ bk A i = true ∧ bk A j = true ∧ A[i]? = some c.atom ∧ c.kind = wrd c.atom ∧ (c.alone = true ↔ j = i + 1)
theorem cels_ok {A : List Int} {off m : Nat} {c : Cel} (h : (cels A off)[m]? = some c) : CelOk A off m c := by
 obtain ⟨i, j, h1, h2, rfl⟩ := celsL_of A off _ m c h
 have hij := cuts_inj (by omega) h1 h2
 have hj := bk_le (cuts_bk h2)
 have ha : A[i]? = some A[i] := List.getElem?_eq_getElem (by omega)
 refine ⟨i, j, h1, h2, hij, hj, rfl, rfl, cuts_bk h1, cuts_bk h2, ?_, rfl, by simp [celAt]⟩
 simp [celAt, ha]
theorem cels_len (A : List Int) (off : Nat) : (cels A off).length = (cuts A).length - 1 := celsL_len A off _
theorem cels_next {A : List Int} {off m : Nat} {c d : Cel} (h : (cels A off)[m]? = some c) (h' : (cels A off)[m + 1]? = some d) : c.to_ = d.from_ := by
 obtain ⟨i, j, h1, h2, h3, h4, h5, h6, _⟩ := (cels_ok h).ex
 obtain ⟨i', j', g1, g2, g3, g4, g5, g6, _⟩ := (cels_ok h').ex
 rw [h2] at g1
 have : j = i' := Option.some.inj g1
 omega
theorem cels_first {A : List Int} {off : Nat} {c : Cel} (h : (cels A off)[0]? = some c) : c.from_ = off := by
 obtain ⟨i, j, h1, h2, h3, h4, h5, h6, _⟩ := (cels_ok h).ex
 rw [cuts_head] at h1
 have : 0 = i := Option.some.inj h1
 omega
theorem cels_last {A : List Int} {off m : Nat} {c : Cel} (h : (cels A off)[m]? = some c) (hm : m + 1 = (cels A off).length) : c.to_ = off + A.length := by
 obtain ⟨i, j, h1, h2, h3, h4, h5, h6, _⟩ := (cels_ok h).ex
 have := cuts_pos A
 rw [cels_len] at hm
 have e : m + 1 = (cuts A).length - 1 := hm
 rw [e, cuts_last] at h2
 have : A.length = j := Option.some.inj h2
 omega
theorem cels_le (A : List Int) (off : Nat) : (cels A off).length ≤ A.length := by
 rw [cels_len]
 have := cutsTo_len A A.length
 unfold cuts; omega
noncomputable def firstI (C : List Cel) (at_ : Int) : Nat := C.findIdx fun c => decide (at_ < (c.to_ : Int))
theorem firstI_le (C : List Cel) (at_ : Int) : firstI C at_ ≤ C.length := List.findIdx_le_length
theorem firstI_eq {C : List Cel} {at_ : Int} {i : Nat} (hi : i ≤ C.length) (h1 : ∀ (j : Nat) (c : Cel), j < i → C[j]? = some c → (c.to_ : Int) ≤ at_) (h2 : ∀ c, C[i]? = some c → at_ < (c.to_ : Int)) : firstI C at_ = i := by
 unfold firstI
 by_cases he : i = C.length
 ·subst he
  rw [List.findIdx_eq_length]
  intro c hc
  obtain ⟨j, hj⟩ := List.getElem?_of_mem hc
  have := h1 j c (List.getElem?_eq_some_iff.1 hj).1 hj
  rw [decide_eq_false_iff_not]; omega
 ·have hlt : i < C.length := by omega
  rw [List.findIdx_eq hlt]
  refine ⟨decide_eq_true (h2 _ (List.getElem?_eq_getElem hlt)), fun j hj => ?_⟩
  have := h1 j _ hj (List.getElem?_eq_getElem (by omega))
  rw [decide_eq_false_iff_not]; omega
theorem firstI_spec {C : List Cel} {at_ : Int} : (∀ (j : Nat) (c : Cel), j < firstI C at_ → C[j]? = some c → (c.to_ : Int) ≤ at_) ∧ (∀ c, C[firstI C at_]? = some c → at_ < (c.to_ : Int)) := by
 constructor
 ·intro j c hj hc
  have := List.not_of_lt_findIdx hj
  obtain ⟨h, rfl⟩ := List.getElem?_eq_some_iff.1 hc
  simpa using this
 ·intro c hc
  obtain ⟨h, rfl⟩ := List.getElem?_eq_some_iff.1 hc
  have := List.findIdx_getElem (w := h)
  exact of_decide_eq_true this
end Obx
end Go.Proofs.YtolhlldgnfbemaaGreat
namespace Go.Proofs.YtolhlldgnfbemaaGreat
open Trx Gly Clu Lns Obx
namespace Obx
noncomputable def lineC (A : List Int) (l : Ln) : List Cel := cels ((A.drop l.from_).take (l.to_ - l.from_)) l.from_
end Obx
namespace Obx
def frm (C : List Cel) (j : Nat) : Nat := (C[j]?.map (·.from_)).getD 0
theorem frm_of {C : List Cel} {j : Nat} {c : Cel} (h : C[j]? = some c) : frm C j = c.from_ := by unfold frm; rw [h]; rfl
structure CelA (A : List Int) (l : Ln) (c : Cel) (ci cj : Nat) : Prop where
 from_ : c.from_ = l.from_ + ci
 to_ : c.to_ = l.from_ + cj
 lt : ci < cj
 le : c.to_ ≤ l.to_
 atom : A[c.from_]? = some c.atom
 kind : c.kind = wrd c.atom
 alone : c.alone = decide (c.to_ = c.from_ + 1)
theorem lineC_at {A : List Int} {l : Ln} (h1 : l.from_ ≤ l.to_) (h2 : l.to_ ≤ A.length) {i : Nat} {c : Cel} (hc : (lineC A l)[i]? = some c) : ∃ ci cj, (cuts ((A.drop l.from_).take (l.to_ - l.from_)))[i]? = some ci ∧ (cuts ((A.drop l.from_).take (l.to_ - l.from_)))[i + 1]? = some cj ∧ CelA A l c ci cj := by
 obtain ⟨ci, cj, g1, g2, g3, g4, g5, g6, _, _, g9, g10, g11⟩ := (cels_ok hc).ex
 rw [List.length_take, List.length_drop] at g4
 refine ⟨ci, cj, g1, g2, g5, g6, g3, by omega, ?_, g10, ?_⟩
 ·rw [List.getElem?_take, if_pos (by omega), List.getElem?_drop] at g9
  rw [g5]; exact g9
 ·rw [Bool.eq_iff_iff, g11]; simp; omega
end Obx
namespace Obx
structure Chain (C : List Cel) : Prop where
 pos : ∀ (i : Nat) c, C[i]? = some c → c.from_ < c.to_
 next : ∀ (i : Nat) c d, C[i]? = some c → C[i + 1]? = some d → c.to_ = d.from_
theorem Chain.mono {C : List Cel} (h : Chain C) : ∀ (d i : Nat) c e, C[i]? = some c → C[i + 1 + d]? = some e → c.to_ ≤ e.from_
 | 0, i, c, e, h1, h2 => Nat.le_of_eq (h.next i c e h1 h2)
 | d + 1, i, c, e, h1, h2 => by
  obtain ⟨x, hx⟩ : ∃ x, C[i + 1]? = some x := ⟨_, List.getElem?_eq_getElem (by have := (List.getElem?_eq_some_iff.1 h2).1; omega)⟩
  have e1 := h.next i c x h1 hx
  have := h.mono d (i + 1) x e hx (by rw [show i + 1 + 1 + d = i + 1 + (d + 1) by omega]; exact h2)
  have := h.pos _ x hx
  omega
theorem Chain.lt {C : List Cel} (h : Chain C) {i j : Nat} {c e : Cel} (hij : i < j) (h1 : C[i]? = some c) (h2 : C[j]? = some e) : c.to_ ≤ e.from_ := h.mono (j - i - 1) i c e h1 (by rw [show i + 1 + (j - i - 1) = j by omega]; exact h2)
theorem cels_chain (A : List Int) (off : Nat) : Chain (cels A off) := ⟨fun i c h => by obtain ⟨a, b, _, _, g, _, g1, g2, _⟩ := (cels_ok h).ex; omega, fun i c d h h' => cels_next h h'⟩
end Obx
namespace Mot
noncomputable def rowL (A : List Int) (i : Nat) : Ln := (lnAt A i).getD ⟨0, 0, 0, 0⟩
noncomputable def rowC (A : List Int) (i : Nat) : List Cel := lineC A (rowL A i)
def inT (A : List Int) (x : Int) : Nat := (min (max x 0) (A.length : Int)).toNat
noncomputable def ofI (A : List Int) (x : Int) : Nat := nb A (inT A x)
noncomputable def rowI (A : List Int) (x : Int) (tail : Bool) : Nat := if tail then ofI A x else min (ofI A x) (lnN A - 1)
noncomputable def placeR (A : List Int) (i : Nat) (c : Int) : Nat := if c.toNat < (rowC A i).length then frm (rowC A i) c.toNat else (rowL A i).to_
noncomputable def clampP (A : List Int) (x : Int) (past : Bool) : Nat :=
 if (rowL A (rowI A x past)).to_ ≤ inT A x then (if past then (rowL A (rowI A x past)).to_ else placeR A (rowI A x past) (((rowC A (rowI A x past)).length : Int) - 1))
 else placeR A (rowI A x past) ((firstI (rowC A (rowI A x past)) (inT A x : Int) : Nat) : Int)
noncomputable def columnP (A : List Int) (x : Int) : Nat := firstI (rowC A (ofI A x)) x
def kOf (count : Int) : Nat := if 0 < count then (min count 9999).toNat else 1
abbrev Ld := (Int × Int × Int) × Int
noncomputable def landP (A : List Int) (x : Nat) (kind : Int) : Ld := (((x : Int), kind, (columnP A (x : Int) : Int)), 0)
def noP (e : Int) : Ld := ((0, 0, 0), e)
def seekL (C : List Cel) (a : Int) (L : List Nat) (k : Nat) : Option Nat := (L.filter fun j => decide (C[j]?.map (·.atom) = some a))[k - 1]?
def upL (n c : Nat) : List Nat := List.range' (c + 1) (n - (c + 1))
def downL (c : Nat) : List Nat := (List.range c).reverse
noncomputable def signR (A : List Int) (i : Nat) : Nat := if (rowC A i).findIdx (fun c => c.kind != 0) < (rowC A i).length then (rowC A i).findIdx (fun c => c.kind != 0) else (rowC A i).length - 1
noncomputable def blankR (A : List Int) (i : Nat) : Bool := (rowC A i).all fun c => c.kind == 0
noncomputable def charsP (A : List Int) (x kind count arg : Int) (past : Bool) : Ld :=
 let s := clampP A x past
 let i := rowI A (s : Int) past
 let n := (rowC A i).length
 let c := firstI (rowC A i) (s : Int)
 let most := if past then n else n - 1
 let k := kOf count
 if kind = 1 then (if c = 0 then noP 80 else landP A (placeR A i ((c : Int) - k)) 0) else
 if kind = 2 then (if c = most then noP 80 else landP A (placeR A i (min ((c : Int) + k) most)) 0) else
 if kind = 3 then landP A (rowL A i).from_ 0 else
 if kind = 4 then landP A (placeR A i (signR A i)) 0 else
 if kind = 5 then
  let j := if i < lnN A - 1 ∧ 1 < k then min (i + k - 1) (lnN A - 1) else i
  (((placeR A j (((rowC A j).length : Int) - 1) : Nat), 1, 100000), 0) else
 if kind = 6 then landP A (placeR A i (min ((k : Int) - 1) most)) 0 else
 if kind = 7 ∨ kind = 9 then (match seekL (rowC A i) arg (upL n c) k with
  | none => noP 80
  | some j => landP A (placeR A i (if kind = 9 then (j : Int) - 1 else j)) 1) else
 if kind = 8 ∨ kind = 10 then (match seekL (rowC A i) arg (downL c) k with
  | none => noP 80
  | some j => landP A (placeR A i (if kind = 10 then (j : Int) + 1 else j)) 0) else noP 1
noncomputable def rowP (A : List Int) (i : Nat) : List (Nat × Nat) := if (rowC A i).length = 0 then [(i, 0)] else (List.range (rowC A i).length).map fun c => (i, c)
noncomputable def allP (A : List Int) : List (Nat × Nat) := (List.range (lnN A)).flatMap (rowP A)
noncomputable def offP (A : List Int) (p : Nat × Nat) : Nat := placeR A p.1 (p.2 : Int)
def kindB (C : List Cel) (j : Nat) (big : Bool) : Nat := if big then min ((C[j]?.map (·.kind)).getD 0) 1 else (C[j]?.map (·.kind)).getD 0
noncomputable def lastPl (A : List Int) : Nat := placeR A (lnN A - 1) (((rowC A (lnN A - 1)).length : Int) - 1)
def sortB (c : Cel) : Option Nat := if c.alone = false then none else if c.atom = 40 then some 0 else if c.atom = 91 then some 1 else if c.atom = 123 then some 2 else if c.atom = 41 then some 3 else if c.atom = 93 then some 4 else if c.atom = 125 then some 5 else none
noncomputable def brkP (A : List Int) (p : Nat × Nat) : Option Nat := ((rowC A p.1)[p.2]?).bind sortB
def shutL (own : Nat) : List ((Nat × Nat) × Nat) → Nat → Option (Nat × Nat)
 | [], _ => none
 | (p, b) :: r, d => if b % 3 ≠ own % 3 then shutL own r d else if b = own then shutL own r (d + 1) else if d = 1 then some p else shutL own r (d - 1)
noncomputable def brksP (A : List Int) : List ((Nat × Nat) × Nat) := (allP A).filterMap fun p => (brkP A p).map fun b => (p, b)
noncomputable def matchP (A : List Int) (s i : Nat) : Option Nat :=
 match (brksP A).findIdx? fun q => q.1.1 == i && decide (s ≤ offP A q.1) with
 | none => none
 | some m => match (brksP A)[m]? with
  | none => none
  | some q => (shutL q.2 (if q.2 < 3 then (brksP A).drop (m + 1) else ((brksP A).take m).reverse) 1).map (offP A)
noncomputable def parasM (A : List Int) (x kind count : Int) : Ld :=
 let s := clampP A x false
 let i := rowI A (s : Int) false
 let k := kOf count
 if kind = 31 then (match ((upL (lnN A) i).filter fun j => blankR A j && !blankR A (j - 1))[k - 1]? with
  | some j => landP A (rowL A j).from_ 0
  | none => if lastPl A = s then noP 80 else landP A (lastPl A) 1) else
 if kind = 32 then (match ((downL i).filter fun j => blankR A j && !blankR A (j + 1))[k - 1]? with
  | some j => landP A (rowL A j).from_ 0
  | none => if s = 0 then noP 80 else landP A 0 0) else
 if kind = 33 then (match matchP A s i with
  | some to => landP A to 1
  | none => noP 80) else noP 1
end Mot
namespace Mot
variable {A : List Int} {i : Nat}
theorem rowL_at (h : i ≤ brs A) : lnAt A i = some (rowL A i) := by
 obtain ⟨l, hl⟩ := lnAt_ok h
 unfold rowL; rw [hl]; rfl
theorem row_ok (h : i ≤ brs A) : LnOk A i (rowL A i) := ln_ok (rowL_at h)
theorem brs_le (A : List Int) : brs A ≤ A.length := by rw [brs_nb]; exact nb_le _ _
theorem lnN_bounds (A : List Int) : 1 ≤ lnN A ∧ lnN A ≤ brs A + 1 := by
 unfold lnN
 by_cases h : ended A = true
 ·rw [if_pos h]
  unfold ended at h
  rw [Bool.and_eq_true, decide_eq_true_eq, beq_iff_eq] at h
  refine ⟨?_, by omega⟩
  rcases Nat.eq_zero_or_pos (brs A) with q | q
  ·rw [q, sk_zero] at h
   have := Option.some.inj h.2
   omega
  ·omega
 ·rw [if_neg h]; omega
theorem lnN_ge (A : List Int) : brs A ≤ lnN A := by unfold lnN; omega
theorem nb_le_brs (A : List Int) (n : Nat) : nb A n ≤ brs A := by
 rw [brs_nb]
 rcases Nat.lt_or_ge n A.length with h | h
 ·exact nb_mono A _ _ (by omega)
 ·rw [nb_ge A n h, ← brs_nb]; exact Nat.le_refl _
theorem inT_le (A : List Int) (x : Int) : inT A x ≤ A.length := by unfold inT; omega
theorem inT_of {A : List Int} {n : Nat} (h : n ≤ A.length) : inT A (n : Int) = n := by unfold inT; omega
theorem ofI_le (A : List Int) (x : Int) : ofI A x ≤ brs A := nb_le_brs A _
theorem rowI_le (A : List Int) (x : Int) (tail : Bool) : rowI A x tail ≤ brs A := by
 unfold rowI
 split
 ·exact ofI_le A x
 ·have := ofI_le A x; omega
theorem rowC_chain (A : List Int) (i : Nat) : Chain (rowC A i) := cels_chain _ _
theorem rowB_len (h : i ≤ brs A) : ((A.drop (rowL A i).from_).take ((rowL A i).to_ - (rowL A i).from_)).length = (rowL A i).to_ - (rowL A i).from_ := by
 have ok := row_ok h
 have := ok.ft; have := ok.tn; have := ok.nl
 rw [List.length_take, List.length_drop]; omega
theorem rowC_first {c : Cel} (hc : (rowC A i)[0]? = some c) : c.from_ = (rowL A i).from_ := cels_first hc
theorem rowC_last (h : i ≤ brs A) {c : Cel} {m : Nat} (hc : (rowC A i)[m]? = some c) (hm : m + 1 = (rowC A i).length) : c.to_ = (rowL A i).to_ := by
 have := cels_last hc hm
 rw [rowB_len h] at this
 have := (row_ok h).ft
 omega
theorem rowC_le (h : i ≤ brs A) {c : Cel} {m : Nat} (hc : (rowC A i)[m]? = some c) : (rowL A i).from_ ≤ c.from_ ∧ c.from_ < c.to_ ∧ c.to_ ≤ (rowL A i).to_ := by
 obtain ⟨ci, cj, _, _, q⟩ := lineC_at (row_ok h).ft (by have := (row_ok h).tn; have := (row_ok h).nl; omega) hc
 have := q.from_; have := q.to_; have := q.le; have := q.lt
 omega
theorem rowC_len (h : i ≤ brs A) : (rowC A i).length ≤ (rowL A i).to_ - (rowL A i).from_ := by
 have := cels_le ((A.drop (rowL A i).from_).take ((rowL A i).to_ - (rowL A i).from_)) (rowL A i).from_
 rw [rowB_len h] at this; exact this
theorem rowC_nil (h : i ≤ brs A) : (rowC A i).length = 0 ↔ (rowL A i).from_ = (rowL A i).to_ := by
 have ft := (row_ok h).ft
 constructor
 ·intro h0
  have hl := cels_len ((A.drop (rowL A i).from_).take ((rowL A i).to_ - (rowL A i).from_)) (rowL A i).from_
  have hcl := cuts_last ((A.drop (rowL A i).from_).take ((rowL A i).to_ - (rowL A i).from_))
  have hch := cuts_head ((A.drop (rowL A i).from_).take ((rowL A i).to_ - (rowL A i).from_))
  have hl2 : (cuts ((A.drop (rowL A i).from_).take ((rowL A i).to_ - (rowL A i).from_))).length - 1 = 0 := by rw [← hl]; exact h0
  rw [hl2, hch, rowB_len h] at hcl
  have := Option.some.inj hcl
  omega
 ·intro he
  have := rowC_len h
  omega
theorem cel_get {C : List Cel} {j : Nat} (h : j < C.length) : ∃ c, C[j]? = some c := ⟨_, List.getElem?_eq_getElem h⟩
theorem placeR_lt {c : Nat} (hc : c < (rowC A i).length) : placeR A i (c : Int) = frm (rowC A i) c := by
 unfold placeR; rw [Int.toNat_natCast, if_pos hc]
theorem placeR_ge {c : Int} (hc : (rowC A i).length ≤ c.toNat) : placeR A i c = (rowL A i).to_ := by
 unfold placeR; rw [if_neg (by omega)]
theorem placeR_neg {c : Int} (hc : c ≤ 0) : placeR A i c = placeR A i 0 := by
 unfold placeR
 rw [show c.toNat = 0 by omega]; rfl
theorem placeR_in (h : i ≤ brs A) (c : Int) : (rowL A i).from_ ≤ placeR A i c ∧ placeR A i c ≤ (rowL A i).to_ := by
 have ft := (row_ok h).ft
 unfold placeR
 by_cases hc : c.toNat < (rowC A i).length
 ·obtain ⟨x, hx⟩ := cel_get hc
  rw [if_pos hc, frm_of hx]
  have := rowC_le h hx
  omega
 ·rw [if_neg hc]; omega
theorem placeR_mono (h : i ≤ brs A) {c d : Nat} (hcd : c < d) (hd : d ≤ (rowC A i).length) : placeR A i (c : Int) < placeR A i (d : Int) := by
 obtain ⟨x, hx⟩ := cel_get (C := rowC A i) (j := c) (by omega)
 rw [placeR_lt (by omega), frm_of hx]
 by_cases hd2 : d < (rowC A i).length
 ·obtain ⟨y, hy⟩ := cel_get hd2
  rw [placeR_lt hd2, frm_of hy]
  have := (rowC_chain A i).lt hcd hx hy
  have := (rowC_chain A i).pos _ x hx
  omega
 ·rw [placeR_ge (by omega)]
  have := rowC_le h hx
  omega
theorem col_place (h : i ≤ brs A) {c : Nat} (hc : c ≤ (rowC A i).length) : firstI (rowC A i) (placeR A i (c : Int) : Int) = c := by
 refine firstI_eq hc (fun j x hj hx => ?_) fun x hx => ?_
 ·have hle : x.to_ ≤ placeR A i (c : Int) := by
   by_cases hc2 : c < (rowC A i).length
   ·obtain ⟨y, hy⟩ := cel_get hc2
    rw [placeR_lt hc2, frm_of hy]
    exact (rowC_chain A i).lt hj hx hy
   ·rw [placeR_ge (by omega)]
    exact (rowC_le h hx).2.2
  omega
 ·have hlt := (List.getElem?_eq_some_iff.1 hx).1
  rw [placeR_lt hlt, frm_of hx]
  have := (rowC_chain A i).pos _ x hx
  omega
theorem row_next {j : Nat} (hij : i < j) (hj : j ≤ brs A) : (rowL A i).next ≤ (rowL A j).from_ := by
 induction j with
 | zero => omega
 | succ j ih =>
  have h1 := rowL_at (A := A) (i := j) (by omega)
  have h2 := rowL_at (A := A) hj
  have hs := (lnAt_some h2).2
  have hst := ((ln_ok h1).brk _ hs).1
  by_cases he : i = j
  ·subst he; omega
  ·have := ih (by omega) (by omega)
   have ok := row_ok (A := A) (i := j) (by omega)
   have := ok.ft; have := ok.tn
   omega
theorem row_of {n : Nat} (hn : n ≤ A.length) : (rowL A (nb A n)).from_ ≤ n ∧ (n < (rowL A (nb A n)).next ∨ (nb A n = brs A ∧ (rowL A (nb A n)).next = A.length)) := by
 obtain ⟨l, hl, h1, h2⟩ := ln_of A hn
 have : rowL A (nb A n) = l := by unfold rowL; rw [hl]; rfl
 rw [this]
 refine ⟨h1, h2.imp id fun ⟨hs, h3⟩ => ⟨?_, h3⟩⟩
 have hb := nb_le_brs A n
 rcases Nat.lt_or_ge (nb A n) (brs A) with q | q
 ·obtain ⟨x, hx⟩ := sk_ok (A := A) (k := nb A n + 1) (by omega)
  rw [hx] at hs; cases hs
 ·omega
theorem of_in (h : i ≤ brs A) {n : Nat} (h1 : (rowL A i).from_ ≤ n) (h2 : n ≤ (rowL A i).to_) : nb A n = i := by
 have ok := row_ok h
 have := ok.tn; have := ok.nl
 rcases Nat.lt_or_ge n (rowL A i).next with q | q
 ·exact ok.nbf n h1 q
 ·have hn : n = (rowL A i).next ∧ n = (rowL A i).to_ := by omega
  cases hx : sk A (i + 1) with
  | none =>
   obtain ⟨_, h3, h4⟩ := ok.tail hx
   by_cases hf : (rowL A i).from_ < n
   ·have h5 := ok.nbf (n - 1) (by omega) (by omega)
    have h6 := nb_succ A (n - 1)
    have hno : isb A (n - 1) = false := by
     obtain ⟨a, ha⟩ : ∃ a, A[n - 1]? = some a := ⟨_, List.getElem?_eq_getElem (by omega)⟩
     have hp := ok.plain (n - 1) a (by omega) (by omega) ha
     cases hb : isb A (n - 1) with
     | false => rfl
     | true =>
      rcases (isb_iff ha).1 hb with q | q
      ·exact absurd q hp.1
      ·exact absurd q.1 hp.2
    rw [hno, show n - 1 + 1 = n by omega] at h6
    simp at h6
    omega
   ·have : n = (rowL A i).from_ := by omega
    rw [this]; exact ok.nbF
  | some x =>
   have := (ok.brk x hx).2.1
   omega
theorem of_place (h : i ≤ brs A) (c : Int) : nb A (placeR A i c) = i := of_in h (placeR_in h c).1 (placeR_in h c).2
theorem place_le (h : i ≤ brs A) (c : Int) : placeR A i c ≤ A.length := by
 have := (placeR_in h c).2
 have ok := row_ok h
 have := ok.tn; have := ok.nl
 omega
theorem ofI_place (h : i ≤ brs A) (c : Int) : ofI A (placeR A i c : Int) = i := by
 unfold ofI
 rw [inT_of (place_le h c)]; exact of_place h c
end Mot
namespace Mot
variable {A : List Int} {p q : Nat × Nat}
noncomputable def nextW (A : List Int) (p : Nat × Nat) : Option (Nat × Nat) := if p.2 + 1 < (rowC A p.1).length then some (p.1, p.2 + 1) else if lnN A ≤ p.1 + 1 then none else some (p.1 + 1, 0)
noncomputable def prevW (A : List Int) (p : Nat × Nat) : Option (Nat × Nat) := if 0 < p.2 then some (p.1, p.2 - 1) else if p.1 = 0 then none else some (p.1 - 1, (rowC A (p.1 - 1)).length - 1)
noncomputable def aft (A : List Int) (p : Nat × Nat) : List (Nat × Nat) := ((List.range' (p.2 + 1) ((rowC A p.1).length - (p.2 + 1))).map fun c => (p.1, c)) ++ (List.range' (p.1 + 1) (lnN A - (p.1 + 1))).flatMap (rowP A)
noncomputable def bef (A : List Int) (p : Nat × Nat) : List (Nat × Nat) := ((List.range p.2).reverse.map fun c => (p.1, c)) ++ (List.range p.1).reverse.flatMap fun i => (rowP A i).reverse
theorem rowP_cons (A : List Int) (i : Nat) : rowP A i = (i, 0) :: (List.range' 1 ((rowC A i).length - 1)).map fun c => (i, c) := by
 unfold rowP
 by_cases h : (rowC A i).length = 0
 ·rw [if_pos h, h]; rfl
 ·rw [if_neg h]
  obtain ⟨n, hn⟩ : ∃ n, (rowC A i).length = n + 1 := ⟨(rowC A i).length - 1, by omega⟩
  rw [hn, List.range_eq_range', List.range'_succ, List.map_cons]; rfl
theorem rowP_rev (A : List Int) (i : Nat) : (rowP A i).reverse = (i, (rowC A i).length - 1) :: (List.range ((rowC A i).length - 1)).reverse.map fun c => (i, c) := by
 unfold rowP
 by_cases h : (rowC A i).length = 0
 ·rw [if_pos h, h]; rfl
 ·rw [if_neg h]
  obtain ⟨n, hn⟩ : ∃ n, (rowC A i).length = n + 1 := ⟨(rowC A i).length - 1, by omega⟩
  rw [hn, List.range_succ, List.map_append, List.reverse_append, Nat.add_sub_cancel, List.map_reverse]; rfl
theorem aft_some (h : nextW A p = some q) : aft A p = q :: aft A q := by
 unfold nextW at h
 unfold aft
 split at h
 ·rename_i hc
  cases h
  obtain ⟨n, hn⟩ : ∃ n, (rowC A p.1).length - (p.2 + 1) = n + 1 := ⟨(rowC A p.1).length - (p.2 + 1) - 1, by omega⟩
  rw [hn, List.range'_succ, List.map_cons, List.cons_append]
  dsimp only
  rw [show (rowC A p.1).length - (p.2 + 1 + 1) = n by omega]
 ·rename_i hc
  split at h
  ·cases h
  ·rename_i hl
   cases h
   rw [show (rowC A p.1).length - (p.2 + 1) = 0 by omega]
   obtain ⟨n, hn⟩ : ∃ n, lnN A - (p.1 + 1) = n + 1 := ⟨lnN A - (p.1 + 1) - 1, by omega⟩
   rw [hn, List.range'_succ, List.flatMap_cons, rowP_cons]
   dsimp only
   rw [show lnN A - (p.1 + 1 + 1) = n by omega]
   simp
theorem aft_none (h : nextW A p = none) : aft A p = [] := by
 unfold nextW at h
 unfold aft
 split at h
 ·cases h
 ·rename_i hc
  split at h
  ·rename_i hl
   rw [show (rowC A p.1).length - (p.2 + 1) = 0 by omega, show lnN A - (p.1 + 1) = 0 by omega]; rfl
  ·cases h
theorem bef_some (h : prevW A p = some q) : bef A p = q :: bef A q := by
 unfold prevW at h
 unfold bef
 split at h
 ·rename_i hc
  cases h
  obtain ⟨n, hn⟩ : ∃ n, p.2 = n + 1 := ⟨p.2 - 1, by omega⟩
  rw [hn, List.range_succ, List.reverse_append]
  simp
 ·rename_i hc
  split at h
  ·cases h
  ·rename_i hl
   cases h
   obtain ⟨n, hn⟩ : ∃ n, p.1 = n + 1 := ⟨p.1 - 1, by omega⟩
   rw [show p.2 = 0 by omega, hn, List.range_succ, List.reverse_append, Nat.add_sub_cancel]
   show ([] : List (Nat × Nat)) ++ (n :: (List.range n).reverse).flatMap _ = _
   rw [List.nil_append, List.flatMap_cons, rowP_rev]
   simp
theorem bef_none (h : prevW A p = none) : bef A p = [] := by
 unfold prevW at h
 unfold bef
 split at h
 ·cases h
 ·rename_i hc
  split at h
  ·rename_i hl
   rw [show p.2 = 0 by omega, hl]; rfl
  ·cases h
structure On (A : List Int) (p : Nat × Nat) : Prop where
 row : p.1 ≤ brs A
 col : p.2 ≤ (rowC A p.1).length
theorem nextW_on (h : On A p) (hq : nextW A p = some q) : On A q ∧ q.1 < lnN A ∧ (q.2 < (rowC A q.1).length ∨ ((rowC A q.1).length = 0 ∧ q.2 = 0)) ∧ p.1 ≤ q.1 := by
 have hb := lnN_bounds A
 have hg := lnN_ge A
 have hr := h.row
 unfold nextW at hq
 split at hq
 ·rename_i hc
  cases hq
  refine ⟨⟨h.row, by dsimp only; omega⟩, ?_, .inl hc, Nat.le_refl _⟩
  dsimp only
  rcases Nat.lt_or_ge p.1 (lnN A) with u | u
  ·exact u
  ·exfalso
   have hp : p.1 = lnN A ∧ lnN A = brs A := by omega
   have := tail_len (A := A) (by omega)
   rw [hp.1, hp.2] at hc
   omega
 ·split at hq
  ·cases hq
  ·rename_i hl
   cases hq
   refine ⟨⟨by dsimp only; omega, Nat.zero_le _⟩, by dsimp only; omega, ?_, by dsimp only; omega⟩
   dsimp only
   rcases Nat.eq_zero_or_pos (rowC A (p.1 + 1)).length with u | u
   ·exact .inr ⟨u, rfl⟩
   ·exact .inl u
where
  tail_len {A : List Int} (h : lnN A = brs A) : (rowC A (brs A)).length = 0 := by
    rw [rowC_nil (Nat.le_refl _)]
    unfold lnN at h
    have he : ended A = true := by
      by_cases h1 : ended A = true
      · exact h1
      · rw [if_neg h1] at h; omega
    unfold ended at he
    rw [Bool.and_eq_true, beq_iff_eq] at he
    have hf := (lnAt_some (rowL_at (A := A) (Nat.le_refl _))).2
    rw [he.2] at hf
    have e1 := Option.some.inj hf
    have ok := row_ok (A := A) (i := brs A) (Nat.le_refl _)
    have := ok.ft; have := ok.tn; have := ok.nl
    omega
theorem tail_nil {A : List Int} (h : lnN A = brs A) : (rowC A (brs A)).length = 0 := nextW_on.tail_len h
structure Plc (A : List Int) (p : Nat × Nat) : Prop where
 row : p.1 < lnN A
 col : p.2 < (rowC A p.1).length ∨ ((rowC A p.1).length = 0 ∧ p.2 = 0)
theorem Plc.on (h : Plc A p) : On A p := ⟨by have := lnN_bounds A; have := h.row; omega, by have := h.col; omega⟩
theorem mem_rowP {i : Nat} : q ∈ rowP A i ↔ q.1 = i ∧ (q.2 < (rowC A i).length ∨ ((rowC A i).length = 0 ∧ q.2 = 0)) := by
 unfold rowP
 by_cases h : (rowC A i).length = 0
 ·rw [if_pos h, List.mem_singleton]
  constructor
  ·rintro rfl; exact ⟨rfl, .inr ⟨h, rfl⟩⟩
  ·rintro ⟨h1, h2⟩
   rcases h2 with h2 | h2
   ·omega
   ·exact Prod.ext h1 h2.2
 ·rw [if_neg h, List.mem_map]
  constructor
  ·rintro ⟨c, hc, rfl⟩
   exact ⟨rfl, .inl (List.mem_range.1 hc)⟩
  ·rintro ⟨h1, h2⟩
   refine ⟨q.2, List.mem_range.2 (by omega), ?_⟩
   rw [← h1]
theorem mem_aft : q ∈ aft A p ↔ (q.1 = p.1 ∧ p.2 < q.2 ∧ q.2 < (rowC A p.1).length) ∨ (p.1 < q.1 ∧ q.1 < lnN A ∧ (q.2 < (rowC A q.1).length ∨ ((rowC A q.1).length = 0 ∧ q.2 = 0))) := by
 unfold aft
 rw [List.mem_append, List.mem_map, List.mem_flatMap]
 constructor
 ·rintro (⟨c, hc, rfl⟩ | ⟨i, hi, hq⟩)
  ·rw [List.mem_range'_1] at hc
   exact .inl ⟨rfl, by dsimp only; omega, by dsimp only; omega⟩
  ·rw [List.mem_range'_1] at hi
   obtain ⟨h1, h2⟩ := mem_rowP.1 hq
   subst h1
   exact .inr ⟨by omega, by omega, h2⟩
 ·rintro (⟨h1, h2, h3⟩ | ⟨h1, h2, h3⟩)
  ·refine .inl ⟨q.2, by rw [List.mem_range'_1]; omega, ?_⟩
   rw [← h1]
  ·exact .inr ⟨q.1, by rw [List.mem_range'_1]; omega, mem_rowP.2 ⟨rfl, h3⟩⟩
theorem mem_bef : q ∈ bef A p ↔ (q.1 = p.1 ∧ q.2 < p.2) ∨ (q.1 < p.1 ∧ (q.2 < (rowC A q.1).length ∨ ((rowC A q.1).length = 0 ∧ q.2 = 0))) := by
 unfold bef
 rw [List.mem_append, List.mem_map, List.mem_flatMap]
 constructor
 ·rintro (⟨c, hc, rfl⟩ | ⟨i, hi, hq⟩)
  ·rw [List.mem_reverse, List.mem_range] at hc
   exact .inl ⟨rfl, hc⟩
  ·rw [List.mem_reverse, List.mem_range] at hi
   rw [List.mem_reverse] at hq
   obtain ⟨h1, h2⟩ := mem_rowP.1 hq
   subst h1
   exact .inr ⟨hi, h2⟩
 ·rintro (⟨h1, h2⟩ | ⟨h1, h2⟩)
  ·refine .inl ⟨q.2, by rw [List.mem_reverse, List.mem_range]; exact h2, ?_⟩
   rw [← h1]
  ·exact .inr ⟨q.1, by rw [List.mem_reverse, List.mem_range]; exact h1, by rw [List.mem_reverse]; exact mem_rowP.2 ⟨rfl, h2⟩⟩
theorem off_lt_rows (hp : On A p) (hq : On A q) (h : p.1 < q.1) : offP A p < offP A q := by
 have h1 := (placeR_in hp.row (p.2 : Int)).2
 have h2 := (placeR_in hq.row (q.2 : Int)).1
 have h3 := row_next h hq.row
 have hr := hq.row
 obtain ⟨x, hx⟩ := sk_ok (A := A) (k := p.1 + 1) (by omega)
 have := ((row_ok hp.row).brk x hx).2.1
 unfold offP; omega
theorem off_lt (hp : On A p) (hq : On A q) (h : p.1 < q.1 ∨ (p.1 = q.1 ∧ p.2 < q.2)) : offP A p < offP A q := by
 rcases h with h | ⟨h1, h2⟩
 ·exact off_lt_rows hp hq h
 ·unfold offP
  rw [h1]
  exact placeR_mono hq.row h2 hq.col
theorem aft_off (hp : On A p) (hq : q ∈ aft A p) : offP A p < offP A q := by
 have hb := lnN_bounds A
 rcases mem_aft.1 hq with ⟨h1, h2, h3⟩ | ⟨h1, h2, h3⟩
 ·exact off_lt hp ⟨by rw [h1]; exact hp.row, by rw [h1]; omega⟩ (.inr ⟨h1.symm, h2⟩)
 ·exact off_lt hp ⟨by omega, by omega⟩ (.inl h1)
theorem bef_off (hp : On A p) (hq : q ∈ bef A p) : offP A q < offP A p := by
 have hr := hp.row
 rcases mem_bef.1 hq with ⟨h1, h2⟩ | ⟨h1, h2⟩
 ·exact off_lt ⟨by omega, by rw [h1]; have := hp.col; omega⟩ hp (.inr ⟨h1, h2⟩)
 ·exact off_lt ⟨by omega, by omega⟩ hp (.inl h1)
theorem flat_split (A : List Int) {i n : Nat} (h : i < n) : (List.range n).flatMap (rowP A) = (List.range i).flatMap (rowP A) ++ (rowP A i ++ (List.range' (i + 1) (n - (i + 1))).flatMap (rowP A)) := by
 have e : List.range n = List.range i ++ (i :: List.range' (i + 1) (n - (i + 1))) := by
  rw [List.range_eq_range', List.range_eq_range', ← List.range'_succ]
  have := @List.range'_append_1 0 i (n - (i + 1) + 1)
  rw [Nat.zero_add] at this
  rw [this]
  congr 1; omega
 rw [e, List.flatMap_append, List.flatMap_cons]
theorem bef_rows (A : List Int) (i : Nat) : ((List.range i).reverse.flatMap fun i => (rowP A i).reverse).reverse = (List.range i).flatMap (rowP A) := by
 induction i with
 | zero => rfl
 | succ i ih =>
  rw [List.range_succ, List.reverse_append, List.flatMap_append]
  show (([i].reverse).flatMap _ ++ _).reverse = _
  rw [List.flatMap_append, List.reverse_append, ih]
  simp
theorem all_split (h : Plc A p) : allP A = (bef A p).reverse ++ p :: aft A p := by
 unfold allP
 rw [flat_split A h.row]
 unfold bef aft
 rw [List.reverse_append, bef_rows, List.append_assoc]
 congr 1
 rw [← List.cons_append, ← List.append_assoc]
 congr 1
 unfold rowP
 rcases h.col with hc | ⟨hc, h0⟩
 ·rw [if_neg (by omega), List.map_reverse, List.reverse_reverse]
  have e : List.range (rowC A p.1).length = List.range p.2 ++ (p.2 :: List.range' (p.2 + 1) ((rowC A p.1).length - (p.2 + 1))) := by
   rw [List.range_eq_range', List.range_eq_range', ← List.range'_succ]
   have := @List.range'_append_1 0 p.2 ((rowC A p.1).length - (p.2 + 1) + 1)
   rw [Nat.zero_add] at this
   rw [this]
   congr 1; omega
  rw [e, List.map_append, List.map_cons]
 ·rw [if_pos hc, hc, h0]
  show [(p.1, 0)] = _
  have : p = (p.1, 0) := Prod.ext rfl h0
  simp [← this]
end Mot
namespace Mot
variable {A : List Int} {p q : Nat × Nat}
theorem first_in {i n : Nat} (h : i ≤ brs A) (h1 : (rowL A i).from_ ≤ n) (h2 : n < (rowL A i).to_) : firstI (rowC A i) (n : Int) < (rowC A i).length ∧ placeR A i ((firstI (rowC A i) (n : Int) : Nat) : Int) ≤ n := by
 obtain ⟨s1, s2⟩ := firstI_spec (C := rowC A i) (at_ := (n : Int))
 have hle := firstI_le (rowC A i) (n : Int)
 have hlt : firstI (rowC A i) (n : Int) < (rowC A i).length := by
  rcases Nat.lt_or_ge (firstI (rowC A i) (n : Int)) (rowC A i).length with q | q
  ·exact q
  ·exfalso
   have hn : (rowC A i).length ≠ 0 := fun h0 => by have := (rowC_nil h).1 h0; omega
   obtain ⟨z, hz⟩ := cel_get (C := rowC A i) (j := (rowC A i).length - 1) (by omega)
   have := s1 _ z (by omega) hz
   have := rowC_last h hz (by omega)
   omega
 refine ⟨hlt, ?_⟩
 rw [placeR_lt hlt]
 obtain ⟨c, hc⟩ := cel_get hlt
 rw [frm_of hc]
 cases hf : firstI (rowC A i) (n : Int) with
 | zero =>
  rw [hf] at hc
  have := rowC_first hc
  omega
 | succ m =>
  rw [hf] at hc
  obtain ⟨d, hd⟩ := cel_get (C := rowC A i) (j := m) (by omega)
  have := s1 m d (by omega) hd
  have := (rowC_chain A i).next m d c hd hc
  omega
theorem clamp_is (A : List Int) (x : Int) (past : Bool) : ∃ c : Nat, c ≤ (rowC A (rowI A x past)).length ∧ (past = false → c < (rowC A (rowI A x past)).length ∨ (rowC A (rowI A x past)).length = 0) ∧ clampP A x past = placeR A (rowI A x past) (c : Int) := by
 have hi := rowI_le A x past
 unfold clampP
 by_cases h : (rowL A (rowI A x past)).to_ ≤ inT A x
 ·rw [if_pos h]
  cases past with
  | true => exact ⟨_, Nat.le_refl _, (fun h => by cases h), by rw [if_pos rfl]; exact (placeR_ge (by omega)).symm⟩
  | false =>
   rw [if_neg (by decide)]
   refine ⟨(rowC A (rowI A x false)).length - 1, by omega, fun _ => by omega, ?_⟩
   rcases Nat.eq_zero_or_pos (rowC A (rowI A x false)).length with u | u
   ·rw [u]
    exact placeR_neg (by omega)
   ·rw [show ((rowC A (rowI A x false)).length : Int) - 1 = (((rowC A (rowI A x false)).length - 1 : Nat) : Int) by omega]
 ·rw [if_neg h]
  have hf : (rowL A (rowI A x past)).from_ ≤ inT A x := by
   have hro := (row_of (A := A) (inT_le A x)).1
   unfold rowI at h ⊢
   cases past with
   | true => exact hro
   | false =>
    rw [if_neg (by decide)] at h ⊢
    rcases Nat.lt_or_ge (lnN A - 1) (ofI A x) with u | u
    ·exfalso
     rw [Nat.min_eq_right (by omega)] at h
     have hb := lnN_bounds A
     have hro2 := row_next (A := A) (i := lnN A - 1) (j := ofI A x) u (ofI_le A x)
     have ok := row_ok (A := A) (i := lnN A - 1) (by omega)
     have := ok.tn
     unfold ofI at hro2
     omega
    ·rw [Nat.min_eq_left u]; exact hro
  obtain ⟨g1, g2⟩ := first_in hi hf (by omega)
  exact ⟨_, by omega, fun _ => .inl g1, rfl⟩
noncomputable def posP (A : List Int) (x : Int) (past : Bool) : Nat × Nat := (rowI A x past, firstI (rowC A (rowI A x past)) (clampP A x past : Int))
theorem clamp_row (A : List Int) (x : Int) (past : Bool) : rowI A (clampP A x past : Int) past = rowI A x past := by
 obtain ⟨c, _, _, hc⟩ := clamp_is A x past
 have hi := rowI_le A x past
 rw [hc]
 have ho := ofI_place hi (c : Int)
 show (if past then ofI A _ else min (ofI A _) (lnN A - 1)) = _
 rw [ho]
 cases past with
 | true => rfl
 | false =>
  rw [if_neg (by decide)]
  unfold rowI
  rw [if_neg (by decide)]; omega
theorem pos_is (A : List Int) (x : Int) (past : Bool) : On A (posP A x past) ∧ offP A (posP A x past) = clampP A x past ∧ (past = false → Plc A (posP A x past)) := by
 obtain ⟨c, h1, h2, hc⟩ := clamp_is A x past
 have hi := rowI_le A x past
 have hcol : firstI (rowC A (rowI A x past)) (clampP A x past : Int) = c := by rw [hc]; exact col_place hi h1
 unfold posP
 rw [hcol]
 refine ⟨⟨hi, h1⟩, hc.symm, fun hp => ⟨?_, ?_⟩⟩
 ·subst hp
  have hb := lnN_bounds A
  show rowI A x false < _
  unfold rowI
  rw [if_neg (by decide)]; omega
 ·rcases h2 hp with q | q
  ·exact .inl q
  ·exact .inr ⟨q, by dsimp only at h1 ⊢; omega⟩
theorem clamp_on {i c : Nat} (h : i ≤ brs A) (hc : c ≤ (rowC A i).length) : clampP A (placeR A i (c : Int) : Int) true = placeR A i (c : Int) := by
 have hr : rowI A (placeR A i (c : Int) : Int) true = i := by unfold rowI; rw [if_pos rfl]; exact ofI_place h _
 unfold clampP
 rw [hr, inT_of (place_le h _), if_pos rfl]
 by_cases hl : (rowL A i).to_ ≤ placeR A i (c : Int)
 ·rw [if_pos hl]
  have := (placeR_in h (c : Int)).2; omega
 ·rw [if_neg hl, col_place h hc]
theorem clamp_in {i c : Nat} (h : i < lnN A) (hc : c < (rowC A i).length ∨ ((rowC A i).length = 0 ∧ c = 0)) : clampP A (placeR A i (c : Int) : Int) false = placeR A i (c : Int) := by
 have hb := lnN_bounds A
 have hi : i ≤ brs A := by omega
 have hr : rowI A (placeR A i (c : Int) : Int) false = i := by unfold rowI; rw [if_neg (by decide), ofI_place hi]; omega
 unfold clampP
 rw [hr, inT_of (place_le hi _), if_neg (show ¬ (false = true) by decide)]
 rcases hc with hc | ⟨h0, rfl⟩
 ·have h1 := placeR_mono hi hc (Nat.le_refl _)
  rw [placeR_ge (c := ((rowC A i).length : Int)) (by omega)] at h1
  rw [if_neg (by omega), col_place hi (by omega)]
 ·have e1 : placeR A i ((0 : Nat) : Int) = (rowL A i).to_ := placeR_ge (by omega)
  rw [e1, if_pos (Nat.le_refl _), h0, placeR_neg (by omega)]
  exact e1
end Mot
namespace Mot
variable {A : List Int} {p q : Nat × Nat}
def Stand (A : List Int) (n : Nat) (past : Bool) : Prop := ∃ p, On A p ∧ offP A p = n ∧ (past = false → Plc A p)
theorem stand_clamp (A : List Int) (x : Int) (past : Bool) : Stand A (clampP A x past) past := by
 obtain ⟨h1, h2, h3⟩ := pos_is A x past
 exact ⟨_, h1, h2, h3⟩
theorem Stand.clamp {n : Nat} {past : Bool} (h : Stand A n past) : clampP A (n : Int) past = n := by
 obtain ⟨⟨i, c⟩, h1, rfl, h3⟩ := h
 cases past with
 | true => exact clamp_on h1.row h1.col
 | false => exact clamp_in (h3 rfl).row (h3 rfl).col
theorem signR_le (A : List Int) (i : Nat) : signR A i < (rowC A i).length ∨ (rowC A i).length = 0 := by
 unfold signR
 split
 ·left; assumption
 ·omega
theorem seekL_mem {C : List Cel} {a : Int} {L : List Nat} {k j : Nat} (h : seekL C a L k = some j) : j ∈ L ∧ ∃ c, C[j]? = some c := by
 unfold seekL at h
 have := List.mem_of_getElem? h
 rw [List.mem_filter, decide_eq_true_eq] at this
 refine ⟨this.1, ?_⟩
 cases hc : C[j]? with
 | none => rw [hc] at this; simp at this
 | some c => exact ⟨c, rfl⟩
theorem kOf_pos (c : Int) : 1 ≤ kOf c := by unfold kOf; split <;> omega
theorem kOf_le (c : Int) : kOf c ≤ 9999 := by unfold kOf; split <;> omega
theorem mem_all : p ∈ allP A ↔ Plc A p := by
 unfold allP
 rw [List.mem_flatMap]
 constructor
 ·rintro ⟨i, hi, hp⟩
  obtain ⟨h1, h2⟩ := mem_rowP.1 hp
  subst h1
  exact ⟨List.mem_range.1 hi, h2⟩
 ·rintro ⟨h1, h2⟩
  exact ⟨p.1, List.mem_range.2 h1, mem_rowP.2 ⟨rfl, h2⟩⟩
theorem mem_brks {x : (Nat × Nat) × Nat} (h : x ∈ brksP A) : Plc A x.1 ∧ brkP A x.1 = some x.2 := by
 unfold brksP at h
 obtain ⟨p, hp, he⟩ := List.mem_filterMap.1 h
 obtain ⟨b, hb, rfl⟩ := Option.map_eq_some_iff.1 he
 exact ⟨mem_all.1 hp, hb⟩
end Mot
namespace Mot
variable {A : List Int}
abbrev Bk := (Nat × Nat) × Nat
def ownB (own b d : Nat) : Option Nat := if b % 3 ≠ own % 3 then some d else if b = own then some (d + 1) else if d = 1 then none else some (d - 1)
def balL (own : Nat) : List Bk → Nat → Option Nat
 | [], d => some d
 | x :: r, d => (ownB own x.2 d).bind (balL own r)
theorem bal_append (own : Nat) : ∀ (l m : List Bk) (d : Nat), balL own (l ++ m) d = (balL own l d).bind (balL own m)
 | [], _, _ => rfl
 | x :: l, m, d => by
  show (ownB own x.2 d).bind (balL own (l ++ m)) = ((ownB own x.2 d).bind (balL own l)).bind _
  cases ownB own x.2 d with
  | none => rfl
  | some e => exact bal_append own l m e
theorem shut_split {own : Nat} : ∀ {L : List Bk} {d : Nat} {p : Nat × Nat}, shutL own L d = some p → ∃ l b r, L = l ++ (p, b) :: r ∧ balL own l d = some 1 ∧ b % 3 = own % 3 ∧ b ≠ own
 | [], _, _, h => by simp [shutL] at h
 | (q, b) :: r, d, p, h => by
  have up : ∀ e, ownB own b d = some e → shutL own r e = some p → ∃ l b' r', (q, b) :: r = l ++ (p, b') :: r' ∧ balL own l d = some 1 ∧ b' % 3 = own % 3 ∧ b' ≠ own := fun e he h => by
   obtain ⟨l, b', r', h1, h2, h3⟩ := shut_split h
   refine ⟨(q, b) :: l, b', r', by rw [h1]; rfl, ?_, h3⟩
   show (ownB own b d).bind (balL own l) = _
   rw [he]; exact h2
  rw [shutL] at h
  unfold ownB at up
  split at h
  ·rename_i c1
   exact up d (if_pos c1) h
  ·rename_i c1
   rw [if_neg c1] at up
   split at h
   ·rename_i c2
    exact up (d + 1) (if_pos c2) h
   ·rename_i c2
    rw [if_neg c2] at up
    split at h
    ·rename_i c3
     cases h
     exact ⟨[], b, r, rfl, by rw [c3]; rfl, by omega, c2⟩
    ·rename_i c3
     exact up (d - 1) (if_neg c3) h
theorem shut_of {own : Nat} : ∀ (l : List Bk) {p : Nat × Nat} {b d : Nat} {r : List Bk}, balL own l d = some 1 → b % 3 = own % 3 → b ≠ own → shutL own (l ++ (p, b) :: r) d = some p
 | [], p, b, d, r, h, h3, hn => by
  have hd : d = 1 := Option.some.inj h
  show shutL own ((p, b) :: r) d = _
  rw [shutL, if_neg (by omega), if_neg hn, if_pos hd]
 | (q, c) :: l, p, b, d, r, h, h3, hn => by
  have h' : (ownB own c d).bind (balL own l) = some 1 := h
  show shutL own ((q, c) :: (l ++ (p, b) :: r)) d = _
  rw [shutL]
  unfold ownB at h'
  split
  ·rename_i c1
   rw [if_pos c1] at h'
   exact shut_of l h' h3 hn
  ·rename_i c1
   rw [if_neg c1] at h'
   split
   ·rename_i c2
    rw [if_pos c2] at h'
    exact shut_of l h' h3 hn
   ·rename_i c2
    rw [if_neg c2] at h'
    split
    ·rename_i c3
     rw [if_pos c3] at h'; cases h'
    ·rename_i c3
     rw [if_neg c3] at h'
     exact shut_of l h' h3 hn
theorem own_inv {own own' b d e : Nat} (h : ownB own b d = some e) (hd : 1 ≤ d) (h1 : own < 6) (h2 : own' < 6) (h3 : own' % 3 = own % 3) (hne : own' ≠ own) (hb : b < 6) : ownB own' b e = some d ∧ 1 ≤ e := by
 unfold ownB at h ⊢
 split at h
 ·cases h; rw [if_pos (by omega)]; exact ⟨rfl, hd⟩
 ·split at h
  ·cases h; rw [if_neg (by omega), if_neg (by omega), if_neg (by omega)]; exact ⟨rfl, by omega⟩
  ·split at h
   ·cases h
   ·cases h; rw [if_neg (by omega), if_pos (by omega)]; exact ⟨by congr 1; omega, by omega⟩
theorem bal_rev {own own' : Nat} (h1 : own < 6) (h2 : own' < 6) (h3 : own' % 3 = own % 3) (hne : own' ≠ own) : ∀ (l : List Bk) (d e : Nat), (∀ x ∈ l, x.2 < 6) → balL own l d = some e → 1 ≤ d → balL own' l.reverse e = some d ∧ 1 ≤ e
 | [], d, e, _, h, hd => by cases h; exact ⟨rfl, hd⟩
 | x :: l, d, e, hl, h, hd => by
  have h' : (ownB own x.2 d).bind (balL own l) = some e := h
  cases ho : ownB own x.2 d with
  | none => rw [ho] at h'; cases h'
  | some c =>
   rw [ho] at h'
   obtain ⟨g1, g2⟩ := own_inv ho hd h1 h2 h3 hne (hl x List.mem_cons_self)
   obtain ⟨g3, g4⟩ := bal_rev h1 h2 h3 hne l c e (fun y hy => hl y (List.mem_cons_of_mem _ hy)) h' g2
   refine ⟨?_, g4⟩
   rw [List.reverse_cons, bal_append, g3]
   show (ownB own' x.2 c).bind (balL own' []) = _
   rw [g1]; rfl
theorem all_rise (A : List Int) : (allP A).Pairwise fun p q => offP A p < offP A q := by
 have hb := lnN_bounds A
 unfold allP
 rw [List.pairwise_flatMap]
 refine ⟨fun i hi => ?_, ?_⟩
 ·rw [List.mem_range] at hi
  unfold rowP
  split
  ·exact List.pairwise_singleton _ _
  ·rw [List.pairwise_map]
   refine List.Pairwise.imp_of_mem (fun {a b} ha hc hab => ?_) List.pairwise_lt_range
   rw [List.mem_range] at ha hc
   exact off_lt (p := (i, a)) (q := (i, b)) ⟨by dsimp only; omega, by dsimp only; omega⟩ ⟨by dsimp only; omega, by dsimp only; omega⟩ (.inr ⟨rfl, hab⟩)
 ·refine List.Pairwise.imp_of_mem (fun {i j} hi hj hij p hp q hq => ?_) List.pairwise_lt_range
  rw [List.mem_range] at hi hj
  obtain ⟨p1, p2⟩ := mem_rowP.1 hp
  obtain ⟨q1, q2⟩ := mem_rowP.1 hq
  exact off_lt (by subst p1; exact (Plc.on ⟨hi, p2⟩)) (by subst q1; exact (Plc.on ⟨hj, q2⟩)) (.inl (by omega))
theorem brks_rise (A : List Int) : (brksP A).Pairwise fun x y => offP A x.1 < offP A y.1 := by
 unfold brksP
 rw [List.pairwise_filterMap]
 refine (all_rise A).imp fun {p q} h x hx y hy => ?_
 obtain ⟨_, _, rfl⟩ := Option.map_eq_some_iff.1 hx
 obtain ⟨_, _, rfl⟩ := Option.map_eq_some_iff.1 hy
 exact h
theorem sort_lt {c : Cel} {b : Nat} (h : sortB c = some b) : b < 6 ∧ c.alone = true ∧ c.atom = ([40, 91, 123, 41, 93, 125] : List Int).getD b 0 := by
 unfold sortB at h
 repeat' split at h
 all_goals first
  | (cases h; done)
  | (cases h; simp_all)
theorem find_at {α : Type} {f : α → Bool} : ∀ (l : List α) {x : α} {r : List α}, (∀ y ∈ l, f y = false) → f x = true → (l ++ x :: r).findIdx? f = some l.length
 | [], x, r, _, hx => by rw [List.nil_append, List.findIdx?_cons, hx]; rfl
 | y :: l, x, r, hl, hx => by
  rw [List.cons_append, List.findIdx?_cons, hl y List.mem_cons_self, find_at l (fun z hz => hl z (List.mem_cons_of_mem _ hz)) hx]; rfl
structure Pair (A : List Int) (x y : Bk) : Prop where
 ex : ∃ l m r, brksP A = l ++ x :: (m ++ y :: r) ∧ balL x.2 m 1 = some 1
 op : x.2 < 3
 cl : y.2 = x.2 + 3
theorem brk_lt {x : Bk} (h : x ∈ brksP A) : x.2 < 6 := by
 obtain ⟨_, h2⟩ := mem_brks h
 unfold brkP at h2
 obtain ⟨c, _, hc⟩ := Option.bind_eq_some_iff.1 h2
 exact (sort_lt hc).1
theorem Pair.lt {x y : Bk} (h : Pair A x y) : offP A x.1 < offP A y.1 := by
 obtain ⟨l, m, r, e, _⟩ := h.ex
 have := brks_rise A
 rw [e, List.pairwise_append, List.pairwise_cons] at this
 exact this.2.1.1 y (List.mem_append_right _ List.mem_cons_self)
theorem Pair.mem {x y : Bk} (h : Pair A x y) : x ∈ brksP A ∧ y ∈ brksP A := by
 obtain ⟨l, m, r, e, _⟩ := h.ex
 rw [e]
 exact ⟨List.mem_append_right _ List.mem_cons_self, List.mem_append_right _ (List.mem_cons_of_mem _ (List.mem_append_right _ List.mem_cons_self))⟩
theorem find_own {l r : List Bk} {x : Bk} (e : brksP A = l ++ x :: r) : (brksP A).findIdx? (fun q => q.1.1 == x.1.1 && decide (offP A x.1 ≤ offP A q.1)) = some l.length ∧ (brksP A)[l.length]? = some x := by
 have hr := brks_rise A
 rw [e] at hr ⊢
 rw [List.pairwise_append] at hr
 refine ⟨find_at l (fun y hy => ?_) (by simp), by simp⟩
 have := hr.2.2 y hy x List.mem_cons_self
 rw [Bool.and_eq_false_iff, decide_eq_false_iff_not]
 exact .inr (by omega)
theorem Pair.fore {x y : Bk} (h : Pair A x y) : matchP A (offP A x.1) x.1.1 = some (offP A y.1) := by
 obtain ⟨l, m, r, e, hb⟩ := h.ex
 obtain ⟨f1, f2⟩ := find_own e
 have hop := h.op; have hcl := h.cl
 unfold matchP
 rw [f1]
 dsimp only
 rw [f2]
 dsimp only
 rw [if_pos hop]
 have hd : (brksP A).drop (l.length + 1) = m ++ y :: r := by rw [e]; simp
 rw [hd]
 obtain ⟨yp, yb⟩ := y
 rw [shut_of m hb (by dsimp only at hcl; omega) (by dsimp only at hcl; omega)]; rfl
theorem Pair.back {x y : Bk} (h : Pair A x y) : matchP A (offP A y.1) y.1.1 = some (offP A x.1) := by
 obtain ⟨l, m, r, e, hb⟩ := h.ex
 have e2 : brksP A = (l ++ x :: m) ++ y :: r := by rw [e]; simp
 obtain ⟨f1, f2⟩ := find_own e2
 have hop := h.op; have hcl := h.cl
 have hm : ∀ z ∈ m, z.2 < 6 := fun z hz => brk_lt (A := A) (by rw [e]; exact List.mem_append_right _ (List.mem_cons_of_mem _ (List.mem_append_left _ hz)))
 have hbr := (bal_rev (own := x.2) (own' := y.2) (by omega) (by omega) (by omega) (by omega) m 1 1 hm hb (Nat.le_refl _)).1
 unfold matchP
 rw [f1]
 dsimp only
 rw [f2]
 dsimp only
 rw [if_neg (by omega)]
 have hd : ((brksP A).take (l ++ x :: m).length).reverse = m.reverse ++ x :: l.reverse := by rw [e2, List.take_left]; simp
 rw [hd]
 obtain ⟨xp, xb⟩ := x
 rw [shut_of m.reverse hbr (by dsimp only at hcl; omega) (by dsimp only at hcl; omega)]; rfl
theorem match_pair {s i n : Nat} (h : matchP A s i = some n) : ∃ x y, Pair A x y ∧ ((n = offP A y.1 ∧ s ≤ offP A x.1) ∨ (n = offP A x.1 ∧ s ≤ offP A y.1)) := by
 unfold matchP at h
 split at h
 ·cases h
 ·rename_i m hm
  rw [List.findIdx?_eq_some_iff_getElem] at hm
  obtain ⟨hl, hp, _⟩ := hm
  rw [List.getElem?_eq_getElem hl] at h
  dsimp only at h
  rw [Bool.and_eq_true, decide_eq_true_eq] at hp
  have hs := hp.2
  have hq : (brksP A)[m] ∈ brksP A := List.getElem_mem hl
  have hsp : brksP A = (brksP A).take m ++ (brksP A)[m] :: (brksP A).drop (m + 1) := by rw [← List.drop_eq_getElem_cons hl, List.take_append_drop]
  generalize hqe : (brksP A)[m] = q at *
  have hq6 := brk_lt hq
  obtain ⟨p, hp', rfl⟩ := Option.map_eq_some_iff.1 h
  by_cases hop : q.2 < 3
  ·rw [if_pos hop] at hp'
   obtain ⟨l, b, r, e, h1, h2, h3⟩ := shut_split hp'
   rw [e] at hsp
   have hb6 : b < 6 := brk_lt (A := A) (x := (p, b)) (by rw [hsp]; exact List.mem_append_right _ (List.mem_cons_of_mem _ (List.mem_append_right _ List.mem_cons_self)))
   exact ⟨q, (p, b), ⟨⟨_, l, r, hsp, h1⟩, hop, by dsimp only; omega⟩, .inl ⟨rfl, hs⟩⟩
  ·rw [if_neg hop] at hp'
   obtain ⟨l, b, r, e, h1, h2, h3⟩ := shut_split hp'
   have e' : (brksP A).take m = r.reverse ++ (p, b) :: l.reverse := by rw [← List.reverse_reverse ((brksP A).take m), e]; simp
   rw [e'] at hsp
   have hmem : ∀ z ∈ (p, b) :: l.reverse, z.2 < 6 := fun z hz => brk_lt (A := A) (by rw [hsp]; exact List.mem_append_left _ (List.mem_append_right _ hz))
   have hb6 : b < 6 := hmem (p, b) List.mem_cons_self
   have hr := (bal_rev (own := q.2) (own' := b) hq6 hb6 h2 h3 l 1 1 (fun z hz => hmem z (List.mem_cons_of_mem _ (List.mem_reverse.2 hz))) h1 (Nat.le_refl _)).1
   exact ⟨(p, b), q, ⟨⟨r.reverse, l.reverse, (brksP A).drop (m + 1), hsp.trans (by simp), hr⟩, by dsimp only; omega, by dsimp only; omega⟩, .inr ⟨rfl, hs⟩⟩
theorem brk_atom {x : Bk} (h : x ∈ brksP A) : A[offP A x.1]? = some (([40, 91, 123, 41, 93, 125] : List Int).getD x.2 0) := by
 obtain ⟨hp, h2⟩ := mem_brks h
 have hb := lnN_bounds A
 have hr := hp.row
 have hi : x.1.1 ≤ brs A := by omega
 unfold brkP at h2
 obtain ⟨c, hc, hs⟩ := Option.bind_eq_some_iff.1 h2
 obtain ⟨_, _, h3⟩ := sort_lt hs
 have hlt := (List.getElem?_eq_some_iff.1 hc).1
 obtain ⟨_, _, _, _, q⟩ := lineC_at (row_ok hi).ft (by have := (row_ok hi).tn; have := (row_ok hi).nl; omega) hc
 unfold offP
 rw [placeR_lt hlt, frm_of hc, q.atom, h3]
theorem paras_match (A : List Int) (x count : Int) : parasM A x 33 count = match matchP A (clampP A x false) (rowI A (clampP A x false : Int) false) with
  | some to => landP A to 1
  | none => noP 80 := by
 unfold parasM
 dsimp only
 rw [if_neg (by decide), if_neg (by decide), if_pos rfl]
 all_goals (cases matchP A (clampP A x false) (rowI A (clampP A x false : Int) false) <;> rfl)
theorem paras_at {x : Bk} (h : x ∈ brksP A) : clampP A (offP A x.1 : Int) false = offP A x.1 ∧ rowI A (offP A x.1 : Int) false = x.1.1 := by
 obtain ⟨hp, _⟩ := mem_brks h
 have hb := lnN_bounds A
 have hr := hp.row
 refine ⟨Stand.clamp (past := false) ⟨x.1, hp.on, rfl, fun _ => hp⟩, ?_⟩
 unfold rowI
 rw [if_neg (by decide)]
 unfold offP
 rw [ofI_place hp.on.row]; omega
theorem match_is (A : List Int) (x : Int) : parasM A x 33 0 = noP 80 ∨ ∃ n m lo hi : Nat, parasM A x 33 0 = landP A n 1 ∧ parasM A (n : Int) 33 0 = landP A m 1 ∧ parasM A (m : Int) 33 0 = landP A n 1 ∧
  clampP A x false ≤ m ∧ lo < hi ∧ ((n = lo ∧ m = hi) ∨ (n = hi ∧ m = lo)) ∧ ∃ b : Nat, b < 3 ∧ A[lo]? = some (([40, 91, 123] : List Int).getD b 0) ∧ A[hi]? = some (([41, 93, 125] : List Int).getD b 0) := by
 rw [paras_match]
 cases hm : matchP A (clampP A x false) (rowI A (clampP A x false : Int) false) with
 | none => exact .inl rfl
 | some n =>
  right
  obtain ⟨p, q, hP, hw⟩ := match_pair hm
  have hpm := hP.mem
  have hlt := hP.lt
  have hop := hP.op; have hcl := hP.cl
  have f1 : parasM A (offP A p.1 : Int) 33 0 = landP A (offP A q.1) 1 := by
   rw [paras_match, (paras_at hpm.1).1, (paras_at hpm.1).2, hP.fore]
  have f2 : parasM A (offP A q.1 : Int) 33 0 = landP A (offP A p.1) 1 := by
   rw [paras_match, (paras_at hpm.2).1, (paras_at hpm.2).2, hP.back]
  have a1 := brk_atom hpm.1
  have a2 := brk_atom hpm.2
  have g1 : A[offP A p.1]? = some (([40, 91, 123] : List Int).getD p.2 0) := by
   rw [a1]
   rcases (by omega : p.2 = 0 ∨ p.2 = 1 ∨ p.2 = 2) with h | h | h <;> rw [h] <;> rfl
  have g2 : A[offP A q.1]? = some (([41, 93, 125] : List Int).getD p.2 0) := by
   rw [a2, hcl]
   rcases (by omega : p.2 = 0 ∨ p.2 = 1 ∨ p.2 = 2) with h | h | h <;> rw [h] <;> rfl
  rcases hw with ⟨rfl, hs⟩ | ⟨rfl, hs⟩
  ·exact ⟨_, _, _, _, rfl, f2, f1, hs, hlt, .inr ⟨rfl, rfl⟩, p.2, hop, g1, g2⟩
  ·exact ⟨_, _, _, _, rfl, f1, f2, hs, hlt, .inl ⟨rfl, rfl⟩, p.2, hop, g1, g2⟩
end Mot
namespace Mot
variable {A : List Int}
theorem pos_of {p : Nat × Nat} {past : Bool} (h1 : On A p) (h3 : past = false → Plc A p) : posP A (offP A p : Int) past = p := by
 have hb := lnN_bounds A
 have hc : clampP A (offP A p : Int) past = offP A p := Stand.clamp ⟨p, h1, rfl, h3⟩
 have hr : rowI A (offP A p : Int) past = p.1 := by
  unfold rowI offP
  rw [ofI_place h1.row]
  cases past with
  | true => rfl
  | false => rw [if_neg (by decide)]; have := (h3 rfl).row; omega
 unfold posP
 rw [hc, hr]
 unfold offP
 rw [col_place h1.row h1.col]
noncomputable def mostR (A : List Int) (i : Nat) (past : Bool) : Nat := if past then (rowC A i).length else (rowC A i).length - 1
theorem pos_most (A : List Int) (x : Int) (past : Bool) : (posP A x past).2 ≤ mostR A (posP A x past).1 past ∧ mostR A (posP A x past).1 past ≤ (rowC A (posP A x past).1).length := by
 obtain ⟨h1, _, h3⟩ := pos_is A x past
 unfold mostR
 cases past with
 | true => exact ⟨h1.col, Nat.le_refl _⟩
 | false => have := (h3 rfl).col; rw [if_neg (by decide)]; omega
theorem chars_one (A : List Int) (x count arg : Int) (past : Bool) : charsP A x 1 count arg past = if (posP A x past).2 = 0 then noP 80 else landP A (offP A ((posP A x past).1, (posP A x past).2 - kOf count)) 0 := by
 have e : charsP A x 1 count arg past = if firstI (rowC A (rowI A (clampP A x past : Int) past)) (clampP A x past : Int) = 0 then noP 80 else landP A (placeR A (rowI A (clampP A x past : Int) past) (((firstI (rowC A (rowI A (clampP A x past : Int) past)) (clampP A x past : Int) : Nat) : Int) - kOf count)) 0 := by
  unfold charsP
  try dsimp only
  rw [if_pos rfl]
 rw [e, clamp_row]
 unfold posP
 try dsimp only
 split
 ·rfl
 ·congr 1
  unfold offP
  try dsimp only
  generalize firstI (rowC A (rowI A x past)) (clampP A x past : Int) = c
  rcases Nat.le_total c (kOf count) with u | u
  ·rw [placeR_neg (by omega), placeR_neg (c := ((c - kOf count : Nat) : Int)) (by omega)]
  ·congr 1; omega
theorem chars_two (A : List Int) (x count arg : Int) (past : Bool) : charsP A x 2 count arg past = if (posP A x past).2 = mostR A (posP A x past).1 past then noP 80 else landP A (offP A ((posP A x past).1, min ((posP A x past).2 + kOf count) (mostR A (posP A x past).1 past))) 0 := by
 have e : charsP A x 2 count arg past = if firstI (rowC A (rowI A (clampP A x past : Int) past)) (clampP A x past : Int) = mostR A (rowI A (clampP A x past : Int) past) past then noP 80 else landP A (placeR A (rowI A (clampP A x past : Int) past) (min (((firstI (rowC A (rowI A (clampP A x past : Int) past)) (clampP A x past : Int) : Nat) : Int) + kOf count) (mostR A (rowI A (clampP A x past : Int) past) past))) 0 := by
  unfold charsP
  try dsimp only
  rw [if_neg (by decide), if_pos rfl]; rfl
 rw [e, clamp_row]
 unfold posP
 try dsimp only
 split
 ·rfl
 ·congr 1
  unfold offP
  try dsimp only
  congr 1; omega
theorem row_place {i : Nat} (h : i < lnN A) (c : Int) : rowI A (placeR A i c : Int) false = i := by
 have hb := lnN_bounds A
 unfold rowI
 rw [if_neg (by decide), ofI_place (by omega)]; omega
end Mot
namespace Mot
variable {A : List Int} {i : Nat}
noncomputable def rowB (A : List Int) (i : Nat) : List Int := (A.drop (rowL A i).from_).take ((rowL A i).to_ - (rowL A i).from_)
noncomputable def bndR (A : List Int) (i j : Nat) : Nat := placeR A i (j : Int) - (rowL A i).from_
theorem rowB_length (h : i ≤ brs A) : (rowB A i).length = (rowL A i).to_ - (rowL A i).from_ := rowB_len h
theorem rowC_cuts (A : List Int) (i : Nat) : (rowC A i).length + 1 = (cuts (rowB A i)).length := by
 have h1 : (rowC A i).length = (cuts (rowB A i)).length - 1 := cels_len _ _
 have h2 := cuts_pos (rowB A i)
 omega
theorem row_cuts (h : i ≤ brs A) : cuts (rowB A i) = (List.range ((rowC A i).length + 1)).map (bndR A i) := by
 have hn := rowC_cuts A i
 refine List.ext_getElem? fun j => ?_
 rw [List.getElem?_map]
 rcases Nat.lt_or_ge j (rowC A i).length with hj | hj
 ·obtain ⟨c, hc⟩ := cel_get hj
  obtain ⟨ci, cj, g1, _, q⟩ := lineC_at (row_ok h).ft (by have := (row_ok h).tn; have := (row_ok h).nl; omega) hc
  have g1 : (cuts (rowB A i))[j]? = some ci := g1
  rw [g1, List.getElem?_range (by omega)]
  show some ci = some (bndR A i j)
  unfold bndR
  rw [placeR_lt hj, frm_of hc, q.from_]
  congr 1; omega
 ·rcases Nat.lt_or_ge (rowC A i).length j with u | u
  ·rw [List.getElem?_eq_none (by omega), List.getElem?_eq_none (by rw [List.length_range]; omega)]; rfl
  ·have hjn : j = (rowC A i).length := by omega
   have hl := cuts_last (rowB A i)
   rw [← hn, Nat.add_sub_cancel] at hl
   rw [hjn, hl, List.getElem?_range (by omega)]
   show some _ = some (bndR A i _)
   unfold bndR
   rw [placeR_ge (by omega), rowB_length h]
theorem bnd_lt (h : i ≤ brs A) {c d : Nat} (hcd : c < d) (hd : d ≤ (rowC A i).length) : bndR A i c < bndR A i d := by
 have := placeR_mono h hcd hd
 have := (placeR_in h (c : Int)).1
 unfold bndR; omega
theorem bnd_place (h : i ≤ brs A) (c : Nat) : (rowL A i).from_ + bndR A i c = placeR A i (c : Int) := by
 have := (placeR_in h (c : Int)).1
 unfold bndR; omega
theorem bnd_bk (h : i ≤ brs A) {c : Nat} (hc : c ≤ (rowC A i).length) : bk (rowB A i) (bndR A i c) = true := by
 rw [← mem_cuts, row_cuts h]
 exact List.mem_map.2 ⟨c, List.mem_range.2 (by omega), rfl⟩
theorem bnd_atom (h : i ≤ brs A) {j : Nat} (hj : j < (rowC A i).length) : (rowB A i)[bndR A i j]? = ((rowC A i)[j]?).map (·.atom) := by
 obtain ⟨c, hc⟩ := cel_get hj
 obtain ⟨ci, cj, _, _, q⟩ := lineC_at (row_ok h).ft (by have := (row_ok h).tn; have := (row_ok h).nl; omega) hc
 have h1 := q.from_; have h2 := q.to_; have h3 := q.lt; have h4 := q.le
 have hb : bndR A i j = ci := by
  unfold bndR
  rw [placeR_lt hj, frm_of hc]; omega
 rw [hb, hc]
 unfold rowB
 rw [List.getElem?_take, if_pos (by omega), List.getElem?_drop, ← h1]
 exact q.atom
end Mot
namespace Mot
variable {A : List Int}
theorem chars_seek (A : List Int) (x count arg : Int) (past : Bool) :
  charsP A x 7 count arg past = (match seekL (rowC A (posP A x past).1) arg (upL (rowC A (posP A x past).1).length (posP A x past).2) (kOf count) with | none => noP 80 | some j => landP A (placeR A (posP A x past).1 (j : Int)) 1) ∧
  charsP A x 9 count arg past = (match seekL (rowC A (posP A x past).1) arg (upL (rowC A (posP A x past).1).length (posP A x past).2) (kOf count) with | none => noP 80 | some j => landP A (placeR A (posP A x past).1 ((j : Int) - 1)) 1) ∧
  charsP A x 8 count arg past = (match seekL (rowC A (posP A x past).1) arg (downL (posP A x past).2) (kOf count) with | none => noP 80 | some j => landP A (placeR A (posP A x past).1 (j : Int)) 0) ∧
  charsP A x 10 count arg past = (match seekL (rowC A (posP A x past).1) arg (downL (posP A x past).2) (kOf count) with | none => noP 80 | some j => landP A (placeR A (posP A x past).1 ((j : Int) + 1)) 0) := by
 have hr := clamp_row A x past
 refine ⟨?_, ?_, ?_, ?_⟩
 ·unfold charsP posP
  dsimp only
  rw [hr, if_neg (by decide), if_neg (by decide), if_neg (by decide), if_neg (by decide), if_neg (by decide), if_neg (by decide), if_pos (by decide)]
  all_goals (cases seekL (rowC A (rowI A x past)) arg (upL (rowC A (rowI A x past)).length (firstI (rowC A (rowI A x past)) (clampP A x past : Int))) (kOf count) <;> rfl)
 ·unfold charsP posP
  dsimp only
  rw [hr, if_neg (by decide), if_neg (by decide), if_neg (by decide), if_neg (by decide), if_neg (by decide), if_neg (by decide), if_pos (by decide)]
  all_goals (cases seekL (rowC A (rowI A x past)) arg (upL (rowC A (rowI A x past)).length (firstI (rowC A (rowI A x past)) (clampP A x past : Int))) (kOf count) <;> rfl)
 ·unfold charsP posP
  dsimp only
  rw [hr, if_neg (by decide), if_neg (by decide), if_neg (by decide), if_neg (by decide), if_neg (by decide), if_neg (by decide), if_neg (by decide), if_pos (by decide)]
  all_goals (cases seekL (rowC A (rowI A x past)) arg (downL (firstI (rowC A (rowI A x past)) (clampP A x past : Int))) (kOf count) <;> rfl)
 ·unfold charsP posP
  dsimp only
  rw [hr, if_neg (by decide), if_neg (by decide), if_neg (by decide), if_neg (by decide), if_neg (by decide), if_neg (by decide), if_neg (by decide), if_pos (by decide)]
  all_goals (cases seekL (rowC A (rowI A x past)) arg (downL (firstI (rowC A (rowI A x past)) (clampP A x past : Int))) (kOf count) <;> rfl)
end Mot
namespace Mot
variable {A : List Int} {p q : Nat × Nat}
noncomputable def brkF (A : List Int) (p : Nat × Nat) : Option Bk := (brkP A p).map fun b => (p, b)
theorem brks_eq (A : List Int) : brksP A = (allP A).filterMap (brkF A) := rfl
noncomputable def aftB (A : List Int) (p : Nat × Nat) : List Bk := (aft A p).filterMap (brkF A)
noncomputable def befB (A : List Int) (p : Nat × Nat) : List Bk := (bef A p).filterMap (brkF A)
theorem brks_at (h : Plc A p) : brksP A = (befB A p).reverse ++ (p :: aft A p).filterMap (brkF A) := by
 rw [brks_eq, all_split h, List.filterMap_append, List.filterMap_reverse]; rfl
noncomputable def headB (A : List Int) (i : Nat) (p : Nat × Nat) : Option Bk := match ((p :: aft A p).filterMap (brkF A)).head? with
 | none => none
 | some q => if q.1.1 = i then some q else none
theorem headB_here {b : Nat} (h : brkP A p = some b) : headB A p.1 p = some (p, b) := by
 have e : brkF A p = some (p, b) := by unfold brkF; rw [h]; rfl
 unfold headB
 rw [List.filterMap_cons_some e]
 exact if_pos rfl
theorem headB_none {i : Nat} (h : brkP A p = none) (hn : nextW A p = none) : headB A i p = none := by
 have e : brkF A p = none := by unfold brkF; rw [h]; rfl
 unfold headB
 rw [List.filterMap_cons_none e, aft_none hn]; rfl
theorem headB_next {i : Nat} (h : brkP A p = none) (hn : nextW A p = some q) : headB A i p = headB A i q := by
 have e : brkF A p = none := by unfold brkF; rw [h]; rfl
 unfold headB
 rw [List.filterMap_cons_none e, aft_some hn]
theorem brkF_row {x : Bk} {r : Nat × Nat} (h : brkF A r = some x) : x.1 = r := by
 unfold brkF at h
 obtain ⟨b, _, rfl⟩ := Option.map_eq_some_iff.1 h
 rfl
theorem headB_other {i : Nat} (h : i < p.1) : headB A i p = none := by
 unfold headB
 split
 ·rfl
 ·rename_i x hx
  have hm := List.mem_of_mem_head? hx
  obtain ⟨r, hr, he⟩ := List.mem_filterMap.1 hm
  have e := brkF_row he
  refine if_neg ?_
  rw [e]
  rcases List.mem_cons.1 hr with rfl | hr
  ·omega
  ·rcases mem_aft.1 hr with ⟨h1, _⟩ | ⟨h1, _⟩ <;> omega
theorem shut_fore_none {own d : Nat} (h : nextW A p = none) : shutL own (aftB A p) d = none := by unfold aftB; rw [aft_none h]; rfl
theorem shut_fore_skip {own d : Nat} (h : nextW A p = some q) (hb : brkP A q = none) : shutL own (aftB A p) d = shutL own (aftB A q) d := by
 have e : brkF A q = none := by unfold brkF; rw [hb]; rfl
 unfold aftB; rw [aft_some h, List.filterMap_cons_none e]
theorem shut_fore_some {own d b : Nat} (h : nextW A p = some q) (hb : brkP A q = some b) : shutL own (aftB A p) d = if b % 3 ≠ own % 3 then shutL own (aftB A q) d else if b = own then shutL own (aftB A q) (d + 1) else if d = 1 then some q else shutL own (aftB A q) (d - 1) := by
 have e : brkF A q = some (q, b) := by unfold brkF; rw [hb]; rfl
 unfold aftB; rw [aft_some h, List.filterMap_cons_some e, shutL]
theorem shut_back_none {own d : Nat} (h : prevW A p = none) : shutL own (befB A p) d = none := by unfold befB; rw [bef_none h]; rfl
theorem shut_back_skip {own d : Nat} (h : prevW A p = some q) (hb : brkP A q = none) : shutL own (befB A p) d = shutL own (befB A q) d := by
 have e : brkF A q = none := by unfold brkF; rw [hb]; rfl
 unfold befB; rw [bef_some h, List.filterMap_cons_none e]
theorem shut_back_some {own d b : Nat} (h : prevW A p = some q) (hb : brkP A q = some b) : shutL own (befB A p) d = if b % 3 ≠ own % 3 then shutL own (befB A q) d else if b = own then shutL own (befB A q) (d + 1) else if d = 1 then some q else shutL own (befB A q) (d - 1) := by
 have e : brkF A q = some (q, b) := by unfold brkF; rw [hb]; rfl
 unfold befB; rw [bef_some h, List.filterMap_cons_some e, shutL]
theorem drop_at {α : Type} : ∀ (l : List α) {x : α} {r : List α}, (l ++ x :: r).drop (l.length + 1) = r
 | [], _, _ => rfl
 | _ :: l, _, _ => drop_at l
theorem match_walk (h : Plc A p) : matchP A (offP A p) p.1 = (headB A p.1 p).bind fun q => (shutL q.2 (if q.2 < 3 then aftB A q.1 else befB A q.1) 1).map (offP A) := by
 have hl1 : ∀ y ∈ (befB A p).reverse, (fun q : Bk => q.1.1 == p.1 && decide (offP A p ≤ offP A q.1)) y = false := fun y hy => by
  rw [List.mem_reverse] at hy
  obtain ⟨r, hr, he⟩ := List.mem_filterMap.1 hy
  have := bef_off h.on hr
  dsimp only
  rw [brkF_row he, Bool.and_eq_false_iff, decide_eq_false_iff_not]
  exact .inr (by omega)
 have hge : ∀ y ∈ (p :: aft A p).filterMap (brkF A), offP A p ≤ offP A y.1 ∧ p.1 ≤ y.1.1 := fun y hy => by
  obtain ⟨r, hr, he⟩ := List.mem_filterMap.1 hy
  rw [brkF_row he]
  rcases List.mem_cons.1 hr with rfl | hr
  ·exact ⟨Nat.le_refl _, Nat.le_refl _⟩
  ·refine ⟨Nat.le_of_lt (aft_off h.on hr), ?_⟩
   rcases mem_aft.1 hr with ⟨h1, _⟩ | ⟨h1, _⟩ <;> omega
 have none_of : ∀ {m : Option Nat}, (brksP A).findIdx? (fun q => q.1.1 == p.1 && decide (offP A p ≤ offP A q.1)) = none → matchP A (offP A p) p.1 = none := fun {m} hh => by unfold matchP; rw [hh]
 cases hL : (p :: aft A p).filterMap (brkF A) with
 | nil =>
  have hh : headB A p.1 p = none := by unfold headB; rw [hL]; rfl
  rw [hh]
  refine none_of (m := none) ?_
  rw [brks_at h, hL, List.append_nil, List.findIdx?_eq_none_iff]
  exact hl1
 | cons q r =>
  have hqm : q ∈ (p :: aft A p).filterMap (brkF A) := by rw [hL]; exact List.mem_cons_self
  obtain ⟨g1, g2⟩ := hge q hqm
  have hB : brksP A = (befB A p).reverse ++ q :: r := by rw [brks_at h, hL]
  by_cases hq : q.1.1 = p.1
  ·have hh : headB A p.1 p = some q := by unfold headB; rw [hL]; exact if_pos hq
   rw [hh]
   have hf : (brksP A).findIdx? (fun q => q.1.1 == p.1 && decide (offP A p ≤ offP A q.1)) = some (befB A p).reverse.length := by
    rw [hB]
    exact find_at _ hl1 (by rw [hq, decide_eq_true g1]; simp)
   have hmem : q ∈ brksP A := by rw [hB]; exact List.mem_append_right _ List.mem_cons_self
   obtain ⟨hpl, hbk⟩ := mem_brks hmem
   have eq1 : brkF A q.1 = some q := by unfold brkF; rw [hbk]; rfl
   have hB2 : brksP A = (befB A q.1).reverse ++ q :: aftB A q.1 := by rw [brks_at hpl, List.filterMap_cons_some eq1]; rfl
   have hlen : (befB A p).reverse.length = (befB A q.1).reverse.length := by
    have a1 := (find_own hB).1
    have a2 := (find_own hB2).1
    rw [a1] at a2
    exact Option.some.inj a2
   obtain ⟨s1, s2⟩ := List.append_inj (hB.symm.trans hB2) hlen
   have s3 : r = aftB A q.1 := (List.cons.inj s2).2
   unfold matchP
   rw [hf]
   dsimp only
   have hget : (brksP A)[(befB A p).reverse.length]? = some q := by rw [hB]; simp
   rw [hget, Option.bind_some]
   dsimp only
   have hd : (brksP A).drop ((befB A p).reverse.length + 1) = aftB A q.1 := by rw [hB, ← s3]; exact drop_at _
   have ht : ((brksP A).take (befB A p).reverse.length).reverse = befB A q.1 := by rw [hB, List.take_left, s1, List.reverse_reverse]
   rw [hd, ht]
  ·have hh : headB A p.1 p = none := by unfold headB; rw [hL]; exact if_neg hq
   rw [hh]
   refine none_of (m := none) ?_
   rw [hB, List.findIdx?_eq_none_iff]
   intro y hy
   rcases List.mem_append.1 hy with hy | hy
   ·exact hl1 y hy
   ·have hyr : y.1.1 ≠ p.1 := by
     rcases List.mem_cons.1 hy with rfl | hyr
     ·exact hq
     ·intro he
      have hr := brks_rise A
      rw [hB, List.pairwise_append] at hr
      have h1 := (List.pairwise_cons.1 hr.2.1).1 y hyr
      have hmq : q ∈ brksP A := by rw [hB]; exact List.mem_append_right _ List.mem_cons_self
      have hmy : y ∈ brksP A := by rw [hB]; exact List.mem_append_right _ hy
      have := off_lt_rows (mem_brks hmy).1.on (mem_brks hmq).1.on (by omega)
      omega
    rw [Bool.and_eq_false_iff, beq_eq_false_iff_ne]
    exact .inl hyr
def upF (f : Nat → Bool) (j n k : Nat) : Option Nat := ((List.range' j (n - j)).filter f)[k - 1]?
def dnF (f : Nat → Bool) (j k : Nat) : Option Nat := ((List.range j).reverse.filter f)[k - 1]?
theorem upF_none {f : Nat → Bool} {j n k : Nat} (h : n ≤ j) : upF f j n k = none := by unfold upF; rw [show n - j = 0 by omega]; rfl
theorem up_cons {j n : Nat} (h : j < n) : List.range' j (n - j) = j :: List.range' (j + 1) (n - (j + 1)) := by
 obtain ⟨m, hm⟩ : ∃ m, n - j = m + 1 := ⟨n - j - 1, by omega⟩
 rw [hm, List.range'_succ, show n - (j + 1) = m by omega]
theorem upF_no {f : Nat → Bool} {j n k : Nat} (h : j < n) (hf : f j = false) : upF f j n k = upF f (j + 1) n k := by
 unfold upF; rw [up_cons h, List.filter_cons_of_neg (by rw [hf]; decide)]
theorem upF_one {f : Nat → Bool} {j n : Nat} (h : j < n) (hf : f j = true) : upF f j n 1 = some j := by
 unfold upF; rw [up_cons h, List.filter_cons_of_pos hf]; rfl
theorem upF_more {f : Nat → Bool} {j n k : Nat} (h : j < n) (hf : f j = true) (hk : 1 ≤ k) : upF f j n (k + 1) = upF f (j + 1) n k := by
 unfold upF; rw [up_cons h, List.filter_cons_of_pos hf]
 obtain ⟨i, rfl⟩ : ∃ i, k = i + 1 := ⟨k - 1, by omega⟩
 rfl
theorem dnF_no {f : Nat → Bool} {j k : Nat} (hf : f j = false) : dnF f (j + 1) k = dnF f j k := by
 unfold dnF; rw [List.range_succ, List.reverse_append, List.reverse_singleton, List.singleton_append, List.filter_cons_of_neg (by rw [hf]; decide)]
theorem dnF_one {f : Nat → Bool} {j : Nat} (hf : f j = true) : dnF f (j + 1) 1 = some j := by
 unfold dnF; rw [List.range_succ, List.reverse_append, List.reverse_singleton, List.singleton_append, List.filter_cons_of_pos hf]; rfl
theorem dnF_more {f : Nat → Bool} {j k : Nat} (hf : f j = true) (hk : 1 ≤ k) : dnF f (j + 1) (k + 1) = dnF f j k := by
 unfold dnF; rw [List.range_succ, List.reverse_append, List.reverse_singleton, List.singleton_append, List.filter_cons_of_pos hf]
 obtain ⟨i, rfl⟩ : ∃ i, k = i + 1 := ⟨k - 1, by omega⟩
 rfl
theorem sign_at {i c : Nat} {x : Cel} (hx : (rowC A i)[c]? = some x) (hk : x.kind ≠ 0) (h0 : ∀ (j : Nat) y, j < c → (rowC A i)[j]? = some y → y.kind = 0) : signR A i = c := by
 have hl := (List.getElem?_eq_some_iff.1 hx).1
 have e : (rowC A i).findIdx (fun c => c.kind != 0) = c := by
  rw [List.findIdx_eq hl]
  refine ⟨?_, fun j hj => ?_⟩
  ·rw [List.getElem?_eq_getElem hl] at hx
   rw [Option.some.inj hx]; simpa using hk
  ·have := h0 j _ hj (List.getElem?_eq_getElem (by omega))
   simpa using this
 unfold signR
 rw [e, if_pos hl]
theorem sign_none {i : Nat} (h0 : ∀ (j : Nat) y, (rowC A i)[j]? = some y → y.kind = 0) : signR A i = (rowC A i).length - 1 := by
 have e : (rowC A i).findIdx (fun c => c.kind != 0) = (rowC A i).length := by
  rw [List.findIdx_eq_length]
  intro c hc
  obtain ⟨j, hj⟩ := List.getElem?_of_mem hc
  have := h0 j c hj
  simpa using this
 unfold signR
 rw [e, if_neg (Nat.lt_irrefl _)]
theorem blank_is (A : List Int) (i : Nat) : blankR A i = ((rowC A i).length == 0 || kindB (rowC A i) (signR A i) true == 0) := by
 by_cases h0 : ∀ (j : Nat) y, (rowC A i)[j]? = some y → y.kind = 0
 ·have hb : blankR A i = true := by
   unfold blankR
   rw [List.all_eq_true]
   intro c hc
   obtain ⟨j, hj⟩ := List.getElem?_of_mem hc
   rw [h0 j c hj]; rfl
  rw [hb, sign_none h0]
  rcases Nat.eq_zero_or_pos (rowC A i).length with u | u
  ·rw [u]; rfl
  ·obtain ⟨c, hc⟩ := cel_get (C := rowC A i) (j := (rowC A i).length - 1) (by omega)
   unfold kindB
   rw [hc, if_pos rfl]
   show true = (_ || min c.kind 1 == 0)
   rw [h0 _ c hc]; simp
 ·have hex : ∃ (c : Nat) (x : Cel), (rowC A i)[c]? = some x ∧ x.kind ≠ 0 := Classical.byContradiction fun hn => h0 fun j y hy => Classical.byContradiction fun hk => hn ⟨j, y, hy, hk⟩
  have hf : (rowC A i).findIdx (fun c => c.kind != 0) < (rowC A i).length := by
   obtain ⟨c, x, hx, hk⟩ := hex
   rw [List.findIdx_lt_length]
   exact ⟨x, List.mem_of_getElem? hx, by simpa using hk⟩
  have hs : signR A i = (rowC A i).findIdx (fun c => c.kind != 0) := by unfold signR; rw [if_pos hf]
  have hk := List.findIdx_getElem (w := hf)
  have hb : blankR A i = false := by
   unfold blankR
   rw [List.all_eq_false]
   exact ⟨_, List.getElem_mem hf, by simpa using hk⟩
  rw [hb, hs]
  unfold kindB
  rw [List.getElem?_eq_getElem hf, if_pos rfl]
  have hk2 : ((rowC A i)[(rowC A i).findIdx fun c => c.kind != 0]'hf).kind ≠ 0 := by simpa using hk
  have hn0 : (rowC A i).length ≠ 0 := by omega
  show false = (_ || min _ 1 == 0)
  symm
  rw [Bool.or_eq_false_iff, beq_eq_false_iff_ne, beq_eq_false_iff_ne]
  refine ⟨hn0, ?_⟩
  show min ((rowC A i)[(rowC A i).findIdx fun c => c.kind != 0]'hf).kind 1 ≠ 0
  omega
end Mot
end Go.Proofs.YtolhlldgnfbemaaGreat
namespace Go.Proofs.YtolhlldgnfbemaaGreat
open Go Go.Vx Cdc Trx
section
variable {w w' : World} {S : Nat → Prop} {p : Nat} {e : Enc} {lim na : Nat} {O : Nat → Prop} {M : Parts}
theorem sub_one (A : List Int) (n : Nat) : sub A (n : Int) ((n : Int) + 1) = (A.drop n).take 1 := by
 unfold sub
 have : ((n : Int) + 1).toNat - (n : Int).toNat = 1 := by omega
 rw [this, Int.toNat_natCast]
theorem take_one {A : List Int} {n : Nat} {a : Int} (h : A[n]? = some a) : (A.drop n).take 1 = [a] := by
 rw [List.take_one, List.head?_drop, h]; rfl
theorem take_none {A : List Int} {n : Nat} (h : A[n]? = none) : (A.drop n).take 1 = [] := by
 rw [List.take_one, List.head?_drop, h]; rfl
theorem last_take {A : List Int} {n : Nat} (h0 : 0 < n) (h : n ≤ A.length) : (A.take n).getLast? = A[n - 1]? := by
 rw [List.getLast?_eq_getElem?, List.length_take, List.getElem?_take]
 have : min n A.length = n := by omega
 rw [this, if_pos (by omega)]
theorem atoms_take (l : As) (n : Nat) : atoms (l.take n) = (atoms l).take n := by simp [atoms]
theorem cr_split {L : As} (h : Posd L) {n : Nat} (h0 : 0 < n) (hn : n ≤ L.length) : split13 (atoms L) n = ((msr (L.take n)).cr && ((atoms L)[n]? == some 10)) := by
 have hl : (atoms L).length = L.length := List.length_map _
 rw [msr_cr (h.take n), atoms_take, last_take h0 (by omega)]
 unfold split13
 rw [decide_eq_true h0]
 rfl
theorem breaks_call {at_ : Int} (h : Txt w p e lim na O M) {K : Int → World → Prop} (hK : ∀ w', Ext w w' → K ((nb (atoms (aOf e M)) at_.toNat : Nat) : Int) w') :
  callT Tryz.prog 50 #[.pointer (some (at0 p)), .int .i64 at_] (.one (.one (.int .i64))) K w := by
 refine F50_calls ?_
 unfold F50
 have few := h.few; have lims := h.lims
 have hal : (atoms (aOf e M)).length = (aOf e M).length := List.length_map _
 have hpos := aOf_posd e M
 refine sif_r (fun hc => ?_) (fun hc => ?_)
 ·simp only [decide_eq_true_eq] at hc
  have e0 : at_.toNat = 0 := by omega
  have := hK w (Ext.refl w)
  rw [e0, nb_zero] at this
  exact this
 simp only [decide_eq_false_iff_not] at hc
 obtain ⟨n, rfl⟩ : ∃ n : Nat, at_ = (n : Int) := ⟨at_.toNat, by omega⟩
 rw [Int.toNat_natCast] at hK
 refine len_call h fun w1 e1 => sif_r (fun hg => ?_) (fun hg => ?_)
 ·simp only [decide_eq_true_eq, ge_iff_le] at hg
  obtain ⟨t, ht, hi, hf, rd⟩ := h.tree
  refine rd e1 (tsum_call (ht.ext e1) fun w2 e2 => ?_)
  have := hK w2 (e1.trans e2)
  rw [nb_ge _ _ (by omega), ← msr_breaks hpos, ← hi.tot] at this
  exact this
 simp only [decide_eq_false_iff_not, ge_iff_le] at hg
 have hb : (msr ((aOf e M).take n)).breaks = nb (atoms (aOf e M)) n + (if split13 (atoms (aOf e M)) n then 1 else 0) := by rw [msr_breaks (hpos.take n), atoms_take, brs_take]
 have hsp := cr_split hpos (n := n) (by omega) (by omega)
 have hnl := nb_le (atoms (aOf e M)) n
 refine ahead_call (h.ext e1) (by omega) fun w2 e2 => (St.start w2).newO fun b w3 S3 e3 => S3.aggSt 0 rfl rfl rfl rfl fun w4 S4 u4 => ?_
 have e04 := (e1.trans e2).trans S4.upd
 refine join_r (fun x w' => x = (split13 (atoms (aOf e M)) n, ()) ∧ St (fun _ => False) w2 w' [(b, .cells (Cells.vals c91 (smT (msr ((aOf e M).take n)))).toArray 91 (0, 0))]) ?_ ?_
 ·refine S4.ld 0 rfl (x := (msr ((aOf e M).take n)).cr) rfl (sif_r (fun hr => ?_) (fun hr => ?_))
  ·have ew : IntKind.wrap .i64 ((n : Int) + 1) = (n : Int) + 1 := wrap64 (by omega) (by omega)
   rw [ew]
   refine atoms_call (h.ext e04) fun s w5 o5 e5 => ?_
   obtain ⟨a, ha⟩ : ∃ a, (atoms (aOf e M))[n]? = some a := ⟨_, List.getElem?_eq_getElem (by omega)⟩
   rw [sub_one, take_one ha] at o5
   refine ix_ld (c := .int .i64) (xs := [a]) o5.in (by decide) (x := a) rfl fun p => ⟨?_, S4.ext e5⟩
   rw [hsp, hr, ha]
   rfl
  ·refine ⟨?_, S4⟩
   rw [hsp, hr]; rfl
 ·rintro _ w5 ⟨rfl, S5⟩
  have e05 := (e1.trans e2).trans S5.upd
  refine sif_r (fun hr => S5.ld 0 rfl (x := (((msr ((aOf e M).take n)).breaks : Nat) : Int)) rfl ?_) (fun hr => S5.ld 0 rfl (x := (((msr ((aOf e M).take n)).breaks : Nat) : Int)) rfl ?_)
  ·have hr' : split13 (atoms (aOf e M)) n = true := hr
   rw [hb, hr', wrap64 (by simp only [if_true]; omega) (by simp only [if_true]; omega)]
   have : ((nb (atoms (aOf e M)) n + (if true = true then 1 else 0) : Nat) : Int) - 1 = ((nb (atoms (aOf e M)) n : Nat) : Int) := by simp
   rw [this]; exact hK w5 e05
  ·have hr' : split13 (atoms (aOf e M)) n = false := hr
   rw [hb, hr']
   exact hK w5 e05
theorem least (P : Nat → Prop) [DecidablePred P] : ∀ n, P n → ∃ j, j ≤ n ∧ P j ∧ ∀ i, i < j → ¬ P i := by
 intro n
 induction n using Nat.strongRecOn with
 | ind n ih =>
  intro hn
  by_cases h : ∃ i, i < n ∧ P i
  ·obtain ⟨i, hi, hp⟩ := h
   obtain ⟨j, h1, h2, h3⟩ := ih i hi hp
   exact ⟨j, by omega, h2, h3⟩
  ·exact ⟨n, Nat.le_refl _, hn, fun i hi hp => h ⟨i, hi, hp⟩⟩
theorem brk_mono {l m : As} (h : Posd l) (h' : Posd m) : (msr l).breaks ≤ (msr (l ++ m)).breaks := by
 rw [msr_append h h']
 exact keyOf_mono (k := 1) (msr_ok h) (msr_ok h')
theorem brk_take_mono {L : As} (h : Posd L) {i j : Nat} (hij : i ≤ j) : (msr (L.take i)).breaks ≤ (msr (L.take j)).breaks := by
 obtain ⟨d, rfl⟩ : ∃ d, j = i + d := ⟨j - i, by omega⟩
 rw [List.take_add]
 exact brk_mono (h.take i) ((h.drop i).take d)
def skI (A : List Int) (k : Int) : Int := if k < 0 then -1 else match sk A k.toNat with | some m => (m : Int) | none => -1
set_option maxHeartbeats 1000000 in
theorem seek_call {k : Int} (h : Txt w p e lim na O M) {K : Int → World → Prop} (hK : ∀ w', Ext w w' → K (skI (atoms (aOf e M)) k) w') :
  callT Tryz.prog 66 #[.pointer (some (at0 p)), .int .i64 k] (.one (.one (.int .i64))) K w := by
 refine F66_calls ?_
 unfold F66
 have few := h.few; have lims := h.lims; have hsz := h.sz
 have hal : (atoms (aOf e M)).length = (aOf e M).length := List.length_map _
 have hpos := aOf_posd e M
 obtain ⟨t, ht, hi, hf, rd⟩ := h.tree
 refine sif_r (fun hc => ?_) (fun hc => ?_)
 ·simp only [beq_iff_eq] at hc
  subst hc
  have := hK w (Ext.refl w)
  unfold skI at this
  have e0 : sk (atoms (aOf e M)) 0 = some 0 := by cases atoms (aOf e M) <;> rfl
  rw [if_neg (by decide), show (0 : Int).toNat = 0 by rfl, e0] at this
  exact this
 simp only [beq_eq_false_iff_ne] at hc
 have htb : (tot t.items).breaks = brs (atoms (aOf e M)) := by rw [hi.tot, msr_breaks hpos]
 refine join_r (fun x w' => x = (decide (k < 0) || decide (((brs (atoms (aOf e M)) : Nat) : Int) < k), ()) ∧ Ext w w') ?_ ?_
 ·refine sif_r (fun hn => ⟨by rw [hn]; rfl, Ext.refl w⟩) (fun hn => rd (Ext.refl w) (tsum_call ht fun w1 e1 => ⟨?_, e1⟩))
  rw [hn, Bool.false_or, ← htb]; rfl
 rintro _ w1 ⟨rfl, e1⟩
 refine sif_r (fun hb => ?_) (fun hb => ?_)
 ·have := hK w1 e1
  simp only [Bool.or_eq_true, decide_eq_true_eq] at hb
  unfold skI at this
  by_cases hn : k < 0
  ·rw [if_pos hn] at this; exact this
  ·rw [if_neg hn, sk_none _ _ (by omega)] at this; exact this
 simp only [Bool.or_eq_false_iff, decide_eq_false_iff_not] at hb
 obtain ⟨n, rfl⟩ : ∃ n : Nat, k = (n : Int) := ⟨k.toNat, by omega⟩
 have hn1 : 1 ≤ n := by omega
 have hnb : n ≤ brs (atoms (aOf e M)) := by omega
 have il := hi.len; have fl := hf.few
 have kk : ∀ j, keyOf 1 (tot (t.items.take j)) = (msr (aOf e (M.take j))).breaks := fun j => by
  have := (hi.take j).tot
  show (tot (t.items.take j)).breaks = _
  rw [this]
 obtain ⟨j, hjl, hj1, hj0⟩ := least (fun j => n ≤ keyOf 1 (tot (t.items.take j))) t.items.length (by
  show n ≤ keyOf 1 (tot (t.items.take t.items.length))
  rw [kk, il, List.take_length, msr_breaks hpos]; exact hnb)
 obtain ⟨i, rfl⟩ : ∃ i, j = i + 1 := by
  cases j with
  | zero =>
   have hj1' : n ≤ keyOf 1 (tot (t.items.take 0)) := hj1
   rw [kk, List.take_zero, msr_breaks (aOf_posd e _)] at hj1'
   exact absurd hj1' (by simp [aOf, brs]; omega)
  | succ i => exact ⟨i, rfl⟩
 have hfind : findI 1 n t.items = i + 1 := findI_eq hjl hj1 fun j hj => by have := hj0 j hj; omega
 have hlow : (msr (aOf e (M.take i))).breaks < n := by have := hj0 i (by omega); simp only [kk] at this; omega
 have hhigh : n ≤ (msr (aOf e (M.take (i + 1)))).breaks := by have h2 : n ≤ keyOf 1 (tot (t.items.take (i + 1))) := hj1; rw [kk] at h2; exact h2
 obtain ⟨x, hx⟩ : ∃ x, t.items[i]? = some x := ⟨_, List.getElem?_eq_getElem (by omega)⟩
 obtain ⟨y, hy, hp⟩ := hi.get i hx
 have hM1 : aOf e (M.take (i + 1)) = aOf e (M.take i) ++ ats e y.2 := by
  rw [List.take_add_one, hy, aOf_app]
  show _ ++ aOf e [y] = _
  simp [aOf]
 have hMA : aOf e M = aOf e (M.take (i + 1)) ++ aOf e (M.drop (i + 1)) := by rw [← aOf_app, List.take_append_drop]
 have htkq : ∀ q, q ≤ (ats e y.2).length → (aOf e M).take ((aOf e (M.take i)).length + q) = aOf e (M.take i) ++ (ats e y.2).take q := fun q hq => by
  rw [hMA, hM1, List.append_assoc, List.take_length_add_append, List.take_append_of_le_length hq]
 have hpi := aOf_posd e (M.take i)
 have hpy := ats_posd e y.2
 have hszs : szs (aOf e (M.take i)) + y.2.length ≤ 1048576 := by
  have := congrArg szs hMA
  rw [szs_append, hM1, szs_append, szs_all] at this; omega
 refine rd e1 (find_call (k := 1) (n := n) (by decide) (by omega) (ht.ext e1) hf fun w2 e2 => ?_)
 have ew : IntKind.wrap .i64 (((i + 1 : Nat) : Int) - 1) = (i : Int) := by rw [wrap64 (by omega) (by omega)]; omega
 rw [hfind, ew]
 have e12 := e1.trans e2
 refine rd e12 (upto_call (ht.ext e12) hf (by omega) fun w3 e3 => ?_)
 have e13 := e12.trans e3
 have etk : tot (t.items.take i) = msr (aOf e (M.take i)) := (hi.take i).tot
 rw [etk]
 refine (St.start w3).newO fun b12 w4 S4 e4 => S4.aggSt 0 rfl rfl rfl rfl fun w5 S5 u5 => ?_
 refine rd (e13.trans S5.upd) (at_call (ht.ext (e13.trans S5.upd)) hf (by omega) fun w6 e6 => ?_)
 have e0 : atI t.items i = (x, true) := by unfold atI; rw [hx]
 rw [e0]
 refine (S5.ext e6).newO fun b16 w7 S7 e7 => S7.aggSt 0 rfl rfl rfl rfl fun w8 S8 u8 => ?_
 let Ls : Nat → List (Nat × Obj) := fun q => [(b16, .cells (Cells.vals c93 (pcT x)).toArray 93 (0, 0)), (b12, .cells (Cells.vals c91 (smT (msr (aOf e (M.take i) ++ (ats e y.2).take q)))).toArray 91 (0, 0))]
 have S8' : St (fun _ => False) w3 w8 (Ls 0) := by show St _ _ _ [_, _]; rw [List.take_zero, List.append_nil]; exact S8
 refine join_r (fun _ w' => ∃ q, q ≤ (ats e y.2).length ∧ n ≤ (msr (aOf e (M.take i) ++ (ats e y.2).take q)).breaks ∧ (∀ j, j < (aOf e (M.take i)).length + q → (msr ((aOf e M).take j)).breaks < n) ∧ St (fun _ => False) w3 w' (Ls q)) ?_ ?_
 ·refine sloop_r (fun s w' => ∃ q, q ≤ (ats e y.2).length ∧ s = (((szs ((ats e y.2).take q) : Nat) : Int), ()) ∧ (∀ j, j < (aOf e (M.take i)).length + q → (msr ((aOf e M).take j)).breaks < n) ∧ St (fun _ => False) w3 w' (Ls q)) (fun s _ => ((y.2.length : Int) - s.1).toNat) ⟨0, Nat.zero_le _, rfl, fun j hj => ?_, S8'⟩ ?_
  ·have h1 := brk_take_mono hpos (i := j) (j := (aOf e (M.take i)).length + 0) (by omega)
   rw [htkq 0 (Nat.zero_le _), List.take_zero, List.append_nil] at h1
   omega
  rintro _ w9 ⟨q, hq, rfl, hlt, S9⟩
  have hbl := hp.by_.len
  have hsy : szs ((ats e y.2).take q) ≤ y.2.length := pos_le q
  refine join_r (fun s w' => s = (decide (szs ((ats e y.2).take q) < y.2.length) && decide ((msr (aOf e (M.take i) ++ (ats e y.2).take q)).breaks < n), ()) ∧ w9 = w') ?_ ?_
  ·refine S9.ld 0 rfl (x := x.bytes) rfl (sif_r (fun hc => S9.ld 1 rfl (x := (((msr (aOf e (M.take i) ++ (ats e y.2).take q)).breaks : Nat) : Int)) rfl ⟨tupb ?_, rfl⟩) (fun hc => ⟨tupb ?_, rfl⟩))
   ·simp only [decide_eq_true_eq, Bool.and_eq_true] at hc ⊢; omega
   ·simp only [decide_eq_false_iff_not, Bool.and_eq_true, decide_eq_true_eq] at hc ⊢
    constructor
    ·intro h; cases h
    ·intro h; omega
  rintro _ w10 ⟨rfl, rfl⟩
  refine sif_r (fun hc => ?_) (fun hc => ?_)
  ·simp only [Bool.and_eq_true, decide_eq_true_eq] at hc
   obtain ⟨a, m, hqa, hnx, htk, hss, hm1, hsl⟩ := pos_step (e := e) (l := y.2) (j := q) hc.1
   have hql : q < (ats e y.2).length := (List.getElem?_eq_some_iff.1 hqa).1
   refine S9.drew fun w11 S11 e11 _ => ((h.ext e13).ext S11.upd).enc (S11.ld 0 rfl (x := x.bytes) rfl (next_call ((hp.by_.ext e13).ext S11.upd) hc.1 fun w12 e12 => ?_))
   rw [hnx]
   have S12 := S11.ext e12
   have pq := hpi.app (hpy.take q)
   refine S12.drew fun w13 S13 e13' _ => S13.lds 1 (smT _) rfl (single_call fun w14 e14 => ?_)
   have S14 := S13.ext e14
   refine S14.keeps 1 rfl (add_call (msr_ok pq) (one1_ok a hm1) ?_ fun w15 e15 => ?_)
   ·rw [msr_bytes pq, szs_append]
    show szs (aOf e (M.take i)) + szs ((ats e y.2).take q) + m < 2 ^ 60
    omega
   have S15 := S14.ext e15
   rw [← msr_snoc pq hm1, List.append_assoc, ← htk]
   refine S15.aggSt 1 rfl rfl rfl rfl fun w16 S16 u16 => ?_
   have ewa : IntKind.wrap .i64 (((szs ((ats e y.2).take q) : Nat) : Int) + (m : Int)) = ((szs ((ats e y.2).take (q + 1)) : Nat) : Int) := by
    rw [wrap64 (by omega) (by omega)]; omega
   refine ⟨⟨q + 1, by omega, by dsimp only; rw [ewa], fun j hj => ?_, S16⟩, ?_⟩
   ·by_cases hjq : j < (aOf e (M.take i)).length + q
    ·exact hlt j hjq
    ·have : j = (aOf e (M.take i)).length + q := by omega
     subst this
     rw [htkq q (by omega)]; exact hc.2
   ·dsimp only
    rw [ewa]; omega
  ·refine ⟨q, hq, ?_, hlt, S9⟩
   by_cases hb : (msr (aOf e (M.take i) ++ (ats e y.2).take q)).breaks < n
   ·have hnl : ¬ szs ((ats e y.2).take q) < y.2.length := fun h2 => by simp [h2, hb] at hc
    rw [pos_end hnl, ← hM1]; exact hhigh
   ·omega
 ·rintro _ w9 ⟨q, hq, hge, hlt, S9⟩
  have hatoms : (msr (aOf e (M.take i) ++ (ats e y.2).take q)).atoms = (aOf e (M.take i)).length + q := by
   rw [msr_atoms (hpi.app (hpy.take q)), List.length_append, List.length_take]; omega
  have htk := htkq q hq
  have hmle : (aOf e (M.take i)).length + q ≤ (aOf e M).length := by
   have := congrArg List.length hMA
   rw [List.length_append, hM1, List.length_append] at this; omega
  rw [← htk] at hge hatoms
  have S9' : St (fun _ => False) w3 w9 [(b16, .cells (Cells.vals c93 (pcT x)).toArray 93 (0, 0)), (b12, .cells (Cells.vals c91 (smT (msr ((aOf e M).take ((aOf e (M.take i)).length + q))))).toArray 91 (0, 0))] := by rw [htk]; exact S9
  generalize hm : (aOf e (M.take i)).length + q = m at *
  have hm0 : 0 < m := by
   rcases Nat.eq_zero_or_pos m with h0 | h0
   ·subst h0; rw [List.take_zero] at hge
    have : (msr []).breaks = 0 := rfl
    omega
   ·exact h0
  have hres : sk (atoms (aOf e M)) n = some (if split13 (atoms (aOf e M)) m then m + 1 else m) := by
   refine sk_of _ n m hn1 (by omega) ?_ fun j hj => ?_
   ·rw [← atoms_take, ← msr_breaks (hpos.take m)]; exact hge
   ·rw [← atoms_take, ← msr_breaks (hpos.take j)]; exact hlt j hj
  have hsp := cr_split hpos (n := m) hm0 (by omega)
  have hres2 : skI (atoms (aOf e M)) (n : Int) = if split13 (atoms (aOf e M)) m then (m : Int) + 1 else (m : Int) := by
   unfold skI
   rw [if_neg (by omega), Int.toNat_natCast, hres]
   dsimp only
   split <;> omega
  rw [hres2] at hK
  have ea : ∀ {P : Int → World → Prop} {W : World}, P (m : Int) W → P (((msr ((aOf e M).take m)).atoms : Nat) : Int) W := by
   intro P W hP; rw [hatoms]; exact hP
  refine S9'.ld 1 rfl (x := (((msr ((aOf e M).take m)).atoms : Nat) : Int)) rfl (S9'.ld 1 rfl (x := (((msr ((aOf e M).take m)).atoms : Nat) : Int)) rfl ?_)
  rw [hatoms]
  have ew1 : IntKind.wrap .i64 ((m : Int) + 1) = (m : Int) + 1 := wrap64 (by omega) (by omega)
  rw [ew1]
  refine atoms_call ((h.ext e13).ext S9'.upd) fun s w10 o10 e10 => ?_
  have S10 := S9'.ext e10
  rw [sub_one] at o10
  refine join_r (fun x w' => x = (split13 (atoms (aOf e M)) m, ()) ∧ w10 = w') ?_ ?_
  ·refine S10.ld 1 rfl (x := (msr ((aOf e M).take m)).cr) rfl (sif_r (fun hr => ?_) (fun hr => ?_))
   ·rw [hsp, hr, Bool.true_and]
    cases ha : (atoms (aOf e M))[m]? with
    | none =>
     rw [take_none ha] at o10
     have hl := o10.len1
     refine sif_r (fun hc => ?_) (fun hc => ⟨rfl, rfl⟩)
     simp only [beq_iff_eq] at hc
     simp at hl; omega
    | some a =>
     rw [take_one ha] at o10
     have hl := o10.len1
     refine sif_r (fun hc => ix_ld (c := .int .i64) (xs := [a]) o10.in (by decide) (x := a) rfl fun p => ⟨rfl, rfl⟩) (fun hc => ?_)
     simp only [beq_eq_false_iff_ne] at hc
     simp at hl; omega
   ·rw [hsp, hr]; exact ⟨rfl, rfl⟩
  rintro _ w11 ⟨rfl, rfl⟩
  have e0 := (e13.trans S10.upd)
  refine sif_r (fun hr => S10.ld 1 rfl (x := (((msr ((aOf e M).take m)).atoms : Nat) : Int)) rfl ?_) (fun hr => S10.ld 1 rfl (x := (((msr ((aOf e M).take m)).atoms : Nat) : Int)) rfl ?_)
  ·rw [hatoms, ew1]
   have := hK w10 e0
   rw [if_pos hr] at this
   exact this
  ·rw [hatoms]
   have := hK w10 e0
   have hr' : split13 (atoms (aOf e M)) m = false := hr
   rw [if_neg (by rw [hr']; decide)] at this
   exact this
end
end Go.Proofs.YtolhlldgnfbemaaGreat
namespace Go.Proofs.YtolhlldgnfbemaaGreat
open Go Go.Vx
noncomputable def F12 (a0 : Option Addr) (a1 : Int) (a2 : Bool) (K : Int → World → Prop) : World → Prop :=
 callT Tryz.prog 36 #[(.pointer a0), (.int .i64 a1), (.bool a2)] (.one (.agg c72)) fun (x1 : (Int × Int × Int × Int × Int × Sl × Sl × Unit)) =>
 newO (.cells #[(.int .i64 (0 : Int)), (.int .i64 (0 : Int)), (.int .i64 (0 : Int)), (.int .i64 (0 : Int)), (.int .i64 (0 : Int)), (.slice none 0 0), (.slice none 0 0)] 72) fun b2 =>
 aggSt (at0 b2) (.agg (Cells.vals c72 x1).toArray) 7 <|
 callT Tryz.prog 37 #[(.pointer a0)] (.one (.one (.int .i64))) fun (x3 : Int) =>
 ld (.int .i64) (⟨b2, 1, none⟩ : Addr) fun (x4 : Int) =>
 sif (decide ((if x3 < (if (0 : Int) > a1 then (0 : Int) else a1) then x3 else (if (0 : Int) > a1 then (0 : Int) else a1)) ≥ x4)) (
 sif a2 (
 ld (.int .i64) (⟨b2, 1, none⟩ : Addr) fun (x5 : Int) =>
 K x5) (
 drew <|
 lds c72 (at0 b2) fun (x6 : (Int × Int × Int × Int × Int × Sl × Sl × Unit)) =>
 lds c72 (at0 b2) fun (x7 : (Int × Int × Int × Int × Int × Sl × Sl × Unit)) =>
 callT Tryz.prog 39 #[(.agg (Cells.vals c72 x7).toArray)] (.one (.one (.int .i64))) fun (x8 : Int) =>
 keep (fun w => cellsAt w (at0 b2) 0 (Cells.vals c72 x6)) <|
 callT Tryz.prog 38 #[(.agg (Cells.vals c72 x6).toArray), (.int .i64 (IntKind.wrap .i64 (x8 - (1 : Int))))] (.one (.one (.int .i64))) fun (x9 : Int) =>
 K x9)) (
 drew <|
 lds c72 (at0 b2) fun (x10 : (Int × Int × Int × Int × Int × Sl × Sl × Unit)) =>
 lds c72 (at0 b2) fun (x11 : (Int × Int × Int × Int × Int × Sl × Sl × Unit)) =>
 callT Tryz.prog 40 #[(.agg (Cells.vals c72 x11).toArray), (.int .i64 (if x3 < (if (0 : Int) > a1 then (0 : Int) else a1) then x3 else (if (0 : Int) > a1 then (0 : Int) else a1)))] (.one (.one (.int .i64))) fun (x12 : Int) =>
 keep (fun w => cellsAt w (at0 b2) 0 (Cells.vals c72 x10)) <|
 callT Tryz.prog 38 #[(.agg (Cells.vals c72 x10).toArray), (.int .i64 x12)] (.one (.one (.int .i64))) fun (x13 : Int) =>
 K x13)
noncomputable def h12 : Hint := (hS (hR 1) (hS (hR 6) (hS (hR 6) (hS (hS (hR 5) (hC (hS (hS (hR 1) (hC (hS (hR 4) hL) hL)) (hS (.region [0, 1, 2, 3, 4, 5] (hO 6)) hL)) hL)) (hS (.region [0, 1, 2, 3, 4, 5] (hO 6)) hL)))))
theorem F12_calls {a0 : Option Addr} {a1 : Int} {a2 : Bool} {K : Int → World → Prop} {w : World} (h : F12 a0 a1 a2 K w) : callT Tryz.prog 12 #[(.pointer a0), (.int .i64 a1), (.bool a2)] (.one (.one (.int .i64))) K w := tied tabOk Tryz.func12 h12 [(.pointer a0), (.int .i64 a1), (.bool a2)] h
noncomputable def F16 (a0 : Option Addr) (a1 : Int) (a2 : (Int × Int × Int × Unit)) (a3 : Bool) (K : ((Int × Int × Int × Unit) × Int × Unit) → World → Prop) : World → Prop :=
 newO (.cells #[(.int .i64 a2.1), (.int .i64 a2.2.1), (.int .i64 a2.2.2.1)] 31) fun b1 =>
 newO (.cells #[(.int .i64 (0 : Int)), (.int .i64 (0 : Int)), (.int .i64 (0 : Int))] 43) fun b2 =>
 lds c31 (at0 b1) fun (x3 : (Int × Int × Int × Unit)) =>
 callT Tryz.prog 45 #[(.func (.func 46) #[] #[]), (.pointer a0), (.int .i64 a1), (.int .i64 (0 : Int)), (.agg (Cells.vals c31 x3).toArray), (.bool a3)] (.tup [(.agg c43), (.one (.int .i64))]) fun (x4 : ((Int × Int × Int × Unit) × Int × Unit)) =>
 aggSt (at0 b2) (.agg (Cells.vals c43 x4.1).toArray) 3 <|
 lds c43 (at0 b2) fun (x5 : (Int × Int × Int × Unit)) =>
 K (x5, x4.2.1, ())
noncomputable def h16 : Hint := (hS (hR 3) (hS (hR 9) hL))
theorem F16_calls {a0 : Option Addr} {a1 : Int} {a2 : (Int × Int × Int × Unit)} {a3 : Bool} {K : ((Int × Int × Int × Unit) × Int × Unit) → World → Prop} {w : World} (h : F16 a0 a1 a2 a3 K w) : callT Tryz.prog 16 #[(.pointer a0), (.int .i64 a1), (.agg (Cells.vals c31 a2).toArray), (.bool a3)] (.tup [(.agg c43), (.one (.int .i64))]) K w := tied tabOk Tryz.func16 h16 [(.pointer a0), (.int .i64 a1), (.agg (Cells.vals c31 a2).toArray), (.bool a3)] h
noncomputable def F19 (a0 : Option Addr) (K : Int → World → Prop) : World → Prop :=
 callT Tryz.prog 37 #[(.pointer a0)] (.one (.one (.int .i64))) fun (x1 : Int) =>
 callT Tryz.prog 50 #[(.pointer a0), (.int .i64 x1)] (.one (.one (.int .i64))) fun (x2 : Int) =>
 join (S := Int × Unit) (fun J3 =>
 callT Tryz.prog 51 #[(.pointer a0)] (.one (.one .bool)) fun (x5 : Bool) =>
 sif (!x5) (
 J3 ((IntKind.wrap .i64 (x2 + (1 : Int))), ())) (
 J3 (x2, ()))) fun (s4 : Int × Unit) =>
 K s4.1
noncomputable def h19 : Hint := (hS (hR 1) (hS (hR 5) (hJ (7944, [(3, tI)]) (hS (hR 3) (hC (hR 3) hL)) (hS (hR 2) hL))))
theorem F19_calls {a0 : Option Addr} {K : Int → World → Prop} {w : World} (h : F19 a0 K w) : callT Tryz.prog 19 #[(.pointer a0)] (.one (.one (.int .i64))) K w := tied tabOk Tryz.func19 h19 [(.pointer a0)] h
noncomputable def F20 (a0 : Option Addr) (a1 : Int) (K : Int → World → Prop) : World → Prop :=
 callT Tryz.prog 37 #[(.pointer a0)] (.one (.one (.int .i64))) fun (x1 : Int) =>
 callT Tryz.prog 50 #[(.pointer a0), (.int .i64 (if x1 < (if (0 : Int) > a1 then (0 : Int) else a1) then x1 else (if (0 : Int) > a1 then (0 : Int) else a1)))] (.one (.one (.int .i64))) fun (x2 : Int) =>
 K x2
noncomputable def h20 : Hint := (hS (hR 1) (hS (hR 8) hL))
theorem F20_calls {a0 : Option Addr} {a1 : Int} {K : Int → World → Prop} {w : World} (h : F20 a0 a1 K w) : callT Tryz.prog 20 #[(.pointer a0), (.int .i64 a1)] (.one (.one (.int .i64))) K w := tied tabOk Tryz.func20 h20 [(.pointer a0), (.int .i64 a1)] h
noncomputable def F21 (a0 : Option Addr) (a1 : Int) (K : Int → World → Prop) : World → Prop :=
 callT Tryz.prog 36 #[(.pointer a0), (.int .i64 a1), (.bool true)] (.one (.agg c72)) fun (x1 : (Int × Int × Int × Int × Int × Sl × Sl × Unit)) =>
 newO (.cells #[(.int .i64 (0 : Int)), (.int .i64 (0 : Int)), (.int .i64 (0 : Int)), (.int .i64 (0 : Int)), (.int .i64 (0 : Int)), (.slice none 0 0), (.slice none 0 0)] 72) fun b2 =>
 aggSt (at0 b2) (.agg (Cells.vals c72 x1).toArray) 7 <|
 lds c72 (at0 b2) fun (x3 : (Int × Int × Int × Int × Int × Sl × Sl × Unit)) =>
 callT Tryz.prog 40 #[(.agg (Cells.vals c72 x3).toArray), (.int .i64 a1)] (.one (.one (.int .i64))) fun (x4 : Int) =>
 K x4
noncomputable def h21 : Hint := (hS (hR 1) (hS (hR 5) (hS (hR 4) hL)))
theorem F21_calls {a0 : Option Addr} {a1 : Int} {K : Int → World → Prop} {w : World} (h : F21 a0 a1 K w) : callT Tryz.prog 21 #[(.pointer a0), (.int .i64 a1)] (.one (.one (.int .i64))) K w := tied tabOk Tryz.func21 h21 [(.pointer a0), (.int .i64 a1)] h
noncomputable def F24 (a0 : Option Addr) (a1 : Int) (a2 : (Int × Int × Int × Unit)) (K : ((Int × Int × Int × Unit) × Int × Unit) → World → Prop) : World → Prop :=
 newO (.cells #[(.int .i64 a2.1), (.int .i64 a2.2.1), (.int .i64 a2.2.2.1)] 31) fun b1 =>
 newO (.cells #[(.int .i64 (0 : Int)), (.int .i64 (0 : Int)), (.int .i64 (0 : Int))] 43) fun b2 =>
 lds c31 (at0 b1) fun (x3 : (Int × Int × Int × Unit)) =>
 callT Tryz.prog 45 #[(.func (.func 56) #[] #[]), (.pointer a0), (.int .i64 a1), (.int .i64 (0 : Int)), (.agg (Cells.vals c31 x3).toArray), (.bool false)] (.tup [(.agg c43), (.one (.int .i64))]) fun (x4 : ((Int × Int × Int × Unit) × Int × Unit)) =>
 aggSt (at0 b2) (.agg (Cells.vals c43 x4.1).toArray) 3 <|
 lds c43 (at0 b2) fun (x5 : (Int × Int × Int × Unit)) =>
 K (x5, x4.2.1, ())
noncomputable def h24 : Hint := (hS (hR 3) (hS (hR 8) hL))
theorem F24_calls {a0 : Option Addr} {a1 : Int} {a2 : (Int × Int × Int × Unit)} {K : ((Int × Int × Int × Unit) × Int × Unit) → World → Prop} {w : World} (h : F24 a0 a1 a2 K w) : callT Tryz.prog 24 #[(.pointer a0), (.int .i64 a1), (.agg (Cells.vals c31 a2).toArray)] (.tup [(.agg c43), (.one (.int .i64))]) K w := tied tabOk Tryz.func24 h24 [(.pointer a0), (.int .i64 a1), (.agg (Cells.vals c31 a2).toArray)] h
noncomputable def F36 (a0 : Option Addr) (a1 : Int) (a2 : Bool) (K : (Int × Int × Int × Int × Int × Sl × Sl × Unit) → World → Prop) : World → Prop :=
 newO (.cells #[(.int .i64 (0 : Int)), (.int .i64 (0 : Int)), (.int .i64 (0 : Int)), (.int .i64 (0 : Int)), (.int .i64 (0 : Int)), (.slice none 0 0), (.slice none 0 0)] 72) fun b1 =>
 callT Tryz.prog 20 #[(.pointer a0), (.int .i64 a1)] (.one (.one (.int .i64))) fun (x2 : Int) =>
 join (S := Int × Unit) (fun J3 =>
 sif (!a2) (
 callT Tryz.prog 19 #[(.pointer a0)] (.one (.one (.int .i64))) fun (x5 : Int) =>
 J3 ((if (IntKind.wrap .i64 (x5 - (1 : Int))) < x2 then (IntKind.wrap .i64 (x5 - (1 : Int))) else x2), ())) (
 J3 (x2, ()))) fun (s4 : Int × Unit) =>
 callT Tryz.prog 61 #[(.pointer a0), (.int .i64 s4.1)] (.one (.agg c72)) fun (x6 : (Int × Int × Int × Int × Int × Sl × Sl × Unit)) =>
 aggSt (at0 b1) (.agg (Cells.vals c72 x6).toArray) 7 <|
 lds c72 (at0 b1) fun (x7 : (Int × Int × Int × Int × Int × Sl × Sl × Unit)) =>
 K x7
noncomputable def h36 : Hint := (hS (hR 1) (hS (hR 4) (hJ (260224, [(7, tI)]) (hS (hR 2) (hC (hR 6) hL)) (hS (hR 4) hL))))
theorem F36_calls {a0 : Option Addr} {a1 : Int} {a2 : Bool} {K : (Int × Int × Int × Int × Int × Sl × Sl × Unit) → World → Prop} {w : World} (h : F36 a0 a1 a2 K w) : callT Tryz.prog 36 #[(.pointer a0), (.int .i64 a1), (.bool a2)] (.one (.agg c72)) K w := tied tabOk Tryz.func36 h36 [(.pointer a0), (.int .i64 a1), (.bool a2)] h
noncomputable def F38 (a0 : (Int × Int × Int × Int × Int × Sl × Sl × Unit)) (a1 : Int) (K : Int → World → Prop) : World → Prop :=
 newO (.cells #[(.int .i64 a0.1), (.int .i64 a0.2.1), (.int .i64 a0.2.2.1), (.int .i64 a0.2.2.2.1), (.int .i64 a0.2.2.2.2.1), (.slice a0.2.2.2.2.2.1.a a0.2.2.2.2.2.1.len a0.2.2.2.2.2.1.cap), (.slice a0.2.2.2.2.2.2.1.a a0.2.2.2.2.2.2.1.len a0.2.2.2.2.2.2.1.cap)] 72) fun b1 =>
 drew <|
 ld (.int .i64) (at0 b1) fun (x2 : Int) =>
 ld (.sl) (⟨b1, 6, none⟩ : Addr) fun (x3 : Sl) =>
 lds c72 (at0 b1) fun (x4 : (Int × Int × Int × Int × Int × Sl × Sl × Unit)) =>
 callT Tryz.prog 39 #[(.agg (Cells.vals c72 x4).toArray)] (.one (.one (.int .i64))) fun (x5 : Int) =>
 keep (fun w => w.cell? (⟨b1, 6, none⟩ : Addr) = some (Cell.val (.sl) x3)) <|
 keep (fun w => w.cell? (at0 b1) = some (Cell.val (.int .i64) x2)) <|
 ix x3.a x3.len (if x5 < (if (0 : Int) > a1 then (0 : Int) else a1) then x5 else (if (0 : Int) > a1 then (0 : Int) else a1)) fun p6 =>
 ld (.int .i64) (p6.add (scaled (Int.toNat (if x5 < (if (0 : Int) > a1 then (0 : Int) else a1) then x5 else (if (0 : Int) > a1 then (0 : Int) else a1))) 1)) fun (x7 : Int) =>
 K (IntKind.wrap .i64 (x2 + x7))
noncomputable def h38 : Hint := (hS (hR 2) (hS (.region [0, 1, 2, 3, 4, 5, 6, 7, 8, 9, 10, 11, 12, 13] (hO 14)) hL))
theorem F38_calls {a0 : (Int × Int × Int × Int × Int × Sl × Sl × Unit)} {a1 : Int} {K : Int → World → Prop} {w : World} (h : F38 a0 a1 K w) : callT Tryz.prog 38 #[(.agg (Cells.vals c72 a0).toArray), (.int .i64 a1)] (.one (.one (.int .i64))) K w := tied tabOk Tryz.func38 h38 [(.agg (Cells.vals c72 a0).toArray), (.int .i64 a1)] h
noncomputable def F39 (a0 : (Int × Int × Int × Int × Int × Sl × Sl × Unit)) (K : Int → World → Prop) : World → Prop :=
 newO (.cells #[(.int .i64 a0.1), (.int .i64 a0.2.1), (.int .i64 a0.2.2.1), (.int .i64 a0.2.2.2.1), (.int .i64 a0.2.2.2.2.1), (.slice a0.2.2.2.2.2.1.a a0.2.2.2.2.2.1.len a0.2.2.2.2.2.1.cap), (.slice a0.2.2.2.2.2.2.1.a a0.2.2.2.2.2.2.1.len a0.2.2.2.2.2.2.1.cap)] 72) fun b1 =>
 ld (.sl) (⟨b1, 6, none⟩ : Addr) fun (x2 : Sl) =>
 K (IntKind.wrap .i64 (((x2.len : Nat) : Int) - (1 : Int)))
noncomputable def h39 : Hint := (hS (hR 2) (hS (hR 5) hL))
theorem F39_calls {a0 : (Int × Int × Int × Int × Int × Sl × Sl × Unit)} {K : Int → World → Prop} {w : World} (h : F39 a0 K w) : callT Tryz.prog 39 #[(.agg (Cells.vals c72 a0).toArray)] (.one (.one (.int .i64))) K w := tied tabOk Tryz.func39 h39 [(.agg (Cells.vals c72 a0).toArray)] h
noncomputable def F40 (a0 : (Int × Int × Int × Int × Int × Sl × Sl × Unit)) (a1 : Int) (K : Int → World → Prop) : World → Prop :=
 newO (.cells #[(.int .i64 a0.1), (.int .i64 a0.2.1), (.int .i64 a0.2.2.1), (.int .i64 a0.2.2.2.1), (.int .i64 a0.2.2.2.2.1), (.slice a0.2.2.2.2.2.1.a a0.2.2.2.2.2.1.len a0.2.2.2.2.2.1.cap), (.slice a0.2.2.2.2.2.2.1.a a0.2.2.2.2.2.2.1.len a0.2.2.2.2.2.2.1.cap)] 72) fun b1 =>
 lds c72 (at0 b1) fun (x2 : (Int × Int × Int × Int × Int × Sl × Sl × Unit)) =>
 callT Tryz.prog 39 #[(.agg (Cells.vals c72 x2).toArray)] (.one (.one (.int .i64))) fun (x3 : Int) =>
 join (S := Int × Unit) (fun J4 =>
 sloop (S := Int × Int × Unit) (fun (s6 : Int × Int × Unit) again7 =>
 sif (decide (s6.1 < s6.2.1)) (
 chk ((2 : Int) ≠ 0) <|
 drew <|
 ld (.int .i64) (at0 b1) fun (x8 : Int) =>
 ld (.sl) (⟨b1, 6, none⟩ : Addr) fun (x9 : Sl) =>
 ix x9.a x9.len (IntKind.wrap .i64 (Int.tdiv (IntKind.wrap .i64 ((IntKind.wrap .i64 (s6.1 + s6.2.1)) + (1 : Int))) (2 : Int))) fun p10 =>
 ld (.int .i64) (p10.add (scaled (Int.toNat (IntKind.wrap .i64 (Int.tdiv (IntKind.wrap .i64 ((IntKind.wrap .i64 (s6.1 + s6.2.1)) + (1 : Int))) (2 : Int)))) 1)) fun (x11 : Int) =>
 sif (decide ((IntKind.wrap .i64 (x8 + x11)) ≤ a1)) (
 again7 ((IntKind.wrap .i64 (Int.tdiv (IntKind.wrap .i64 ((IntKind.wrap .i64 (s6.1 + s6.2.1)) + (1 : Int))) (2 : Int))), s6.2.1, ())) (
 again7 (s6.1, (IntKind.wrap .i64 ((IntKind.wrap .i64 (Int.tdiv (IntKind.wrap .i64 ((IntKind.wrap .i64 (s6.1 + s6.2.1)) + (1 : Int))) (2 : Int))) - (1 : Int))), ()))) (
 J4 (s6.1, ()))) ((0 : Int), x3, ())) fun (s5 : Int × Unit) =>
 K s5.1
noncomputable def h40 : Hint := (hS (hR 2) (hS (hR 4) (hJ (4294966496, [(5, tI)]) (.block (.loop 4294966496 [(5, tI), (6, tI)] (hS (hS (hR 3) (hC hL hL)) (.block (hS (hR 6) (hS (.region [0, 1, 2, 3, 4, 5, 6, 7, 8, 9, 10] (hO 11)) (hC (hR 2) (hR 3)))))))) (hS (hR 2) hL))))
theorem F40_calls {a0 : (Int × Int × Int × Int × Int × Sl × Sl × Unit)} {a1 : Int} {K : Int → World → Prop} {w : World} (h : F40 a0 a1 K w) : callT Tryz.prog 40 #[(.agg (Cells.vals c72 a0).toArray), (.int .i64 a1)] (.one (.one (.int .i64))) K w := tied tabOk Tryz.func40 h40 [(.agg (Cells.vals c72 a0).toArray), (.int .i64 a1)] h
noncomputable def F41 (a0 : Option Addr) (a1 : Int) (K : ((Int × Int × Int × Int × Unit) × Int × Unit) → World → Prop) : World → Prop :=
 newO (.cells #[(.int .i64 (0 : Int)), (.int .i64 (0 : Int)), (.int .i64 (0 : Int)), (.int .i64 (0 : Int))] 36) fun b1 =>
 sif (decide (a1 < (0 : Int))) (
 aggSt (at0 b1) (.agg #[(.int .i64 (0 : Int)), (.int .i64 (0 : Int)), (.int .i64 (0 : Int)), (.int .i64 (0 : Int))]) 4 <|
 lds c36 (at0 b1) fun (x2 : (Int × Int × Int × Int × Unit)) =>
 K (x2, (2 : Int), ())) (
 callT Tryz.prog 66 #[(.pointer a0), (.int .i64 a1)] (.one (.one (.int .i64))) fun (x3 : Int) =>
 sif (decide (x3 < (0 : Int))) (
 aggSt (at0 b1) (.agg #[(.int .i64 (0 : Int)), (.int .i64 (0 : Int)), (.int .i64 (0 : Int)), (.int .i64 (0 : Int))]) 4 <|
 lds c36 (at0 b1) fun (x4 : (Int × Int × Int × Int × Unit)) =>
 K (x4, (2 : Int), ())) (
 callT Tryz.prog 37 #[(.pointer a0)] (.one (.one (.int .i64))) fun (x5 : Int) =>
 callT Tryz.prog 50 #[(.pointer a0), (.int .i64 x5)] (.one (.one (.int .i64))) fun (x6 : Int) =>
 sif (decide (a1 < x6)) (
 callT Tryz.prog 66 #[(.pointer a0), (.int .i64 (IntKind.wrap .i64 (a1 + (1 : Int))))] (.one (.one (.int .i64))) fun (x7 : Int) =>
 callT Tryz.prog 67 #[(.pointer a0), (.int .i64 x3), (.int .i64 x7)] (.one (.agg c36)) fun (x8 : (Int × Int × Int × Int × Unit)) =>
 aggSt (at0 b1) (.agg (Cells.vals c36 x8).toArray) 4 <|
 lds c36 (at0 b1) fun (x9 : (Int × Int × Int × Int × Unit)) =>
 K (x9, (0 : Int), ())) (
 callT Tryz.prog 37 #[(.pointer a0)] (.one (.one (.int .i64))) fun (x10 : Int) =>
 callT Tryz.prog 37 #[(.pointer a0)] (.one (.one (.int .i64))) fun (x11 : Int) =>
 aggSt (at0 b1) (.agg #[(.int .i64 x3), (.int .i64 x10), (.int .i64 x11), (.int .i64 (0 : Int))]) 4 <|
 lds c36 (at0 b1) fun (x12 : (Int × Int × Int × Int × Unit)) =>
 K (x12, (0 : Int), ()))))
noncomputable def h41 : Hint := (hS (hR 2) (hS (hS (hR 2) (hC (hS (hR 3) hL) hL)) (hS (hR 4) (hS (hS (hR 2) (hC (hS (hR 3) hL) hL)) (hS (hS (hR 6) (hC (hS (hR 9) hL) hL)) (hS (hR 8) hL))))))
theorem F41_calls {a0 : Option Addr} {a1 : Int} {K : ((Int × Int × Int × Int × Unit) × Int × Unit) → World → Prop} {w : World} (h : F41 a0 a1 K w) : callT Tryz.prog 41 #[(.pointer a0), (.int .i64 a1)] (.tup [(.agg c36), (.one (.int .i64))]) K w := tied tabOk Tryz.func41 h41 [(.pointer a0), (.int .i64 a1)] h
noncomputable def F45 (a0 : Value) (a1 : Option Addr) (a2 : Int) (a3 : Int) (a4 : (Int × Int × Int × Unit)) (a5 : Bool) (K : ((Int × Int × Int × Unit) × Int × Unit) → World → Prop) : World → Prop :=
 newO (.cells #[(.int .i64 a4.1), (.int .i64 a4.2.1), (.int .i64 a4.2.2.1)] 31) fun b1 =>
 newO (.cells #[(.int .i64 (0 : Int)), (.int .i64 (0 : Int)), (.int .i64 (0 : Int))] 43) fun b2 =>
 ld (.int .i64) (at0 b1) fun (x3 : Int) =>
 callX Tryz.prog (do let d ← Deferred.ofValue a0 #[(.int .i64 x3)]; invoke d.target d.args : Sem Next) (.one (.one .any)) fun (x4 : Value) =>
 rdB Tryz.prog (do eqGuard .eql 111 (Operand.tmp 21) (Operand.const Value.nilFunc) x4 .nilFunc; binOp .eql 111 x4 .nilFunc : Sem Value) fun r5 =>
 sif r5 (
 aggSt (at0 b2) (.agg #[(.int .i64 (0 : Int)), (.int .i64 (0 : Int)), (.int .i64 (0 : Int))]) 3 <|
 lds c43 (at0 b2) fun (x6 : (Int × Int × Int × Unit)) =>
 K (x6, (1 : Int), ())) (
 callT Tryz.prog 12 #[(.pointer a1), (.int .i64 a2), (.bool a5)] (.one (.one (.int .i64))) fun (x7 : Int) =>
 drew <|
 ld (.int .i64) (⟨b1, 2, none⟩ : Addr) fun (x8 : Int) =>
 callT Tryz.prog 36 #[(.pointer a1), (.int .i64 x7), (.bool a5)] (.one (.agg c72)) fun (x9 : (Int × Int × Int × Int × Int × Sl × Sl × Unit)) =>
 keep (fun w => w.cell? (⟨b1, 2, none⟩ : Addr) = some (Cell.val (.int .i64) x8)) <|
 newO (.cells (Value.cells (.agg #[(.pointer a1), (.int .i64 x7), (.int .i64 (0 : Int)), (.int .i64 (1 : Int)), (.bool false), (.int .i64 x8), (.int .i64 (if (0 : Int) > a3 then (0 : Int) else a3)), (.bool a5), (.bool false), (.int .i64 x9.1), (.int .i64 x9.2.1), (.int .i64 x9.2.2.1), (.int .i64 x9.2.2.2.1), (.int .i64 x9.2.2.2.2.1), (.slice x9.2.2.2.2.2.1.a x9.2.2.2.2.2.1.len x9.2.2.2.2.2.1.cap), (.slice x9.2.2.2.2.2.2.1.a x9.2.2.2.2.2.2.1.len x9.2.2.2.2.2.2.1.cap)])) 114) fun b10 =>
 nn (some (at0 b10)) fun p11 =>
 lds c72 (p11.add 9) fun (x12 : (Int × Int × Int × Int × Int × Sl × Sl × Unit)) =>
 callT Tryz.prog 40 #[(.agg (Cells.vals c72 x12).toArray), (.int .i64 x7)] (.one (.one (.int .i64))) fun (x13 : Int) =>
 nn (some (at0 b10)) fun p14 =>
 stC (p14.add 2) (.int .i64 x13) <|
 join (S := Unit) (fun J15 =>
 ld (.int .i64) (at0 b1) fun (x17 : Int) =>
 sif (decide (x17 ≥ (25 : Int))) (
 ld (.int .i64) (at0 b1) fun (x18 : Int) =>
 sif (decide (x18 ≤ (28 : Int))) (
 nn (some (at0 b10)) fun p19 =>
 stC (p19.add 8) (.bool true) <|
 J15 ()) (
 ld (.int .i64) (at0 b1) fun (x20 : Int) =>
 nn (some (at0 b10)) fun p21 =>
 stC (p21.add 8) (.bool (x20 == (30 : Int))) <|
 J15 ())) (
 ld (.int .i64) (at0 b1) fun (x22 : Int) =>
 nn (some (at0 b10)) fun p23 =>
 stC (p23.add 8) (.bool (x22 == (30 : Int))) <|
 J15 ())) fun (s16 : Unit) =>
 join (S := Unit) (fun J24 =>
 ld (.int .i64) (⟨b1, 1, none⟩ : Addr) fun (x26 : Int) =>
 sif (decide (x26 > (0 : Int))) (
 ld (.int .i64) (⟨b1, 1, none⟩ : Addr) fun (x27 : Int) =>
 nn (some (at0 b10)) fun p28 =>
 stC (p28.add 3) (.int .i64 (if (9999 : Int) < x27 then (9999 : Int) else x27)) <|
 nn (some (at0 b10)) fun p29 =>
 stC (p29.add 4) (.bool true) <|
 J24 ()) (
 J24 ())) fun (s25 : Unit) =>
 callX Tryz.prog (do let d ← Deferred.ofValue x4 #[(.pointer (some (at0 b10)))]; invoke d.target d.args : Sem Next) (.tup [(.agg c43), (.one (.int .i64))]) fun (x30 : ((Int × Int × Int × Unit) × Int × Unit)) =>
 aggSt (at0 b2) (.agg (Cells.vals c43 x30.1).toArray) 3 <|
 lds c43 (at0 b2) fun (x31 : (Int × Int × Int × Unit)) =>
 K (x31, x30.2.1, ()))
noncomputable def h45 : Hint := (hS (hR 3) (hS (hR 5) (hS (hS (hR 2) (hC (hS (hR 3) hL) hL)) (hS (hR 5) (hS (.region [0, 1, 2, 3, 4, 5, 6, 7, 8, 9, 10, 11, 12, 13] (hO 14)) (hS (hR 10) (hJ (73785850394931363840, []) (.region [] (.ops 5 (.split 54 (.ops 5 (.split 59 (.skips 3 (hO 4)) (hO 7))) (.skips 3 (hO 9))))) (hJ (302157667927362455470080, []) (hS (hR 3) (hC (hR 11) hL)) (hS (hR 7) hL)))))))))
theorem F45_calls {a0 : Value} {a1 : Option Addr} {a2 : Int} {a3 : Int} {a4 : (Int × Int × Int × Unit)} {a5 : Bool} {K : ((Int × Int × Int × Unit) × Int × Unit) → World → Prop} {w : World} (h : F45 a0 a1 a2 a3 a4 a5 K w) : callT Tryz.prog 45 #[a0, (.pointer a1), (.int .i64 a2), (.int .i64 a3), (.agg (Cells.vals c31 a4).toArray), (.bool a5)] (.tup [(.agg c43), (.one (.int .i64))]) K w := tied tabOk Tryz.func45 h45 [a0, (.pointer a1), (.int .i64 a2), (.int .i64 a3), (.agg (Cells.vals c31 a4).toArray), (.bool a5)] h
noncomputable def F46 (a0 : Int) (K : Value → World → Prop) : World → Prop :=
 sif (a0 == (1 : Int)) (
 K (.func (.func 70) #[] #[])) (
 sif (a0 == (2 : Int)) (
 K (.func (.func 71) #[] #[])) (
 sif (a0 == (3 : Int)) (
 K (.func (.func 72) #[] #[])) (
 sif (a0 == (4 : Int)) (
 K (.func (.func 73) #[] #[])) (
 sif (a0 == (5 : Int)) (
 K (.func (.func 74) #[] #[])) (
 sif (a0 == (6 : Int)) (
 K (.func (.func 75) #[] #[])) (
 sif (a0 == (7 : Int)) (
 K (.func (.func 76) #[] #[])) (
 sif (a0 == (8 : Int)) (
 K (.func (.func 77) #[] #[])) (
 sif (a0 == (9 : Int)) (
 K (.func (.func 78) #[] #[])) (
 sif (a0 == (10 : Int)) (
 K (.func (.func 79) #[] #[])) (
 K .nilFunc))))))))))
noncomputable def h46 : Hint := (hS (hR 1) (hS (hS (hR 1) (.block (hS (hR 2) (hC (hS (hR 1) hL) (hS (hR 2) (hC (hS (hR 1) hL) (hS (hR 2) (hC (hS (hR 1) hL) (hS (hR 2) (hC (hS (hR 1) hL) (hS (hR 2) (hC (hS (hR 1) hL) (hS (hR 2) (hC (hS (hR 1) hL) (hS (hR 2) (hC (hS (hR 1) hL) (hS (hR 2) (hC (hS (hR 1) hL) (hS (hR 2) (hC (hS (hR 1) hL) (hS (hR 2) (hC (hS (hR 1) hL) hL)))))))))))))))))))))) (hS (hR 1) hL)))
theorem F46_calls {a0 : Int} {K : Value → World → Prop} {w : World} (h : F46 a0 K w) : callT Tryz.prog 46 #[(.int .i64 a0)] (.one (.one .any)) K w := tied tabOk Tryz.func46 h46 [(.int .i64 a0)] h
noncomputable def F51 (a0 : Option Addr) (K : Bool → World → Prop) : World → Prop :=
 callT Tryz.prog 37 #[(.pointer a0)] (.one (.one (.int .i64))) fun (x1 : Int) =>
 sif (decide (x1 > (0 : Int))) (
 callT Tryz.prog 50 #[(.pointer a0), (.int .i64 x1)] (.one (.one (.int .i64))) fun (x2 : Int) =>
 callT Tryz.prog 66 #[(.pointer a0), (.int .i64 x2)] (.one (.one (.int .i64))) fun (x3 : Int) =>
 K (x3 == x1)) (
 K false)
noncomputable def h51 : Hint := (hS (hR 1) (hS (hR 3) (hS (.region [] (.ops 3 (.split 8 (hO 9) (.skips 7 (hO 2))))) hL)))
theorem F51_calls {a0 : Option Addr} {K : Bool → World → Prop} {w : World} (h : F51 a0 K w) : callT Tryz.prog 51 #[(.pointer a0)] (.one (.one .bool)) K w := tied tabOk Tryz.func51 h51 [(.pointer a0)] h
noncomputable def F56 (a0 : Int) (K : Value → World → Prop) : World → Prop :=
 sif (a0 == (31 : Int)) (
 K (.func (.func 96) #[] #[])) (
 sif (a0 == (32 : Int)) (
 K (.func (.func 97) #[] #[])) (
 sif (a0 == (33 : Int)) (
 K (.func (.func 98) #[] #[])) (
 K .nilFunc)))
noncomputable def h56 : Hint := (hS (hR 1) (hS (hS (hR 1) (.block (hS (hR 2) (hC (hS (hR 1) hL) (hS (hR 2) (hC (hS (hR 1) hL) (hS (hR 2) (hC (hS (hR 1) hL) hL)))))))) (hS (hR 1) hL)))
theorem F56_calls {a0 : Int} {K : Value → World → Prop} {w : World} (h : F56 a0 K w) : callT Tryz.prog 56 #[(.int .i64 a0)] (.one (.one .any)) K w := tied tabOk Tryz.func56 h56 [(.int .i64 a0)] h
noncomputable def F61 (a0 : Option Addr) (a1 : Int) (K : (Int × Int × Int × Int × Int × Sl × Sl × Unit) → World → Prop) : World → Prop :=
 newO (.cells #[(.int .i64 (0 : Int)), (.int .i64 (0 : Int)), (.int .i64 (0 : Int)), (.int .i64 (0 : Int)), (.int .i64 (0 : Int)), (.slice none 0 0), (.slice none 0 0)] 72) fun b1 =>
 callT Tryz.prog 41 #[(.pointer a0), (.int .i64 a1)] (.tup [(.agg c36), (.one (.int .i64))]) fun (x2 : ((Int × Int × Int × Int × Unit) × Int × Unit)) =>
 newO (.cells #[(.int .i64 (0 : Int)), (.int .i64 (0 : Int)), (.int .i64 (0 : Int)), (.int .i64 (0 : Int))] 36) fun b3 =>
 aggSt (at0 b3) (.agg (Cells.vals c36 x2.1).toArray) 4 <|
 join (S := Addr × Unit) (fun J4 =>
 drew <|
 lds c36 (at0 b3) fun (x6 : (Int × Int × Int × Int × Unit)) =>
 ld (.int .i64) (at0 b3) fun (x7 : Int) =>
 ld (.int .i64) (⟨b3, 1, none⟩ : Addr) fun (x8 : Int) =>
 both (
 newO (.cells #[(.int .i64 (0 : Int)), (.int .i64 (0 : Int)), (.int .i64 (0 : Int)), (.int .i64 (0 : Int)), (.int .i64 (0 : Int)), (.slice none 0 0), (.slice none 0 0)] 72) fun b9 =>
 keep (fun w => w.cell? (⟨b3, 1, none⟩ : Addr) = some (Cell.val (.int .i64) x8)) <|
 keep (fun w => w.cell? (at0 b3) = some (Cell.val (.int .i64) x7)) <|
 keep (fun w => cellsAt w (at0 b3) 0 (Cells.vals c36 x6)) <|
 callT Tryz.prog 25 #[(.pointer a0), (.int .i64 x7), (.int .i64 x8)] (.one (.one .sl)) fun (x10 : Sl) =>
 keep (fun w => cellsAt w (at0 b3) 0 (Cells.vals c36 x6)) <|
 aggSt (at0 b9) (.agg #[(.int .i64 x6.1), (.int .i64 x6.2.1), (.int .i64 x6.2.2.1), (.int .i64 x6.2.2.2.1), (.int .i64 a1), (.slice x10.a x10.len x10.cap), (.slice none 0 0)]) 7 <|
 J4 ((at0 b9), ())) <|
 callT Tryz.prog 25 #[(.pointer a0), (.int .i64 x7), (.int .i64 x8)] (.one (.one .sl)) fun (x11 : Sl) =>
 keep (fun w => cellsAt w (at0 b3) 0 (Cells.vals c36 x6)) <|
 both (
 newO (.cells #[(.int .i64 (0 : Int)), (.int .i64 (0 : Int)), (.int .i64 (0 : Int)), (.int .i64 (0 : Int)), (.int .i64 (0 : Int)), (.slice none 0 0), (.slice none 0 0)] 72) fun b12 =>
 keep (fun w => w.cell? (⟨b3, 1, none⟩ : Addr) = some (Cell.val (.int .i64) x8)) <|
 keep (fun w => w.cell? (at0 b3) = some (Cell.val (.int .i64) x7)) <|
 keep (fun w => cellsAt w (at0 b3) 0 (Cells.vals c36 x6)) <|
 aggSt (at0 b12) (.agg #[(.int .i64 x6.1), (.int .i64 x6.2.1), (.int .i64 x6.2.2.1), (.int .i64 x6.2.2.2.1), (.int .i64 a1), (.slice x11.a x11.len x11.cap), (.slice none 0 0)]) 7 <|
 J4 ((at0 b12), ())) <|
 nothing) fun (s5 : Addr × Unit) =>
 ld (.sl) (s5.1.add 5) fun (x13 : Sl) =>
 callT Tryz.prog 17 #[(.slice x13.a x13.len x13.cap)] (.one (.one .sl)) fun (x14 : Sl) =>
 stC (s5.1.add 6) (.slice x14.a x14.len x14.cap) <|
 lds c72 s5.1 fun (x15 : (Int × Int × Int × Int × Int × Sl × Sl × Unit)) =>
 aggSt (at0 b1) (.agg (Cells.vals c72 x15).toArray) 7 <|
 lds c72 (at0 b1) fun (x16 : (Int × Int × Int × Int × Int × Sl × Sl × Unit)) =>
 K x16
noncomputable def h61 : Hint := (hS (hR 1) (hS (hR 9) (hJ (8372352, [(7, (.one .addr))]) (.region [0, 1, 2, 3, 4, 5, 6, 7, 8, 10] (.float [9] (.ops 7 (.alt none (.plain (hO 3)) (.ops 2 (.alt none (.plain (hO 1)) .stop)))))) (hS (hR 5) (hS (hR 2) hL)))))
theorem F61_calls {a0 : Option Addr} {a1 : Int} {K : (Int × Int × Int × Int × Int × Sl × Sl × Unit) → World → Prop} {w : World} (h : F61 a0 a1 K w) : callT Tryz.prog 61 #[(.pointer a0), (.int .i64 a1)] (.one (.agg c72)) K w := tied tabOk Tryz.func61 h61 [(.pointer a0), (.int .i64 a1)] h
noncomputable def F67 (a0 : Option Addr) (a1 : Int) (a2 : Int) (K : (Int × Int × Int × Int × Unit) → World → Prop) : World → Prop :=
 newO (.cells #[(.int .i64 (0 : Int)), (.int .i64 (0 : Int)), (.int .i64 (0 : Int)), (.int .i64 (0 : Int))] 36) fun b1 =>
 callT Tryz.prog 25 #[(.pointer a0), (.int .i64 (if (IntKind.wrap .i64 (a2 - (2 : Int))) > a1 then (IntKind.wrap .i64 (a2 - (2 : Int))) else a1)), (.int .i64 a2)] (.one (.one .sl)) fun (x2 : Sl) =>
 ix x2.a x2.len (IntKind.wrap .i64 (((x2.len : Nat) : Int) - (1 : Int))) fun p3 =>
 ld (.int .i64) (p3.add (scaled (Int.toNat (IntKind.wrap .i64 (((x2.len : Nat) : Int) - (1 : Int)))) 1)) fun (x4 : Int) =>
 sif (x4 == (13 : Int)) (
 aggSt (at0 b1) (.agg #[(.int .i64 a1), (.int .i64 (IntKind.wrap .i64 (a2 - (1 : Int)))), (.int .i64 a2), (.int .i64 (3 : Int))]) 4 <|
 lds c36 (at0 b1) fun (x5 : (Int × Int × Int × Int × Unit)) =>
 K x5) (
 join (S := Bool × Unit) (fun J6 =>
 sif (decide ((IntKind.wrap .i64 (((x2.len : Nat) : Int) - (1 : Int))) > (0 : Int))) (
 ix x2.a x2.len (IntKind.wrap .i64 ((IntKind.wrap .i64 (((x2.len : Nat) : Int) - (1 : Int))) - (1 : Int))) fun p8 =>
 ld (.int .i64) (p8.add (scaled (Int.toNat (IntKind.wrap .i64 ((IntKind.wrap .i64 (((x2.len : Nat) : Int) - (1 : Int))) - (1 : Int)))) 1)) fun (x9 : Int) =>
 J6 ((x9 == (13 : Int)), ())) (
 J6 (false, ()))) fun (s7 : Bool × Unit) =>
 sif s7.1 (
 aggSt (at0 b1) (.agg #[(.int .i64 a1), (.int .i64 (IntKind.wrap .i64 (a2 - (2 : Int)))), (.int .i64 a2), (.int .i64 (2 : Int))]) 4 <|
 lds c36 (at0 b1) fun (x10 : (Int × Int × Int × Int × Unit)) =>
 K x10) (
 aggSt (at0 b1) (.agg #[(.int .i64 a1), (.int .i64 (IntKind.wrap .i64 (a2 - (1 : Int)))), (.int .i64 a2), (.int .i64 (1 : Int))]) 4 <|
 lds c36 (at0 b1) fun (x11 : (Int × Int × Int × Int × Unit)) =>
 K x11))
noncomputable def h67 : Hint := (hS (hR 1) (hS (hR 8) (hS (hR 4) (hS (.block (hS (hR 6) (hC (hS (hR 6) hL) (hJ (2197949513728, [(30, tB)]) (.region [] (.ops 3 (.split 33 (hO 8) (.skips 6 (hO 2))))) (hC (hS (hR 6) hL) hL))))) (hS (hR 6) hL)))))
theorem F67_calls {a0 : Option Addr} {a1 : Int} {a2 : Int} {K : (Int × Int × Int × Int × Unit) → World → Prop} {w : World} (h : F67 a0 a1 a2 K w) : callT Tryz.prog 67 #[(.pointer a0), (.int .i64 a1), (.int .i64 a2)] (.one (.agg c36)) K w := tied tabOk Tryz.func67 h67 [(.pointer a0), (.int .i64 a1), (.int .i64 a2)] h
noncomputable def F70 (a0 : Option Addr) (K : ((Int × Int × Int × Unit) × Int × Unit) → World → Prop) : World → Prop :=
 newO (.cells #[(.int .i64 (0 : Int)), (.int .i64 (0 : Int)), (.int .i64 (0 : Int))] 43) fun b1 =>
 nn a0 fun p2 =>
 ld (.int .i64) (p2.add 2) fun (x3 : Int) =>
 sif (x3 == (0 : Int)) (
 callT Tryz.prog 120 #[] (.tup [(.agg c43), (.one (.int .i64))]) fun (x4 : ((Int × Int × Int × Unit) × Int × Unit)) =>
 aggSt (at0 b1) (.agg (Cells.vals c43 x4.1).toArray) 3 <|
 lds c43 (at0 b1) fun (x5 : (Int × Int × Int × Unit)) =>
 K (x5, x4.2.1, ())) (
 drew <|
 nn a0 fun p6 =>
 lds c72 (p6.add 9) fun (x7 : (Int × Int × Int × Int × Int × Sl × Sl × Unit)) =>
 nn a0 fun p8 =>
 ld (.int .i64) (p8.add 2) fun (x9 : Int) =>
 nn a0 fun p10 =>
 ld (.int .i64) (p10.add 3) fun (x11 : Int) =>
 callT Tryz.prog 38 #[(.agg (Cells.vals c72 x7).toArray), (.int .i64 (IntKind.wrap .i64 (x9 - x11)))] (.one (.one (.int .i64))) fun (x12 : Int) =>
 callT Tryz.prog 121 #[(.pointer a0), (.int .i64 x12), (.int .i64 (0 : Int))] (.tup [(.agg c43), (.one (.int .i64))]) fun (x13 : ((Int × Int × Int × Unit) × Int × Unit)) =>
 aggSt (at0 b1) (.agg (Cells.vals c43 x13.1).toArray) 3 <|
 lds c43 (at0 b1) fun (x14 : (Int × Int × Int × Unit)) =>
 K (x14, x13.2.1, ()))
noncomputable def h70 : Hint := (hS (hR 2) (hS (hS (hR 5) (hC (hS (hR 5) hL) hL)) (hS (.region [0, 1, 2, 3, 4, 5, 6, 7, 8, 9, 10, 11, 12, 13, 14, 15, 16, 17, 18, 19] (hO 20)) hL)))
theorem F70_calls {a0 : Option Addr} {K : ((Int × Int × Int × Unit) × Int × Unit) → World → Prop} {w : World} (h : F70 a0 K w) : callT Tryz.prog 70 #[(.pointer a0)] (.tup [(.agg c43), (.one (.int .i64))]) K w := tied tabOk Tryz.func70 h70 [(.pointer a0)] h
noncomputable def F71 (a0 : Option Addr) (K : ((Int × Int × Int × Unit) × Int × Unit) → World → Prop) : World → Prop :=
 newO (.cells #[(.int .i64 (0 : Int)), (.int .i64 (0 : Int)), (.int .i64 (0 : Int))] 43) fun b1 =>
 drew <|
 nn a0 fun p2 =>
 ld (.int .i64) (p2.add 2) fun (x3 : Int) =>
 callT Tryz.prog 122 #[(.pointer a0)] (.one (.one (.int .i64))) fun (x4 : Int) =>
 keep (fun w => w.cell? (p2.add 2) = some (Cell.val (.int .i64) x3)) <|
 sif (x3 == x4) (
 callT Tryz.prog 120 #[] (.tup [(.agg c43), (.one (.int .i64))]) fun (x5 : ((Int × Int × Int × Unit) × Int × Unit)) =>
 aggSt (at0 b1) (.agg (Cells.vals c43 x5.1).toArray) 3 <|
 lds c43 (at0 b1) fun (x6 : (Int × Int × Int × Unit)) =>
 K (x6, x5.2.1, ())) (
 drew <|
 nn a0 fun p7 =>
 lds c72 (p7.add 9) fun (x8 : (Int × Int × Int × Int × Int × Sl × Sl × Unit)) =>
 nn a0 fun p9 =>
 ld (.int .i64) (p9.add 2) fun (x10 : Int) =>
 nn a0 fun p11 =>
 ld (.int .i64) (p11.add 3) fun (x12 : Int) =>
 callT Tryz.prog 122 #[(.pointer a0)] (.one (.one (.int .i64))) fun (x13 : Int) =>
 keep (fun w => w.cell? (p11.add 3) = some (Cell.val (.int .i64) x12)) <|
 keep (fun w => w.cell? (p9.add 2) = some (Cell.val (.int .i64) x10)) <|
 keep (fun w => cellsAt w (p7.add 9) 0 (Cells.vals c72 x8)) <|
 callT Tryz.prog 38 #[(.agg (Cells.vals c72 x8).toArray), (.int .i64 (if x13 < (IntKind.wrap .i64 (x10 + x12)) then x13 else (IntKind.wrap .i64 (x10 + x12))))] (.one (.one (.int .i64))) fun (x14 : Int) =>
 callT Tryz.prog 121 #[(.pointer a0), (.int .i64 x14), (.int .i64 (0 : Int))] (.tup [(.agg c43), (.one (.int .i64))]) fun (x15 : ((Int × Int × Int × Unit) × Int × Unit)) =>
 aggSt (at0 b1) (.agg (Cells.vals c43 x15.1).toArray) 3 <|
 lds c43 (at0 b1) fun (x16 : (Int × Int × Int × Unit)) =>
 K (x16, x15.2.1, ()))
noncomputable def h71 : Hint := (hS (hR 2) (hS (hS (.region [0, 1, 2, 3, 4, 5, 6] (hO 7)) (hC (hS (hR 5) hL) hL)) (hS (.region [0, 1, 2, 3, 4, 5, 6, 7, 8, 9, 10, 11, 12, 13, 14, 15, 16, 17, 18, 19, 20, 21, 22] (hO 23)) hL)))
theorem F71_calls {a0 : Option Addr} {K : ((Int × Int × Int × Unit) × Int × Unit) → World → Prop} {w : World} (h : F71 a0 K w) : callT Tryz.prog 71 #[(.pointer a0)] (.tup [(.agg c43), (.one (.int .i64))]) K w := tied tabOk Tryz.func71 h71 [(.pointer a0)] h
noncomputable def F72 (a0 : Option Addr) (K : ((Int × Int × Int × Unit) × Int × Unit) → World → Prop) : World → Prop :=
 newO (.cells #[(.int .i64 (0 : Int)), (.int .i64 (0 : Int)), (.int .i64 (0 : Int))] 43) fun b1 =>
 nn a0 fun p2 =>
 ld (.int .i64) (p2.add 9) fun (x3 : Int) =>
 callT Tryz.prog 121 #[(.pointer a0), (.int .i64 x3), (.int .i64 (0 : Int))] (.tup [(.agg c43), (.one (.int .i64))]) fun (x4 : ((Int × Int × Int × Unit) × Int × Unit)) =>
 aggSt (at0 b1) (.agg (Cells.vals c43 x4.1).toArray) 3 <|
 lds c43 (at0 b1) fun (x5 : (Int × Int × Int × Unit)) =>
 K (x5, x4.2.1, ())
noncomputable def h72 : Hint := (hS (hR 2) (hS (hR 12) hL))
theorem F72_calls {a0 : Option Addr} {K : ((Int × Int × Int × Unit) × Int × Unit) → World → Prop} {w : World} (h : F72 a0 K w) : callT Tryz.prog 72 #[(.pointer a0)] (.tup [(.agg c43), (.one (.int .i64))]) K w := tied tabOk Tryz.func72 h72 [(.pointer a0)] h
noncomputable def F73 (a0 : Option Addr) (K : ((Int × Int × Int × Unit) × Int × Unit) → World → Prop) : World → Prop :=
 newO (.cells #[(.int .i64 (0 : Int)), (.int .i64 (0 : Int)), (.int .i64 (0 : Int))] 43) fun b1 =>
 drew <|
 nn a0 fun p2 =>
 lds c72 (p2.add 9) fun (x3 : (Int × Int × Int × Int × Int × Sl × Sl × Unit)) =>
 nn a0 fun p4 =>
 lds c72 (p4.add 9) fun (x5 : (Int × Int × Int × Int × Int × Sl × Sl × Unit)) =>
 callT Tryz.prog 123 #[(.agg (Cells.vals c72 x5).toArray)] (.one (.one (.int .i64))) fun (x6 : Int) =>
 keep (fun w => cellsAt w (p2.add 9) 0 (Cells.vals c72 x3)) <|
 callT Tryz.prog 38 #[(.agg (Cells.vals c72 x3).toArray), (.int .i64 x6)] (.one (.one (.int .i64))) fun (x7 : Int) =>
 callT Tryz.prog 121 #[(.pointer a0), (.int .i64 x7), (.int .i64 (0 : Int))] (.tup [(.agg c43), (.one (.int .i64))]) fun (x8 : ((Int × Int × Int × Unit) × Int × Unit)) =>
 aggSt (at0 b1) (.agg (Cells.vals c43 x8.1).toArray) 3 <|
 lds c43 (at0 b1) fun (x9 : (Int × Int × Int × Unit)) =>
 K (x9, x8.2.1, ())
noncomputable def h73 : Hint := (hS (hR 2) (hS (.region [0, 1, 2, 3, 4, 5, 6, 7, 8, 9, 10, 11, 12, 13, 14, 15] (hO 16)) hL))
theorem F73_calls {a0 : Option Addr} {K : ((Int × Int × Int × Unit) × Int × Unit) → World → Prop} {w : World} (h : F73 a0 K w) : callT Tryz.prog 73 #[(.pointer a0)] (.tup [(.agg c43), (.one (.int .i64))]) K w := tied tabOk Tryz.func73 h73 [(.pointer a0)] h
noncomputable def F74 (a0 : Option Addr) (K : ((Int × Int × Int × Unit) × Int × Unit) → World → Prop) : World → Prop :=
 newO (.cells #[(.int .i64 (0 : Int)), (.int .i64 (0 : Int)), (.int .i64 (0 : Int))] 43) fun b1 =>
 nn a0 fun p2 =>
 lds c72 (p2.add 9) fun (x3 : (Int × Int × Int × Int × Int × Sl × Sl × Unit)) =>
 newO (.cells #[(.int .i64 (0 : Int)), (.int .i64 (0 : Int)), (.int .i64 (0 : Int)), (.int .i64 (0 : Int)), (.int .i64 (0 : Int)), (.slice none 0 0), (.slice none 0 0)] 72) fun b4 =>
 aggSt (at0 b4) (.agg (Cells.vals c72 x3).toArray) 7 <|
 join (S := Unit) (fun J5 =>
 nn a0 fun p7 =>
 ld (.ptr) p7 fun (x8 : Option Addr) =>
 callT Tryz.prog 19 #[(.pointer x8)] (.one (.one (.int .i64))) fun (x9 : Int) =>
 join (S := Bool × Unit) (fun J10 =>
 ld (.int .i64) (⟨b4, 4, none⟩ : Addr) fun (x12 : Int) =>
 sif (decide (x12 < (IntKind.wrap .i64 (x9 - (1 : Int))))) (
 nn a0 fun p13 =>
 ld (.int .i64) (p13.add 3) fun (x14 : Int) =>
 J10 ((decide (x14 > (1 : Int))), ())) (
 J10 (false, ()))) fun (s11 : Bool × Unit) =>
 sif s11.1 (
 drew <|
 nn a0 fun p15 =>
 ld (.ptr) p15 fun (x16 : Option Addr) =>
 ld (.int .i64) (⟨b4, 4, none⟩ : Addr) fun (x17 : Int) =>
 nn a0 fun p18 =>
 ld (.int .i64) (p18.add 3) fun (x19 : Int) =>
 callT Tryz.prog 61 #[(.pointer x16), (.int .i64 (if (IntKind.wrap .i64 (x9 - (1 : Int))) < (IntKind.wrap .i64 ((IntKind.wrap .i64 (x17 + x19)) - (1 : Int))) then (IntKind.wrap .i64 (x9 - (1 : Int))) else (IntKind.wrap .i64 ((IntKind.wrap .i64 (x17 + x19)) - (1 : Int)))))] (.one (.agg c72)) fun (x20 : (Int × Int × Int × Int × Int × Sl × Sl × Unit)) =>
 aggSt (at0 b4) (.agg (Cells.vals c72 x20).toArray) 7 <|
 J5 ()) (
 J5 ())) fun (s6 : Unit) =>
 drew <|
 lds c72 (at0 b4) fun (x21 : (Int × Int × Int × Int × Int × Sl × Sl × Unit)) =>
 lds c72 (at0 b4) fun (x22 : (Int × Int × Int × Int × Int × Sl × Sl × Unit)) =>
 callT Tryz.prog 39 #[(.agg (Cells.vals c72 x22).toArray)] (.one (.one (.int .i64))) fun (x23 : Int) =>
 keep (fun w => cellsAt w (at0 b4) 0 (Cells.vals c72 x21)) <|
 callT Tryz.prog 38 #[(.agg (Cells.vals c72 x21).toArray), (.int .i64 (IntKind.wrap .i64 (x23 - (1 : Int))))] (.one (.one (.int .i64))) fun (x24 : Int) =>
 aggSt (at0 b1) (.agg #[(.int .i64 x24), (.int .i64 (1 : Int)), (.int .i64 (100000 : Int))]) 3 <|
 lds c43 (at0 b1) fun (x25 : (Int × Int × Int × Unit)) =>
 K (x25, (0 : Int), ())
noncomputable def h74 : Hint := (hS (hR 2) (hS (hR 6) (hJ (4398046510112, []) (hS (hR 7) (hJ (134152192, [(26, tB)]) (.region [] (.ops 5 (.split 20 (hO 6) (.skips 5 (hO 1))))) (hC (.region [0, 1, 2, 3, 4, 5, 6, 7, 8, 9, 10, 11, 12, 13, 14, 15] (hO 16)) hL))) (hS (.region [0, 1, 2, 3, 4, 5, 6, 7] (hO 8)) hL))))
theorem F74_calls {a0 : Option Addr} {K : ((Int × Int × Int × Unit) × Int × Unit) → World → Prop} {w : World} (h : F74 a0 K w) : callT Tryz.prog 74 #[(.pointer a0)] (.tup [(.agg c43), (.one (.int .i64))]) K w := tied tabOk Tryz.func74 h74 [(.pointer a0)] h
noncomputable def F75 (a0 : Option Addr) (K : ((Int × Int × Int × Unit) × Int × Unit) → World → Prop) : World → Prop :=
 newO (.cells #[(.int .i64 (0 : Int)), (.int .i64 (0 : Int)), (.int .i64 (0 : Int))] 43) fun b1 =>
 drew <|
 nn a0 fun p2 =>
 lds c72 (p2.add 9) fun (x3 : (Int × Int × Int × Int × Int × Sl × Sl × Unit)) =>
 nn a0 fun p4 =>
 ld (.int .i64) (p4.add 3) fun (x5 : Int) =>
 callT Tryz.prog 122 #[(.pointer a0)] (.one (.one (.int .i64))) fun (x6 : Int) =>
 keep (fun w => w.cell? (p4.add 3) = some (Cell.val (.int .i64) x5)) <|
 keep (fun w => cellsAt w (p2.add 9) 0 (Cells.vals c72 x3)) <|
 callT Tryz.prog 38 #[(.agg (Cells.vals c72 x3).toArray), (.int .i64 (if x6 < (IntKind.wrap .i64 (x5 - (1 : Int))) then x6 else (IntKind.wrap .i64 (x5 - (1 : Int)))))] (.one (.one (.int .i64))) fun (x7 : Int) =>
 callT Tryz.prog 121 #[(.pointer a0), (.int .i64 x7), (.int .i64 (0 : Int))] (.tup [(.agg c43), (.one (.int .i64))]) fun (x8 : ((Int × Int × Int × Unit) × Int × Unit)) =>
 aggSt (at0 b1) (.agg (Cells.vals c43 x8.1).toArray) 3 <|
 lds c43 (at0 b1) fun (x9 : (Int × Int × Int × Unit)) =>
 K (x9, x8.2.1, ())
noncomputable def h75 : Hint := (hS (hR 2) (hS (.region [0, 1, 2, 3, 4, 5, 6, 7, 8, 9, 10, 11, 12, 13, 14, 15, 16, 17, 18] (hO 19)) hL))
theorem F75_calls {a0 : Option Addr} {K : ((Int × Int × Int × Unit) × Int × Unit) → World → Prop} {w : World} (h : F75 a0 K w) : callT Tryz.prog 75 #[(.pointer a0)] (.tup [(.agg c43), (.one (.int .i64))]) K w := tied tabOk Tryz.func75 h75 [(.pointer a0)] h
noncomputable def F76 (a0 : Option Addr) (K : ((Int × Int × Int × Unit) × Int × Unit) → World → Prop) : World → Prop :=
 newO (.cells #[(.int .i64 (0 : Int)), (.int .i64 (0 : Int)), (.int .i64 (0 : Int))] 43) fun b1 =>
 callT Tryz.prog 124 #[(.pointer a0), (.int .i64 (1 : Int)), (.int .i64 (0 : Int)), (.int .i64 (1 : Int))] (.tup [(.agg c43), (.one (.int .i64))]) fun (x2 : ((Int × Int × Int × Unit) × Int × Unit)) =>
 aggSt (at0 b1) (.agg (Cells.vals c43 x2.1).toArray) 3 <|
 lds c43 (at0 b1) fun (x3 : (Int × Int × Int × Unit)) =>
 K (x3, x2.2.1, ())
noncomputable def h76 : Hint := (hS (hR 2) (hS (hR 6) hL))
theorem F76_calls {a0 : Option Addr} {K : ((Int × Int × Int × Unit) × Int × Unit) → World → Prop} {w : World} (h : F76 a0 K w) : callT Tryz.prog 76 #[(.pointer a0)] (.tup [(.agg c43), (.one (.int .i64))]) K w := tied tabOk Tryz.func76 h76 [(.pointer a0)] h
noncomputable def F77 (a0 : Option Addr) (K : ((Int × Int × Int × Unit) × Int × Unit) → World → Prop) : World → Prop :=
 newO (.cells #[(.int .i64 (0 : Int)), (.int .i64 (0 : Int)), (.int .i64 (0 : Int))] 43) fun b1 =>
 callT Tryz.prog 124 #[(.pointer a0), (.int .i64 (-1 : Int)), (.int .i64 (0 : Int)), (.int .i64 (0 : Int))] (.tup [(.agg c43), (.one (.int .i64))]) fun (x2 : ((Int × Int × Int × Unit) × Int × Unit)) =>
 aggSt (at0 b1) (.agg (Cells.vals c43 x2.1).toArray) 3 <|
 lds c43 (at0 b1) fun (x3 : (Int × Int × Int × Unit)) =>
 K (x3, x2.2.1, ())
noncomputable def h77 : Hint := (hS (hR 2) (hS (hR 6) hL))
theorem F77_calls {a0 : Option Addr} {K : ((Int × Int × Int × Unit) × Int × Unit) → World → Prop} {w : World} (h : F77 a0 K w) : callT Tryz.prog 77 #[(.pointer a0)] (.tup [(.agg c43), (.one (.int .i64))]) K w := tied tabOk Tryz.func77 h77 [(.pointer a0)] h
noncomputable def F78 (a0 : Option Addr) (K : ((Int × Int × Int × Unit) × Int × Unit) → World → Prop) : World → Prop :=
 newO (.cells #[(.int .i64 (0 : Int)), (.int .i64 (0 : Int)), (.int .i64 (0 : Int))] 43) fun b1 =>
 callT Tryz.prog 124 #[(.pointer a0), (.int .i64 (1 : Int)), (.int .i64 (-1 : Int)), (.int .i64 (1 : Int))] (.tup [(.agg c43), (.one (.int .i64))]) fun (x2 : ((Int × Int × Int × Unit) × Int × Unit)) =>
 aggSt (at0 b1) (.agg (Cells.vals c43 x2.1).toArray) 3 <|
 lds c43 (at0 b1) fun (x3 : (Int × Int × Int × Unit)) =>
 K (x3, x2.2.1, ())
noncomputable def h78 : Hint := (hS (hR 2) (hS (hR 6) hL))
theorem F78_calls {a0 : Option Addr} {K : ((Int × Int × Int × Unit) × Int × Unit) → World → Prop} {w : World} (h : F78 a0 K w) : callT Tryz.prog 78 #[(.pointer a0)] (.tup [(.agg c43), (.one (.int .i64))]) K w := tied tabOk Tryz.func78 h78 [(.pointer a0)] h
noncomputable def F79 (a0 : Option Addr) (K : ((Int × Int × Int × Unit) × Int × Unit) → World → Prop) : World → Prop :=
 newO (.cells #[(.int .i64 (0 : Int)), (.int .i64 (0 : Int)), (.int .i64 (0 : Int))] 43) fun b1 =>
 callT Tryz.prog 124 #[(.pointer a0), (.int .i64 (-1 : Int)), (.int .i64 (1 : Int)), (.int .i64 (0 : Int))] (.tup [(.agg c43), (.one (.int .i64))]) fun (x2 : ((Int × Int × Int × Unit) × Int × Unit)) =>
 aggSt (at0 b1) (.agg (Cells.vals c43 x2.1).toArray) 3 <|
 lds c43 (at0 b1) fun (x3 : (Int × Int × Int × Unit)) =>
 K (x3, x2.2.1, ())
noncomputable def h79 : Hint := (hS (hR 2) (hS (hR 6) hL))
theorem F79_calls {a0 : Option Addr} {K : ((Int × Int × Int × Unit) × Int × Unit) → World → Prop} {w : World} (h : F79 a0 K w) : callT Tryz.prog 79 #[(.pointer a0)] (.tup [(.agg c43), (.one (.int .i64))]) K w := tied tabOk Tryz.func79 h79 [(.pointer a0)] h
noncomputable def F96 (a0 : Option Addr) (K : ((Int × Int × Int × Unit) × Int × Unit) → World → Prop) : World → Prop :=
 newO (.cells #[(.int .i64 (0 : Int)), (.int .i64 (0 : Int)), (.int .i64 (0 : Int))] 43) fun b1 =>
 drew <|
 nn a0 fun p2 =>
 lds c72 (p2.add 9) fun (x3 : (Int × Int × Int × Int × Int × Sl × Sl × Unit)) =>
 nn a0 fun p4 =>
 ld (.ptr) p4 fun (x5 : Option Addr) =>
 callT Tryz.prog 130 #[(.agg (Cells.vals c72 x3).toArray)] (.one (.one .bool)) fun (x6 : Bool) =>
 keep (fun w => w.cell? p4 = some (Cell.val (.ptr) x5)) <|
 callT Tryz.prog 19 #[(.pointer x5)] (.one (.one (.int .i64))) fun (x7 : Int) =>
 nn a0 fun p8 =>
 ld (.int .i64) (p8.add 3) fun (x9 : Int) =>
 join (S := Unit) (fun J10 =>
 nn a0 fun p12 =>
 ld (.int .i64) ((p12.add 9).add 4) fun (x13 : Int) =>
 sloop (S := Bool × Int × Int × Unit) (fun (s14 : Bool × Int × Int × Unit) again15 =>
 sif (decide (s14.2.2.1 ≤ (IntKind.wrap .i64 (x7 - (1 : Int))))) (
 nn a0 fun p16 =>
 ld (.ptr) p16 fun (x17 : Option Addr) =>
 callT Tryz.prog 61 #[(.pointer x17), (.int .i64 s14.2.2.1)] (.one (.agg c72)) fun (x18 : (Int × Int × Int × Int × Int × Sl × Sl × Unit)) =>
 newO (.cells #[(.int .i64 (0 : Int)), (.int .i64 (0 : Int)), (.int .i64 (0 : Int)), (.int .i64 (0 : Int)), (.int .i64 (0 : Int)), (.slice none 0 0), (.slice none 0 0)] 72) fun b19 =>
 aggSt (at0 b19) (.agg (Cells.vals c72 x18).toArray) 7 <|
 lds c72 (at0 b19) fun (x20 : (Int × Int × Int × Int × Int × Sl × Sl × Unit)) =>
 callT Tryz.prog 130 #[(.agg (Cells.vals c72 x20).toArray)] (.one (.one .bool)) fun (x21 : Bool) =>
 join (S := Int × Unit) (fun J22 =>
 join (S := Bool × Unit) (fun J24 =>
 sif x21 (
 J24 ((!s14.1), ())) (
 J24 (false, ()))) fun (s25 : Bool × Unit) =>
 sif s25.1 (
 sif ((IntKind.wrap .i64 (s14.2.1 - (1 : Int))) == (0 : Int)) (
 ld (.int .i64) (at0 b19) fun (x26 : Int) =>
 callT Tryz.prog 121 #[(.pointer a0), (.int .i64 x26), (.int .i64 (0 : Int))] (.tup [(.agg c43), (.one (.int .i64))]) fun (x27 : ((Int × Int × Int × Unit) × Int × Unit)) =>
 aggSt (at0 b1) (.agg (Cells.vals c43 x27.1).toArray) 3 <|
 lds c43 (at0 b1) fun (x28 : (Int × Int × Int × Unit)) =>
 K (x28, x27.2.1, ())) (
 J22 ((IntKind.wrap .i64 (s14.2.1 - (1 : Int))), ()))) (
 J22 (s14.2.1, ()))) fun (s23 : Int × Unit) =>
 again15 (x21, s23.1, (IntKind.wrap .i64 (s14.2.2.1 + (1 : Int))), ())) (
 J10 ())) (x6, x9, (IntKind.wrap .i64 (x13 + (1 : Int))), ())) fun (s11 : Unit) =>
 callT Tryz.prog 131 #[(.pointer a0)] (.one (.one (.int .i64))) fun (x29 : Int) =>
 nn a0 fun p30 =>
 ld (.int .i64) (p30.add 1) fun (x31 : Int) =>
 sif (x29 != x31) (
 callT Tryz.prog 121 #[(.pointer a0), (.int .i64 x29), (.int .i64 (1 : Int))] (.tup [(.agg c43), (.one (.int .i64))]) fun (x32 : ((Int × Int × Int × Unit) × Int × Unit)) =>
 aggSt (at0 b1) (.agg (Cells.vals c43 x32.1).toArray) 3 <|
 lds c43 (at0 b1) fun (x33 : (Int × Int × Int × Unit)) =>
 K (x33, x32.2.1, ())) (
 callT Tryz.prog 120 #[] (.tup [(.agg c43), (.one (.int .i64))]) fun (x34 : ((Int × Int × Int × Unit) × Int × Unit)) =>
 aggSt (at0 b1) (.agg (Cells.vals c43 x34.1).toArray) 3 <|
 lds c43 (at0 b1) fun (x35 : (Int × Int × Int × Unit)) =>
 K (x35, x34.2.1, ()))
noncomputable def h96 : Hint := (hS (hR 2) (hS (.region [0, 1, 2, 3, 5, 6, 7, 8, 4, 9, 10, 11, 12] (hO 13)) (hS (hR 5) (hJ (4611686018360280024, []) (hS (hR 7) (.block (.loop 4611686014132421592 [(4, tB), (6, tI), (7, tI)] (hS (hS (hR 3) (hC hL hL)) (hS (.block (hS (hR 8) (hS (hR 3) (hJ (2305807824841605192, [(6, tI)]) (hJ (1090715534753792, [(49, tB)]) (.region [] (.ops 2 (.split 46 (hO 3) (.skips 2 (hO 1))))) (hC (hS (hR 3) (hS (hR 2) (hC (hS (hR 9) hL) hL))) hL)) (hR 2))))) (hR 3)))))) (hS (hS (hR 3) (hS (hR 6) (hC (hS (hR 7) hL) hL))) (hS (hR 5) hL))))))
theorem F96_calls {a0 : Option Addr} {K : ((Int × Int × Int × Unit) × Int × Unit) → World → Prop} {w : World} (h : F96 a0 K w) : callT Tryz.prog 96 #[(.pointer a0)] (.tup [(.agg c43), (.one (.int .i64))]) K w := tied tabOk Tryz.func96 h96 [(.pointer a0)] h
noncomputable def F97 (a0 : Option Addr) (K : ((Int × Int × Int × Unit) × Int × Unit) → World → Prop) : World → Prop :=
 newO (.cells #[(.int .i64 (0 : Int)), (.int .i64 (0 : Int)), (.int .i64 (0 : Int))] 43) fun b1 =>
 nn a0 fun p2 =>
 lds c72 (p2.add 9) fun (x3 : (Int × Int × Int × Int × Int × Sl × Sl × Unit)) =>
 callT Tryz.prog 130 #[(.agg (Cells.vals c72 x3).toArray)] (.one (.one .bool)) fun (x4 : Bool) =>
 nn a0 fun p5 =>
 ld (.int .i64) (p5.add 3) fun (x6 : Int) =>
 join (S := Unit) (fun J7 =>
 nn a0 fun p9 =>
 ld (.int .i64) ((p9.add 9).add 4) fun (x10 : Int) =>
 sloop (S := Bool × Int × Int × Unit) (fun (s11 : Bool × Int × Int × Unit) again12 =>
 sif (decide (s11.2.2.1 ≥ (0 : Int))) (
 nn a0 fun p13 =>
 ld (.ptr) p13 fun (x14 : Option Addr) =>
 callT Tryz.prog 61 #[(.pointer x14), (.int .i64 s11.2.2.1)] (.one (.agg c72)) fun (x15 : (Int × Int × Int × Int × Int × Sl × Sl × Unit)) =>
 newO (.cells #[(.int .i64 (0 : Int)), (.int .i64 (0 : Int)), (.int .i64 (0 : Int)), (.int .i64 (0 : Int)), (.int .i64 (0 : Int)), (.slice none 0 0), (.slice none 0 0)] 72) fun b16 =>
 aggSt (at0 b16) (.agg (Cells.vals c72 x15).toArray) 7 <|
 lds c72 (at0 b16) fun (x17 : (Int × Int × Int × Int × Int × Sl × Sl × Unit)) =>
 callT Tryz.prog 130 #[(.agg (Cells.vals c72 x17).toArray)] (.one (.one .bool)) fun (x18 : Bool) =>
 join (S := Int × Unit) (fun J19 =>
 join (S := Bool × Unit) (fun J21 =>
 sif x18 (
 J21 ((!s11.1), ())) (
 J21 (false, ()))) fun (s22 : Bool × Unit) =>
 sif s22.1 (
 sif ((IntKind.wrap .i64 (s11.2.1 - (1 : Int))) == (0 : Int)) (
 ld (.int .i64) (at0 b16) fun (x23 : Int) =>
 callT Tryz.prog 121 #[(.pointer a0), (.int .i64 x23), (.int .i64 (0 : Int))] (.tup [(.agg c43), (.one (.int .i64))]) fun (x24 : ((Int × Int × Int × Unit) × Int × Unit)) =>
 aggSt (at0 b1) (.agg (Cells.vals c43 x24.1).toArray) 3 <|
 lds c43 (at0 b1) fun (x25 : (Int × Int × Int × Unit)) =>
 K (x25, x24.2.1, ())) (
 J19 ((IntKind.wrap .i64 (s11.2.1 - (1 : Int))), ()))) (
 J19 (s11.2.1, ()))) fun (s20 : Int × Unit) =>
 again12 (x18, s20.1, (IntKind.wrap .i64 (s11.2.2.1 - (1 : Int))), ())) (
 J7 ())) (x4, x6, (IntKind.wrap .i64 (x10 - (1 : Int))), ())) fun (s8 : Unit) =>
 nn a0 fun p26 =>
 ld (.int .i64) (p26.add 1) fun (x27 : Int) =>
 sif (x27 == (0 : Int)) (
 callT Tryz.prog 120 #[] (.tup [(.agg c43), (.one (.int .i64))]) fun (x28 : ((Int × Int × Int × Unit) × Int × Unit)) =>
 aggSt (at0 b1) (.agg (Cells.vals c43 x28.1).toArray) 3 <|
 lds c43 (at0 b1) fun (x29 : (Int × Int × Int × Unit)) =>
 K (x29, x28.2.1, ())) (
 callT Tryz.prog 121 #[(.pointer a0), (.int .i64 (0 : Int)), (.int .i64 (0 : Int))] (.tup [(.agg c43), (.one (.int .i64))]) fun (x30 : ((Int × Int × Int × Unit) × Int × Unit)) =>
 aggSt (at0 b1) (.agg (Cells.vals c43 x30.1).toArray) 3 <|
 lds c43 (at0 b1) fun (x31 : (Int × Int × Int × Unit)) =>
 K (x31, x30.2.1, ()))
noncomputable def h97 : Hint := (hS (hR 2) (hS (hR 6) (hS (hR 5) (hJ (9007199254479352, []) (hS (hR 7) (.block (.loop 9007199237964280 [(4, tB), (5, tI), (6, tI)] (hS (hS (hR 2) (hC hL hL)) (hS (.block (hS (hR 8) (hS (hR 3) (hJ (4503530907893800, [(5, tI)]) (hJ (2130303778816, [(40, tB)]) (.region [] (.ops 2 (.split 37 (hO 3) (.skips 2 (hO 1))))) (hC (hS (hR 3) (hS (hR 2) (hC (hS (hR 9) hL) hL))) hL)) (hR 2))))) (hR 3)))))) (hS (hS (hR 5) (hC (hS (hR 5) hL) hL)) (hS (hR 6) hL))))))
theorem F97_calls {a0 : Option Addr} {K : ((Int × Int × Int × Unit) × Int × Unit) → World → Prop} {w : World} (h : F97 a0 K w) : callT Tryz.prog 97 #[(.pointer a0)] (.tup [(.agg c43), (.one (.int .i64))]) K w := tied tabOk Tryz.func97 h97 [(.pointer a0)] h
noncomputable def F98 (a0 : Option Addr) (K : ((Int × Int × Int × Unit) × Int × Unit) → World → Prop) : World → Prop :=
 newO (.cells #[(.int .i64 (0 : Int)), (.int .i64 (0 : Int)), (.int .i64 (0 : Int))] 43) fun b1 =>
 callT Tryz.prog 132 #[(.pointer a0)] (.one (.one .ptr)) fun (x2 : Option Addr) =>
 nn x2 fun p3 =>
 ld (.int .i64) ((p3.add 1).add 4) fun (x4 : Int) =>
 join (S := Unit) (fun J5 =>
 sloop (S := Unit) (fun (s7 : Unit) again8 =>
 callT Tryz.prog 133 #[(.pointer x2)] (.one (.one (.int .i64))) fun (x9 : Int) =>
 sif (decide (x9 < (0 : Int))) (
 join (S := Bool × Unit) (fun J10 =>
 callT Tryz.prog 103 #[(.pointer x2)] (.one (.one .bool)) fun (x12 : Bool) =>
 sif (!x12) (
 J10 (true, ())) (
 nn x2 fun p13 =>
 ld (.int .i64) ((p13.add 1).add 4) fun (x14 : Int) =>
 J10 ((x14 != x4), ()))) fun (s11 : Bool × Unit) =>
 sif s11.1 (
 callT Tryz.prog 120 #[] (.tup [(.agg c43), (.one (.int .i64))]) fun (x15 : ((Int × Int × Int × Unit) × Int × Unit)) =>
 aggSt (at0 b1) (.agg (Cells.vals c43 x15.1).toArray) 3 <|
 lds c43 (at0 b1) fun (x16 : (Int × Int × Int × Unit)) =>
 K (x16, x15.2.1, ())) (
 again8 ())) (
 J5 ())) ()) fun (s6 : Unit) =>
 callT Tryz.prog 133 #[(.pointer x2)] (.one (.one (.int .i64))) fun (x17 : Int) =>
 join (S := Value × Unit) (fun J18 =>
 sif (decide (x17 ≥ (3 : Int))) (
 J18 ((.func (Fn.func 134) #[(.pointer x2)] #[]), ())) (
 J18 ((.func (Fn.func 103) #[(.pointer x2)] #[]), ()))) fun (s19 : Value × Unit) =>
 join (S := Int × Unit) (fun J20 =>
 sloop (S := Int × Unit) (fun (s22 : Int × Unit) again23 =>
 callX Tryz.prog (do let d ← Deferred.ofValue s19.1 #[]; invoke d.target d.args : Sem Next) (.one (.one .bool)) fun (x24 : Bool) =>
 sif x24 (
 callT Tryz.prog 133 #[(.pointer x2)] (.one (.one (.int .i64))) fun (x25 : Int) =>
 join (S := Bool × Unit) (fun J26 =>
 sif (decide (x25 < (0 : Int))) (
 J26 (true, ())) (
 chk ((3 : Int) ≠ 0) <|
 chk ((3 : Int) ≠ 0) <|
 J26 (((Int.tmod x25 (3 : Int)) != (Int.tmod x17 (3 : Int))), ()))) fun (s27 : Bool × Unit) =>
 sif s27.1 (
 again23 (s22.1, ())) (
 sif (x25 == x17) (
 again23 ((IntKind.wrap .i64 (s22.1 + (1 : Int))), ())) (
 sif ((IntKind.wrap .i64 (s22.1 - (1 : Int))) == (0 : Int)) (
 J20 ((IntKind.wrap .i64 (s22.1 - (1 : Int))), ())) (
 again23 ((IntKind.wrap .i64 (s22.1 - (1 : Int))), ()))))) (
 J20 (s22.1, ()))) ((1 : Int), ())) fun (s21 : Int × Unit) =>
 sif (decide (s21.1 > (0 : Int))) (
 callT Tryz.prog 120 #[] (.tup [(.agg c43), (.one (.int .i64))]) fun (x28 : ((Int × Int × Int × Unit) × Int × Unit)) =>
 aggSt (at0 b1) (.agg (Cells.vals c43 x28.1).toArray) 3 <|
 lds c43 (at0 b1) fun (x29 : (Int × Int × Int × Unit)) =>
 K (x29, x28.2.1, ())) (
 callT Tryz.prog 105 #[(.pointer x2)] (.one (.one (.int .i64))) fun (x30 : Int) =>
 callT Tryz.prog 121 #[(.pointer a0), (.int .i64 x30), (.int .i64 (1 : Int))] (.tup [(.agg c43), (.one (.int .i64))]) fun (x31 : ((Int × Int × Int × Unit) × Int × Unit)) =>
 aggSt (at0 b1) (.agg (Cells.vals c43 x31.1).toArray) 3 <|
 lds c43 (at0 b1) fun (x32 : (Int × Int × Int × Unit)) =>
 K (x32, x31.2.1, ()))
noncomputable def h98 : Hint := (hS (hR 2) (.scope (hS (hR 3) (hS (hR 6) (hJ (34359607304, []) (.block (.loop 34359607304 [] (hS (hS (hR 3) (hC hL hL)) (.block (hJ (4293918720, [(31, tB)]) (.region [] (.ops 4 (.split 23 (.skips 7 (hO 1)) (hO 8)))) (hC (hS (hR 5) hL) hL)))))) (hS (hR 3) (hS (hR 3) (hJ (8246337208448, [(7, (.one .any))]) (hS (hR 2) (hC (hR 3) hL)) (hS (hR 1) (hS hL (hJ (147573943793583391488, [(8, tI)]) (.block (.loop 147573943793583391488 [(8, tI)] (hS (hS (hR 2) (hC hL hL)) (.block (hS (hR 3) (hS (.block (hJ (143974450587500544, [(47, tB)]) (.region [] (.ops 3 (.split 50 (.skips 5 (hO 2)) (hO 7)))) (hC hL (hS (hR 4) (hC (hS (hR 3) hL) hL))))) (hS (hR 3) (hS (hR 2) (hC hL hL))))))))) (hS (hS (hR 2) (hC (hS (hR 5) hL) hL)) (hS (hR 8) hL)))))))))))))
theorem F98_calls {a0 : Option Addr} {K : ((Int × Int × Int × Unit) × Int × Unit) → World → Prop} {w : World} (h : F98 a0 K w) : callT Tryz.prog 98 #[(.pointer a0)] (.tup [(.agg c43), (.one (.int .i64))]) K w := tied tabOk Tryz.func98 h98 [(.pointer a0)] h
noncomputable def F102 (a0 : Option Addr) (a1 : Int) (a2 : Bool) (a3 : Bool) (K : Option Addr → World → Prop) : World → Prop :=
 callT Tryz.prog 36 #[(.pointer a0), (.int .i64 a1), (.bool a2)] (.one (.agg c72)) fun (x1 : (Int × Int × Int × Int × Int × Sl × Sl × Unit)) =>
 newO (.cells #[(.int .i64 (0 : Int)), (.int .i64 (0 : Int)), (.int .i64 (0 : Int)), (.int .i64 (0 : Int)), (.int .i64 (0 : Int)), (.slice none 0 0), (.slice none 0 0)] 72) fun b2 =>
 aggSt (at0 b2) (.agg (Cells.vals c72 x1).toArray) 7 <|
 drew <|
 lds c72 (at0 b2) fun (x3 : (Int × Int × Int × Int × Int × Sl × Sl × Unit)) =>
 lds c72 (at0 b2) fun (x4 : (Int × Int × Int × Int × Int × Sl × Sl × Unit)) =>
 callT Tryz.prog 40 #[(.agg (Cells.vals c72 x4).toArray), (.int .i64 a1)] (.one (.one (.int .i64))) fun (x5 : Int) =>
 keep (fun w => cellsAt w (at0 b2) 0 (Cells.vals c72 x3)) <|
 callT Tryz.prog 19 #[(.pointer a0)] (.one (.one (.int .i64))) fun (x6 : Int) =>
 keep (fun w => cellsAt w (at0 b2) 0 (Cells.vals c72 x3)) <|
 newO (.cells (Value.cells (.agg #[(.pointer a0), (.int .i64 x3.1), (.int .i64 x3.2.1), (.int .i64 x3.2.2.1), (.int .i64 x3.2.2.2.1), (.int .i64 x3.2.2.2.2.1), (.slice x3.2.2.2.2.2.1.a x3.2.2.2.2.2.1.len x3.2.2.2.2.2.1.cap), (.slice x3.2.2.2.2.2.2.1.a x3.2.2.2.2.2.2.1.len x3.2.2.2.2.2.2.1.cap), (.int .i64 x5), (.int .i64 (IntKind.wrap .i64 (x6 - (1 : Int)))), (.bool a3)])) 153) fun b7 =>
 K (some (at0 b7))
noncomputable def h102 : Hint := (hS (hR 1) (hS (hR 6) (hS (.region [0, 1, 2, 3, 5, 8, 4, 6, 7, 9, 10, 11] (hO 12)) hL)))
theorem F102_calls {a0 : Option Addr} {a1 : Int} {a2 : Bool} {a3 : Bool} {K : Option Addr → World → Prop} {w : World} (h : F102 a0 a1 a2 a3 K w) : callT Tryz.prog 102 #[(.pointer a0), (.int .i64 a1), (.bool a2), (.bool a3)] (.one (.one .ptr)) K w := tied tabOk Tryz.func102 h102 [(.pointer a0), (.int .i64 a1), (.bool a2), (.bool a3)] h
noncomputable def F103 (a0 : Option Addr) (K : Bool → World → Prop) : World → Prop :=
 drew <|
 nn a0 fun p1 =>
 ld (.int .i64) (p1.add 8) fun (x2 : Int) =>
 nn a0 fun p3 =>
 lds c72 (p3.add 1) fun (x4 : (Int × Int × Int × Int × Int × Sl × Sl × Unit)) =>
 callT Tryz.prog 39 #[(.agg (Cells.vals c72 x4).toArray)] (.one (.one (.int .i64))) fun (x5 : Int) =>
 keep (fun w => w.cell? (p1.add 8) = some (Cell.val (.int .i64) x2)) <|
 sif (decide ((IntKind.wrap .i64 (x2 + (1 : Int))) < x5)) (
 nn a0 fun p6 =>
 ld (.int .i64) (p6.add 8) fun (x7 : Int) =>
 nn a0 fun p8 =>
 stC (p8.add 8) (.int .i64 (IntKind.wrap .i64 (x7 + (1 : Int)))) <|
 K true) (
 drew <|
 nn a0 fun p9 =>
 ld (.int .i64) ((p9.add 1).add 4) fun (x10 : Int) =>
 nn a0 fun p11 =>
 ld (.int .i64) (p11.add 9) fun (x12 : Int) =>
 sif (decide (x10 ≥ x12)) (
 K false) (
 drew <|
 nn a0 fun p13 =>
 ld (.ptr) p13 fun (x14 : Option Addr) =>
 nn a0 fun p15 =>
 ld (.int .i64) ((p15.add 1).add 4) fun (x16 : Int) =>
 callT Tryz.prog 61 #[(.pointer x14), (.int .i64 (IntKind.wrap .i64 (x16 + (1 : Int))))] (.one (.agg c72)) fun (x17 : (Int × Int × Int × Int × Int × Sl × Sl × Unit)) =>
 nn a0 fun p18 =>
 aggSt (p18.add 1) (.agg (Cells.vals c72 x17).toArray) 7 <|
 nn a0 fun p19 =>
 stC (p19.add 8) (.int .i64 (0 : Int)) <|
 K true))
noncomputable def h103 : Hint := (hS (hR 1) (hS (hS (.region [0, 1, 2, 3, 4, 5, 6, 7, 8, 9, 10] (hO 11)) (hC (hS (hR 8) (hS (hR 1) hL)) hL)) (hS (hS (.region [0, 1, 2, 3, 4, 5, 6, 7, 8, 9] (hO 10)) (hC (hS (hR 1) hL) hL)) (hS (.region [0, 1, 2, 3, 4, 5, 6, 7, 8, 9, 10, 11, 12, 13, 14, 15, 16, 17, 18] (hO 19)) (hS (hR 1) hL)))))
theorem F103_calls {a0 : Option Addr} {K : Bool → World → Prop} {w : World} (h : F103 a0 K w) : callT Tryz.prog 103 #[(.pointer a0)] (.one (.one .bool)) K w := tied tabOk Tryz.func103 h103 [(.pointer a0)] h
noncomputable def F105 (a0 : Option Addr) (K : Int → World → Prop) : World → Prop :=
 drew <|
 nn a0 fun p1 =>
 lds c72 (p1.add 1) fun (x2 : (Int × Int × Int × Int × Int × Sl × Sl × Unit)) =>
 nn a0 fun p3 =>
 ld (.int .i64) (p3.add 8) fun (x4 : Int) =>
 callT Tryz.prog 38 #[(.agg (Cells.vals c72 x2).toArray), (.int .i64 x4)] (.one (.one (.int .i64))) fun (x5 : Int) =>
 K x5
noncomputable def h105 : Hint := (hS (hR 1) (hS (.region [0, 1, 2, 3, 4, 5, 6, 7, 8, 9] (hO 10)) hL))
theorem F105_calls {a0 : Option Addr} {K : Int → World → Prop} {w : World} (h : F105 a0 K w) : callT Tryz.prog 105 #[(.pointer a0)] (.one (.one (.int .i64))) K w := tied tabOk Tryz.func105 h105 [(.pointer a0)] h
noncomputable def F120  (K : ((Int × Int × Int × Unit) × Int × Unit) → World → Prop) : World → Prop :=
 newO (.cells #[(.int .i64 (0 : Int)), (.int .i64 (0 : Int)), (.int .i64 (0 : Int))] 43) fun b1 =>
 aggSt (at0 b1) (.agg #[(.int .i64 (0 : Int)), (.int .i64 (0 : Int)), (.int .i64 (0 : Int))]) 3 <|
 lds c43 (at0 b1) fun (x2 : (Int × Int × Int × Unit)) =>
 K (x2, (80 : Int), ())
noncomputable def h120 : Hint := (hS (hR 2) (hS (hR 3) hL))
theorem F120_calls {K : ((Int × Int × Int × Unit) × Int × Unit) → World → Prop} {w : World} (h : F120  K w) : callT Tryz.prog 120 #[] (.tup [(.agg c43), (.one (.int .i64))]) K w := tied tabOk Tryz.func120 h120 [] h
noncomputable def F121 (a0 : Option Addr) (a1 : Int) (a2 : Int) (K : ((Int × Int × Int × Unit) × Int × Unit) → World → Prop) : World → Prop :=
 newO (.cells #[(.int .i64 (0 : Int)), (.int .i64 (0 : Int)), (.int .i64 (0 : Int))] 43) fun b1 =>
 nn a0 fun p2 =>
 ld (.ptr) p2 fun (x3 : Option Addr) =>
 callT Tryz.prog 21 #[(.pointer x3), (.int .i64 a1)] (.one (.one (.int .i64))) fun (x4 : Int) =>
 aggSt (at0 b1) (.agg #[(.int .i64 a1), (.int .i64 a2), (.int .i64 x4)]) 3 <|
 lds c43 (at0 b1) fun (x5 : (Int × Int × Int × Unit)) =>
 K (x5, (0 : Int), ())
noncomputable def h121 : Hint := (hS (hR 2) (hS (hR 11) hL))
theorem F121_calls {a0 : Option Addr} {a1 : Int} {a2 : Int} {K : ((Int × Int × Int × Unit) × Int × Unit) → World → Prop} {w : World} (h : F121 a0 a1 a2 K w) : callT Tryz.prog 121 #[(.pointer a0), (.int .i64 a1), (.int .i64 a2)] (.tup [(.agg c43), (.one (.int .i64))]) K w := tied tabOk Tryz.func121 h121 [(.pointer a0), (.int .i64 a1), (.int .i64 a2)] h
noncomputable def F122 (a0 : Option Addr) (K : Int → World → Prop) : World → Prop :=
 nn a0 fun p1 =>
 ld (.bool) (p1.add 7) fun (x2 : Bool) =>
 sif x2 (
 nn a0 fun p3 =>
 lds c72 (p3.add 9) fun (x4 : (Int × Int × Int × Int × Int × Sl × Sl × Unit)) =>
 callT Tryz.prog 39 #[(.agg (Cells.vals c72 x4).toArray)] (.one (.one (.int .i64))) fun (x5 : Int) =>
 K x5) (
 nn a0 fun p6 =>
 lds c72 (p6.add 9) fun (x7 : (Int × Int × Int × Int × Int × Sl × Sl × Unit)) =>
 callT Tryz.prog 39 #[(.agg (Cells.vals c72 x7).toArray)] (.one (.one (.int .i64))) fun (x8 : Int) =>
 K (if (0 : Int) > (IntKind.wrap .i64 (x8 - (1 : Int))) then (0 : Int) else (IntKind.wrap .i64 (x8 - (1 : Int)))))
noncomputable def h122 : Hint := (hS (hR 1) (hS (hS (hR 4) (hC (hS (hR 6) hL) hL)) (hS (hR 8) hL)))
theorem F122_calls {a0 : Option Addr} {K : Int → World → Prop} {w : World} (h : F122 a0 K w) : callT Tryz.prog 122 #[(.pointer a0)] (.one (.one (.int .i64))) K w := tied tabOk Tryz.func122 h122 [(.pointer a0)] h
noncomputable def F123 (a0 : (Int × Int × Int × Int × Int × Sl × Sl × Unit)) (K : Int → World → Prop) : World → Prop :=
 newO (.cells #[(.int .i64 a0.1), (.int .i64 a0.2.1), (.int .i64 a0.2.2.1), (.int .i64 a0.2.2.2.1), (.int .i64 a0.2.2.2.2.1), (.slice a0.2.2.2.2.2.1.a a0.2.2.2.2.2.1.len a0.2.2.2.2.2.1.cap), (.slice a0.2.2.2.2.2.2.1.a a0.2.2.2.2.2.2.1.len a0.2.2.2.2.2.2.1.cap)] 72) fun b1 =>
 join (S := Unit) (fun J2 =>
 lds c72 (at0 b1) fun (x4 : (Int × Int × Int × Int × Int × Sl × Sl × Unit)) =>
 callT Tryz.prog 39 #[(.agg (Cells.vals c72 x4).toArray)] (.one (.one (.int .i64))) fun (x5 : Int) =>
 sloop (S := Int × Unit) (fun (s6 : Int × Unit) again7 =>
 sif (decide (s6.1 < x5)) (
 lds c72 (at0 b1) fun (x8 : (Int × Int × Int × Int × Int × Sl × Sl × Unit)) =>
 callT Tryz.prog 144 #[(.agg (Cells.vals c72 x8).toArray), (.int .i64 s6.1), (.bool true)] (.one (.one (.int .i64))) fun (x9 : Int) =>
 sif (x9 != (0 : Int)) (
 K s6.1) (
 again7 ((IntKind.wrap .i64 (s6.1 + (1 : Int))), ()))) (
 J2 ())) ((0 : Int), ())) fun (s3 : Unit) =>
 lds c72 (at0 b1) fun (x10 : (Int × Int × Int × Int × Int × Sl × Sl × Unit)) =>
 callT Tryz.prog 39 #[(.agg (Cells.vals c72 x10).toArray)] (.one (.one (.int .i64))) fun (x11 : Int) =>
 K (if (0 : Int) > (IntKind.wrap .i64 (x11 - (1 : Int))) then (0 : Int) else (IntKind.wrap .i64 (x11 - (1 : Int))))
noncomputable def h123 : Hint := (hS (hR 2) (hJ (32764, []) (hS (hR 3) (.block (.loop 32716 [(6, tI)] (hS (hR 1) (hS (hC hL hL) (hS (.block (hS (hR 2) (hS (hR 4) (hC (hS (hR 2) hL) hL)))) (hR 2))))))) (hS (hR 5) hL)))
theorem F123_calls {a0 : (Int × Int × Int × Int × Int × Sl × Sl × Unit)} {K : Int → World → Prop} {w : World} (h : F123 a0 K w) : callT Tryz.prog 123 #[(.agg (Cells.vals c72 a0).toArray)] (.one (.one (.int .i64))) K w := tied tabOk Tryz.func123 h123 [(.agg (Cells.vals c72 a0).toArray)] h
noncomputable def F124 (a0 : Option Addr) (a1 : Int) (a2 : Int) (a3 : Int) (K : ((Int × Int × Int × Unit) × Int × Unit) → World → Prop) : World → Prop :=
 newO (.cells #[(.int .i64 (0 : Int)), (.int .i64 (0 : Int)), (.int .i64 (0 : Int))] 43) fun b1 =>
 callT Tryz.prog 151 #[(.pointer a0), (.int .i64 a1)] (.one (.one (.int .i64))) fun (x2 : Int) =>
 sif (decide (x2 < (0 : Int))) (
 callT Tryz.prog 120 #[] (.tup [(.agg c43), (.one (.int .i64))]) fun (x3 : ((Int × Int × Int × Unit) × Int × Unit)) =>
 aggSt (at0 b1) (.agg (Cells.vals c43 x3.1).toArray) 3 <|
 lds c43 (at0 b1) fun (x4 : (Int × Int × Int × Unit)) =>
 K (x4, x3.2.1, ())) (
 nn a0 fun p5 =>
 lds c72 (p5.add 9) fun (x6 : (Int × Int × Int × Int × Int × Sl × Sl × Unit)) =>
 callT Tryz.prog 38 #[(.agg (Cells.vals c72 x6).toArray), (.int .i64 (IntKind.wrap .i64 (x2 + a2)))] (.one (.one (.int .i64))) fun (x7 : Int) =>
 callT Tryz.prog 121 #[(.pointer a0), (.int .i64 x7), (.int .i64 a3)] (.tup [(.agg c43), (.one (.int .i64))]) fun (x8 : ((Int × Int × Int × Unit) × Int × Unit)) =>
 aggSt (at0 b1) (.agg (Cells.vals c43 x8.1).toArray) 3 <|
 lds c43 (at0 b1) fun (x9 : (Int × Int × Int × Unit)) =>
 K (x9, x8.2.1, ()))
noncomputable def h124 : Hint := (hS (hR 2) (hS (hR 4) (hS (hS (hR 2) (hC (hS (hR 5) hL) hL)) (hS (hR 15) hL))))
theorem F124_calls {a0 : Option Addr} {a1 : Int} {a2 : Int} {a3 : Int} {K : ((Int × Int × Int × Unit) × Int × Unit) → World → Prop} {w : World} (h : F124 a0 a1 a2 a3 K w) : callT Tryz.prog 124 #[(.pointer a0), (.int .i64 a1), (.int .i64 a2), (.int .i64 a3)] (.tup [(.agg c43), (.one (.int .i64))]) K w := tied tabOk Tryz.func124 h124 [(.pointer a0), (.int .i64 a1), (.int .i64 a2), (.int .i64 a3)] h
noncomputable def F130 (a0 : (Int × Int × Int × Int × Int × Sl × Sl × Unit)) (K : Bool → World → Prop) : World → Prop :=
 newO (.cells #[(.int .i64 a0.1), (.int .i64 a0.2.1), (.int .i64 a0.2.2.1), (.int .i64 a0.2.2.2.1), (.int .i64 a0.2.2.2.2.1), (.slice a0.2.2.2.2.2.1.a a0.2.2.2.2.2.1.len a0.2.2.2.2.2.1.cap), (.slice a0.2.2.2.2.2.2.1.a a0.2.2.2.2.2.2.1.len a0.2.2.2.2.2.2.1.cap)] 72) fun b1 =>
 lds c72 (at0 b1) fun (x2 : (Int × Int × Int × Int × Int × Sl × Sl × Unit)) =>
 callT Tryz.prog 39 #[(.agg (Cells.vals c72 x2).toArray)] (.one (.one (.int .i64))) fun (x3 : Int) =>
 drew <|
 sif (x3 == (0 : Int)) (
 K true) (
 lds c72 (at0 b1) fun (x4 : (Int × Int × Int × Int × Int × Sl × Sl × Unit)) =>
 lds c72 (at0 b1) fun (x5 : (Int × Int × Int × Int × Int × Sl × Sl × Unit)) =>
 callT Tryz.prog 123 #[(.agg (Cells.vals c72 x5).toArray)] (.one (.one (.int .i64))) fun (x6 : Int) =>
 keep (fun w => cellsAt w (at0 b1) 0 (Cells.vals c72 x4)) <|
 callT Tryz.prog 144 #[(.agg (Cells.vals c72 x4).toArray), (.int .i64 x6), (.bool true)] (.one (.one (.int .i64))) fun (x7 : Int) =>
 K (x7 == (0 : Int)))
noncomputable def h130 : Hint := (hS (hR 2) (hS (hR 3) (hS (.region [0, 1, 2, 3, 4, 5, 6, 7, 8, 9] (.ops 3 (.split 8 (.skips 5 (hO 2)) (hO 7)))) hL)))
theorem F130_calls {a0 : (Int × Int × Int × Int × Int × Sl × Sl × Unit)} {K : Bool → World → Prop} {w : World} (h : F130 a0 K w) : callT Tryz.prog 130 #[(.agg (Cells.vals c72 a0).toArray)] (.one (.one .bool)) K w := tied tabOk Tryz.func130 h130 [(.agg (Cells.vals c72 a0).toArray)] h
noncomputable def F131 (a0 : Option Addr) (K : Int → World → Prop) : World → Prop :=
 drew <|
 nn a0 fun p1 =>
 ld (.ptr) p1 fun (x2 : Option Addr) =>
 nn a0 fun p3 =>
 ld (.ptr) p3 fun (x4 : Option Addr) =>
 callT Tryz.prog 37 #[(.pointer x4)] (.one (.one (.int .i64))) fun (x5 : Int) =>
 keep (fun w => w.cell? p1 = some (Cell.val (.ptr) x2)) <|
 callT Tryz.prog 12 #[(.pointer x2), (.int .i64 x5), (.bool false)] (.one (.one (.int .i64))) fun (x6 : Int) =>
 K x6
noncomputable def h131 : Hint := (hS (hR 1) (hS (.region [0, 1, 2, 3, 4, 5, 6, 7, 8, 9, 10] (hO 11)) hL))
theorem F131_calls {a0 : Option Addr} {K : Int → World → Prop} {w : World} (h : F131 a0 K w) : callT Tryz.prog 131 #[(.pointer a0)] (.one (.one (.int .i64))) K w := tied tabOk Tryz.func131 h131 [(.pointer a0)] h
noncomputable def F132 (a0 : Option Addr) (K : Option Addr → World → Prop) : World → Prop :=
 drew <|
 nn a0 fun p1 =>
 ld (.ptr) p1 fun (x2 : Option Addr) =>
 nn a0 fun p3 =>
 ld (.int .i64) (p3.add 1) fun (x4 : Int) =>
 nn a0 fun p5 =>
 ld (.bool) (p5.add 7) fun (x6 : Bool) =>
 nn a0 fun p7 =>
 ld (.bool) (p7.add 8) fun (x8 : Bool) =>
 callT Tryz.prog 102 #[(.pointer x2), (.int .i64 x4), (.bool x6), (.bool x8)] (.one (.one .ptr)) fun (x9 : Option Addr) =>
 K x9
noncomputable def h132 : Hint := (hS (hR 1) (hS (.region [0, 1, 2, 3, 4, 5, 6, 7, 8, 9, 10, 11, 12, 13, 14, 15, 16, 17] (hO 18)) hL))
theorem F132_calls {a0 : Option Addr} {K : Option Addr → World → Prop} {w : World} (h : F132 a0 K w) : callT Tryz.prog 132 #[(.pointer a0)] (.one (.one .ptr)) K w := tied tabOk Tryz.func132 h132 [(.pointer a0)] h
noncomputable def F133 (a0 : Option Addr) (K : Int → World → Prop) : World → Prop :=
 join (S := Bool × Unit) (fun J1 =>
 drew <|
 nn a0 fun p3 =>
 ld (.int .i64) (p3.add 8) fun (x4 : Int) =>
 nn a0 fun p5 =>
 lds c72 (p5.add 1) fun (x6 : (Int × Int × Int × Int × Int × Sl × Sl × Unit)) =>
 callT Tryz.prog 39 #[(.agg (Cells.vals c72 x6).toArray)] (.one (.one (.int .i64))) fun (x7 : Int) =>
 keep (fun w => w.cell? (p3.add 8) = some (Cell.val (.int .i64) x4)) <|
 sif (decide (x4 ≥ x7)) (
 J1 (true, ())) (
 nn a0 fun p8 =>
 ld (.sl) ((p8.add 1).add 6) fun (x9 : Sl) =>
 nn a0 fun p10 =>
 ld (.int .i64) (p10.add 8) fun (x11 : Int) =>
 ix x9.a x9.len (IntKind.wrap .i64 (x11 + (1 : Int))) fun p12 =>
 ld (.int .i64) (p12.add (scaled (Int.toNat (IntKind.wrap .i64 (x11 + (1 : Int)))) 1)) fun (x13 : Int) =>
 nn a0 fun p14 =>
 ld (.sl) ((p14.add 1).add 6) fun (x15 : Sl) =>
 nn a0 fun p16 =>
 ld (.int .i64) (p16.add 8) fun (x17 : Int) =>
 ix x15.a x15.len x17 fun p18 =>
 ld (.int .i64) (p18.add (scaled (Int.toNat x17) 1)) fun (x19 : Int) =>
 J1 ((decide ((IntKind.wrap .i64 (x13 - x19)) > (1 : Int))), ()))) fun (s2 : Bool × Unit) =>
 sif s2.1 (
 K (-1 : Int)) (
 join (S := Unit) (fun J20 =>
 sloop (S := Int × Unit) (fun (s22 : Int × Unit) again23 =>
 sif (decide (s22.1 < (6 : Int))) (
 drew <|
 nn a0 fun p24 =>
 lds c72 (p24.add 1) fun (x25 : (Int × Int × Int × Int × Int × Sl × Sl × Unit)) =>
 nn a0 fun p26 =>
 ld (.int .i64) (p26.add 8) fun (x27 : Int) =>
 sidx ({ data := #[40, 91, 123, 41, 93, 125] }) s22.1 fun b28 =>
 callT Tryz.prog 153 #[(.agg (Cells.vals c72 x25).toArray), (.int .i64 x27)] (.one (.one (.int .i64))) fun (x29 : Int) =>
 sif (x29 == (IntKind.wrap .i64 ((b28.toNat : Nat) : Int))) (
 K s22.1) (
 again23 ((IntKind.wrap .i64 (s22.1 + (1 : Int))), ()))) (
 J20 ())) ((0 : Int), ())) fun (s21 : Unit) =>
 K (-1 : Int))
noncomputable def h133 : Hint := (hS (hR 1) (hS (hJ (2199023255536, [(40, tB)]) (.region [0, 1, 2, 3, 4, 5, 6, 7, 8, 9, 10, 11, 12, 13, 14, 15, 16, 17, 18, 19, 20, 21, 22, 23, 24, 25, 26, 27, 28, 29, 30, 31, 32, 33, 34, 35, 36] (.ops 11 (.split 14 (.skips 25 (hO 1)) (hO 26)))) (hC (hS (hR 1) hL) hL)) (hJ (576458553280167948, []) (hS (hR 1) (.block (.loop 576458553280167948 [(41, tI)] (hS (hR 1) (hS (hC hL hL) (hS (.block (hS (hR 2) (hS (.region [0, 1, 2, 3, 4, 5, 6, 7, 9, 10, 11, 8, 12] (hO 13)) (hC (hS (hR 2) hL) hL)))) (hR 2))))))) (hS (hR 1) hL))))
theorem F133_calls {a0 : Option Addr} {K : Int → World → Prop} {w : World} (h : F133 a0 K w) : callT Tryz.prog 133 #[(.pointer a0)] (.one (.one (.int .i64))) K w := tied tabOk Tryz.func133 h133 [(.pointer a0)] h
noncomputable def F134 (a0 : Option Addr) (K : Bool → World → Prop) : World → Prop :=
 nn a0 fun p1 =>
 ld (.int .i64) (p1.add 8) fun (x2 : Int) =>
 sif (decide (x2 > (0 : Int))) (
 nn a0 fun p3 =>
 ld (.int .i64) (p3.add 8) fun (x4 : Int) =>
 nn a0 fun p5 =>
 stC (p5.add 8) (.int .i64 (IntKind.wrap .i64 (x4 - (1 : Int)))) <|
 K true) (
 nn a0 fun p6 =>
 ld (.int .i64) ((p6.add 1).add 4) fun (x7 : Int) =>
 sif (x7 == (0 : Int)) (
 K false) (
 drew <|
 nn a0 fun p8 =>
 ld (.ptr) p8 fun (x9 : Option Addr) =>
 nn a0 fun p10 =>
 ld (.int .i64) ((p10.add 1).add 4) fun (x11 : Int) =>
 callT Tryz.prog 61 #[(.pointer x9), (.int .i64 (IntKind.wrap .i64 (x11 - (1 : Int))))] (.one (.agg c72)) fun (x12 : (Int × Int × Int × Int × Int × Sl × Sl × Unit)) =>
 nn a0 fun p13 =>
 aggSt (p13.add 1) (.agg (Cells.vals c72 x12).toArray) 7 <|
 nn a0 fun p14 =>
 lds c72 (p14.add 1) fun (x15 : (Int × Int × Int × Int × Int × Sl × Sl × Unit)) =>
 callT Tryz.prog 39 #[(.agg (Cells.vals c72 x15).toArray)] (.one (.one (.int .i64))) fun (x16 : Int) =>
 nn a0 fun p17 =>
 stC (p17.add 8) (.int .i64 (if (0 : Int) > (IntKind.wrap .i64 (x16 - (1 : Int))) then (0 : Int) else (IntKind.wrap .i64 (x16 - (1 : Int))))) <|
 K true))
noncomputable def h134 : Hint := (hS (hR 1) (hS (hS (hR 5) (hC (hS (hR 8) (hS (hR 1) hL)) hL)) (hS (hS (hR 6) (hC (hS (hR 1) hL) hL)) (hS (.region [0, 1, 2, 3, 4, 5, 6, 7, 8, 9, 10, 11, 12, 13, 14] (hO 15)) (hS (hR 11) (hS (hR 1) hL))))))
theorem F134_calls {a0 : Option Addr} {K : Bool → World → Prop} {w : World} (h : F134 a0 K w) : callT Tryz.prog 134 #[(.pointer a0)] (.one (.one .bool)) K w := tied tabOk Tryz.func134 h134 [(.pointer a0)] h
noncomputable def F144 (a0 : (Int × Int × Int × Int × Int × Sl × Sl × Unit)) (a1 : Int) (a2 : Bool) (K : Int → World → Prop) : World → Prop :=
 newO (.cells #[(.int .i64 a0.1), (.int .i64 a0.2.1), (.int .i64 a0.2.2.1), (.int .i64 a0.2.2.2.1), (.int .i64 a0.2.2.2.2.1), (.slice a0.2.2.2.2.2.1.a a0.2.2.2.2.2.1.len a0.2.2.2.2.2.1.cap), (.slice a0.2.2.2.2.2.2.1.a a0.2.2.2.2.2.2.1.len a0.2.2.2.2.2.2.1.cap)] 72) fun b1 =>
 lds c72 (at0 b1) fun (x2 : (Int × Int × Int × Int × Int × Sl × Sl × Unit)) =>
 callT Tryz.prog 153 #[(.agg (Cells.vals c72 x2).toArray), (.int .i64 a1)] (.one (.one (.int .i64))) fun (x3 : Int) =>
 callT Tryz.prog 158 #[(.int .i64 x3)] (.one (.one (.int .i64))) fun (x4 : Int) =>
 sif a2 (
 K (if (1 : Int) < x4 then (1 : Int) else x4)) (
 K x4)
noncomputable def h144 : Hint := (hS (hR 2) (hS (hR 5) (hS (hS (hR 1) (hC (hS (hR 3) hL) hL)) (hS (hR 2) hL))))
theorem F144_calls {a0 : (Int × Int × Int × Int × Int × Sl × Sl × Unit)} {a1 : Int} {a2 : Bool} {K : Int → World → Prop} {w : World} (h : F144 a0 a1 a2 K w) : callT Tryz.prog 144 #[(.agg (Cells.vals c72 a0).toArray), (.int .i64 a1), (.bool a2)] (.one (.one (.int .i64))) K w := tied tabOk Tryz.func144 h144 [(.agg (Cells.vals c72 a0).toArray), (.int .i64 a1), (.bool a2)] h
noncomputable def F151 (a0 : Option Addr) (a1 : Int) (K : Int → World → Prop) : World → Prop :=
 nn a0 fun p1 =>
 ld (.int .i64) (p1.add 3) fun (x2 : Int) =>
 join (S := Unit) (fun J3 =>
 nn a0 fun p5 =>
 ld (.int .i64) (p5.add 2) fun (x6 : Int) =>
 sloop (S := Int × Int × Unit) (fun (s7 : Int × Int × Unit) again8 =>
 join (S := Bool × Unit) (fun J9 =>
 sif (decide (s7.2.1 ≥ (0 : Int))) (
 nn a0 fun p11 =>
 lds c72 (p11.add 9) fun (x12 : (Int × Int × Int × Int × Int × Sl × Sl × Unit)) =>
 callT Tryz.prog 39 #[(.agg (Cells.vals c72 x12).toArray)] (.one (.one (.int .i64))) fun (x13 : Int) =>
 J9 ((decide (s7.2.1 < x13)), ())) (
 J9 (false, ()))) fun (s10 : Bool × Unit) =>
 sif s10.1 (
 join (S := Int × Unit) (fun J14 =>
 drew <|
 nn a0 fun p16 =>
 lds c72 (p16.add 9) fun (x17 : (Int × Int × Int × Int × Int × Sl × Sl × Unit)) =>
 nn a0 fun p18 =>
 ld (.int .i64) (p18.add 5) fun (x19 : Int) =>
 callT Tryz.prog 153 #[(.agg (Cells.vals c72 x17).toArray), (.int .i64 s7.2.1)] (.one (.one (.int .i64))) fun (x20 : Int) =>
 keep (fun w => w.cell? (p18.add 5) = some (Cell.val (.int .i64) x19)) <|
 sif (x20 != x19) (
 J14 (s7.1, ())) (
 sif ((IntKind.wrap .i64 (s7.1 - (1 : Int))) == (0 : Int)) (
 K s7.2.1) (
 J14 ((IntKind.wrap .i64 (s7.1 - (1 : Int))), ())))) fun (s15 : Int × Unit) =>
 again8 (s15.1, (IntKind.wrap .i64 (s7.2.1 + a1)), ())) (
 J3 ())) (x2, (IntKind.wrap .i64 (x6 + a1)), ())) fun (s4 : Unit) =>
 K (-1 : Int)
noncomputable def h151 : Hint := (hS (hR 1) (hS (hR 5) (hJ (140737488353392, []) (hS (hR 7) (.block (.loop 140737488224368 [(5, tI), (6, tI)] (hS (hJ (268304384, [(27, tB)]) (.region [] (.ops 3 (.split 19 (hO 8) (.skips 7 (hO 1))))) (hC hL hL)) (hJ (140735340871728, [(5, tI)]) (.block (hS (hS (.region [0, 1, 2, 3, 4, 6, 7, 8, 9, 5, 10] (hO 11)) (hC hL hL)) (hS (hR 3) (hS (hR 2) (hC (hS (hR 2) hL) hL))))) (hR 4)))))) (hS (hR 1) hL))))
theorem F151_calls {a0 : Option Addr} {a1 : Int} {K : Int → World → Prop} {w : World} (h : F151 a0 a1 K w) : callT Tryz.prog 151 #[(.pointer a0), (.int .i64 a1)] (.one (.one (.int .i64))) K w := tied tabOk Tryz.func151 h151 [(.pointer a0), (.int .i64 a1)] h
noncomputable def F153 (a0 : (Int × Int × Int × Int × Int × Sl × Sl × Unit)) (a1 : Int) (K : Int → World → Prop) : World → Prop :=
 newO (.cells #[(.int .i64 a0.1), (.int .i64 a0.2.1), (.int .i64 a0.2.2.1), (.int .i64 a0.2.2.2.1), (.int .i64 a0.2.2.2.2.1), (.slice a0.2.2.2.2.2.1.a a0.2.2.2.2.2.1.len a0.2.2.2.2.2.1.cap), (.slice a0.2.2.2.2.2.2.1.a a0.2.2.2.2.2.2.1.len a0.2.2.2.2.2.2.1.cap)] 72) fun b1 =>
 drew <|
 ld (.sl) (⟨b1, 5, none⟩ : Addr) fun (x2 : Sl) =>
 ld (.sl) (⟨b1, 6, none⟩ : Addr) fun (x3 : Sl) =>
 ix x3.a x3.len a1 fun p4 =>
 ld (.int .i64) (p4.add (scaled (Int.toNat a1) 1)) fun (x5 : Int) =>
 ix x2.a x2.len x5 fun p6 =>
 ld (.int .i64) (p6.add (scaled (Int.toNat x5) 1)) fun (x7 : Int) =>
 K x7
noncomputable def h153 : Hint := (hS (hR 2) (hS (.region [0, 1, 2, 3, 4, 5, 6, 7, 8, 9] (hO 10)) hL))
theorem F153_calls {a0 : (Int × Int × Int × Int × Int × Sl × Sl × Unit)} {a1 : Int} {K : Int → World → Prop} {w : World} (h : F153 a0 a1 K w) : callT Tryz.prog 153 #[(.agg (Cells.vals c72 a0).toArray), (.int .i64 a1)] (.one (.one (.int .i64))) K w := tied tabOk Tryz.func153 h153 [(.agg (Cells.vals c72 a0).toArray), (.int .i64 a1)] h
end Go.Proofs.YtolhlldgnfbemaaGreat
namespace Go.Proofs.YtolhlldgnfbemaaGreat
open Go Go.Vx Cdc Trx Lns
section
variable {w w' : World} {S : Nat → Prop} {p : Nat} {e : Enc} {lim na : Nat} {O : Nat → Prop} {M : Parts}
abbrev lnT (l : Ln) : Cells.T c36 := ((l.from_ : Int), (l.to_ : Int), (l.next : Int), (l.kind : Int), ())
theorem hal (e : Enc) (M : Parts) : (atoms (aOf e M)).length = (aOf e M).length := List.length_map _
theorem skI_nat (A : List Int) (k : Nat) : skI A (k : Int) = match sk A k with | some m => (m : Int) | none => -1 := by
 unfold skI
 rw [if_neg (by omega), Int.toNat_natCast]
 all_goals (cases sk A k <;> rfl)
theorem closed_call (h : Txt w p e lim na O M) {f x : Nat} (hfx : f < x) (hx : x ≤ (atoms (aOf e M)).length) {K : Cells.T c36 → World → Prop} (hK : ∀ w', Ext w w' → K (lnT (lnC (atoms (aOf e M)) f x)) w') :
  callT Tryz.prog 67 #[.pointer (some (at0 p)), .int .i64 (f : Int), .int .i64 (x : Int)] (.one (.agg c36)) K w := by
 refine F67_calls ?_
 unfold F67
 have few := h.few; have lims := h.lims
 generalize hA : atoms (aOf e M) = A at *
 have hAl : A.length = (aOf e M).length := by rw [← hA]; exact hal e M
 refine (St.start w).newO fun b1 w1 S1 e1 => ?_
 have ew : IntKind.wrap .i64 ((x : Int) - 2) = (x : Int) - 2 := wrap64 (by omega) (by omega)
 rw [ew]
 obtain ⟨g, hg⟩ : ∃ g : Nat, g = max f (x - 2) := ⟨_, rfl⟩
 have eg : (if (x : Int) - 2 > (f : Int) then (x : Int) - 2 else (f : Int)) = (g : Int) := by split <;> omega
 rw [eg]
 refine atoms_call (h.ext e1) fun s w2 o2 e2 => ?_
 rw [hA] at o2
 have hsub : sub A (g : Int) (x : Int) = (A.drop g).take (x - g) := by unfold sub; simp
 rw [hsub] at o2
 have hl := o2.len1
 rw [List.length_map, List.length_take, List.length_drop] at hl
 have hsl : s.len = x - g := by omega
 have get : ∀ i, i < x - g → ((A.drop g).take (x - g))[i]? = A[g + i]? := fun i hi => by rw [List.getElem?_take, if_pos hi, List.getElem?_drop]
 have ew1 : IntKind.wrap .i64 (((s.len : Nat) : Int) - 1) = ((x - g - 1 : Nat) : Int) := by rw [wrap64 (by omega) (by omega)]; omega
 rw [ew1]
 have S2 := S1.ext e2
 obtain ⟨a, ha⟩ : ∃ a, A[x - 1]? = some a := ⟨_, List.getElem?_eq_getElem (by omega)⟩
 have ex1 : IntKind.wrap .i64 ((x : Int) - 1) = ((x - 1 : Nat) : Int) := by rw [wrap64 (by omega) (by omega)]; omega
 have fin : ∀ {l : Ln} {W : World}, St (fun _ => False) w W [(b1, .cells #[.int .i64 0, .int .i64 0, .int .i64 0, .int .i64 0] 36 (0, 0))] → lnC A f x = l →
   aggSt (at0 b1) (.agg (Cells.vals c36 (lnT l)).toArray) 4 (lds c36 (at0 b1) fun x => K x) W := by
  intro l W SW el
  exact SW.aggSt 0 rfl rfl rfl rfl fun w3 S3 _ => S3.lds 0 (lnT l) rfl (by subst el; exact hK w3 S3.upd)
 refine ix_ld (c := .int .i64) (xs := (A.drop g).take (x - g)) o2.in (by omega) (x := a) (by rw [Int.toNat_natCast, get _ (by omega), ← ha]; congr 1; omega) fun q => sif_r (fun hc => ?_) (fun hc => ?_)
 ·simp only [beq_iff_eq] at hc
  rw [ex1]
  exact fin (l := ⟨f, x - 1, x, 3⟩) S2 (by unfold lnC; rw [if_pos (by rw [ha, hc])])
 ·simp only [beq_eq_false_iff_ne] at hc
  have h13 : ¬ A[x - 1]? = some 13 := by rw [ha]; exact fun h => hc (Option.some.inj h)
  refine join_r (fun y W => y = (decide (f + 1 < x ∧ A[x - 2]? = some 13), ()) ∧ w2 = W) ?_ ?_
  ·refine sif_r (fun hd => ?_) (fun hd => ?_)
   ·simp only [decide_eq_true_eq, gt_iff_lt] at hd
    have ew2 : IntKind.wrap .i64 (((x - g - 1 : Nat) : Int) - 1) = ((x - g - 2 : Nat) : Int) := by rw [wrap64 (by omega) (by omega)]; omega
    rw [ew2]
    obtain ⟨b, hb⟩ : ∃ b, A[x - 2]? = some b := ⟨_, List.getElem?_eq_getElem (by omega)⟩
    refine ix_ld (c := .int .i64) (xs := (A.drop g).take (x - g)) o2.in (by omega) (x := b) (by rw [Int.toNat_natCast, get _ (by omega), ← hb]; congr 1; omega) fun q2 => ⟨tupb ?_, rfl⟩
    simp only [beq_iff_eq, decide_eq_true_eq, hb, Option.some.injEq]
    omega
   ·simp only [decide_eq_false_iff_not, gt_iff_lt] at hd
    refine ⟨tupb ?_, rfl⟩
    simp only [Bool.false_eq_true, decide_eq_true_eq, false_iff]
    omega
  rintro _ _ ⟨rfl, rfl⟩
  refine sif_r (fun hd => ?_) (fun hd => ?_)
  ·simp only [decide_eq_true_eq] at hd
   have ew3 : (x : Int) - 2 = ((x - 2 : Nat) : Int) := by omega
   rw [ew3]
   exact fin (l := ⟨f, x - 2, x, 2⟩) S2 (by unfold lnC; rw [if_neg h13, if_pos hd])
  ·simp only [decide_eq_false_iff_not] at hd
   rw [ex1]
   exact fin (l := ⟨f, x - 1, x, 1⟩) S2 (by unfold lnC; rw [if_neg h13, if_neg hd])
def atRes (r : Option Ln) : Cells.T c36 × Int × Unit := match r with
 | some l => (lnT l, 0, ())
 | none => (lnT ⟨0, 0, 0, 0⟩, 2, ())
theorem lat_call {i : Int} (h : Txt w p e lim na O M) (hi : i < 2 ^ 62) {K : Cells.T c36 × Int × Unit → World → Prop} (hK : ∀ w', Ext w w' → K (atRes (lnI (atoms (aOf e M)) i)) w') :
  callT Tryz.prog 41 #[.pointer (some (at0 p)), .int .i64 i] (.tup [(.agg c36), (.one (.int .i64))]) K w := by
 refine F41_calls ?_
 unfold F41
 have few := h.few; have lims := h.lims
 have hal := hal e M
 refine (St.start w).newO fun b1 w1 S1 e1 => ?_
 refine sif_r (fun hc => ?_) (fun hc => ?_)
 ·simp only [decide_eq_true_eq] at hc
  refine S1.aggSt 0 rfl rfl rfl rfl fun w2 S2 _ => S2.lds 0 (lnT ⟨0, 0, 0, 0⟩) rfl ?_
  have := hK w2 S2.upd
  unfold lnI at this
  rw [if_pos hc] at this
  exact this
 simp only [decide_eq_false_iff_not] at hc
 obtain ⟨n, rfl⟩ : ∃ n : Nat, i = (n : Int) := ⟨i.toNat, by omega⟩
 unfold lnI at hK
 rw [if_neg hc, Int.toNat_natCast] at hK
 refine seek_call (h.ext e1) fun w2 e2 => ?_
 have S2 := S1.ext e2
 rw [skI_nat]
 cases hf : sk (atoms (aOf e M)) n with
 | none =>
  refine sif_r (fun _ => ?_) (fun h => by simp at h)
  refine S2.aggSt 0 rfl rfl rfl rfl fun w3 S3 _ => S3.lds 0 (lnT ⟨0, 0, 0, 0⟩) rfl ?_
  have := hK w3 S3.upd
  unfold lnAt at this
  rw [hf] at this
  exact this
 | some f =>
  refine sif_r (fun h => by simp at h; omega) (fun _ => ?_)
  obtain ⟨hnb, hfl, hnf, _⟩ := sk_get hf
  refine len_call (h.ext S2.upd) fun w3 e3 => breaks_call (h.ext (S2.ext e3).upd) fun w4 e4 => ?_
  have S4 := (S2.ext e3).ext e4
  rw [Int.toNat_natCast, ← hal, ← brs_nb]
  refine sif_r (fun hlt => ?_) (fun hlt => ?_)
  ·simp only [decide_eq_true_eq] at hlt
   have ew : IntKind.wrap .i64 ((n : Int) + 1) = ((n + 1 : Nat) : Int) := by rw [wrap64 (by omega) (by omega)]; omega
   rw [ew]
   refine seek_call (h.ext S4.upd) fun w5 e5 => ?_
   have S5 := S4.ext e5
   rw [skI_nat]
   obtain ⟨x, hx⟩ := sk_ok (A := atoms (aOf e M)) (k := n + 1) (by omega)
   obtain ⟨_, hxl, _, _⟩ := sk_get hx
   rw [hx]
   refine closed_call (h.ext S5.upd) (sk_lt hf hx (by omega)) hxl fun w6 e6 => (S5.ext e6).aggSt 0 rfl rfl rfl rfl fun w7 S7 _ => S7.lds 0 (lnT _) rfl ?_
   have := hK w7 S7.upd
   unfold lnAt at this
   rw [hf] at this
   simp only [hx] at this
   exact this
  ·simp only [decide_eq_false_iff_not] at hlt
   refine len_call (h.ext S4.upd) fun w5 e5 => len_call (h.ext (S4.ext e5).upd) fun w6 e6 => ((S4.ext e5).ext e6).aggSt 0 rfl rfl rfl rfl fun w7 S7 _ => S7.lds 0 (lnT ⟨f, (aOf e M).length, (aOf e M).length, 0⟩) rfl ?_
   have := hK w7 S7.upd
   unfold lnAt at this
   rw [hf] at this
   simp only [sk_none (atoms (aOf e M)) (n + 1) (by omega)] at this
   rw [hal] at this
   exact this
theorem lof_call {at_ : Int} (h : Txt w p e lim na O M) {K : Int → World → Prop} (hK : ∀ w', Ext w w' → K ((nb (atoms (aOf e M)) at_.toNat : Nat) : Int) w') :
  callT Tryz.prog 20 #[.pointer (some (at0 p)), .int .i64 at_] (.one (.one (.int .i64))) K w := by
 refine F20_calls ?_
 unfold F20
 have hal := hal e M
 refine len_call h fun w1 e1 => breaks_call (h.ext e1) fun w2 e2 => ?_
 have := hK w2 (e1.trans e2)
 have e : nb (atoms (aOf e M)) (if (((aOf e M).length : Nat) : Int) < (if (0 : Int) > at_ then (0 : Int) else at_) then (((aOf e M).length : Nat) : Int) else (if (0 : Int) > at_ then (0 : Int) else at_)).toNat = nb (atoms (aOf e M)) at_.toNat := by
  by_cases h0 : (0 : Int) > at_
  ·rw [if_pos h0, if_neg (by omega)]
   have : at_.toNat = (0 : Int).toNat := by omega
   rw [this]
  ·rw [if_neg h0]
   split
   ·rw [Int.toNat_natCast, nb_ge _ _ (by omega), nb_ge _ _ (by omega)]
   ·rfl
 rw [e]; exact this
theorem lended_call (h : Txt w p e lim na O M) {K : Bool → World → Prop} (hK : ∀ w', Ext w w' → K (ended (atoms (aOf e M))) w') :
  callT Tryz.prog 51 #[.pointer (some (at0 p))] (.one (.one .bool)) K w := by
 refine F51_calls ?_
 unfold F51
 have hal := hal e M
 unfold ended at hK
 refine len_call h fun w1 e1 => sif_r (fun hc => ?_) (fun hc => ?_)
 ·simp only [decide_eq_true_eq, gt_iff_lt] at hc
  refine breaks_call (h.ext e1) fun w2 e2 => seek_call (h.ext (e1.trans e2)) fun w3 e3 => ?_
  have := hK w3 ((e1.trans e2).trans e3)
  rw [Int.toNat_natCast, ← hal, ← brs_nb, skI_nat]
  rw [decide_eq_true (by omega), Bool.true_and] at this
  cases hs : sk (atoms (aOf e M)) (brs (atoms (aOf e M))) with
  | none =>
   rw [hs] at this
   have e1 : ((-1 : Int) == (((atoms (aOf e M)).length : Nat) : Int)) = false := by rw [beq_eq_false_iff_ne]; omega
   show K ((-1 : Int) == _) w3
   rw [e1]; exact this
  | some m =>
   rw [hs] at this
   have e1 : ((m : Int) == (((atoms (aOf e M)).length : Nat) : Int)) = (some m == some (atoms (aOf e M)).length) := by rw [Bool.eq_iff_iff, beq_iff_eq, beq_iff_eq, Option.some.injEq]; omega
   show K ((m : Int) == _) w3
   rw [e1]; exact this
 ·simp only [decide_eq_false_iff_not, gt_iff_lt] at hc
  have := hK w1 e1
  rw [decide_eq_false (by omega), Bool.false_and] at this
  exact this
theorem lcount_call (h : Txt w p e lim na O M) {K : Int → World → Prop} (hK : ∀ w', Ext w w' → K ((lnN (atoms (aOf e M)) : Nat) : Int) w') :
  callT Tryz.prog 19 #[.pointer (some (at0 p))] (.one (.one (.int .i64))) K w := by
 refine F19_calls ?_
 unfold F19
 have few := h.few; have lims := h.lims
 have hal := hal e M
 have hb : brs (atoms (aOf e M)) ≤ (atoms (aOf e M)).length := by rw [brs_nb]; exact nb_le _ _
 refine len_call h fun w1 e1 => breaks_call (h.ext e1) fun w2 e2 => ?_
 rw [Int.toNat_natCast, ← hal, ← brs_nb]
 refine join_r (fun x W => x = (((lnN (atoms (aOf e M)) : Nat) : Int), ()) ∧ Ext w W) ?_ (fun x W hx => by obtain ⟨rfl, hx⟩ := hx; exact hK W hx)
 refine lended_call (h.ext (e1.trans e2)) fun w3 e3 => ?_
 have e03 := (e1.trans e2).trans e3
 refine sif_r (fun hc => ⟨?_, e03⟩) (fun hc => ⟨?_, e03⟩)
 ·simp only [Bool.not_eq_true'] at hc
  unfold lnN
  rw [hc, wrap64 (by omega) (by omega)]
  simp
 ·simp only [Bool.not_eq_false'] at hc
  unfold lnN
  rw [hc]
  simp
end
end Go.Proofs.YtolhlldgnfbemaaGreat
namespace Go.Proofs.YtolhlldgnfbemaaGreat
open Go Go.Vx Cdc Trx Gly Clu Lns Obx
namespace Mot
variable {A : List Int} {i : Nat}
noncomputable def bndL (A : List Int) (i : Nat) : List Int := (List.range ((rowC A i).length + 1)).map fun j => (bndR A i j : Int)
theorem nv_bnd (h : i ≤ brs A) : nv (cuts (rowB A i)) = iv (bndL A i) := by
 rw [row_cuts h]
 unfold bndL
 simp only [List.map_map]
 rfl
theorem bndL_len (A : List Int) (i : Nat) : (bndL A i).length = (rowC A i).length + 1 := by unfold bndL; simp
theorem bndL_at {j : Nat} (h : j ≤ (rowC A i).length) : (bndL A i)[j]? = some (bndR A i j : Int) := by
 unfold bndL
 rw [List.getElem?_map, List.getElem?_range (by omega)]; rfl
theorem place_min (h : i ≤ brs A) (c : Int) : placeR A i c = (rowL A i).from_ + bndR A i (min c.toNat (rowC A i).length) := by
 rw [bnd_place h]
 rcases Nat.lt_or_ge c.toNat (rowC A i).length with u | u
 ·rw [Nat.min_eq_left (by omega)]
  unfold placeR
  rw [Int.toNat_natCast]
 ·rw [Nat.min_eq_right u, placeR_ge u, placeR_ge (by omega)]
theorem cel_to (h : i ≤ brs A) {j : Nat} {c : Cel} (hc : (rowC A i)[j]? = some c) : c.to_ = placeR A i ((j + 1 : Nat) : Int) := by
 have hl := (List.getElem?_eq_some_iff.1 hc).1
 rcases Nat.lt_or_ge (j + 1) (rowC A i).length with u | u
 ·obtain ⟨d, hd⟩ := cel_get u
  rw [placeR_lt u, frm_of hd]
  exact (rowC_chain A i).next j c d hc hd
 ·rw [placeR_ge (by omega)]
  exact rowC_last h hc (by omega)
theorem place_mono (h : i ≤ brs A) {c d : Nat} (hcd : c ≤ d) (hd : d ≤ (rowC A i).length) : placeR A i (c : Int) ≤ placeR A i (d : Int) := by
 rcases Nat.lt_or_ge c d with u | u
 ·exact Nat.le_of_lt (placeR_mono h u hd)
 ·rw [show c = d by omega]; exact Nat.le_refl _
theorem row_cel (h : i ≤ brs A) {j : Nat} {c : Cel} (hc : (rowC A i)[j]? = some c) : (rowB A i)[bndR A i j]? = some c.atom ∧ c.kind = wrd c.atom := by
 have hl := (List.getElem?_eq_some_iff.1 hc).1
 obtain ⟨_, _, _, _, q⟩ := lineC_at (row_ok h).ft (by have := (row_ok h).tn; have := (row_ok h).nl; omega) hc
 exact ⟨by rw [bnd_atom h hl, hc]; rfl, q.kind⟩
end Mot
open Mot
abbrev RwT := Cells.T c72
structure RowIs (w : World) (A : List Int) (i : Nat) (r : RwT) : Prop where
 row : i ≤ brs A
 len : A.length ≤ 1048576
 f : r.1 = ((rowL A i).from_ : Int)
 t : r.2.1 = ((rowL A i).to_ : Int)
 n : r.2.2.1 = ((rowL A i).next : Int)
 num : r.2.2.2.2.1 = (i : Int)
 atoms : SlIn w r.2.2.2.2.2.1 3 1 (iv (rowB A i))
 starts : SlIn w r.2.2.2.2.2.2.1 3 1 (iv (bndL A i))
abbrev rwO (r : RwT) : Obj := .cells #[.int .i64 r.1, .int .i64 r.2.1, .int .i64 r.2.2.1, .int .i64 r.2.2.2.1, .int .i64 r.2.2.2.2.1, .slice r.2.2.2.2.2.1.a r.2.2.2.2.2.1.len r.2.2.2.2.2.1.cap, .slice r.2.2.2.2.2.2.1.a r.2.2.2.2.2.2.1.len r.2.2.2.2.2.2.1.cap] 72 (0, 0)
abbrev rwZ : Obj := .cells #[.int .i64 0, .int .i64 0, .int .i64 0, .int .i64 0, .int .i64 0, .slice none 0 0, .slice none 0 0] 72 (0, 0)
section
variable {w w' : World} {A : List Int} {i : Nat} {r : RwT}
theorem RowIs.ext (h : RowIs w A i r) (e : Ext w w') : RowIs w' A i r := ⟨h.row, h.len, h.f, h.t, h.n, h.num, h.atoms.ext e, h.starts.ext e⟩
theorem RowIs.slen (h : RowIs w A i r) : r.2.2.2.2.2.2.1.len = (rowC A i).length + 1 := by
 have := h.starts.len1
 rw [List.length_map, bndL_len] at this
 exact this.symm
theorem RowIs.few (h : RowIs w A i r) : (rowC A i).length ≤ 1048576 ∧ (rowL A i).to_ ≤ 1048576 ∧ (rowL A i).from_ ≤ 1048576 ∧ (rowL A i).next ≤ 1048576 := by
 have h1 := rowC_len h.row
 have ok := row_ok h.row
 have := ok.tn; have := ok.nl; have := ok.ft; have := h.len
 omega
theorem clus_call (h : RowIs w A i r) {K : Int → World → Prop} (hK : ∀ w', Ext w w' → K ((rowC A i).length : Int) w') :
  callT Tryz.prog 39 #[.agg (Cells.vals c72 r).toArray] (.one (.one (.int .i64))) K w := by
 refine F39_calls (a0 := r) ?_
 unfold F39
 have hl := h.slen; have fw := h.few
 refine (St.start w).newO fun b1 w1 S1 e1 => S1.ld 0 rfl (x := r.2.2.2.2.2.2.1) rfl ?_
 rw [hl, wrap64 (by omega) (by omega)]
 have := hK w1 e1
 rw [show (((rowC A i).length + 1 : Nat) : Int) - 1 = ((rowC A i).length : Int) by omega]
 exact this
theorem mplace_call (h : RowIs w A i r) {c : Int} {K : Int → World → Prop} (hK : ∀ w', Ext w w' → K (placeR A i c : Int) w') :
  callT Tryz.prog 38 #[.agg (Cells.vals c72 r).toArray, .int .i64 c] (.one (.one (.int .i64))) K w := by
 refine F38_calls (a0 := r) ?_
 unfold F38
 have hl := h.slen; have fw := h.few
 refine (St.start w).newO fun b1 w1 S1 e1 => S1.drew fun w2 S2 e2 _ => S2.ld 0 rfl (x := r.1) rfl (S2.ld 0 rfl (x := r.2.2.2.2.2.2.1) rfl (S2.lds 0 r rfl ?_))
 refine clus_call (h.ext S2.upd) fun w3 e3 => ?_
 have S3 := S2.ext e3
 refine S3.keep 0 rfl (v := .slice r.2.2.2.2.2.2.1.a r.2.2.2.2.2.2.1.len r.2.2.2.2.2.2.1.cap) rfl (S3.keep 0 rfl (v := .int .i64 r.1) rfl ?_)
 have em : (if (((rowC A i).length : Nat) : Int) < (if (0 : Int) > c then (0 : Int) else c) then (((rowC A i).length : Nat) : Int) else (if (0 : Int) > c then (0 : Int) else c)) = ((min c.toNat (rowC A i).length : Nat) : Int) := by
  split <;> split at * <;> omega
 rw [em]
 refine ix_ld (c := .int .i64) (xs := bndL A i) (h.ext S3.upd).starts (by omega) (x := (bndR A i (min c.toNat (rowC A i).length) : Int)) (by rw [Int.toNat_natCast]; exact bndL_at (by omega)) fun p => ?_
 have hp := place_min h.row c
 have hle := place_le h.row c
 have hA := h.len
 rw [h.f, wrap64 (by omega) (by omega)]
 have := hK w3 S3.upd
 rw [hp] at this
 rw [show (((rowL A i).from_ : Nat) : Int) + ((bndR A i (min c.toNat (rowC A i).length) : Nat) : Int) = (((rowL A i).from_ + bndR A i (min c.toNat (rowC A i).length) : Nat) : Int) by omega]
 exact this
theorem mcol_call (h : RowIs w A i r) {n : Int} {K : Int → World → Prop} (hK : ∀ w', Ext w w' → K (firstI (rowC A i) n : Int) w') :
  callT Tryz.prog 40 #[.agg (Cells.vals c72 r).toArray, .int .i64 n] (.one (.one (.int .i64))) K w := by
 refine F40_calls (a0 := r) ?_
 unfold F40
 have hl := h.slen; have fw := h.few; have hA := h.len
 refine (St.start w).newO fun b1 w1 S1 e1 => S1.lds 0 r rfl (clus_call (h.ext e1) fun w2 e2 => ?_)
 have S2 := S1.ext e2
 have S2 : St (fun _ => False) w w2 [(b1, rwO r)] := S2
 refine join_r (fun x W => x = ((firstI (rowC A i) n : Int), ()) ∧ Ext w W) ?_ (fun x W hx => by rw [hx.1]; exact hK W hx.2)
 refine sloop_r (fun x W => ∃ lo hi : Nat, x = ((lo : Int), (hi : Int), ()) ∧ lo ≤ hi ∧ hi ≤ (rowC A i).length ∧ (lo = 0 ∨ (placeR A i (lo : Int) : Int) ≤ n) ∧ (∀ j : Nat, hi < j → j ≤ (rowC A i).length → n < (placeR A i (j : Int) : Int)) ∧ St (fun _ => False) w W [(b1, rwO r)]) (fun x _ => (x.2.1 - x.1).toNat) ⟨0, (rowC A i).length, rfl, Nat.zero_le _, Nat.le_refl _, .inl rfl, fun j h1 h2 => by omega, S2⟩ ?_
 rintro _ W ⟨lo, hi, rfl, h1, h2, h3, h4, SW⟩
 dsimp only
 refine sif_r (fun hc => ?_) (fun hc => ?_)
 ·simp only [decide_eq_true_eq] at hc
  obtain ⟨m, hm⟩ : ∃ m : Nat, m = (lo + hi + 1) / 2 := ⟨_, rfl⟩
  have ew1 : IntKind.wrap .i64 ((lo : Int) + (hi : Int)) = (lo : Int) + hi := wrap64 (by omega) (by omega)
  have ew2 : IntKind.wrap .i64 ((lo : Int) + (hi : Int) + 1) = (lo : Int) + hi + 1 := wrap64 (by omega) (by omega)
  have ed : Int.tdiv ((lo : Int) + (hi : Int) + 1) 2 = (m : Int) := by rw [Int.tdiv_eq_ediv_of_nonneg (by omega)]; omega
  have ew3 : IntKind.wrap .i64 (m : Int) = (m : Int) := wrap64 (by omega) (by omega)
  have ew4 : IntKind.wrap .i64 ((m : Int) - 1) = ((m - 1 : Nat) : Int) := by rw [wrap64 (by omega) (by omega)]; omega
  rw [ew1, ew2, ed, ew3, ew4]
  refine chk_r (by decide) (SW.drew fun w3 S3 e3 _ => S3.ld 0 rfl (x := r.1) rfl (S3.ld 0 rfl (x := r.2.2.2.2.2.2.1) rfl ?_))
  refine ix_ld (c := .int .i64) (xs := bndL A i) (h.ext S3.upd).starts (by omega) (x := (bndR A i m : Int)) (by rw [Int.toNat_natCast]; exact bndL_at (by omega)) fun p => ?_
  have hp := bnd_place h.row m
  have hle := place_le h.row (m : Int)
  rw [h.f, wrap64 (by omega) (by omega), show (((rowL A i).from_ : Nat) : Int) + ((bndR A i m : Nat) : Int) = (placeR A i (m : Int) : Int) by omega]
  refine sif_r (fun hg => ?_) (fun hg => ?_)
  ·simp only [decide_eq_true_eq] at hg
   exact ⟨⟨m, hi, rfl, by omega, h2, .inr hg, h4, S3⟩, by omega⟩
  ·simp only [decide_eq_false_iff_not] at hg
   refine ⟨⟨lo, m - 1, rfl, by omega, by omega, h3, fun j j1 j2 => ?_, S3⟩, by omega⟩
   have := place_mono h.row (c := m) (d := j) (by omega) j2
   omega
 ·simp only [decide_eq_false_iff_not] at hc
  obtain rfl : lo = hi := by omega
  refine ⟨?_, SW.upd⟩
  rw [firstI_eq h2 (fun j c hj hc' => ?_) (fun c hc' => ?_)]
  ·rw [cel_to h.row hc']
   have := place_mono h.row (c := j + 1) (d := lo) (by omega) h2
   rcases h3 with rfl | h3
   ·omega
   ·omega
  ·have hl2 := (List.getElem?_eq_some_iff.1 hc').1
   rw [cel_to h.row hc']
   exact h4 (lo + 1) (by omega) (by omega)
theorem mfirst_call (h : RowIs w A i r) {j : Nat} {c : Cel} (hc : (rowC A i)[j]? = some c) {K : Int → World → Prop} (hK : ∀ w', Ext w w' → K c.atom w') :
  callT Tryz.prog 153 #[.agg (Cells.vals c72 r).toArray, .int .i64 (j : Int)] (.one (.one (.int .i64))) K w := by
 refine F153_calls (a0 := r) ?_
 unfold F153
 have hl := h.slen; have fw := h.few
 have hj := (List.getElem?_eq_some_iff.1 hc).1
 refine (St.start w).newO fun b1 w1 S1 e1 => S1.drew fun w2 S2 e2 _ => S2.ld 0 rfl (x := r.2.2.2.2.2.1) rfl (S2.ld 0 rfl (x := r.2.2.2.2.2.2.1) rfl ?_)
 have h2 := h.ext S2.upd
 refine ix_ld (c := .int .i64) (xs := bndL A i) h2.starts (by omega) (x := (bndR A i j : Int)) (by rw [Int.toNat_natCast]; exact bndL_at (by omega)) fun p => ?_
 exact ix_ld (c := .int .i64) (xs := rowB A i) h2.atoms (by omega) (x := c.atom) (by rw [Int.toNat_natCast]; exact (row_cel h.row hc).1) fun q => hK w2 S2.upd
theorem mkind_call (h : RowIs w A i r) {j : Nat} (hj : j < (rowC A i).length) {big : Bool} {K : Int → World → Prop} (hK : ∀ w', Ext w w' → K (kindB (rowC A i) j big : Int) w') :
  callT Tryz.prog 144 #[.agg (Cells.vals c72 r).toArray, .int .i64 (j : Int), .bool big] (.one (.one (.int .i64))) K w := by
 refine F144_calls (a0 := r) ?_
 unfold F144
 obtain ⟨c, hc⟩ := cel_get hj
 refine (St.start w).newO fun b1 w1 S1 e1 => S1.lds 0 r rfl (mfirst_call (h.ext e1) hc fun w2 e2 => word_call fun w3 e3 => ?_)
 have e13 := (e1.trans e2).trans e3
 have hk := (row_cel h.row hc).2
 unfold kindB at hK
 rw [hc] at hK
 refine sif_r (fun hb => ?_) (fun hb => ?_)
 ·have := hK w3 e13
  rw [if_pos hb] at this
  have e : (if (1 : Int) < ((wrd c.atom : Nat) : Int) then (1 : Int) else ((wrd c.atom : Nat) : Int)) = ((min c.kind 1 : Nat) : Int) := by rw [hk]; split <;> omega
  rw [e]; exact this
 ·have := hK w3 e13
  rw [if_neg (by rw [hb]; decide)] at this
  rw [← hk]; exact this
theorem msign_call (h : RowIs w A i r) {K : Int → World → Prop} (hK : ∀ w', Ext w w' → K (signR A i : Int) w') :
  callT Tryz.prog 123 #[.agg (Cells.vals c72 r).toArray] (.one (.one (.int .i64))) K w := by
 refine F123_calls (a0 := r) ?_
 unfold F123
 have fw := h.few
 refine (St.start w).newO fun b1 w1 S1 e1 => ?_
 have S1 : St (fun _ => False) w w1 [(b1, rwO r)] := S1
 refine join_r (fun _ W => (∀ (j : Nat) y, (rowC A i)[j]? = some y → y.kind = 0) ∧ St (fun _ => False) w W [(b1, rwO r)]) ?_ ?_
 ·refine S1.lds 0 r rfl (clus_call (h.ext e1) fun w2 e2 => ?_)
  refine sloop_r (fun x W => ∃ c : Nat, x = ((c : Int), ()) ∧ c ≤ (rowC A i).length ∧ (∀ (j : Nat) y, j < c → (rowC A i)[j]? = some y → y.kind = 0) ∧ St (fun _ => False) w W [(b1, rwO r)]) (fun x _ => (((rowC A i).length : Int) - x.1).toNat) ⟨0, rfl, Nat.zero_le _, fun j y hj => by omega, S1.ext e2⟩ ?_
  rintro _ W ⟨c, rfl, h1, h2, SW⟩
  dsimp only
  refine sif_r (fun hc => ?_) (fun hc => ?_)
  ·simp only [decide_eq_true_eq] at hc
   have ew : IntKind.wrap .i64 ((c : Int) + 1) = ((c + 1 : Nat) : Int) := by rw [wrap64 (by omega) (by omega)]; omega
   rw [ew]
   obtain ⟨x, hx⟩ := cel_get (C := rowC A i) (j := c) (by omega)
   refine SW.lds 0 r rfl (mkind_call (h.ext SW.upd) (j := c) (by omega) fun w3 e3 => ?_)
   have hkb : kindB (rowC A i) c true = min x.kind 1 := by unfold kindB; rw [if_pos rfl, hx]; rfl
   rw [hkb]
   refine sif_r (fun hg => ?_) (fun hg => ?_)
   ·simp only [bne_iff_ne, ne_eq] at hg
    have := hK w3 (SW.ext e3).upd
    rw [sign_at hx (by omega) h2] at this
    exact this
   ·simp only [bne_eq_false_iff_eq] at hg
    refine ⟨⟨c + 1, rfl, by omega, fun j y hj hy => ?_, SW.ext e3⟩, by omega⟩
    by_cases hjc : j = c
    ·subst hjc; rw [hx] at hy; cases hy; omega
    ·exact h2 j y (by omega) hy
  ·simp only [decide_eq_false_iff_not] at hc
   exact ⟨fun j y hy => h2 j y (by have := (List.getElem?_eq_some_iff.1 hy).1; omega) hy, SW⟩
 rintro _ W ⟨h0, SW⟩
 refine SW.lds 0 r rfl (clus_call (h.ext SW.upd) fun w3 e3 => ?_)
 have := hK w3 (SW.ext e3).upd
 rw [sign_none h0] at this
 rw [wrap64 (by omega) (by omega)]
 have e : (if (0 : Int) > (((rowC A i).length : Nat) : Int) - 1 then (0 : Int) else (((rowC A i).length : Nat) : Int) - 1) = (((rowC A i).length - 1 : Nat) : Int) := by split <;> omega
 rw [e]; exact this
theorem mblank_call (h : RowIs w A i r) {K : Bool → World → Prop} (hK : ∀ w', Ext w w' → K (blankR A i) w') :
  callT Tryz.prog 130 #[.agg (Cells.vals c72 r).toArray] (.one (.one .bool)) K w := by
 refine F130_calls (a0 := r) ?_
 unfold F130
 have hbl := blank_is A i
 refine (St.start w).newO fun b1 w1 S1 e1 => ?_
 have S1 : St (fun _ => False) w w1 [(b1, rwO r)] := S1
 refine S1.lds 0 r rfl (clus_call (h.ext e1) fun w2 e2 => (S1.ext e2).drew fun w3 S3 e3 _ => ?_)
 refine sif_r (fun hc => ?_) (fun hc => ?_)
 ·simp only [beq_iff_eq] at hc
  have := hK w3 S3.upd
  rw [hbl, show (rowC A i).length = 0 by omega] at this
  exact this
 ·simp only [beq_eq_false_iff_ne, ne_eq] at hc
  refine S3.lds 0 r rfl (S3.lds 0 r rfl (msign_call (h.ext S3.upd) fun w4 e4 => ?_))
  have S4 := S3.ext e4
  have hs := signR_le A i
  refine S4.keeps 0 (x := r) rfl (mkind_call (h.ext S4.upd) (j := signR A i) (by omega) fun w5 e5 => ?_)
  have := hK w5 (S4.ext e5).upd
  rw [hbl] at this
  have e : ((rowC A i).length == 0 || kindB (rowC A i) (signR A i) true == 0) = (((kindB (rowC A i) (signR A i) true : Nat) : Int) == 0) := by
   have : ((rowC A i).length == 0) = false := by rw [beq_eq_false_iff_ne]; omega
   rw [this, Bool.false_or, Bool.eq_iff_iff, beq_iff_eq, beq_iff_eq]; omega
  rw [e] at this; exact this
end
end Go.Proofs.YtolhlldgnfbemaaGreat
namespace Go.Proofs.YtolhlldgnfbemaaGreat
open Go Go.Vx Cdc Trx Gly Clu Lns Obx Mot
section
variable {w w' : World} {p : Nat} {e : Enc} {lim na : Nat} {O : Nat → Prop} {M : Parts} {A : List Int}
structure TxA (w : World) (p : Nat) (A : List Int) : Prop where
 ex : ∃ e lim na O M, Txt w p e lim na O M ∧ atoms (aOf e M) = A
theorem TxA.ext (h : TxA w p A) (x : Ext w w') : TxA w' p A := by
 obtain ⟨e, lim, na, O, M, h1, h2⟩ := h.ex
 exact ⟨e, lim, na, O, M, h1.ext x, h2⟩
theorem TxA.len (h : TxA w p A) : A.length ≤ 1048576 := by
 obtain ⟨e, lim, na, O, M, h1, rfl⟩ := h.ex
 rw [hal]; exact h1.few
theorem TxA.at_ (h : TxA w p A) {i : Nat} (hi : i ≤ brs A) {K : Cells.T c36 × Int × Unit → World → Prop} (hK : ∀ w', Ext w w' → K (lnT (rowL A i), 0, ()) w') :
  callT Tryz.prog 41 #[.pointer (some (at0 p)), .int .i64 (i : Int)] (.tup [(.agg c36), (.one (.int .i64))]) K w := by
 have hA := h.len; have hb := brs_le A
 obtain ⟨e, lim, na, O, M, h1, rfl⟩ := h.ex
 refine lat_call h1 (by omega) fun w' x => ?_
 have := hK w' x
 unfold lnI
 rw [if_neg (by omega), Int.toNat_natCast, rowL_at hi]
 exact this
theorem TxA.atoms (h : TxA w p A) {f t : Int} {K : Sl → World → Prop} (hK : ∀ s w', SlOwn w' w.heap.size s 3 1 (iv (sub A f t)) → Ext w w' → K s w') :
  callT Tryz.prog 25 #[.pointer (some (at0 p)), .int .i64 f, .int .i64 t] (.one (.one .sl)) K w := by
 obtain ⟨e, lim, na, O, M, h1, rfl⟩ := h.ex
 exact atoms_call h1 hK
theorem TxA.of (h : TxA w p A) {x : Int} {K : Int → World → Prop} (hK : ∀ w', Ext w w' → K (ofI A x : Int) w') :
  callT Tryz.prog 20 #[.pointer (some (at0 p)), .int .i64 x] (.one (.one (.int .i64))) K w := by
 obtain ⟨e, lim, na, O, M, h1, rfl⟩ := h.ex
 refine lof_call h1 fun w' x' => ?_
 have := hK w' x'
 unfold ofI inT at this
 have e1 : nb (Trx.atoms (aOf e M)) x.toNat = nb (Trx.atoms (aOf e M)) (min (max x 0) ((Trx.atoms (aOf e M)).length : Int)).toNat := by
  rcases Nat.lt_or_ge x.toNat (Trx.atoms (aOf e M)).length with u | u
  ·congr 1; omega
  ·rw [nb_ge _ _ u, show (min (max x 0) ((Trx.atoms (aOf e M)).length : Int)).toNat = (Trx.atoms (aOf e M)).length by omega, brs_nb]
 rw [e1]; exact this
theorem TxA.count (h : TxA w p A) {K : Int → World → Prop} (hK : ∀ w', Ext w w' → K (lnN A : Int) w') :
  callT Tryz.prog 19 #[.pointer (some (at0 p))] (.one (.one (.int .i64))) K w := by
 obtain ⟨e, lim, na, O, M, h1, rfl⟩ := h.ex
 exact lcount_call h1 hK
theorem TxA.tlen (h : TxA w p A) {K : Int → World → Prop} (hK : ∀ w', Ext w w' → K (A.length : Int) w') :
  callT Tryz.prog 37 #[.pointer (some (at0 p))] (.one (.one (.int .i64))) K w := by
 obtain ⟨e, lim, na, O, M, h1, rfl⟩ := h.ex
 refine len_call h1 fun w' x => ?_
 have := hK w' x
 rw [hal] at this; exact this
theorem sub_row (A : List Int) (i : Nat) : sub A ((rowL A i).from_ : Int) ((rowL A i).to_ : Int) = rowB A i := by unfold sub rowB; simp
theorem nrow_call (h : TxA w p A) {i : Nat} (hi : i ≤ brs A) {K : RwT → World → Prop} (hK : ∀ r w', RowIs w' A i r → Ext w w' → K r w') :
  callT Tryz.prog 61 #[.pointer (some (at0 p)), .int .i64 (i : Int)] (.one (.agg c72)) K w := by
 refine F61_calls ?_
 unfold F61
 have hA := h.len
 let rw1 (sa ss : Sl) : RwT := (((rowL A i).from_ : Int), ((rowL A i).to_ : Int), ((rowL A i).next : Int), ((rowL A i).kind : Int), (i : Int), sa, ss, ())
 let lnO : Obj := .cells #[.int .i64 ((rowL A i).from_ : Int), .int .i64 ((rowL A i).to_ : Int), .int .i64 ((rowL A i).next : Int), .int .i64 ((rowL A i).kind : Int)] 36 (0, 0)
 refine (St.start w).newO fun b1 w1 S1 e1 => h.ext e1 |>.at_ hi fun w2 e2 => (S1.ext e2).newO fun b3 w3 S3 e3 => S3.aggSt 0 rfl rfl rfl rfl fun w4 S4 u4 => ?_
 have S4 : St (fun _ => False) w w4 [(b3, lnO), (b1, rwZ)] := S4
 refine join_r (fun x W => ∃ b sa, x = (at0 b, ()) ∧ St (fun _ => False) w W [(b, rwO (rw1 sa ⟨none, 0, 0⟩)), (b3, lnO), (b1, rwZ)] ∧ SlOwn W w.heap.size sa 3 1 (iv (rowB A i))) ?_ ?_
 ·refine S4.drew fun w5 S5 e5 _ => S5.lds 0 (lnT (rowL A i)) rfl (S5.ld 0 rfl (x := ((rowL A i).from_ : Int)) rfl (S5.ld 0 rfl (x := ((rowL A i).to_ : Int)) rfl ?_))
  refine ⟨?_, ?_⟩
  ·refine S5.newO fun b9 w6 S6 e6 => ?_
   refine S6.keep 1 rfl (v := .int .i64 ((rowL A i).to_ : Int)) rfl (S6.keep 1 rfl (v := .int .i64 ((rowL A i).from_ : Int)) rfl (S6.keeps 1 (x := lnT (rowL A i)) rfl ?_))
   refine (h.ext S6.upd).atoms fun sa w7 o7 e7 => ?_
   rw [sub_row] at o7
   have S7 := S6.ext e7
   have o7 := o7.mono S6.upd.size
   refine S7.keeps 1 (x := lnT (rowL A i)) rfl (S7.aggSt 0 rfl rfl rfl rfl fun w8 S8 u8 => ?_)
   exact ⟨b9, sa, rfl, S8, o7.box (S7.at_ 0 rfl) (by decide) u8⟩
  ·refine (h.ext S5.upd).atoms fun sa w6 o6 e6 => ?_
   rw [sub_row] at o6
   have S6 := S5.ext e6
   have o6 := o6.mono S5.upd.size
   refine S6.keeps 0 (x := lnT (rowL A i)) rfl ⟨?_, trivial⟩
   refine S6.newO fun b12 w7 S7 e7 => ?_
   refine S7.keep 1 rfl (v := .int .i64 ((rowL A i).to_ : Int)) rfl (S7.keep 1 rfl (v := .int .i64 ((rowL A i).from_ : Int)) rfl (S7.keeps 1 (x := lnT (rowL A i)) rfl (S7.aggSt 0 rfl rfl rfl rfl fun w8 S8 u8 => ?_)))
   exact ⟨b12, sa, rfl, S8, (o6.ext e7).box (S7.at_ 0 rfl) (by decide) u8⟩
 rintro _ W ⟨b, sa, rfl, SW, oa⟩
 refine SW.ld (off := 5) 0 rfl (x := sa) rfl ?_
 refine cbreaks_call oa.in (by rw [rowB_length hi]; have := (row_ok hi).tn; have := (row_ok hi).nl; omega) fun ss w2 o2 e2 => ?_
 rw [nv_bnd hi] at o2
 have S2 := SW.ext e2
 have o2 := o2.mono SW.upd.size
 refine S2.stC (off := 6) 0 rfl (by show 6 < 7; decide) fun w3 S3 u3 => ?_
 have S3 : St (fun _ => False) w w3 [(b, rwO (rw1 sa ss)), (b3, lnO), (b1, rwZ)] := S3
 have oa3 := (oa.ext e2).box (S2.at_ 0 rfl) (by decide) u3
 have os3 := o2.box (S2.at_ 0 rfl) (by decide) u3
 refine S3.lds 0 (rw1 sa ss) rfl (S3.aggSt 2 rfl rfl rfl rfl fun w4 S4 u4 => ?_)
 have oa4 := oa3.box (S3.at_ 2 rfl) (by decide) u4
 have os4 := os3.box (S3.at_ 2 rfl) (by decide) u4
 refine S4.lds 2 (rw1 sa ss) rfl (hK _ w4 ?_ S4.upd)
 exact ⟨hi, hA, rfl, rfl, rfl, rfl, oa4.in, os4.in⟩
theorem rowat_call (h : TxA w p A) {x : Int} {tail : Bool} {K : RwT → World → Prop} (hK : ∀ r w', RowIs w' A (rowI A x tail) r → Ext w w' → K r w') :
  callT Tryz.prog 36 #[.pointer (some (at0 p)), .int .i64 x, .bool tail] (.one (.agg c72)) K w := by
 refine F36_calls ?_
 unfold F36
 have hA := h.len; have hb := lnN_bounds A; have hbl := brs_le A; have hof := ofI_le A x
 refine (St.start w).newO fun b1 w1 S1 e1 => (h.ext e1).of fun w2 e2 => ?_
 have S2 := S1.ext e2
 have S2 : St (fun _ => False) w w2 [(b1, rwZ)] := S2
 refine join_r (fun y W => y = ((rowI A x tail : Int), ()) ∧ St (fun _ => False) w W [(b1, rwZ)]) ?_ ?_
 ·refine sif_r (fun hc => ?_) (fun hc => ?_)
  ·have ht : tail = false := by simpa using hc
   subst ht
   refine (h.ext S2.upd).count fun w3 e3 => ⟨?_, S2.ext e3⟩
   have ew : IntKind.wrap .i64 ((lnN A : Int) - 1) = ((lnN A - 1 : Nat) : Int) := by rw [wrap64 (by omega) (by omega)]; omega
   rw [ew]
   show _ = (((min (ofI A x) (lnN A - 1) : Nat) : Int), ())
   congr 1
   split <;> omega
  ·have ht : tail = true := by simpa using hc
   subst ht
   exact ⟨by unfold rowI; rw [if_pos rfl], S2⟩
 rintro _ W ⟨rfl, SW⟩
 refine nrow_call (h.ext SW.upd) (rowI_le A x tail) fun r w3 hr e3 => (SW.ext e3).aggSt 0 rfl rfl rfl rfl fun w4 S4 u4 => ?_
 have S4 : St (fun _ => False) w w4 [(b1, rwO r)] := S4
 refine S4.lds 0 r rfl (hK r w4 ⟨hr.row, hr.len, hr.f, hr.t, hr.n, hr.num, ?_, ?_⟩ S4.upd)
 ·exact hr.atoms.box ((SW.ext e3).at_ 0 rfl) (by decide) u4
 ·exact hr.starts.box ((SW.ext e3).at_ 0 rfl) (by decide) u4
theorem RowIs.box {i b : Nat} {c : Array Value} {fr : Nat × Nat} {t : TypeId} {r : RwT} (h : RowIs w A i r) (hb : w.heap[b]? = some (.cells c t fr)) (ht : 3 ≠ t) (u : Upd (fun k => k = b) w w') : RowIs w' A i r :=
 ⟨h.row, h.len, h.f, h.t, h.n, h.num, h.atoms.box hb ht u, h.starts.box hb ht u⟩
theorem mclamp_call (h : TxA w p A) {x : Int} {past : Bool} {K : Int → World → Prop} (hK : ∀ w', Ext w w' → K (clampP A x past : Int) w') :
  callT Tryz.prog 12 #[.pointer (some (at0 p)), .int .i64 x, .bool past] (.one (.one (.int .i64))) K w := by
 refine F12_calls ?_
 unfold F12
 have hA := h.len
 refine rowat_call h fun r w1 hr e1 => ?_
 refine (St.start w).ext e1 |>.newO fun b2 w2 S2 e2 => S2.aggSt 0 rfl rfl rfl rfl fun w3 S3 u3 => ?_
 have S3 : St (fun _ => False) w w3 [(b2, rwO r)] := S3
 have hr := (hr.ext e2).box (S2.at_ 0 rfl) (by decide) u3
 have fw := hr.few
 refine (h.ext S3.upd).tlen fun w4 e4 => ?_
 have S4 := S3.ext e4
 have hr := hr.ext e4
 refine S4.ld (off := 1) 0 rfl (x := r.2.1) rfl ?_
 have ein : (if ((A.length : Nat) : Int) < (if (0 : Int) > x then (0 : Int) else x) then ((A.length : Nat) : Int) else (if (0 : Int) > x then (0 : Int) else x)) = (inT A x : Int) := by
  unfold inT
  split <;> split at * <;> omega
 rw [ein, hr.t]
 unfold clampP at hK
 refine sif_r (fun hc => ?_) (fun hc => ?_)
 ·simp only [decide_eq_true_eq, ge_iff_le] at hc
  rw [if_pos (by omega)] at hK
  refine sif_r (fun hp => ?_) (fun hp => ?_)
  ·subst hp
   rw [if_pos rfl] at hK
   refine S4.ld (off := 1) 0 rfl (x := r.2.1) rfl ?_
   rw [hr.t]; exact hK w4 S4.upd
  ·subst hp
   rw [if_neg (by decide)] at hK
   refine S4.drew fun w5 S5 e5 _ => S5.lds 0 r rfl (S5.lds 0 r rfl (clus_call (hr.ext e5) fun w6 e6 => ?_))
   have S6 := S5.ext e6
   rw [wrap64 (by omega) (by omega)]
   exact S6.keeps 0 (x := r) rfl (mplace_call ((hr.ext e5).ext e6) fun w7 e7 => hK w7 (S6.ext e7).upd)
 ·simp only [decide_eq_false_iff_not, ge_iff_le] at hc
  rw [if_neg (by omega)] at hK
  refine S4.drew fun w5 S5 e5 _ => S5.lds 0 r rfl (S5.lds 0 r rfl (mcol_call (hr.ext e5) fun w6 e6 => ?_))
  have S6 := S5.ext e6
  exact S6.keeps 0 (x := r) rfl (mplace_call ((hr.ext e5).ext e6) fun w7 e7 => hK w7 (S6.ext e7).upd)
theorem mcolumn_call (h : TxA w p A) {x : Int} {K : Int → World → Prop} (hK : ∀ w', Ext w w' → K (columnP A x : Int) w') :
  callT Tryz.prog 21 #[.pointer (some (at0 p)), .int .i64 x] (.one (.one (.int .i64))) K w := by
 refine F21_calls ?_
 unfold F21
 refine rowat_call h fun r w1 hr e1 => ?_
 refine (St.start w).ext e1 |>.newO fun b2 w2 S2 e2 => S2.aggSt 0 rfl rfl rfl rfl fun w3 S3 u3 => ?_
 have S3 : St (fun _ => False) w w3 [(b2, rwO r)] := S3
 have hr := (hr.ext e2).box (S2.at_ 0 rfl) (by decide) u3
 exact S3.lds 0 r rfl (mcol_call hr fun w4 e4 => hK w4 (S3.ext e4).upd)
end
abbrev LdT := Cells.T c43 × Int × Unit
abbrev ldT (l : Ld) : LdT := ((l.1.1, l.1.2.1, l.1.2.2, ()), l.2, ())
abbrev ldZ : Obj := .cells #[.int .i64 0, .int .i64 0, .int .i64 0] 43 (0, 0)
abbrev mvO (p : Nat) (s c k : Int) (counted : Bool) (arg goal : Int) (past big : Bool) (r : RwT) : Obj :=
 .cells #[.pointer (some (at0 p)), .int .i64 s, .int .i64 c, .int .i64 k, .bool counted, .int .i64 arg, .int .i64 goal, .bool past, .bool big, .int .i64 r.1, .int .i64 r.2.1, .int .i64 r.2.2.1, .int .i64 r.2.2.2.1, .int .i64 r.2.2.2.2.1, .slice r.2.2.2.2.2.1.a r.2.2.2.2.2.1.len r.2.2.2.2.2.1.cap, .slice r.2.2.2.2.2.2.1.a r.2.2.2.2.2.2.1.len r.2.2.2.2.2.2.1.cap] 114 (0, 0)
structure MvIs (w : World) (b p : Nat) (A : List Int) (x count arg goal : Int) (past big : Bool) (r : RwT) : Prop where
 tx : TxA w p A
 obj : w.heap[b]? = some (mvO p (clampP A x past : Int) ((posP A x past).2 : Int) (kOf count : Int) (decide (0 < count)) arg goal past big r)
 row : RowIs w A (posP A x past).1 r
section
variable {w w' : World} {b p : Nat} {A : List Int} {x count arg goal : Int} {past big : Bool} {r : RwT}
theorem MvIs.ext (h : MvIs w b p A x count arg goal past big r) (e : Ext w w') : MvIs w' b p A x count arg goal past big r := ⟨h.tx.ext e, e.ext_get h.obj, h.row.ext e⟩
theorem MvIs.tK (h : MvIs w b p A x count arg goal past big r) {K : Addr → Option Addr → World → Prop} (hK : K (at0 b) (some (at0 p)) w) : nn (some (at0 b)) (fun q => ld (.ptr) q (K q)) w := nn_some (ld_r (off := 0) h.obj rfl hK)
theorem MvIs.cK (h : MvIs w b p A x count arg goal past big r) {K : Addr → Int → World → Prop} (hK : K (at0 b) ((posP A x past).2 : Int) w) : nn (some (at0 b)) (fun q => ld (.int .i64) (q.add 2) (K q)) w := nn_some (ld_r (off := 2) h.obj rfl hK)
theorem MvIs.sK (h : MvIs w b p A x count arg goal past big r) {K : Addr → Int → World → Prop} (hK : K (at0 b) (clampP A x past : Int) w) : nn (some (at0 b)) (fun q => ld (.int .i64) (q.add 1) (K q)) w := nn_some (ld_r (off := 1) h.obj rfl hK)
theorem MvIs.kK (h : MvIs w b p A x count arg goal past big r) {K : Addr → Int → World → Prop} (hK : K (at0 b) (kOf count : Int) w) : nn (some (at0 b)) (fun q => ld (.int .i64) (q.add 3) (K q)) w := nn_some (ld_r (off := 3) h.obj rfl hK)
theorem MvIs.argK (h : MvIs w b p A x count arg goal past big r) {K : Addr → Int → World → Prop} (hK : K (at0 b) arg w) : nn (some (at0 b)) (fun q => ld (.int .i64) (q.add 5) (K q)) w := nn_some (ld_r (off := 5) h.obj rfl hK)
theorem MvIs.pastK (h : MvIs w b p A x count arg goal past big r) {K : Addr → Bool → World → Prop} (hK : K (at0 b) past w) : nn (some (at0 b)) (fun q => ld (.bool) (q.add 7) (K q)) w := nn_some (ld_r (off := 7) h.obj rfl hK)
theorem MvIs.bigK (h : MvIs w b p A x count arg goal past big r) {K : Addr → Bool → World → Prop} (hK : K (at0 b) big w) : nn (some (at0 b)) (fun q => ld (.bool) (q.add 8) (K q)) w := nn_some (ld_r (off := 8) h.obj rfl hK)
theorem MvIs.fromK (h : MvIs w b p A x count arg goal past big r) {K : Addr → Int → World → Prop} (hK : K (at0 b) r.1 w) : nn (some (at0 b)) (fun q => ld (.int .i64) (q.add 9) (K q)) w := nn_some (ld_r (off := 9) h.obj rfl hK)
theorem MvIs.numK (h : MvIs w b p A x count arg goal past big r) {K : Addr → Int → World → Prop} (hK : K (at0 b) r.2.2.2.2.1 w) : nn (some (at0 b)) (fun q => ld (.int .i64) ((q.add 9).add 4) (K q)) w := nn_some (ld_r (off := 13) h.obj rfl hK)
theorem mv_cells {o : Array Value} {off : Nat} {r : RwT} (h : (o.toList.drop off).take 7 = Cells.vals c72 r) : ∀ (j : Nat) v, (Cells.vals c72 r)[j]? = some v → o[off + j]? = some v := by
 intro j v hv
 rw [← h, List.getElem?_take] at hv
 split at hv
 ·rw [List.getElem?_drop] at hv
  simpa using hv
 ·cases hv
theorem MvIs.rowK (h : MvIs w b p A x count arg goal past big r) {K : Addr → RwT → World → Prop} (hK : K (at0 b) r w) : nn (some (at0 b)) (fun q => lds c72 (q.add 9) (K q)) w :=
 nn_some (lds_r (off := 9) h.obj (mv_cells (by rfl)) hK)
theorem MvIs.keepRow (h : MvIs w b p A x count arg goal past big r) {K : World → Prop} (hK : K w) : keep (fun w => cellsAt w ((at0 b).add 9) 0 (Cells.vals c72 r)) K w :=
 keep_r (cellsAt_of (off := 9) _ 0 fun j v hv => by rw [Nat.zero_add]; exact cell_of h.obj (mv_cells (r := r) (by rfl) j v hv)) hK
theorem MvIs.keepC (h : MvIs w b p A x count arg goal past big r) {K : World → Prop} (hK : K w) : keep (fun w => w.cell? ((at0 b).add 2) = some (Cell.val (.int .i64) ((posP A x past).2 : Int))) K w := keep_r (cell_of (off := 2) h.obj rfl) hK
theorem MvIs.keepK (h : MvIs w b p A x count arg goal past big r) {K : World → Prop} (hK : K w) : keep (fun w => w.cell? ((at0 b).add 3) = some (Cell.val (.int .i64) (kOf count : Int))) K w := keep_r (cell_of (off := 3) h.obj rfl) hK
theorem MvIs.keepArg (h : MvIs w b p A x count arg goal past big r) {K : World → Prop} (hK : K w) : keep (fun w => w.cell? ((at0 b).add 5) = some (Cell.val (.int .i64) arg)) K w := keep_r (cell_of (off := 5) h.obj rfl) hK
theorem MvIs.keepT (h : MvIs w b p A x count arg goal past big r) {K : World → Prop} (hK : K w) : keep (fun w => w.cell? (at0 b) = some (Cell.val (.ptr) (some (at0 p)))) K w := keep_r (cell_of (off := 0) h.obj rfl) hK
theorem fin_r {W w0 : World} {b1 : Nat} {l : Ld} {K : LdT → World → Prop} (S : St (fun _ => False) w0 W [(b1, ldZ)]) (hK : ∀ w', Ext w0 w' → K (ldT l) w') :
  aggSt (at0 b1) (.agg (Cells.vals c43 (ldT l).1).toArray) 3 (lds c43 (at0 b1) fun y => K (y, (ldT l).2.1, ())) W :=
 S.aggSt 0 rfl rfl rfl rfl fun w1 S1 _ => S1.lds 0 (ldT l).1 rfl (hK w1 S1.upd)
theorem nowhere_call {K : LdT → World → Prop} (hK : ∀ w', Ext w w' → K (ldT (noP 80)) w') : callT Tryz.prog 120 #[] (.tup [(.agg c43), (.one (.int .i64))]) K w := by
 refine F120_calls ?_
 unfold F120
 exact (St.start w).newO fun b1 w1 S1 e1 => S1.aggSt 0 rfl rfl rfl rfl fun w2 S2 _ => S2.lds 0 (ldT (noP 80)).1 rfl (hK w2 S2.upd)
theorem mvat_call (h : MvIs w b p A x count arg goal past big r) {n : Nat} {kind : Int} {K : LdT → World → Prop} (hK : ∀ w', Ext w w' → K (ldT (landP A n kind)) w') :
  callT Tryz.prog 121 #[.pointer (some (at0 b)), .int .i64 (n : Int), .int .i64 kind] (.tup [(.agg c43), (.one (.int .i64))]) K w := by
 refine F121_calls ?_
 unfold F121
 refine (St.start w).newO fun b1 w1 S1 e1 => (h.ext e1).tK (mcolumn_call (h.ext e1).tx fun w2 e2 => ?_)
 exact (S1.ext e2).aggSt 0 rfl rfl rfl rfl fun w3 S3 _ => S3.lds 0 (ldT (landP A n kind)).1 rfl (hK w3 S3.upd)
theorem mvmost_call (h : MvIs w b p A x count arg goal past big r) {K : Int → World → Prop} (hK : ∀ w', Ext w w' → K (mostR A (posP A x past).1 past : Int) w') :
  callT Tryz.prog 122 #[.pointer (some (at0 b))] (.one (.one (.int .i64))) K w := by
 refine F122_calls ?_
 unfold F122
 have fw := h.row.few
 unfold mostR at hK
 refine h.pastK (sif_r (fun hp => ?_) (fun hp => ?_))
 ·refine h.rowK (clus_call h.row fun w1 e1 => ?_)
  have := hK w1 e1
  rw [if_pos hp] at this; exact this
 ·refine h.rowK (clus_call h.row fun w1 e1 => ?_)
  have := hK w1 e1
  rw [if_neg (by rw [hp]; decide)] at this
  rw [wrap64 (by omega) (by omega)]
  have e : (if (0 : Int) > (((rowC A (posP A x past).1).length : Nat) : Int) - 1 then (0 : Int) else (((rowC A (posP A x past).1).length : Nat) : Int) - 1) = (((rowC A (posP A x past).1).length - 1 : Nat) : Int) := by split <;> omega
  rw [e]; exact this
theorem MvIs.bounds (h : MvIs w b p A x count arg goal past big r) : (posP A x past).2 ≤ mostR A (posP A x past).1 past ∧ mostR A (posP A x past).1 past ≤ (rowC A (posP A x past).1).length ∧ (rowC A (posP A x past).1).length ≤ 1048576 ∧ 1 ≤ kOf count ∧ kOf count ≤ 9999 ∧ (posP A x past).1 ≤ brs A ∧ (posP A x past).1 ≤ 1048576 := by
 have h1 := pos_most A x past
 have h2 := h.row.few
 have h3 := h.row.row
 have h4 := brs_le A
 have h5 := h.row.len
 exact ⟨h1.1, h1.2, h2.1, kOf_pos count, kOf_le count, h3, by omega⟩
theorem left_call (h : MvIs w b p A x count arg goal past big r) {a' : Int} {K : LdT → World → Prop} (hK : ∀ w', Ext w w' → K (ldT (charsP A x 1 count a' past)) w') :
  callT Tryz.prog 70 #[.pointer (some (at0 b))] (.tup [(.agg c43), (.one (.int .i64))]) K w := by
 refine F70_calls ?_
 unfold F70
 obtain ⟨m1, m2, m3, m4, m5, m6, m7⟩ := h.bounds
 rw [chars_one] at hK
 refine (St.start w).newO fun b1 w1 S1 e1 => ?_
 have h1 := h.ext e1
 refine h1.cK (sif_r (fun hc => ?_) (fun hc => ?_))
 ·simp only [beq_iff_eq] at hc
  rw [if_pos (by omega)] at hK
  exact nowhere_call fun w2 e2 => fin_r (S1.ext e2) hK
 ·simp only [beq_eq_false_iff_ne, ne_eq] at hc
  rw [if_neg (by omega)] at hK
  refine S1.drew fun w2 S2 e2 _ => ?_
  have h2 := h1.ext e2
  refine h2.rowK (h2.cK (h2.kK ?_))
  rw [wrap64 (by omega) (by omega)]
  refine mplace_call h2.row fun w3 e3 => mvat_call (h2.ext e3) fun w4 e4 => fin_r ((S2.ext e3).ext e4) ?_
  have e : placeR A (posP A x past).1 (((posP A x past).2 : Int) - (kOf count : Int)) = offP A ((posP A x past).1, (posP A x past).2 - kOf count) := by
   unfold offP
   dsimp only
   rcases Nat.le_total (posP A x past).2 (kOf count) with u | u
   ·rw [placeR_neg (by omega), placeR_neg (c := (((posP A x past).2 - kOf count : Nat) : Int)) (by omega)]
   ·congr 1; omega
  rw [e]; exact hK
theorem right_call (h : MvIs w b p A x count arg goal past big r) {a' : Int} {K : LdT → World → Prop} (hK : ∀ w', Ext w w' → K (ldT (charsP A x 2 count a' past)) w') :
  callT Tryz.prog 71 #[.pointer (some (at0 b))] (.tup [(.agg c43), (.one (.int .i64))]) K w := by
 refine F71_calls ?_
 unfold F71
 obtain ⟨m1, m2, m3, m4, m5, m6, m7⟩ := h.bounds
 rw [chars_two] at hK
 refine (St.start w).newO fun b1 w1 S1 e1 => S1.drew fun w2 S2 e2 _ => ?_
 have h2 := (h.ext e1).ext e2
 refine h2.cK (mvmost_call h2 fun w3 e3 => (h2.ext e3).keepC (sif_r (fun hc => ?_) (fun hc => ?_)))
 ·simp only [beq_iff_eq] at hc
  rw [if_pos (by omega)] at hK
  exact nowhere_call fun w4 e4 => fin_r ((S2.ext e3).ext e4) hK
 ·simp only [beq_eq_false_iff_ne, ne_eq] at hc
  rw [if_neg (by omega)] at hK
  refine (S2.ext e3).drew fun w4 S4 e4 _ => ?_
  have h4 := (h2.ext e3).ext e4
  refine h4.rowK (h4.cK (h4.kK (mvmost_call h4 fun w5 e5 => ?_)))
  have h5 := h4.ext e5
  refine h5.keepK (h5.keepC (h5.keepRow ?_))
  rw [wrap64 (by omega) (by omega)]
  have em : (if ((mostR A (posP A x past).1 past : Nat) : Int) < ((posP A x past).2 : Int) + (kOf count : Int) then ((mostR A (posP A x past).1 past : Nat) : Int) else ((posP A x past).2 : Int) + (kOf count : Int)) = ((min ((posP A x past).2 + kOf count) (mostR A (posP A x past).1 past) : Nat) : Int) := by split <;> omega
  rw [em]
  exact mplace_call h5.row fun w6 e6 => mvat_call (h5.ext e6) fun w7 e7 => fin_r (((S4.ext e5).ext e6).ext e7) hK
theorem chars_three (A : List Int) (x count arg : Int) (past : Bool) : charsP A x 3 count arg past = landP A (rowL A (posP A x past).1).from_ 0 := by
 unfold charsP posP
 dsimp only
 rw [clamp_row, if_neg (by decide), if_neg (by decide), if_pos rfl]
theorem chars_four (A : List Int) (x count arg : Int) (past : Bool) : charsP A x 4 count arg past = landP A (placeR A (posP A x past).1 (signR A (posP A x past).1)) 0 := by
 unfold charsP posP
 dsimp only
 rw [clamp_row, if_neg (by decide), if_neg (by decide), if_neg (by decide), if_pos rfl]
theorem chars_six (A : List Int) (x count arg : Int) (past : Bool) : charsP A x 6 count arg past = landP A (placeR A (posP A x past).1 (min ((kOf count : Int) - 1) (mostR A (posP A x past).1 past))) 0 := by
 unfold charsP posP mostR
 dsimp only
 rw [clamp_row, if_neg (by decide), if_neg (by decide), if_neg (by decide), if_neg (by decide), if_neg (by decide), if_pos rfl]
theorem start_call (h : MvIs w b p A x count arg goal past big r) {a' : Int} {K : LdT → World → Prop} (hK : ∀ w', Ext w w' → K (ldT (charsP A x 3 count a' past)) w') :
  callT Tryz.prog 72 #[.pointer (some (at0 b))] (.tup [(.agg c43), (.one (.int .i64))]) K w := by
 refine F72_calls ?_
 unfold F72
 rw [chars_three] at hK
 refine (St.start w).newO fun b1 w1 S1 e1 => (h.ext e1).fromK ?_
 rw [h.row.f]
 exact mvat_call (h.ext e1) fun w2 e2 => fin_r (S1.ext e2) hK
theorem mfst_call (h : MvIs w b p A x count arg goal past big r) {a' : Int} {K : LdT → World → Prop} (hK : ∀ w', Ext w w' → K (ldT (charsP A x 4 count a' past)) w') :
  callT Tryz.prog 73 #[.pointer (some (at0 b))] (.tup [(.agg c43), (.one (.int .i64))]) K w := by
 refine F73_calls ?_
 unfold F73
 rw [chars_four] at hK
 refine (St.start w).newO fun b1 w1 S1 e1 => S1.drew fun w2 S2 e2 _ => ?_
 have h2 := (h.ext e1).ext e2
 refine h2.rowK (h2.rowK (msign_call h2.row fun w3 e3 => ?_))
 have h3 := h2.ext e3
 exact h3.keepRow (mplace_call h3.row fun w4 e4 => mvat_call (h3.ext e4) fun w5 e5 => fin_r (((S2.ext e3).ext e4).ext e5) hK)
theorem bar_call (h : MvIs w b p A x count arg goal past big r) {a' : Int} {K : LdT → World → Prop} (hK : ∀ w', Ext w w' → K (ldT (charsP A x 6 count a' past)) w') :
  callT Tryz.prog 75 #[.pointer (some (at0 b))] (.tup [(.agg c43), (.one (.int .i64))]) K w := by
 refine F75_calls ?_
 unfold F75
 obtain ⟨m1, m2, m3, m4, m5, m6, m7⟩ := h.bounds
 rw [chars_six] at hK
 refine (St.start w).newO fun b1 w1 S1 e1 => S1.drew fun w2 S2 e2 _ => ?_
 have h2 := (h.ext e1).ext e2
 refine h2.rowK (h2.kK (mvmost_call h2 fun w3 e3 => ?_))
 have h3 := h2.ext e3
 refine h3.keepK (h3.keepRow ?_)
 rw [wrap64 (by omega) (by omega)]
 have em : (if ((mostR A (posP A x past).1 past : Nat) : Int) < (kOf count : Int) - 1 then ((mostR A (posP A x past).1 past : Nat) : Int) else (kOf count : Int) - 1) = min ((kOf count : Int) - 1) (mostR A (posP A x past).1 past) := by split <;> omega
 rw [em]
 exact mplace_call h3.row fun w4 e4 => mvat_call (h3.ext e4) fun w5 e5 => fin_r (((S2.ext e3).ext e4).ext e5) hK
end
section
variable {w w' : World} {b p : Nat} {A : List Int} {x count arg goal : Int} {past big : Bool} {r : RwT}
noncomputable def hasA (A : List Int) (i : Nat) (a : Int) (j : Nat) : Bool := decide ((rowC A i)[j]?.map (·.atom) = some a)
theorem seek_up (A : List Int) (i : Nat) (a : Int) (n c k : Nat) : seekL (rowC A i) a (upL n c) k = upF (hasA A i a) (c + 1) n k := rfl
theorem seek_dn (A : List Int) (i : Nat) (a : Int) (c k : Nat) : seekL (rowC A i) a (downL c) k = dnF (hasA A i a) c k := rfl
theorem has_at {i j : Nat} {a : Int} {c : Cel} (hc : (rowC A i)[j]? = some c) : hasA A i a j = decide (c.atom = a) := by
 unfold hasA
 rw [hc]
 simp
theorem mvseek_call (h : MvIs w b p A x count arg goal past big r) {K : Int → World → Prop}
  (hK : ∀ w', Ext w w' → K (match seekL (rowC A (posP A x past).1) arg (upL (rowC A (posP A x past).1).length (posP A x past).2) (kOf count) with | some j => (j : Int) | none => -1) w') :
  callT Tryz.prog 151 #[.pointer (some (at0 b)), .int .i64 1] (.one (.one (.int .i64))) K w := by
 refine F151_calls ?_
 unfold F151
 obtain ⟨m1, m2, m3, m4, m5, m6, m7⟩ := h.bounds
 rw [seek_up] at hK
 generalize hi : (posP A x past).1 = i at *
 generalize hcc : (posP A x past).2 = c at *
 refine h.kK (join_r (fun _ W => upF (hasA A i arg) (c + 1) (rowC A i).length (kOf count) = none ∧ Ext w W) ?_ (fun _ W hW => by have := hK W hW.2; rw [hW.1] at this; exact this))
 refine h.cK ?_
 rw [hcc, wrap64 (by omega) (by omega)]
 refine sloop_r (fun s W => ∃ k j : Nat, s = ((k : Int), (j : Int), ()) ∧ 1 ≤ k ∧ k ≤ 9999 ∧ j ≤ (rowC A i).length + 1 ∧ upF (hasA A i arg) (c + 1) (rowC A i).length (kOf count) = upF (hasA A i arg) j (rowC A i).length k ∧ Ext w W) (fun s _ => ((rowC A i).length + 1 - s.2.1).toNat) ⟨kOf count, c + 1, by simp, m4, m5, by omega, rfl, Ext.refl w⟩ ?_
 rintro _ W ⟨k, j, rfl, k1, k2, hj, hu, eW⟩
 dsimp only
 have hW := h.ext eW
 have hrow := hW.row
 rw [hi] at hrow
 refine join_r (fun y W' => y = (decide (j < (rowC A i).length), ()) ∧ Ext w W') ?_ ?_
 ·refine sif_r (fun _ => hW.rowK (clus_call hrow fun w2 e2 => ⟨tupb ?_, eW.trans e2⟩)) (fun hc => ?_)
  ·simp only [decide_eq_true_eq]; omega
  ·simp only [decide_eq_false_iff_not, ge_iff_le] at hc; omega
 rintro _ W2 ⟨rfl, eW2⟩
 have h2 := h.ext eW2
 refine sif_r (fun hc => ?_) (fun hc => ?_)
 ·simp only [decide_eq_true_eq] at hc
  obtain ⟨cl, hcl⟩ := cel_get hc
  have ew : IntKind.wrap .i64 ((j : Int) + 1) = ((j + 1 : Nat) : Int) := by rw [wrap64 (by omega) (by omega)]; omega
  rw [ew]
  refine join_r (fun y W' => ∃ k' : Nat, y = ((k' : Int), ()) ∧ 1 ≤ k' ∧ k' ≤ 9999 ∧ upF (hasA A i arg) j (rowC A i).length k = upF (hasA A i arg) (j + 1) (rowC A i).length k' ∧ Ext w W') ?_ ?_
  ·refine drew_r fun w3 e3 _ => ?_
   have h3 := h2.ext e3
   have hr3 := h3.row
   rw [hi] at hr3
   refine h3.rowK (h3.argK (mfirst_call hr3 hcl fun w4 e4 => (h3.ext e4).keepArg ?_))
   have e04 := (eW2.trans e3).trans e4
   refine sif_r (fun hg => ?_) (fun hg => ?_)
   ·simp only [bne_iff_ne, ne_eq] at hg
    exact ⟨k, rfl, k1, k2, upF_no hc (by rw [has_at hcl, decide_eq_false hg]), e04⟩
   ·simp only [bne_eq_false_iff_eq] at hg
    have hf : hasA A i arg j = true := by rw [has_at hcl, decide_eq_true hg]
    have ewk : IntKind.wrap .i64 ((k : Int) - 1) = ((k - 1 : Nat) : Int) := by rw [wrap64 (by omega) (by omega)]; omega
    rw [ewk]
    refine sif_r (fun hz => ?_) (fun hz => ?_)
    ·simp only [beq_iff_eq] at hz
     have : k = 1 := by omega
     subst this
     have := hK w4 e04
     rw [hu, upF_one hc hf] at this
     exact this
    ·simp only [beq_eq_false_iff_ne, ne_eq] at hz
     refine ⟨k - 1, rfl, by omega, by omega, ?_, e04⟩
     conv => lhs; rw [show k = (k - 1) + 1 by omega]
     exact upF_more hc hf (by omega)
  rintro _ W3 ⟨k', rfl, k1', k2', hu', eW3⟩
  exact ⟨⟨k', j + 1, rfl, k1', k2', by omega, hu.trans hu', eW3⟩, by omega⟩
 ·simp only [decide_eq_false_iff_not] at hc
  exact ⟨hu.trans (upF_none (by omega)), eW2⟩
theorem seekb_call (h : MvIs w b p A x count arg goal past big r) {K : Int → World → Prop}
  (hK : ∀ w', Ext w w' → K (match seekL (rowC A (posP A x past).1) arg (downL (posP A x past).2) (kOf count) with | some j => (j : Int) | none => -1) w') :
  callT Tryz.prog 151 #[.pointer (some (at0 b)), .int .i64 (-1)] (.one (.one (.int .i64))) K w := by
 refine F151_calls ?_
 unfold F151
 obtain ⟨m1, m2, m3, m4, m5, m6, m7⟩ := h.bounds
 rw [seek_dn] at hK
 generalize hi : (posP A x past).1 = i at *
 generalize hcc : (posP A x past).2 = c at *
 refine h.kK (join_r (fun _ W => dnF (hasA A i arg) c (kOf count) = none ∧ Ext w W) ?_ (fun _ W hW => by have := hK W hW.2; rw [hW.1] at this; exact this))
 refine h.cK ?_
 rw [hcc, wrap64 (by omega) (by omega)]
 refine sloop_r (fun s W => ∃ k j : Nat, s = ((k : Int), (j : Int) - 1, ()) ∧ 1 ≤ k ∧ k ≤ 9999 ∧ j ≤ (rowC A i).length ∧ dnF (hasA A i arg) c (kOf count) = dnF (hasA A i arg) j k ∧ Ext w W) (fun s _ => (s.2.1 + 1).toNat) ⟨kOf count, c, rfl, m4, m5, by omega, rfl, Ext.refl w⟩ ?_
 rintro _ W ⟨k, j, rfl, k1, k2, hj, hu, eW⟩
 dsimp only
 have hW := h.ext eW
 have hrow := hW.row
 rw [hi] at hrow
 refine join_r (fun y W' => y = (decide (0 < j), ()) ∧ Ext w W') ?_ ?_
 ·refine sif_r (fun hc => hW.rowK (clus_call hrow fun w2 e2 => ⟨tupb ?_, eW.trans e2⟩)) (fun hc => ⟨tupb ?_, eW⟩)
  ·simp only [decide_eq_true_eq, ge_iff_le] at hc ⊢; omega
  ·simp only [decide_eq_false_iff_not, ge_iff_le, decide_eq_true_eq, Bool.false_eq_true, false_iff] at hc ⊢; omega
 rintro _ W2 ⟨rfl, eW2⟩
 have h2 := h.ext eW2
 refine sif_r (fun hc => ?_) (fun hc => ?_)
 ·simp only [decide_eq_true_eq] at hc
  obtain ⟨m, rfl⟩ : ∃ m, j = m + 1 := ⟨j - 1, by omega⟩
  have em : ((m + 1 : Nat) : Int) - 1 = (m : Int) := by omega
  rw [em]
  obtain ⟨cl, hcl⟩ := cel_get (C := rowC A i) (j := m) (by omega)
  have ew : IntKind.wrap .i64 ((m : Int) + -1) = (m : Int) - 1 := by rw [wrap64 (by omega) (by omega)]; omega
  rw [ew]
  refine join_r (fun y W' => ∃ k' : Nat, y = ((k' : Int), ()) ∧ 1 ≤ k' ∧ k' ≤ 9999 ∧ dnF (hasA A i arg) (m + 1) k = dnF (hasA A i arg) m k' ∧ Ext w W') ?_ ?_
  ·refine drew_r fun w3 e3 _ => ?_
   have h3 := h2.ext e3
   have hr3 := h3.row
   rw [hi] at hr3
   refine h3.rowK (h3.argK (mfirst_call hr3 hcl fun w4 e4 => (h3.ext e4).keepArg ?_))
   have e04 := (eW2.trans e3).trans e4
   refine sif_r (fun hg => ?_) (fun hg => ?_)
   ·simp only [bne_iff_ne, ne_eq] at hg
    exact ⟨k, rfl, k1, k2, dnF_no (by rw [has_at hcl, decide_eq_false hg]), e04⟩
   ·simp only [bne_eq_false_iff_eq] at hg
    have hf : hasA A i arg m = true := by rw [has_at hcl, decide_eq_true hg]
    have ewk : IntKind.wrap .i64 ((k : Int) - 1) = ((k - 1 : Nat) : Int) := by rw [wrap64 (by omega) (by omega)]; omega
    rw [ewk]
    refine sif_r (fun hz => ?_) (fun hz => ?_)
    ·simp only [beq_iff_eq] at hz
     have : k = 1 := by omega
     subst this
     have := hK w4 e04
     rw [hu, dnF_one hf] at this
     exact this
    ·simp only [beq_eq_false_iff_ne, ne_eq] at hz
     refine ⟨k - 1, rfl, by omega, by omega, ?_, e04⟩
     conv => lhs; rw [show k = (k - 1) + 1 by omega]
     exact dnF_more hf (by omega)
  rintro _ W3 ⟨k', rfl, k1', k2', hu', eW3⟩
  exact ⟨⟨k', m, rfl, k1', k2', by omega, hu.trans hu', eW3⟩, by omega⟩
 ·simp only [decide_eq_false_iff_not] at hc
  have : j = 0 := by omega
  subst this
  exact ⟨hu, eW2⟩
theorem seek_lt {C : List Cel} {a : Int} {n c k j : Nat} (h : seekL C a (upL n c) k = some j) : c + 1 ≤ j ∧ j < n := by
 have := (seekL_mem h).1
 unfold upL at this
 rw [List.mem_range'_1] at this
 omega
theorem seek_dlt {C : List Cel} {a : Int} {c k j : Nat} (h : seekL C a (downL c) k = some j) : j < c := by
 have := (seekL_mem h).1
 unfold downL at this
 rw [List.mem_reverse, List.mem_range] at this
 omega
theorem found_call (h : MvIs w b p A x count arg goal past big r) {be kd : Int} (hb : -1 ≤ be ∧ be ≤ 1) {K : LdT → World → Prop}
  (hK : ∀ w', Ext w w' → K (ldT (match seekL (rowC A (posP A x past).1) arg (upL (rowC A (posP A x past).1).length (posP A x past).2) (kOf count) with | some j => landP A (placeR A (posP A x past).1 ((j : Int) + be)) kd | none => noP 80)) w') :
  callT Tryz.prog 124 #[.pointer (some (at0 b)), .int .i64 1, .int .i64 be, .int .i64 kd] (.tup [(.agg c43), (.one (.int .i64))]) K w := by
 refine F124_calls ?_
 unfold F124
 obtain ⟨m1, m2, m3, m4, m5, m6, m7⟩ := h.bounds
 refine (St.start w).newO fun b1 w1 S1 e1 => mvseek_call (h.ext e1) fun w2 e2 => ?_
 have S2 := S1.ext e2
 have h2 := (h.ext e1).ext e2
 cases hs : seekL (rowC A (posP A x past).1) arg (upL (rowC A (posP A x past).1).length (posP A x past).2) (kOf count) with
 | none =>
  rw [hs] at hK
  refine sif_r (fun _ => ?_) (fun hc => by simp at hc)
  exact nowhere_call fun w4 e4 => fin_r (S2.ext e4) hK
 | some j =>
  rw [hs] at hK
  have hlt := seek_lt hs
  refine sif_r (fun hc => by simp at hc; omega) (fun _ => ?_)
  refine h2.rowK ?_
  dsimp only at hK ⊢
  rw [wrap64 (by omega) (by omega)]
  exact mplace_call h2.row fun w6 e6 => mvat_call (h2.ext e6) fun w7 e7 => fin_r ((S2.ext e6).ext e7) hK
theorem foundb_call (h : MvIs w b p A x count arg goal past big r) {be kd : Int} (hb : -1 ≤ be ∧ be ≤ 1) {K : LdT → World → Prop}
  (hK : ∀ w', Ext w w' → K (ldT (match seekL (rowC A (posP A x past).1) arg (downL (posP A x past).2) (kOf count) with | some j => landP A (placeR A (posP A x past).1 ((j : Int) + be)) kd | none => noP 80)) w') :
  callT Tryz.prog 124 #[.pointer (some (at0 b)), .int .i64 (-1), .int .i64 be, .int .i64 kd] (.tup [(.agg c43), (.one (.int .i64))]) K w := by
 refine F124_calls ?_
 unfold F124
 obtain ⟨m1, m2, m3, m4, m5, m6, m7⟩ := h.bounds
 refine (St.start w).newO fun b1 w1 S1 e1 => seekb_call (h.ext e1) fun w2 e2 => ?_
 have S2 := S1.ext e2
 have h2 := (h.ext e1).ext e2
 cases hs : seekL (rowC A (posP A x past).1) arg (downL (posP A x past).2) (kOf count) with
 | none =>
  rw [hs] at hK
  refine sif_r (fun _ => ?_) (fun hc => by simp at hc)
  exact nowhere_call fun w4 e4 => fin_r (S2.ext e4) hK
 | some j =>
  rw [hs] at hK
  have hlt := seek_dlt hs
  refine sif_r (fun hc => by simp at hc; omega) (fun _ => ?_)
  refine h2.rowK ?_
  dsimp only at hK ⊢
  rw [wrap64 (by omega) (by omega)]
  exact mplace_call h2.row fun w6 e6 => mvat_call (h2.ext e6) fun w7 e7 => fin_r ((S2.ext e6).ext e7) hK
theorem find_call' (h : MvIs w b p A x count arg goal past big r) {K : LdT → World → Prop} (hK : ∀ w', Ext w w' → K (ldT (charsP A x 7 count arg past)) w') :
  callT Tryz.prog 76 #[.pointer (some (at0 b))] (.tup [(.agg c43), (.one (.int .i64))]) K w := by
 refine F76_calls ?_
 unfold F76
 rw [(chars_seek A x count arg past).1] at hK
 refine (St.start w).newO fun b1 w1 S1 e1 => found_call (h.ext e1) (by decide) fun w2 e2 => fin_r (S1.ext e2) fun w' e' => ?_
 have := hK w' e'
 cases hs : seekL (rowC A (posP A x past).1) arg (upL (rowC A (posP A x past).1).length (posP A x past).2) (kOf count) with
 | none => rw [hs] at this; exact this
 | some j => rw [hs] at this; dsimp only at this ⊢; rw [Int.add_zero]; exact this
theorem till_call (h : MvIs w b p A x count arg goal past big r) {K : LdT → World → Prop} (hK : ∀ w', Ext w w' → K (ldT (charsP A x 9 count arg past)) w') :
  callT Tryz.prog 78 #[.pointer (some (at0 b))] (.tup [(.agg c43), (.one (.int .i64))]) K w := by
 refine F78_calls ?_
 unfold F78
 rw [(chars_seek A x count arg past).2.1] at hK
 refine (St.start w).newO fun b1 w1 S1 e1 => found_call (h.ext e1) (by decide) fun w2 e2 => fin_r (S1.ext e2) fun w' e' => ?_
 have := hK w' e'
 cases hs : seekL (rowC A (posP A x past).1) arg (upL (rowC A (posP A x past).1).length (posP A x past).2) (kOf count) with
 | none => rw [hs] at this; exact this
 | some j => rw [hs] at this; exact this
theorem findb_call (h : MvIs w b p A x count arg goal past big r) {K : LdT → World → Prop} (hK : ∀ w', Ext w w' → K (ldT (charsP A x 8 count arg past)) w') :
  callT Tryz.prog 77 #[.pointer (some (at0 b))] (.tup [(.agg c43), (.one (.int .i64))]) K w := by
 refine F77_calls ?_
 unfold F77
 rw [(chars_seek A x count arg past).2.2.1] at hK
 refine (St.start w).newO fun b1 w1 S1 e1 => foundb_call (h.ext e1) (by decide) fun w2 e2 => fin_r (S1.ext e2) fun w' e' => ?_
 have := hK w' e'
 cases hs : seekL (rowC A (posP A x past).1) arg (downL (posP A x past).2) (kOf count) with
 | none => rw [hs] at this; exact this
 | some j => rw [hs] at this; dsimp only at this ⊢; rw [Int.add_zero]; exact this
theorem tillb_call (h : MvIs w b p A x count arg goal past big r) {K : LdT → World → Prop} (hK : ∀ w', Ext w w' → K (ldT (charsP A x 10 count arg past)) w') :
  callT Tryz.prog 79 #[.pointer (some (at0 b))] (.tup [(.agg c43), (.one (.int .i64))]) K w := by
 refine F79_calls ?_
 unfold F79
 rw [(chars_seek A x count arg past).2.2.2] at hK
 refine (St.start w).newO fun b1 w1 S1 e1 => foundb_call (h.ext e1) (by decide) fun w2 e2 => fin_r (S1.ext e2) fun w' e' => ?_
 have := hK w' e'
 cases hs : seekL (rowC A (posP A x past).1) arg (downL (posP A x past).2) (kOf count) with
 | none => rw [hs] at this; exact this
 | some j => rw [hs] at this; exact this
theorem chars_five (A : List Int) (x count arg : Int) (past : Bool) : charsP A x 5 count arg past = ((((placeR A (if (posP A x past).1 < lnN A - 1 ∧ 1 < kOf count then min ((posP A x past).1 + kOf count - 1) (lnN A - 1) else (posP A x past).1) (((rowC A (if (posP A x past).1 < lnN A - 1 ∧ 1 < kOf count then min ((posP A x past).1 + kOf count - 1) (lnN A - 1) else (posP A x past).1)).length : Int) - 1) : Nat) : Int), 1, 100000), 0) := by
 unfold charsP posP
 dsimp only
 rw [clamp_row, if_neg (by decide), if_neg (by decide), if_neg (by decide), if_neg (by decide), if_pos rfl]
theorem end_call (h : MvIs w b p A x count arg goal past big r) {a' : Int} {K : LdT → World → Prop} (hK : ∀ w', Ext w w' → K (ldT (charsP A x 5 count a' past)) w') :
  callT Tryz.prog 74 #[.pointer (some (at0 b))] (.tup [(.agg c43), (.one (.int .i64))]) K w := by
 refine F74_calls ?_
 unfold F74
 obtain ⟨m1, m2, m3, m4, m5, m6, m7⟩ := h.bounds
 have hb := lnN_bounds A; have hA := h.row.len; have hbl := brs_le A
 rw [chars_five] at hK
 refine (St.start w).newO fun b1 w1 S1 e1 => (h.ext e1).rowK (S1.newO fun b4 w2 S2 e2 => S2.aggSt 0 rfl rfl rfl rfl fun w3 S3 u3 => ?_)
 have S3 : St (fun _ => False) w w3 [(b4, rwO r), (b1, ldZ)] := S3
 have h3 := h.ext S3.upd
 have ewl : IntKind.wrap .i64 ((lnN A : Int) - 1) = (lnN A : Int) - 1 := wrap64 (by omega) (by omega)
 refine join_r (fun _ W => ∃ r', St (fun _ => False) w W [(b4, rwO r'), (b1, ldZ)] ∧ RowIs W A (if (posP A x past).1 < lnN A - 1 ∧ 1 < kOf count then min ((posP A x past).1 + kOf count - 1) (lnN A - 1) else (posP A x past).1) r') ?_ ?_
 ·refine h3.tK (h3.tx.count fun w4 e4 => ?_)
  have S4 := S3.ext e4
  have h4 := h3.ext e4
  rw [ewl]
  refine join_r (fun y W => y = (decide ((posP A x past).1 < lnN A - 1 ∧ 1 < kOf count), ()) ∧ w4 = W) ?_ ?_
  ·refine S4.ld (off := 4) 0 rfl (x := r.2.2.2.2.1) rfl ?_
   rw [h.row.num]
   refine sif_r (fun hc => h4.kK ⟨tupb ?_, rfl⟩) (fun hc => ⟨tupb ?_, rfl⟩)
   ·simp only [decide_eq_true_eq, gt_iff_lt] at hc ⊢; omega
   ·simp only [decide_eq_false_iff_not, decide_eq_true_eq, Bool.false_eq_true, false_iff] at hc ⊢; omega
  rintro _ _ ⟨rfl, rfl⟩
  refine sif_r (fun hc => ?_) (fun hc => ?_)
  ·have hc := of_decide_eq_true hc
   rw [if_pos hc]
   refine S4.drew fun w5 S5 e5 _ => ?_
   have h5 := h4.ext e5
   refine h5.tK (S5.ld (off := 4) 0 rfl (x := r.2.2.2.2.1) rfl (h5.kK ?_))
   rw [h.row.num, wrap64 (a := ((posP A x past).1 : Int) + (kOf count : Int)) (by omega) (by omega), wrap64 (by omega) (by omega)]
   have em : (if (lnN A : Int) - 1 < ((posP A x past).1 : Int) + (kOf count : Int) - 1 then (lnN A : Int) - 1 else ((posP A x past).1 : Int) + (kOf count : Int) - 1) = ((min ((posP A x past).1 + kOf count - 1) (lnN A - 1) : Nat) : Int) := by split <;> omega
   rw [em]
   refine nrow_call h5.tx (by omega) fun r' w6 hr' e6 => (S5.ext e6).aggSt 0 rfl rfl rfl rfl fun w7 S7 u7 => ⟨r', S7, hr'.box ((S5.ext e6).at_ 0 rfl) (by decide) u7⟩
  ·rw [if_neg (of_decide_eq_false hc)]
   exact ⟨r, S4, h4.row⟩
 rintro _ W ⟨r', SW, hr'⟩
 generalize (if (posP A x past).1 < lnN A - 1 ∧ 1 < kOf count then min ((posP A x past).1 + kOf count - 1) (lnN A - 1) else (posP A x past).1) = j at *
 have fw := hr'.few
 refine SW.drew fun w5 S5 e5 _ => S5.lds 0 r' rfl (S5.lds 0 r' rfl (clus_call (hr'.ext e5) fun w6 e6 => ?_))
 have S6 := S5.ext e6
 rw [wrap64 (by omega) (by omega)]
 refine S6.keeps 0 (x := r') rfl (mplace_call ((hr'.ext e5).ext e6) fun w7 e7 => (S6.ext e7).aggSt 1 rfl rfl rfl rfl fun w8 S8 _ => ?_)
 exact S8.lds 1 (((placeR A j (((rowC A j).length : Int) - 1) : Nat) : Int), 1, 100000, ()) rfl (hK w8 S8.upd)
end
end Go.Proofs.YtolhlldgnfbemaaGreat
