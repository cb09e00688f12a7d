/- The law holds for every input: it returns true, and each argument reads behind the call as it did. Conditions: those of the form alone. -/
import Derived.Test.YtolhlldgnfbemaaGreatDoorXPa6
set_option linter.unusedVariables false
set_option linter.unusedSimpArgs false
set_option linter.unusedSectionVars false
noncomputable section
set_option maxRecDepth 100000
namespace Go.Proofs.YtolhlldgnfbemaaGreatDoor
open Gly Clu Rgl
namespace Clu
def sN (l : List Int) : Sc := l.foldl (λ s a => s.note (cls a) (cnj a)) Sc.zero
theorem Nh (l : List Int) (a : Int) : sN (l ++ [a]) = (sN l).note (cls a) (cnj a) := by simp [sN]
theorem Cf4 : (([2381, 2509, 2765, 2893, 3149, 3405] : List Int).all λ a => cls a == 4) = true := by kernel_rfl
theorem Cs6 {a : Int} (h : cnj a = 3) : cls a = 4 := by
 rw [Yo] at h
 split at h
 ·rename_i hl
  have := List.all_eq_true.1 Cf4 a (by simp; omega)
  simpa using this
 ·split at h
  ·omega
  ·split at h <;> omega
theorem Cs7 {a : Int} (h : cnj a = 2) : cls a = 4 \/ cls a = 5 := by
 rw [Yo] at h
 split at h
 ·omega
 ·split at h
  ·rename_i hx; exact hx.1
  ·split at h <;> omega
theorem Df4 {a : Int} (h : cnj a = 1) : cls a = 0 := by
 rw [Yo] at h
 split at h
 ·omega
 ·split at h
  ·omega
  ·split at h
   ·rename_i hx; exact (Bj5 hx).2
   ·omega
theorem Bz1 (a : Int) : cnj a <= 3 := by
 rw [Yo]
 split
 ·omega
 ·split
  ·omega
  ·split <;> omega
structure NOk (s : Sc) : Prop where
 fl : 0 < s.flags -> s.last = 6
 pi : 0 < s.pict -> s.last = 14 \/ s.last = 4 \/ s.last = 5
 co : 0 < s.conj -> s.last = 0 \/ s.last = 4 \/ s.last = 5
theorem Bv5 {s : Sc} (a : Int) : NOk (s.note (cls a) (cnj a)) := by
 refine ⟨λ h => ?_, λ h => ?_, λ h => ?_⟩
 ·simp only [Sc.note] at h ⊢
  split at h
  ·assumption
  ·omega
 ·simp only [Sc.note] at h ⊢
  split at h
  ·omega
  ·split at h
   ·omega
   ·split at h <;> omega
 ·simp only [Sc.note] at h ⊢
  split at h
  ·exact .inl (Df4 ‹_›)
  ·split at h
   ·exact .inr (.inl (Cs6 (by omega)))
   ·split at h
    ·exact .inr (Cs7 (by omega))
    ·omega
theorem nok (l : List Int) : NOk (sN l) := by
 rcases List.eq_nil_or_concat l with rfl | ⟨m, a, rfl⟩
 ·exact ⟨λ h => by simp [sN, Sc.zero] at h, λ h => by simp [sN, Sc.zero] at h, λ h => by simp [sN, Sc.zero] at h⟩
 ·rw [List.concat_eq_append, Nh]; exact Bv5 a
structure Alike (s t : Sc) : Prop where
 la : s.last = t.last
 fl : s.flags % 2 = t.flags % 2
 pi : s.pict = t.pict
 co : s.conj = t.conj
theorem Bf7 {s t : Sc} (h : Alike s t) (c p : Nat) : Alike (s.note c p) (t.note c p) := by
 obtain ⟨h1, h2, h3, h4⟩ := h
 refine ⟨rfl, ?_, ?_, ?_⟩
 ·simp only [Sc.note]; split <;> omega
 ·simp only [Sc.note, h3]
 ·simp only [Sc.note, h4]
theorem L9 {s t : Sc} (h : Alike s t) (c p : Nat) : joins s c p = joins t c p := by
 obtain ⟨h1, h2, h3, h4⟩ := h
 unfold joins
 rw [h1, h2, h3, h4]
theorem Bo3 (s : Sc) (c p : Nat) : (s.note c p).conj = (if p = 1 then 1 else if 0 < s.conj /\ p = 3 then 2 else if 0 < s.conj /\ p = 2 then s.conj else 0) := rfl
theorem Ag4 (s : Sc) (c p : Nat) : (s.note c p).pict = (if c = 14 then 1 else if s.pict = 1 /\ c = 5 then 2 else if s.pict = 1 /\ c = 4 then s.pict else 0) := rfl
theorem Bo2 (c p : Nat) : (Sc.zero.note c p).flags = (if c = 6 then 1 else 0) /\ (Sc.zero.note c p).pict = (if c = 14 then 1 else 0) /\ (Sc.zero.note c p).conj = (if p = 1 then 1 else 0) := by simp [Sc.note, Sc.zero]
theorem alike (l : List Int) : Alike (sc l) (sN l) := by
 have key : ∀ n (l : List Int), l.length = n -> Alike (sc l) (sN l) := by
  intro n
  induction n with
  | zero =>
   intro l hl
   obtain rfl := List.length_eq_zero_iff.1 hl
   exact ⟨rfl, rfl, rfl, rfl⟩
  | succ n ih =>
   intro l hl
   rcases List.eq_nil_or_concat l with rfl | ⟨m, a, rfl⟩
   ·simp at hl
   rw [List.concat_eq_append] at hl ⊢
   have ih := ih m (by rw [List.length_append] at hl; simpa using hl)
   rw [Xr, Nh]
   cases hj : joins (sc m) (cls a) (cnj a) with
   | true => rw [Ae7 hj]; exact Bf7 ih _ _
   | false =>
    rw [Bg3 hj, U7]
    have hN := nok m
    rw [L9 ih] at hj
    obtain ⟨n1, n2, n3⟩ := hN
    generalize sN m = t at *
    have c3 := Cs6 (a := a)
    have c2 := Cs7 (a := a)
    have hle := Bz1 a
    generalize cls a = c at *
    generalize cnj a = p at *
    have hap : c = 4 \/ c = 5 -> apart t.last = true := by
     intro hc
     unfold joins at hj
     split at hj
     ·cases hj
     ·split at hj
      ·rename_i hap
       rcases hap with h | h
       ·exact h
       ·simp only [apart, decide_eq_true_eq] at h; omega
      ·rw [if_pos (by omega)] at hj; cases hj
    have hap2 : apart t.last = true -> t.flags = 0 /\ t.pict = 0 /\ t.conj = 0 := by
     intro h
     simp only [apart, decide_eq_true_eq] at h
     refine ⟨?_, ?_, ?_⟩
     ·rcases Nat.eq_zero_or_pos t.flags with q | q
      ·exact q
      ·have := n1 q; omega
     ·rcases Nat.eq_zero_or_pos t.pict with q | q
      ·exact q
      ·have := n2 q; omega
     ·rcases Nat.eq_zero_or_pos t.conj with q | q
      ·exact q
      ·have := n3 q; omega
    obtain ⟨z1, z2, z3⟩ := Bo2 c p
    refine ⟨rfl, ?_, ?_, ?_⟩
    ·rw [z1]
     simp only [Sc.note]
     by_cases hc : c = 6
     ·have : t.flags % 2 = 0 := by
       subst hc
       unfold joins at hj
       split at hj
       ·cases hj
       ·split at hj
        ·rename_i hap'
         rcases hap' with h | h
         ·rw [(hap2 h).1]
         ·simp [apart] at h
        ·split at hj
         ·cases hj
         ·split at hj
          ·cases hj
          ·split at hj
           ·cases hj
           ·simp at hj; omega
      rw [if_pos hc, if_pos hc]; omega
     ·rw [if_neg hc, if_neg hc]
    ·rw [z2]
     simp only [Sc.note]
     by_cases h14 : c = 14
     ·rw [if_pos h14, if_pos h14]
     ·rw [if_neg h14, if_neg h14]
      by_cases hc : c = 4 \/ c = 5
      ·have := (hap2 (hap hc)).2.1
       rw [if_neg (λ q => by have := q.1; omega), if_neg (λ q => by have := q.1; omega)]
      ·rw [if_neg (λ q => by have := q.2; omega), if_neg (λ q => by have := q.2; omega)]
    ·rw [z3]
     simp only [Sc.note]
     by_cases h1 : p = 1
     ·rw [if_pos h1, if_pos h1]
     ·rw [if_neg h1, if_neg h1]
      by_cases hp : p = 3 \/ p = 2
      ·have h45 : c = 4 \/ c = 5 := by
        rcases hp with h | h
        ·exact .inl (c3 h)
        ·exact c2 h
       have := (hap2 (hap h45)).2.2
       rw [if_neg (λ q => by have := q.1; omega), if_neg (λ q => by have := q.1; omega)]
      ·rw [if_neg (λ q => by have := q.2; omega), if_neg (λ q => by have := q.2; omega)]
 exact key _ l rfl
def Tn : List Int -> Nat -> Bool
 | [], _ => false
 | a :: r, n => if cnj a ≠ 3 /\ cnj a ≠ 2 then decide (0 < n) && (cnj a == 1) else Tn r (if cnj a = 3 then n + 1 else n)
def Qs : List Int -> Bool
 | [] => false
 | a :: r => if cls a ≠ 4 then cls a == 14 else Qs r
def Rf : List Int -> Nat
 | [] => 0
 | a :: r => if cls a ≠ 6 then 0 else Rf r + 1
theorem Av4 : ∀ (r : List Int) (n : Nat), Tn r n = ((sN r.reverse).conj == 2 || ((sN r.reverse).conj == 1 && decide (0 < n)))
 | [], n => by simp [Tn, sN, Sc.zero]
 | a :: r, n => by
  rw [List.reverse_cons, Nh, Tn]
  have hle := Bz1 a
  rw [Bo3]
  by_cases h : cnj a ≠ 3 /\ cnj a ≠ 2
  ·rw [if_pos h]
   by_cases h1 : cnj a = 1
   ·rw [h1]; simp
   ·have h0 : cnj a = 0 := by omega
    rw [h0]; simp
  ·rw [if_neg h, Av4 r]
   have c2 : (sN r.reverse).conj <= 2 := by
    have key : ∀ l : List Int, (sN l).conj <= 2 := by
     intro l
     have : ∀ n (l : List Int), l.length = n -> (sN l).conj <= 2 := by
      intro n
      induction n with
      | zero => intro l hl; rw [List.length_eq_zero_iff.1 hl]; simp [sN, Sc.zero]
      | succ n ih =>
       intro l hl
       rcases List.eq_nil_or_concat l with rfl | ⟨m, b, rfl⟩
       ·simp at hl
       rw [List.concat_eq_append] at hl ⊢
       have := ih m (by rw [List.length_append] at hl; simpa using hl)
       rw [Nh]
       simp only [Sc.note]
       split
       ·omega
       ·split
        ·omega
        ·split <;> omega
     exact this _ l rfl
    exact key _
   generalize (sN r.reverse).conj = t at *
   by_cases h3 : cnj a = 3
   ·rw [h3]
    match t, c2 with
    | 0, _ => simp
    | 1, _ => simp
    | 2, _ => simp
   ·have h2 : cnj a = 2 := by omega
    rw [h2]
    match t, c2 with
    | 0, _ => simp
    | 1, _ => simp
    | 2, _ => simp
theorem Ar5 : ∀ (r : List Int), Qs r = ((sN r.reverse).pict == 1)
 | [] => by simp [Qs, sN, Sc.zero]
 | a :: r => by
  rw [List.reverse_cons, Nh, Qs, Ag4]
  by_cases h : cls a ≠ 4
  ·rw [if_pos h]
   by_cases h14 : cls a = 14
   ·rw [h14]; simp
   ·have : (cls a == 14) = false := by rw [beq_eq_false_iff_ne]; exact h14
    rw [this, if_neg h14]
    split
    ·rfl
    ·rw [if_neg (λ q => h q.2)]; rfl
  ·rw [if_neg h, Ar5 r]
   have h4 : cls a = 4 := by omega
   rw [h4, if_neg (by decide), if_neg (by omega)]
   by_cases hp : (sN r.reverse).pict = 1
   ·rw [if_pos ⟨hp, rfl⟩]
   ·rw [if_neg (λ q => hp q.1)]; simp [hp]
theorem Au0 : ∀ (r : List Int), Rf r = (sN r.reverse).flags
 | [] => rfl
 | a :: r => by
  rw [List.reverse_cons, Nh, Rf, Au0 r]
  simp only [Sc.note]
  by_cases h : cls a = 6
  ·rw [if_neg (by omega), if_pos h]
  ·rw [if_pos h, if_neg h]
def Am2 (r : List Int) (l : Nat) (c p : Nat) : Bool :=
 if l = 1 /\ c = 2 then true else if apart l = true \/ apart c = true then false else
  Jj l c || decide (c = 4 \/ c = 5 \/ c = 8 \/ l = 7) || (decide (p = 1) && Tn r 0) || (decide (c = 14 /\ l = 5) && Qs r.tail) || (decide (c = 6) && Rf r % 2 == 1)
theorem Bc5 {b : Int} (r : List Int) (c p : Nat) : joins (sc (r.reverse ++ [b])) c p = Am2 (b :: r) (cls b) c p := by
 have ha := alike (r.reverse ++ [b])
 rw [L9 ha]
 have hl : (sN (r.reverse ++ [b])).last = cls b := by rw [Nh]; rfl
 have hc : Tn (b :: r) 0 = ((sN (r.reverse ++ [b])).conj == 2) := by
  rw [Av4, List.reverse_cons]; simp
 have hf : Rf (b :: r) = (sN (r.reverse ++ [b])).flags := by rw [Au0, List.reverse_cons]
 have hp : (decide (cls b = 5) && Qs r) = ((sN (r.reverse ++ [b])).pict == 2) := by
  rw [Ar5, Nh, Ag4]
  have p2 : (sN r.reverse).pict <= 2 := by
   rcases List.eq_nil_or_concat r.reverse with h | ⟨m, x, h⟩
   ·rw [h]; simp [sN, Sc.zero]
   ·rw [h, List.concat_eq_append, Nh]
    simp only [Sc.note]
    split
    ·omega
    ·split
     ·omega
     ·split <;> omega
  by_cases h5 : cls b = 5
  ·rw [h5]
   by_cases h1 : (sN r.reverse).pict = 1
   ·simp [h1]
   ·simp [h1]
  ·by_cases h14 : cls b = 14
   ·simp [h5, h14]
   ·rw [if_neg h14, if_neg (λ h => h5 h.2)]
    by_cases h4 : (sN r.reverse).pict = 1 /\ cls b = 4
    ·rw [if_pos h4]; simp [h5, h4.1]
    ·rw [if_neg h4]; simp [h5]
 unfold joins Am2
 rw [hl]
 have : (b :: r).tail = r := rfl
 rw [this, hc, hf]
 split
 ·rfl
 ·split
  ·rfl
  ·have e2 : (decide (c = 14 /\ cls b = 5) && Qs r) = (decide (c = 14) && ((sN (r.reverse ++ [b])).pict == 2)) := by
    rw [← hp, ← Bool.and_assoc]
    congr 1
    simp
   rw [e2]
   generalize sN (r.reverse ++ [b]) = t at *
   by_cases g1 : c = 4 \/ c = 5 \/ c = 8 \/ cls b = 7
   ·rw [if_pos g1]; simp [g1]
   ·rw [if_neg g1]
    cases g2 : Jj (cls b) c with
    | true => simp
    | false =>
     simp only [Bool.false_eq_true, if_false, g1, decide_false, Bool.false_or]
     by_cases g3 : p = 1 /\ t.conj = 2
     ·rw [if_pos g3]; simp [g3.1, g3.2]
     ·rw [if_neg g3]
      have e3 : (decide (p = 1) && (t.conj == 2)) = false := by
       rw [Bool.eq_false_iff]; intro q; simp at q; exact g3 q
      rw [e3, Bool.false_or]
      by_cases g4 : c = 14
      ·rw [if_pos g4, g4]; simp
      ·rw [if_neg g4]
       by_cases g5 : c = 6
       ·rw [if_pos g5, g5]; simp
       ·rw [if_neg g5]; simp [g4, g5]
end Clu
end Go.Proofs.YtolhlldgnfbemaaGreatDoor
namespace Go.Proofs.YtolhlldgnfbemaaGreatDoor
open Go Go.Vx Gly Clu Rgl
section
variable {w w' : World}
theorem Ak3 {l r : Nat} {K : Bool -> Wp} (h : K (Jj l r) w) : Aa Tryz.prog 126 #[.int .i64 (l : Int), .int .i64 (r : Int)] rB K w := by
 refine Dr2 ?_
 unfold F126
 have g : ∀ {b : Bool}, (b = true ↔ Jj l r = true) -> K b w := λ {b} hb => by
  have : Jj l r = b := Bool.eq_iff_iff.2 hb.symm
  rw [this] at h; exact h
 have hx : ∀ {n m : Nat}, (((n : Int) == (m : Int)) = true) = (n = m) := by intro n m; simp; omega
 refine Ad (λ x W => x = (decide (l = 9 /\ (r = 9 \/ r = 10 \/ r = 12 \/ r = 13)), ()) /\ w = W) ?_ ?_
 ·refine Ac (λ h1 => Ac (λ h2 => ⟨Az ?_, rfl⟩) λ h2 => Ac (λ h3 => ⟨Az ?_, rfl⟩) λ h3 => Ac (λ h4 => ⟨Az ?_, rfl⟩) λ h4 => ⟨Az ?_, rfl⟩) λ h1 => ⟨Az ?_, rfl⟩
  all_goals simp only [beq_iff_eq, beq_eq_false_iff_ne, ne_eq, decide_eq_true_eq, true_iff, Bool.false_eq_true, false_iff] at *
  all_goals omega
 rintro _ _ ⟨rfl, rfl⟩
 refine Ac (λ h1 => ?_) (λ h1 => ?_)
 ·simp only [decide_eq_true_eq] at h1
  refine g ?_
  unfold Jj
  simp only [decide_eq_true_eq, true_iff]
  exact .inl h1
 simp only [decide_eq_false_iff_not] at h1
 refine Ad (λ x W => x = (decide ((l = 12 \/ l = 10) /\ (r = 10 \/ r = 11)), ()) /\ w = W) ?_ ?_
 ·refine Ac (λ h1 => Ac (λ h2 => ⟨Az ?_, rfl⟩) λ h2 => ⟨Az ?_, rfl⟩) λ h1 => Ac (λ h2 => Ac (λ h3 => ⟨Az ?_, rfl⟩) λ h3 => ⟨Az ?_, rfl⟩) λ h2 => ⟨Az ?_, rfl⟩
  all_goals simp only [beq_iff_eq, beq_eq_false_iff_ne, ne_eq, decide_eq_true_eq, true_iff, Bool.false_eq_true, false_iff] at *
  all_goals omega
 rintro _ _ ⟨rfl, rfl⟩
 refine Ac (λ h2 => ?_) (λ h2 => ?_)
 ·simp only [decide_eq_true_eq] at h2
  refine g ?_
  unfold Jj
  simp only [decide_eq_true_eq, true_iff]
  exact .inr (.inl h2)
 simp only [decide_eq_false_iff_not] at h2
 refine Ac (λ h3 => g ?_) (λ h3 => Ac (λ h4 => g ?_) (λ h4 => g ?_))
 all_goals unfold Jj
 all_goals simp only [beq_iff_eq, beq_eq_false_iff_ne, ne_eq, decide_eq_true_eq, Bool.false_eq_true, false_iff] at *
 all_goals omega
variable {A : List Int} {s : Sl} {t : TypeId}
theorem Xp {A : List Int} {j : Nat} {a : Int} (h : A[j]? = some a) : (A.take (j + 1)).reverse = a :: (A.take j).reverse := by
 rw [List.take_add_one, h]; simp
theorem rdA (hs : Bh w s t 1 (iv A)) {j : Nat} {a : Int} (h : A[j]? = some a) {K : Addr -> Int -> Wp} (hK : ∀ q, K q a w) : ix s.a s.len (j : Int) (λ q => ld (.int .i64) (q.add (scaled (Int.toNat (j : Int)) 1)) (K q)) w :=
 Gl (c := .int .i64) (xs := A) hs (by omega) (by rw [Int.toNat_natCast]; exact h) hK
theorem X8 (hs : Bh w s t 1 (iv A)) (hl : A.length < 2 ^ 40) {k : Nat} {a : Int} (ha : A[k]? = some a) {K : Bool -> Wp} (h : K (decide (cnj a = 1) && Tn (A.take k).reverse 0) w) :
  Aa Tryz.prog 127 #[s.v, .int .i64 (k : Int)] rB K w := by
 refine Dr1 ?_
 unfold F127
 have hk := (List.getElem?_eq_some_iff.1 ha).1
 refine rdA hs ha λ q => X9 (Ac (λ h1 => ?_) (λ h1 => ?_))
 ·simp only [bne_iff_ne, ne_eq] at h1
  rw [decide_eq_false (by omega), Bool.false_and] at h; exact h
 simp only [bne_eq_false_iff_eq] at h1
 rw [decide_eq_true (by omega), Bool.true_and] at h
 have ew : W64 ((k : Int) - 1) = (k : Int) - 1 := wrap64 (by omega) (by omega)
 rw [ew]
 refine Ad (λ _ W => w = W /\ Tn (A.take k).reverse 0 = false) ?_ (λ _ W hW => by obtain ⟨rfl, hf⟩ := hW; rw [hf] at h; exact h)
 refine Ar (λ x W => ∃ n j : Nat, x = ((n : Int), (j : Int) - 1, ()) /\ j <= k /\ n + j <= k /\ w = W /\ Tn (A.take k).reverse 0 = Tn (A.take j).reverse n) (λ x _ => (x.2.1 + 1).toNat) ⟨0, k, rfl, Nat.le_refl _, by omega, rfl, rfl⟩ ?_
 rintro _ _ ⟨n, j, rfl, hj, hnj, rfl, he⟩
 dsimp only
 refine Ac (λ hc => ?_) (λ hc => ?_)
 ·simp only [decide_eq_true_eq, ge_iff_le] at hc
  obtain ⟨i, rfl⟩ : ∃ i, j = i + 1 := ⟨j - 1, by omega⟩
  obtain ⟨b, hb⟩ : ∃ b, A[i]? = some b := ⟨_, List.getElem?_eq_getElem (by omega)⟩
  have e1 : ((i + 1 : Nat) : Int) - 1 = (i : Int) := by omega
  rw [Xp hb, Tn] at he
  rw [e1]
  have ewi : W64 ((i : Int) - 1) = (i : Int) - 1 := wrap64 (by omega) (by omega)
  have ewn : W64 ((n : Int) + 1) = ((n + 1 : Nat) : Int) := by rw [wrap64 (by omega) (by omega)]; omega
  rw [ewi, ewn]
  refine rdA hs hb λ q => X9 ?_
  refine Ad (λ x W => x = (((if cnj b = 3 then n + 1 else n : Nat) : Int), ()) /\ w = W) (Ac (λ h3 => ⟨?_, rfl⟩) (λ h3 => ⟨?_, rfl⟩)) ?_
  ·simp only [beq_iff_eq] at h3
   rw [if_pos (by omega)]
  ·simp only [beq_eq_false_iff_ne, ne_eq] at h3
   rw [if_neg (by omega)]
  rintro _ _ ⟨rfl, rfl⟩
  refine Ad (λ x W => x = (decide (cnj b ≠ 3 /\ cnj b ≠ 2), ()) /\ w = W) (Ac (λ h3 => ⟨Az ?_, rfl⟩) (λ h3 => ⟨Az ?_, rfl⟩)) ?_
  ·simp only [bne_iff_ne, ne_eq, decide_eq_true_eq] at *; omega
  ·simp only [bne_eq_false_iff_eq, ne_eq, decide_eq_true_eq, Bool.false_eq_true, false_iff] at *; omega
  rintro _ _ ⟨rfl, rfl⟩
  refine Ac (λ h3 => ?_) (λ h3 => ?_)
  ·simp only [decide_eq_true_eq] at h3
   rw [if_pos h3] at he
   rw [if_neg h3.1]
   refine Ac (λ h4 => ?_) (λ h4 => ?_)
   ·simp only [decide_eq_true_eq, gt_iff_lt] at h4
    rw [he, decide_eq_true (by omega), Bool.true_and] at h
    have : (((cnj b : Nat) : Int) == (1 : Int)) = (cnj b == 1) := by rw [Bool.eq_iff_iff, beq_iff_eq, beq_iff_eq]; omega
    rw [this]; exact h
   ·simp only [decide_eq_false_iff_not, gt_iff_lt] at h4
    rw [he, decide_eq_false (by omega), Bool.false_and] at h
    exact h
  ·simp only [decide_eq_false_iff_not] at h3
   rw [if_neg h3] at he
   exact ⟨⟨_, i, rfl, by omega, by split <;> omega, rfl, he⟩, by omega⟩
 ·simp only [decide_eq_false_iff_not, ge_iff_le] at hc
  obtain rfl : j = 0 := by omega
  exact ⟨rfl, he⟩
theorem Ak2 (hs : Bh w s t 1 (iv A)) (hl : A.length < 2 ^ 40) {k : Nat} {a b : Int} (ha : A[k + 1]? = some a) (hb : A[k]? = some b) {K : Bool -> Wp} (h : K (decide (cls a = 14 /\ cls b = 5) && Qs (A.take k).reverse) w) :
  Aa Tryz.prog 128 #[s.v, .int .i64 ((k + 1 : Nat) : Int)] rB K w := by
 refine Dr0 ?_
 unfold F128
 have hk := (List.getElem?_eq_some_iff.1 ha).1
 have ew1 : W64 (((k + 1 : Nat) : Int) - 1) = (k : Int) := by rw [wrap64 (by omega) (by omega)]; omega
 have ew2 : W64 (((k + 1 : Nat) : Int) - 2) = (k : Int) - 1 := by rw [wrap64 (by omega) (by omega)]; omega
 rw [ew1, ew2]
 refine Ad (λ x W => x = (decide (¬ (cls a = 14 /\ cls b = 5)), ()) /\ w = W) ?_ ?_
 ·refine rdA hs ha λ q => Gx (Ac (λ h1 => ⟨Az ?_, rfl⟩) (λ h1 => rdA hs hb λ q => Gx ⟨Az ?_, rfl⟩))
  ·simp only [bne_iff_ne, ne_eq, decide_eq_true_eq, true_iff] at *; omega
  ·simp only [bne_eq_false_iff_eq, bne_iff_ne, ne_eq, decide_eq_true_eq] at *; omega
 rintro _ _ ⟨rfl, rfl⟩
 refine Ac (λ h1 => ?_) (λ h1 => ?_)
 ·simp only [decide_eq_true_eq] at h1
  rw [decide_eq_false h1, Bool.false_and] at h; exact h
 simp only [decide_eq_false_iff_not, Decidable.not_not] at h1
 rw [decide_eq_true h1, Bool.true_and] at h
 refine Ad (λ _ W => w = W /\ Qs (A.take k).reverse = false) ?_ (λ _ W hW => by obtain ⟨rfl, hf⟩ := hW; rw [hf] at h; exact h)
 refine Ar (λ x W => ∃ j : Nat, x = ((j : Int) - 1, ()) /\ j <= k /\ w = W /\ Qs (A.take k).reverse = Qs (A.take j).reverse) (λ x _ => (x.1 + 1).toNat) ⟨k, rfl, Nat.le_refl _, rfl, rfl⟩ ?_
 rintro _ _ ⟨j, rfl, hj, rfl, he⟩
 dsimp only
 refine Ac (λ hc => ?_) (λ hc => ?_)
 ·simp only [decide_eq_true_eq, ge_iff_le] at hc
  obtain ⟨i, rfl⟩ : ∃ i, j = i + 1 := ⟨j - 1, by omega⟩
  obtain ⟨c, hcc⟩ : ∃ b, A[i]? = some b := ⟨_, List.getElem?_eq_getElem (by omega)⟩
  have e1 : ((i + 1 : Nat) : Int) - 1 = (i : Int) := by omega
  rw [Xp hcc, Qs] at he
  rw [e1]
  have ewi : W64 ((i : Int) - 1) = (i : Int) - 1 := wrap64 (by omega) (by omega)
  rw [ewi]
  refine rdA hs hcc λ q => Gx (Ac (λ h3 => ?_) (λ h3 => ?_))
  ·simp only [bne_iff_ne, ne_eq] at h3
   rw [if_pos (by omega)] at he
   rw [he] at h
   have : (((cls c : Nat) : Int) == (14 : Int)) = (cls c == 14) := by rw [Bool.eq_iff_iff, beq_iff_eq, beq_iff_eq]; omega
   rw [this]; exact h
  ·simp only [bne_eq_false_iff_eq] at h3
   rw [if_neg (by omega)] at he
   exact ⟨⟨i, rfl, by omega, rfl, he⟩, by omega⟩
 ·simp only [decide_eq_false_iff_not, ge_iff_le] at hc
  obtain rfl : j = 0 := by omega
  exact ⟨rfl, he⟩
theorem Ba4 (hs : Bh w s t 1 (iv A)) (hl : A.length < 2 ^ 40) {k : Nat} {a : Int} (ha : A[k]? = some a) {K : Bool -> Wp} (h : K (decide (cls a = 6) && Rf (A.take k).reverse % 2 == 1) w) :
  Aa Tryz.prog 129 #[s.v, .int .i64 (k : Int)] rB K w := by
 refine Dq9 ?_
 unfold F129
 have hk := (List.getElem?_eq_some_iff.1 ha).1
 refine rdA hs ha λ q => Gx (Ac (λ h1 => ?_) (λ h1 => ?_))
 ·simp only [bne_iff_ne, ne_eq] at h1
  rw [decide_eq_false (by omega), Bool.false_and] at h; exact h
 simp only [bne_eq_false_iff_eq] at h1
 rw [decide_eq_true (by omega), Bool.true_and] at h
 have ew : W64 ((k : Int) - 1) = (k : Int) - 1 := wrap64 (by omega) (by omega)
 rw [ew]
 refine Ad (λ x W => x = (((Rf (A.take k).reverse : Nat) : Int), ()) /\ w = W) ?_ ?_
 ·refine Ar (λ x W => ∃ n j : Nat, x = ((n : Int), (j : Int) - 1, ()) /\ j <= k /\ n + j <= k /\ w = W /\ Rf (A.take k).reverse = n + Rf (A.take j).reverse) (λ x _ => (x.2.1 + 1).toNat) ⟨0, k, rfl, Nat.le_refl _, by omega, rfl, by omega⟩ ?_
  rintro _ _ ⟨n, j, rfl, hj, hnj, rfl, he⟩
  dsimp only
  refine Ac (λ hc => ?_) (λ hc => ?_)
  ·simp only [decide_eq_true_eq, ge_iff_le] at hc
   obtain ⟨i, rfl⟩ : ∃ i, j = i + 1 := ⟨j - 1, by omega⟩
   obtain ⟨c, hcc⟩ : ∃ b, A[i]? = some b := ⟨_, List.getElem?_eq_getElem (by omega)⟩
   have e1 : ((i + 1 : Nat) : Int) - 1 = (i : Int) := by omega
   rw [Xp hcc, Rf] at he
   rw [e1]
   have ewi : W64 ((i : Int) - 1) = (i : Int) - 1 := wrap64 (by omega) (by omega)
   have ewn : W64 ((n : Int) + 1) = ((n + 1 : Nat) : Int) := by rw [wrap64 (by omega) (by omega)]; omega
   rw [ewi, ewn]
   refine rdA hs hcc λ q => Gx (Ac (λ h3 => ⟨?_, rfl⟩) (λ h3 => ?_))
   ·simp only [bne_iff_ne, ne_eq] at h3
    rw [if_pos (by omega)] at he
    rw [he, Nat.add_zero]
   ·simp only [bne_eq_false_iff_eq] at h3
    rw [if_neg (by omega)] at he
    exact ⟨⟨n + 1, i, rfl, by omega, by omega, rfl, by omega⟩, by omega⟩
  ·simp only [decide_eq_false_iff_not, ge_iff_le] at hc
   obtain rfl : j = 0 := by omega
   refine ⟨?_, rfl⟩
   rw [he]; rfl
 rintro _ _ ⟨rfl, rfl⟩
 refine Bq (by decide) ?_
 rw [Int.tmod_eq_emod_of_nonneg (by omega)]
 have : ((((Rf (A.take k).reverse : Nat) : Int) % 2) == (1 : Int)) = (Rf (A.take k).reverse % 2 == 1) := by rw [Bool.eq_iff_iff, beq_iff_eq, beq_iff_eq]; omega
 rw [this]; exact h
theorem Ad5 (hs : Bh w s t 1 (iv A)) (hl : A.length < 2 ^ 40) {k : Nat} (hk : k <= A.length) {K : Bool -> Wp} (h : K (bk A k) w) :
  Aa Tryz.prog 75 #[s.v, .int .i64 (k : Int)] rB K w := by
 refine A75 ?_
 unfold F75
 have hlen : A.length = s.len := by have := hs.len1; rwa [List.length_map] at this
 refine Ad (λ x W => x = (false, ()) /\ w = W) (Ac (λ hc => ?_) (λ hc => ⟨Az ?_, rfl⟩)) ?_
 ·simp only [decide_eq_true_eq] at hc; omega
 ·simp only [decide_eq_true_eq, gt_iff_lt, Bool.false_eq_true, iff_false]; omega
 rintro _ _ ⟨rfl, rfl⟩
 refine Am ?_
 refine Ad (λ x W => x = (decide (k = 0 \/ k = A.length), ()) /\ w = W) (Ac (λ hc => ⟨Az ?_, rfl⟩) (λ hc => ⟨Az ?_, rfl⟩)) ?_
 ·simp only [beq_iff_eq, decide_eq_true_eq, true_iff] at *; omega
 ·simp only [beq_eq_false_iff_ne, ne_eq, beq_iff_eq, decide_eq_true_eq] at *; omega
 rintro _ _ ⟨rfl, rfl⟩
 refine Ac (λ hc => ?_) (λ hc => ?_)
 ·simp only [decide_eq_true_eq] at hc
  have : bk A k = true := by
   rcases hc with rfl | rfl
   ·exact Yy A
   ·exact Ao2 A
  rw [this] at h; exact h
 simp only [decide_eq_false_iff_not, not_or] at hc
 obtain ⟨j, rfl⟩ : ∃ j, k = j + 1 := ⟨k - 1, by omega⟩
 have ha : A[j + 1]? = some A[j + 1] := List.getElem?_eq_getElem (by omega)
 have hb : A[j]? = some A[j] := List.getElem?_eq_getElem (by omega)
 generalize A[j + 1] = a at *
 generalize A[j] = b at *
 have hbk : bk A (j + 1) = !Am2 (b :: (A.take j).reverse) (cls b) (cls a) (cnj a) := by
  rw [Bk4 ha (by omega), List.take_add_one, hb]
  have := Bc5 (b := b) (A.take j).reverse (cls a) (cnj a)
  rw [List.reverse_reverse] at this
  show (!joins (sc (A.take j ++ [b])) _ _) = _
  rw [this]
 rw [hbk] at h
 have ew1 : W64 (((j + 1 : Nat) : Int) - 1) = (j : Int) := by rw [wrap64 (by omega) (by omega)]; omega
 rw [ew1]
 refine rdA hs hb λ q => Gx (rdA hs ha λ q => Gx ?_)
 unfold Am2 at h
 refine Ad (λ x W => x = (decide (cls b = 1 /\ cls a = 2), ()) /\ w = W) (Ac (λ h1 => ⟨Az ?_, rfl⟩) (λ h1 => ⟨Az ?_, rfl⟩)) ?_
 ·simp only [beq_iff_eq, decide_eq_true_eq] at *; omega
 ·simp only [beq_eq_false_iff_ne, ne_eq, decide_eq_true_eq, Bool.false_eq_true, false_iff] at *; omega
 rintro _ _ ⟨rfl, rfl⟩
 refine Ac (λ h1 => ?_) (λ h1 => ?_)
 ·simp only [decide_eq_true_eq] at h1
  rw [if_pos h1] at h; exact h
 simp only [decide_eq_false_iff_not] at h1
 rw [if_neg h1] at h
 refine Ad (λ x W => x = (decide (apart (cls b) = true \/ apart (cls a) = true), ()) /\ w = W) ?_ ?_
 ·refine Ac (λ g1 => ⟨Az ?_, rfl⟩) λ g1 => Ac (λ g2 => ⟨Az ?_, rfl⟩) λ g2 => Ac (λ g3 => ⟨Az ?_, rfl⟩) λ g3 => Ac (λ g4 => ⟨Az ?_, rfl⟩) λ g4 => Ac (λ g5 => ⟨Az ?_, rfl⟩) λ g5 => ⟨Az ?_, rfl⟩
  all_goals unfold apart
  all_goals simp only [beq_iff_eq, beq_eq_false_iff_ne, ne_eq, decide_eq_true_eq, true_iff] at *
  all_goals omega
 rintro _ _ ⟨rfl, rfl⟩
 refine Ac (λ h2 => ?_) (λ h2 => ?_)
 ·simp only [decide_eq_true_eq] at h2
  rw [if_pos h2] at h; exact h
 simp only [decide_eq_false_iff_not] at h2
 rw [if_neg h2] at h
 refine Ak3 ?_
 refine Ad (λ x W => x = ((Jj (cls b) (cls a) || decide (cls a = 4 \/ cls a = 5 \/ cls a = 8 \/ cls b = 7)), ()) /\ w = W) ?_ ?_
 ·refine Ac (λ g1 => ⟨Az ?_, rfl⟩) λ g1 => Ac (λ g2 => ⟨Az ?_, rfl⟩) λ g2 => Ac (λ g3 => ⟨Az ?_, rfl⟩) λ g3 => Ac (λ g4 => ⟨Az ?_, rfl⟩) λ g4 => ⟨Az ?_, rfl⟩
  all_goals simp only [g1, Bool.true_or, Bool.false_or, beq_iff_eq, beq_eq_false_iff_ne, ne_eq, decide_eq_true_eq, true_iff] at *
  all_goals omega
 rintro _ _ ⟨rfl, rfl⟩
 refine Ac (λ h3 => ?_) (λ h3 => ?_)
 ·have h3 : (Jj (cls b) (cls a) || decide (cls a = 4 \/ cls a = 5 \/ cls a = 8 \/ cls b = 7)) = true := h3
  rw [h3, Bool.true_or, Bool.true_or, Bool.true_or] at h; exact h
 have h3 : (Jj (cls b) (cls a) || decide (cls a = 4 \/ cls a = 5 \/ cls a = 8 \/ cls b = 7)) = false := h3
 rw [h3, Bool.false_or] at h
 refine X8 hs hl ha (Ak2 hs hl ha hb (Ba4 hs hl ha ?_))
 rw [Xp hb]
 have ht : (b :: (A.take j).reverse).tail = (A.take j).reverse := rfl
 rw [ht] at h
 generalize (decide (cnj a = 1) && Tn (b :: (A.take j).reverse) 0) = x at *
 generalize (decide (cls a = 14 /\ cls b = 5) && Qs (A.take j).reverse) = y at *
 generalize (decide (cls a = 6) && Rf (b :: (A.take j).reverse) % 2 == 1) = z at *
 cases x
 ·cases y
  ·refine Ac (λ _ => Ac (λ _ => ?_) (λ q => by cases q)) (λ q => by cases q)
   exact h
  ·exact Bo (Am h)
 ·exact Am h
end
end Go.Proofs.YtolhlldgnfbemaaGreatDoor
namespace Go.Proofs.YtolhlldgnfbemaaGreatDoor
open Go Go.Vx Gly Clu Rgl Lns Trx Obx
section
variable {w w' : World} {A : List Int} {s : Sl} {t : TypeId}
theorem Al0 (hs : Bh w s t 1 (iv A)) (hl : A.length < 2 ^ 40) {K : Sl -> Wp} (hK : ∀ s' w', Ap w' w.heap.size s' 3 1 (nv (cuts A)) -> Ext w w' -> K s' w') :
  Aa Tryz.prog 32 #[s.v] rS K w := by
 refine A32 ?_
 unfold F32
 have hlen : A.length = s.len := by have := hs.len1; rwa [List.length_map] at this
 have nvi : ∀ l : List Nat, nv l = iv (l.map λ (n : Nat) => (n : Int)) := λ l => by show l.map _ = (l.map _).map _; rw [List.map_map]; rfl
 have full : (List.range (A.length + 1)).filter (bk A) = cuts A := rfl
 refine Ad (λ x W => Ap W w.heap.size x.1 3 1 (nv (cuts A)) /\ Ext w W) ?_ (λ x W h => hK _ _ h.1 h.2)
 refine Ar (λ x W => ∃ i : Nat, i <= A.length + 1 /\ x.2 = ((i : Int), ()) /\ Ap W w.heap.size x.1 3 1 (nv ((List.range i).filter (bk A))) /\ Ext w W) (λ x _ => ((A.length : Int) + 1 - x.2.1).toNat) ⟨0, Nat.zero_le _, rfl, Ap.nil _ _ _ _, Ext.refl w⟩ ?_
 rintro ⟨r, _⟩ W ⟨i, hi, rfl, hr, eW⟩
 dsimp only at hr ⊢
 refine Ac (λ hc => ?_) (λ hc => ?_)
 ·simp only [decide_eq_true_eq] at hc
  have ew : W64 ((i : Int) + 1) = ((i + 1 : Nat) : Int) := by rw [wrap64 (by omega) (by omega)]; omega
  rw [ew]
  have fl : ((List.range i).filter (bk A)).length <= i := by have := List.length_filter_le (bk A) (List.range i); rwa [List.length_range] at this
  refine Ad (λ x W' => Ap W' w.heap.size x.1 3 1 (nv ((List.range (i + 1)).filter (bk A))) /\ Ext w W') ?_ (λ x W' h => ⟨⟨i + 1, by omega, rfl, h.1, h.2⟩, by omega⟩)
  refine Ad5 (hs.ext eW) hl (by omega) ?_
  rw [List.range_succ, List.filter_append]
  refine Ac (λ hb => ?_) (λ hb => ?_)
  ·rw [List.filter_cons_of_pos hb]
   rw [nvi] at hr
   refine Cm λ b8 w4 e4 n4 hb4 _ => push (hr.ext e4) n4 (by rw [List.length_map]; omega) (by have := eW.size; have := e4.size; omega) λ r' w5 o5 u5 => ?_
   refine ⟨?_, (eW.trans e4).step u5 λ k hk => hr.Ew hk⟩
   rw [nvi, List.map_append]
   exact o5
  ·rw [List.filter_cons_of_neg (by rw [hb]; decide)]
   rw [show ([] : List Nat).filter (bk A) = [] from rfl, List.append_nil]
   exact ⟨hr, eW⟩
 ·simp only [decide_eq_false_iff_not] at hc
  have : i = A.length + 1 := by omega
  subst this
  rw [full] at hr
  exact ⟨hr, eW⟩
def lnF (A : List Int) : List Ln := (List.range (brs A + 1)).map λ i => (Ky A i).getD ⟨0, 0, 0, 0⟩
theorem Bi3 (A : List Int) : (lnF A).length = brs A + 1 := by unfold lnF; simp
theorem Bw4 {A : List Int} {i : Nat} {l : Ln} (h : Ky A i = some l) : (lnF A)[i]? = some l := by
 have := (Qx h).1
 unfold lnF
 rw [List.getElem?_map, List.getElem?_range (by omega), Option.map_some, h]; rfl
abbrev lnR (l : Ln) : Cells.T c71 := ((l.from_ : Int), (l.to_ : Int), (l.next : Int), (l.kind : Int), ())
theorem eR6 : Hu Tryz.prog 60 71 4 32 := Hu.of (z := .agg #[.int .i64 0, .int .i64 0, .int .i64 0, .int .i64 0]) C60 C71 rfl rfl rfl (by decide)
theorem Cm5 (l : Ln) : ∀ v ∈ flat c71 [lnR l], Ez v = true := by
 intro v hv
 rw [Yj] at hv
 have h : v ∈ [_, _, _, _] := hv
 simp only [List.mem_cons, List.not_mem_nil, or_false] at h
 rcases h with rfl | rfl | rfl | rfl <;> rfl
theorem Bh1 {r : Sl} {L : List Ln} {l : Ln} {b N : Nat} {K : Sl -> Wp} (hr : Ap w N r 71 4 (flat c71 (L.map lnR))) (hb : w.heap[b]? = some (.cells #[.int .i64 (l.from_ : Int), .int .i64 (l.to_ : Int), .int .i64 (l.next : Int), .int .i64 (l.kind : Int)] 71 (0, 0))) (hl : L.length < 2 ^ 40) (hN : N <= w.heap.size)
  (hK : ∀ r' w', Ap w' N r' 71 4 (flat c71 ((L ++ [l]).map lnR)) -> r'.len = L.length + 1 -> Upd r.blk w w' -> K r' w') :
  Dz Tryz.prog (.one (.one .sl)) (Builtin.append_ #[60, 60] 60 #[.slice r.a r.len r.cap, .slice (some (at0 b)) 1 1]) K w := by
 have hrl := Ap.Jt (cs := c71) hr (by decide)
 rw [List.length_map] at hrl
 have hbox : SlX w ⟨some (at0 b), 1, 1⟩ 4 (flat c71 [lnR l]) := (Bh.Iw hb (n := 1) (sz := 4) rfl).x
 refine Ej eR6 eR6.ts_ (x := ⟨some (at0 b), 1, 1⟩) hr hbox (Cm5 l) (by
  show (r.len + 1 + (r.len + 1) / 4 + 512) * 32 <= 2 ^ 48
  omega) hN λ r' w' o l' u k => hK r' w' ?_ (by rw [l', hrl]) u
 rw [List.map_append, Js]; exact o
set_option maxHeartbeats 1000000 in
theorem Bm9 (hs : Bh w s t 1 (iv A)) (hl : A.length < 2 ^ 39) {K : Sl × Int × Unit -> Wp} (hK : ∀ s' w', Ap w' w.heap.size s' 71 4 (flat c71 ((lnF A).map lnR)) -> Ext w w' -> K (s', ((lnN A : Nat) : Int), ()) w') :
  Aa Tryz.prog 31 #[s.v] (.tup [(.one .sl), (.one (.int .i64))]) K w := by
 refine A31 ?_
 unfold F31
 have hlen : A.length = s.len := by have := hs.len1; rwa [List.length_map] at this
 have hbr : brs A <= A.length := by rw [Jm]; exact As1 _ _
 have hF := Bi3 A
 have grow : ∀ {i m : Nat} {l : Ln}, i = m -> Ky A i = some l -> (lnF A).take (m + 1) = (lnF A).take m ++ [l] := λ {i m l} e h => by
  subst e; rw [List.take_add_one, Bw4 h]; rfl
 refine Ad (λ x W => ∃ f : Nat, Ap W w.heap.size x.1 71 4 (flat c71 (((lnF A).take (brs A)).map lnR)) /\ x.2 = ((f : Int), ()) /\ sk A (brs A) = some f /\ Ext w W) ?_ ?_
 ·refine Ar (λ x W => ∃ i f : Nat, i <= A.length /\ x.2 = ((f : Int), (i : Int), ()) /\ sk A (nb A i) = some f /\ f <= i /\ (f < i -> A[i]? = some 10 -> A[i - 1]? ≠ some 13) /\ Ap W w.heap.size x.1 71 4 (flat c71 (((lnF A).take (nb A i)).map lnR)) /\ Ext w W) (λ x _ => ((A.length : Int) - x.2.2.1).toNat) ⟨0, 0, Nat.zero_le _, rfl, by rw [Le, Aj9], Nat.le_refl _, (λ h => by omega), by rw [Le]; exact Ap.nil _ _ _ _, Ext.refl w⟩ ?_
  rintro ⟨r, _⟩ W ⟨i, f, hi, rfl, hsk, hfi, hmid, hr, eW⟩
  dsimp only at hr ⊢
  have hnb : nb A i <= brs A := by rw [Jm]; exact Jv A _ _ hi
  have tkl : ((lnF A).take (nb A i)).length < 2 ^ 40 := by rw [List.length_take]; omega
  refine Ac (λ hc => ?_) (λ hc => ?_)
  ·simp only [decide_eq_true_eq] at hc
   have hil : i < A.length := by omega
   obtain ⟨v, hv⟩ : ∃ v, A[i]? = some v := ⟨_, List.getElem?_eq_getElem hil⟩
   have hsW := hs.ext eW
   have ew1 : W64 ((i : Int) + 1) = ((i + 1 : Nat) : Int) := by rw [wrap64 (by omega) (by omega)]; omega
   have ew2 : W64 ((i : Int) + 2) = ((i + 2 : Nat) : Int) := by rw [wrap64 (by omega) (by omega)]; omega
   have ewk : ∀ k : Nat, k <= A.length -> W64 ((k : Int) + 1) = ((k + 1 : Nat) : Int) := λ k hk => by rw [wrap64 (by omega) (by omega)]; omega
   rw [ew1, ew2]
   refine Ad (λ x W' => ∃ j f : Nat, i <= j /\ j < A.length /\ x.2 = ((f : Int), (j : Int), ()) /\ sk A (nb A (j + 1)) = some f /\ f <= j + 1 /\ (f < j + 1 -> A[j + 1]? = some 10 -> A[j]? ≠ some 13) /\ Ap W' w.heap.size x.1 71 4 (flat c71 (((lnF A).take (nb A (j + 1))).map lnR)) /\ Ext w W') ?_ ?_
   ·refine rdA hsW hv λ q => Ac (λ h10 => ?_) (λ h10 => ?_)
    ·simp only [beq_iff_eq] at h10
     subst h10
     obtain ⟨g1, g2⟩ := Az1 ((Iq hv).2 (.inl rfl))
     have hln : Ky A (nb A i) = some ⟨f, i, i + 1, 1⟩ := by
      unfold Ky
      rw [hsk, g1]
      simp only [lnC, Nat.add_sub_cancel, hv, Option.some.injEq]
      rw [if_neg (by decide)]
      rw [if_neg (λ h => hmid (by omega) hv (by have := h.2; rwa [show i + 1 - 2 = i - 1 by omega] at this))]
     refine Cm λ b9 w4 e4 n4 hb4 _ => Bh1 (l := ⟨f, i, i + 1, 1⟩) (hr.ext e4) n4 tkl (by have := eW.size; have := e4.size; omega) λ r' w5 o5 _ u5 => ?_
     rw [← grow rfl hln] at o5
     refine ⟨i, i + 1, Nat.le_refl _, hil, rfl, by rw [g2]; exact g1, Nat.le_refl _, (λ h => by omega), by rw [g2]; exact o5, (eW.trans e4).step u5 λ k hk => hr.Ew hk⟩
    ·simp only [beq_eq_false_iff_ne, ne_eq] at h10
     refine Ad (λ x W' => x = (decide (v = 13 /\ A[i + 1]? = some 10), ()) /\ W = W') ?_ ?_
     ·refine rdA hsW hv λ q => Ac (λ h13 => ?_) (λ h13 => ⟨Az ?_, rfl⟩)
      ·simp only [beq_iff_eq] at h13
       refine Ac (λ hlt => ?_) (λ hlt => ⟨Az ?_, rfl⟩)
       ·simp only [decide_eq_true_eq] at hlt
        obtain ⟨u, hu⟩ : ∃ u, A[i + 1]? = some u := ⟨_, List.getElem?_eq_getElem (by omega)⟩
        refine rdA hsW hu λ q => ⟨Az ?_, rfl⟩
        rw [hu]
        simp [h13]
       ·simp only [decide_eq_false_iff_not] at hlt
        rw [List.getElem?_eq_none (by omega)]; simp
      ·simp only [beq_eq_false_iff_ne, ne_eq] at h13
       simp [h13]
     rintro _ _ ⟨rfl, rfl⟩
     refine Ac (λ hcl => ?_) (λ hcl => ?_)
     ·simp only [decide_eq_true_eq] at hcl
      obtain ⟨rfl, hu⟩ := hcl
      have hil2 := (List.getElem?_eq_some_iff.1 hu).1
      have hno : isb A i = false := by
       cases hb : isb A i with
       | false => rfl
       | true =>
        rcases (Iq hv).1 hb with h | h
        ·exact absurd h h10
        ·exact absurd hu h.2
      have hn1 : nb A (i + 1) = nb A i := by rw [Pg, hno]; simp
      obtain ⟨g1, g2⟩ := Az1 ((Iq hu).2 (.inl rfl))
      rw [hn1] at g1 g2
      have hln : Ky A (nb A i) = some ⟨f, i, i + 2, 2⟩ := by
       unfold Ky
       rw [hsk, g1]
       simp only [lnC, Option.some.injEq]
       rw [show i + 1 + 1 - 1 = i + 1 by omega, hu, if_neg (by decide), show i + 1 + 1 - 2 = i by omega, if_pos ⟨by omega, hv⟩]
      refine Cm λ b9 w4 e4 n4 hb4 _ => Bh1 (l := ⟨f, i, i + 2, 2⟩) (hr.ext e4) n4 tkl (by have := eW.size; have := e4.size; omega) λ r' w5 o5 _ u5 => ?_
      rw [← grow rfl hln] at o5
      refine ⟨i + 1, i + 2, by omega, hil2, rfl, by rw [g2]; exact g1, Nat.le_refl _, (λ h => by omega), by rw [g2]; exact o5, (eW.trans e4).step u5 λ k hk => hr.Ew hk⟩
     ·simp only [decide_eq_false_iff_not] at hcl
      refine rdA hsW hv λ q => Ac (λ h13 => ?_) (λ h13 => ?_)
      ·simp only [beq_iff_eq] at h13
       subst h13
       have hu : A[i + 1]? ≠ some 10 := λ h => hcl ⟨rfl, h⟩
       obtain ⟨g1, g2⟩ := Az1 ((Iq hv).2 (.inr ⟨rfl, hu⟩))
       have hln : Ky A (nb A i) = some ⟨f, i, i + 1, 3⟩ := by
        unfold Ky
        rw [hsk, g1]
        simp only [lnC, Nat.add_sub_cancel, hv, Option.some.injEq]
        rw [if_pos trivial]
       refine Cm λ b9 w4 e4 n4 hb4 _ => Bh1 (l := ⟨f, i, i + 1, 3⟩) (hr.ext e4) n4 tkl (by have := eW.size; have := e4.size; omega) λ r' w5 o5 _ u5 => ?_
       rw [← grow rfl hln] at o5
       refine ⟨i, i + 1, Nat.le_refl _, hil, rfl, by rw [g2]; exact g1, Nat.le_refl _, (λ h => by omega), by rw [g2]; exact o5, (eW.trans e4).step u5 λ k hk => hr.Ew hk⟩
      ·simp only [beq_eq_false_iff_ne, ne_eq] at h13
       have hno : isb A i = false := by
        cases hb : isb A i with
        | false => rfl
        | true =>
         rcases (Iq hv).1 hb with h | h
         ·exact absurd h h10
         ·exact absurd h.1 h13
       have hn1 : nb A (i + 1) = nb A i := by rw [Pg, hno]; simp
       refine ⟨i, f, Nat.le_refl _, hil, rfl, by rw [hn1]; exact hsk, by omega, (λ _ _ h => by rw [hv] at h; cases h; exact h13 rfl), by rw [hn1]; exact hr, eW⟩
   ·rintro ⟨r', _⟩ W' ⟨j, f', hij, hjl, rfl, g1, g2, g3, g4, g5⟩
    dsimp only at g4 ⊢
    rw [ewk j (by omega)]
    exact ⟨⟨j + 1, f', by omega, rfl, g1, g2, (by rw [Nat.add_sub_cancel]; exact g3), g4, g5⟩, by omega⟩
  ·simp only [decide_eq_false_iff_not] at hc
   obtain rfl : i = A.length := by omega
   rw [← Jm] at hsk hr
   exact ⟨f, hr, rfl, hsk, eW⟩
 ·rintro ⟨r, _⟩ W ⟨f, hr, rfl, hsk, eW⟩
  dsimp only at hr ⊢
  have hrl := Ap.Jt (cs := c71) hr (by decide)
  rw [List.length_map, List.length_take] at hrl
  have hfl := (Ny hsk).2.1
  have hln : Ky A (brs A) = some ⟨f, A.length, A.length, 0⟩ := by
   unfold Ky
   rw [hsk, Ve A _ (by omega)]
  rw [← hlen]
  refine Cm λ b23 w4 e4 n4 hb4 _ => Bh1 (l := ⟨f, A.length, A.length, 0⟩) (hr.ext e4) n4 (by rw [List.length_take]; omega) (by have := eW.size; have := e4.size; omega) λ r' w5 o5 l5 u5 => ?_
  rw [← grow rfl hln, List.take_of_length_le (by omega)] at o5
  rw [List.length_take] at l5
  have x5 : Ext w w5 := (eW.trans e4).step u5 λ k hk => hr.Ew hk
  have hN : lnN A = if A.length = 0 \/ f < A.length then brs A + 1 else brs A := by
   unfold lnN ended
   rw [hsk]
   by_cases h0 : A.length = 0 \/ f < A.length
   ·rw [if_pos h0]
    have : (decide (0 < A.length) && (some f == some A.length)) = false := by
     rw [Bool.eq_false_iff]; intro h; simp at h; omega
    rw [this]; simp
   ·rw [if_neg h0]
    have : (decide (0 < A.length) && (some f == some A.length)) = true := by simp; omega
    rw [this]; simp
  refine Ad (λ x W' => x = (((lnN A : Nat) : Int), ()) /\ w5 = W') ?_ ?_
  ·refine Ad (λ x W' => x = (decide (A.length = 0 \/ f < A.length), ()) /\ w5 = W') (Ac (λ h0 => ⟨Az ?_, rfl⟩) (λ h0 => ⟨Az ?_, rfl⟩)) ?_
   ·simp only [beq_iff_eq, decide_eq_true_eq, true_iff] at *; omega
   ·simp only [beq_eq_false_iff_ne, ne_eq, decide_eq_true_eq] at *; omega
   rintro _ _ ⟨rfl, rfl⟩
   refine Ac (λ h0 => ⟨?_, rfl⟩) (λ h0 => ⟨?_, rfl⟩)
   ·simp only [decide_eq_true_eq] at h0
    rw [hN, if_pos h0, l5]; congr 1; omega
   ·simp only [decide_eq_false_iff_not] at h0
    rw [hN, if_neg h0, ← hrl]; congr 1; omega
  rintro _ _ ⟨rfl, rfl⟩
  exact hK r' w5 o5 x5
end
end Go.Proofs.YtolhlldgnfbemaaGreatDoor
namespace Go.Proofs.YtolhlldgnfbemaaGreatDoor
open Go Go.Vx Cdc Trx Gly Clu Lns Obx Mot
abbrev spT (c : Cel) : Cells.T c76 := ((c.from_ : Int), (c.to_ : Int), c.atom, c.alone, (c.kind : Int), ())
abbrev pgO (sa sl : Sl) (n : Int) (ss : Sl) : Obj := .cells #[.slice sa.a sa.len sa.cap, .slice sl.a sl.len sl.cap, .int .i64 n, .slice ss.a ss.len ss.cap] 63 (0, 0)
abbrev r6O (l : Ln) : Obj := .cells #[.int .i64 (l.from_ : Int), .int .i64 (l.to_ : Int), .int .i64 (l.next : Int), .int .i64 (l.kind : Int)] 71 (0, 0)
abbrev Nq (w : World) (s : Sl) (A : List Int) : Prop := Bh w s 71 4 (flat c71 ((lnF A).map lnR))
abbrev Qa (w : World) (s : Sl) (A : List Int) (i : Nat) : Prop := Bh w s 76 5 (flat c76 ((Ag A i).map spT))
structure Iu (w : World) (q : Nat) (A : List Int) : Prop where
 ex : ∃ (sa sl ss : Sl) (t0 : TypeId) (xs : List Sl), w.heap[q]? = some (pgO sa sl (lnN A : Int) ss) /\ Bh w sa t0 1 (iv A) /\ Nq w sl A /\ Bh w ss 73 1 (xs.map Cell.sl.val) /\ xs.length = brs A + 1 /\ ∀ (i : Nat) x, xs[i]? = some x -> Qa w x A i
 len : A.length <= 1048576
theorem By4 : Hu Tryz.prog 73 76 5 40 := Hu.of (z := .agg #[.int .i64 0, .int .i64 0, .int .i64 0, .bool false, .int .i64 0]) C73 C76 rfl rfl rfl (by decide)
theorem Bj3 : Hu Tryz.prog 61 73 1 24 := Hu.of (z := .slice none 0 0) C61 C73 rfl rfl rfl (by decide)
section
variable {w w' : World} {q : Nat} {A : List Int} {i : Nat}
theorem Iu.ext (h : Iu w q A) (e : Ext w w') : Iu w' q A := by
 obtain ⟨sa, sl, ss, t0, xs, h1, h2, h3, h4, h5, h6⟩ := h.ex
 exact ⟨⟨sa, sl, ss, t0, xs, e.ext_get h1, h2.ext e, h3.ext e, h4.ext e, h5, λ i x hx => (h6 i x hx).ext e⟩, h.len⟩
theorem Iu.Ab5 (h : Iu w q A) {K : Addr -> Int -> Wp} (hK : K (at0 q) (lnN A : Int) w) : nn (some (at0 q)) (λ p => ld (.int .i64) (p.add 2) (K p)) w := by
 obtain ⟨sa, sl, ss, t0, xs, h1, h2, h3, h4, h5, h6⟩ := h.ex
 exact Aj (Cc (off := 2) (x := (lnN A : Int)) h1 rfl hK)
theorem Iu.Qm (h : Iu w q A) {K : Addr -> Sl -> Wp} (hK : ∀ s t, Bh w s t 1 (iv A) -> K (at0 q) s w) : nn (some (at0 q)) (λ p => ld .sl p (K p)) w := by
 obtain ⟨sa, sl, ss, t0, xs, h1, h2, h3, h4, h5, h6⟩ := h.ex
 exact Aj (Cc (off := 0) (x := sa) h1 rfl (hK sa t0 h2))
theorem Iu.Zp (h : Iu w q A) {K : Addr -> Sl -> Wp} (hK : ∀ s, Nq w s A -> (∀ w', Ext w w' -> w'.cell? ((at0 q).add 1) = some (Cell.val .sl s)) -> K (at0 q) s w) : nn (some (at0 q)) (λ p => ld .sl (p.add 1) (K p)) w := by
 obtain ⟨sa, sl, ss, t0, xs, h1, h2, h3, h4, h5, h6⟩ := h.ex
 exact Aj (Cc (off := 1) (x := sl) h1 rfl (hK sl h3 λ w' e => cell_of (off := 1) (e.ext_get h1) rfl))
theorem Vm (hi : i <= brs A) : ((lnF A).map lnR)[((i : Int)).toNat]? = some (lnR (Aw A i)) := by
 rw [Int.toNat_natCast, List.getElem?_map, Bw4 (Vg hi)]; rfl
theorem Zo {s : Sl} (hs : Nq w s A) : s.len = brs A + 1 := by
 have := Bh.Jt (cs := c71) hs (by decide)
 rw [List.length_map, Bi3] at this
 exact this.symm
theorem Cs3 {c : Cell} {cs : List Cell} {s : Sl} {t : TypeId} {xs : List (Cells.T cs)} {n : Int} {K : Addr -> c.T -> Wp} (h : Bh w s t cs.length (flat cs xs)) (h0 : 0 <= n) {x : Cells.T cs} {y : c.T} (hx : xs[n.toNat]? = some x) (hy : (Cells.vals cs x)[0]? = some (c.val y))
  (hK : ∀ p, (∀ w', Ext w w' -> w'.cell? (p.add (scaled (Int.toNat n) cs.length)) = some (c.val y)) -> K p y w) :
  ix s.a s.len n (λ p => ld c (p.add (scaled (Int.toNat n) cs.length)) (K p)) w := by
 have hlt := (List.getElem?_eq_some_iff.1 hx).1
 have hjl : 0 < cs.length := by
  have := (List.getElem?_eq_some_iff.1 hy).1
  rwa [Ey] at this
 have hl := h.Jt (by omega)
 refine h.ix h0 (by omega) (by omega) λ b off ha hv => ?_
 have hc : w.cell? ((⟨b, off, none⟩ : Addr).add (scaled (Int.toNat n) cs.length)) = some (c.val y) := by
  rw [addr_add]
  have := hv 0 (c.val y) (by rw [flat_get cs xs _ 0 x hx hjl]; exact hy)
  simpa [Dx] using this
 exact Wu (x := y) hc (hK _ λ w' x' => Rj hc x')
theorem Bc2 {s : Sl} (hs : Nq w s A) (hi : i <= brs A) {K : Addr -> Int -> Wp} (hK : ∀ p, (∀ w', Ext w w' -> w'.cell? (p.add (scaled (Int.toNat (i : Int)) 4)) = some (Cell.val (.int .i64) ((Aw A i).from_ : Int))) -> K p ((Aw A i).from_ : Int) w) : ix s.a s.len (i : Int) (λ p => ld (.int .i64) (p.add (scaled (Int.toNat (i : Int)) 4)) (K p)) w :=
 Cs3 (c := .int .i64) (cs := c71) hs (Int.natCast_nonneg i) (Vm hi) rfl hK
theorem Bw6 {s : Sl} (hs : Nq w s A) (hi : i <= brs A) {K : Addr -> Int -> Wp} (hK : ∀ p, K p ((Aw A i).to_ : Int) w) : ix s.a s.len (i : Int) (λ p => ld (.int .i64) ((p.add (scaled (Int.toNat (i : Int)) 4)).add 1) (K p)) w :=
 Am3 (c := .int .i64) (cs := c71) (j := 1) hs (Int.natCast_nonneg i) (Vm hi) rfl hK
theorem Bc1 {s : Sl} (hs : Nq w s A) (hi : i <= brs A) {K : Addr -> Int -> Wp} (hK : ∀ p, K p ((Aw A i).next : Int) w) : ix s.a s.len (i : Int) (λ p => ld (.int .i64) ((p.add (scaled (Int.toNat (i : Int)) 4)).add 2) (K p)) w :=
 Am3 (c := .int .i64) (cs := c71) (j := 2) hs (Int.natCast_nonneg i) (Vm hi) rfl hK
theorem Iu.Ah4 (h : Iu w q A) (hi : i <= brs A) {K : Addr -> Sl -> Addr -> Int -> Wp} (hK : ∀ s p, K (at0 q) s p ((Aw A i).from_ : Int) w) :
  nn (some (at0 q)) (λ r => ld .sl (r.add 1) λ s => ix s.a s.len (i : Int) λ p => ld (.int .i64) (p.add (scaled (Int.toNat (i : Int)) 4)) (K r s p)) w :=
 h.Zp λ s hs _ => Bc2 hs hi λ p _ => hK s p
theorem Iu.toK (h : Iu w q A) (hi : i <= brs A) {K : Addr -> Sl -> Addr -> Int -> Wp} (hK : ∀ s p, K (at0 q) s p ((Aw A i).to_ : Int) w) :
  nn (some (at0 q)) (λ r => ld .sl (r.add 1) λ s => ix s.a s.len (i : Int) λ p => ld (.int .i64) ((p.add (scaled (Int.toNat (i : Int)) 4)).add 1) (K r s p)) w :=
 h.Zp λ s hs _ => Bw6 hs hi λ p => hK s p
theorem Iu.nextK (h : Iu w q A) (hi : i <= brs A) {K : Addr -> Sl -> Addr -> Int -> Wp} (hK : ∀ s p, K (at0 q) s p ((Aw A i).next : Int) w) :
  nn (some (at0 q)) (λ r => ld .sl (r.add 1) λ s => ix s.a s.len (i : Int) λ p => ld (.int .i64) ((p.add (scaled (Int.toNat (i : Int)) 4)).add 2) (K r s p)) w :=
 h.Zp λ s hs _ => Bc1 hs hi λ p => hK s p
theorem Iu.Aq2 (h : Iu w q A) (hi : i <= brs A) {K : Addr -> Sl -> Addr -> Sl -> Wp} (hK : ∀ s p y, Qa w y A i -> y.len = (Ag A i).length -> K (at0 q) s p y w) :
  nn (some (at0 q)) (λ r => ld .sl (r.add 3) λ s => ix s.a s.len (i : Int) λ p => ld .sl (p.add (scaled (Int.toNat (i : Int)) 1)) (K r s p)) w := by
 obtain ⟨sa, sl, ss, t0, xs, h1, h2, h3, h4, h5, h6⟩ := h.ex
 obtain ⟨y, hy⟩ : ∃ y, xs[i]? = some y := ⟨_, List.getElem?_eq_getElem (by omega)⟩
 have hy2 := h6 i y hy
 have hl := Bh.Jt (cs := c76) hy2 (by decide)
 rw [List.length_map] at hl
 exact Aj (Cc (off := 3) (x := ss) h1 rfl (Gl (c := .sl) (xs := xs) h4 (Int.natCast_nonneg i) (by rw [Int.toNat_natCast]; exact hy) λ p => hK ss p y hy2 hl.symm))
theorem Iu.Cq3 (h : Iu w q A) {K : Addr -> Sl -> Wp} (hK : ∀ s, (∀ w', Ext w w' -> w'.cell? ((at0 q).add 3) = some (Cell.val .sl s)) -> (∀ (j : Nat) (w' : World) (K' : Addr -> Sl -> Wp), j <= brs A -> Ext w w' -> (∀ p y, Qa w' y A j -> y.len = (Ag A j).length -> K' p y w') -> ix s.a s.len (j : Int) (λ p => ld .sl (p.add (scaled (Int.toNat (j : Int)) 1)) (K' p)) w') -> K (at0 q) s w) :
  nn (some (at0 q)) (λ r => ld .sl (r.add 3) (K r)) w := by
 obtain ⟨sa, sl, ss, t0, xs, h1, h2, h3, h4, h5, h6⟩ := h.ex
 refine Aj (Cc (off := 3) (x := ss) h1 rfl (hK ss (λ w' e => cell_of (off := 3) (e.ext_get h1) rfl) λ j w' K' hj e hK' => ?_))
 obtain ⟨y, hy⟩ : ∃ y, xs[j]? = some y := ⟨_, List.getElem?_eq_getElem (by omega)⟩
 have hy2 := (h6 j y hy).ext e
 have hl := Bh.Jt (cs := c76) hy2 (by decide)
 rw [List.length_map] at hl
 exact Gl (c := .sl) (xs := xs) (h4.ext e) (Int.natCast_nonneg j) (by rw [Int.toNat_natCast]; exact hy) λ p => hK' p y hy2 hl.symm
theorem O8 {j : Nat} {c : Cel} (hc : (Ag A i)[j]? = some c) : ((Ag A i).map spT)[((j : Int)).toNat]? = some (spT c) := by rw [Int.toNat_natCast, List.getElem?_map, hc]; rfl
theorem Zd {y : Sl} (hy : Qa w y A i) {j : Nat} {c : Cel} (hc : (Ag A i)[j]? = some c) {K : Addr -> Int -> Wp} (hK : ∀ p, K p (c.from_ : Int) w) : ix y.a y.len (j : Int) (λ p => ld (.int .i64) (p.add (scaled (Int.toNat (j : Int)) 5)) (K p)) w :=
 Bj0 (c := .int .i64) (cs := c76) hy (Int.natCast_nonneg j) (O8 hc) rfl hK
theorem Cd3 {y : Sl} (hy : Qa w y A i) {j : Nat} {c : Cel} (hc : (Ag A i)[j]? = some c) {K : Addr -> Int -> Wp} (hK : ∀ p, K p (c.to_ : Int) w) : ix y.a y.len (j : Int) (λ p => ld (.int .i64) ((p.add (scaled (Int.toNat (j : Int)) 5)).add 1) (K p)) w :=
 Am3 (c := .int .i64) (cs := c76) (j := 1) hy (Int.natCast_nonneg j) (O8 hc) rfl hK
theorem Bl9 {y : Sl} (hy : Qa w y A i) {j : Nat} {c : Cel} (hc : (Ag A i)[j]? = some c) {K : Addr -> Int -> Wp} (hK : ∀ p, K p (c.kind : Int) w) : ix y.a y.len (j : Int) (λ p => ld (.int .i64) ((p.add (scaled (Int.toNat (j : Int)) 5)).add 4) (K p)) w :=
 Am3 (c := .int .i64) (cs := c76) (j := 4) hy (Int.natCast_nonneg j) (O8 hc) rfl hK
theorem Cl8 (c : Cel) : ∀ v ∈ flat c76 [spT c], Ez v = true := by
 intro v hv
 rw [Yj] at hv
 have h : v ∈ [_, _, _, _, _] := hv
 simp only [List.mem_cons, List.not_mem_nil, or_false] at h
 rcases h with rfl | rfl | rfl | rfl | rfl <;> rfl
theorem Cj9 {r : Sl} {L : List Cel} {c : Cel} {b N : Nat} {K : Sl -> Wp} (hr : Ap w N r 76 5 (flat c76 (L.map spT))) (hb : w.heap[b]? = some (.cells #[.int .i64 (c.from_ : Int), .int .i64 (c.to_ : Int), .int .i64 c.atom, .bool c.alone, .int .i64 (c.kind : Int)] 76 (0, 0))) (hl : L.length < 2 ^ 40) (hN : N <= w.heap.size)
  (hK : ∀ r' w', Ap w' N r' 76 5 (flat c76 ((L ++ [c]).map spT)) -> r'.len = L.length + 1 -> Upd r.blk w w' -> K r' w') :
  Dz Tryz.prog (.one (.one .sl)) (Builtin.append_ #[73, 73] 73 #[.slice r.a r.len r.cap, .slice (some (at0 b)) 1 1]) K w := by
 have hrl := Ap.Jt (cs := c76) hr (by decide)
 rw [List.length_map] at hrl
 have hbox : SlX w ⟨some (at0 b), 1, 1⟩ 5 (flat c76 [spT c]) := (Bh.Iw hb (n := 1) (sz := 5) rfl).x
 refine Ej By4 By4.ts_ (x := ⟨some (at0 b), 1, 1⟩) hr hbox (Cl8 c) (by
  show (r.len + 1 + (r.len + 1) / 4 + 512) * 40 <= 2 ^ 48
  omega) hN λ r' w' o l' u k => hK r' w' ?_ (by rw [l', hrl]) u
 rw [List.map_append, Js]; exact o
set_option maxHeartbeats 2000000 in
theorem Bw7 {s : Sl} {t : TypeId} (hs : Bh w s t 1 (iv A)) (hl : A.length <= 1048576) {K : Option Addr -> Wp} (hK : ∀ q w', Iu w' q A -> w.heap.size <= q -> Ext w w' -> K (some (at0 q)) w') :
  Aa Tryz.prog 17 #[s.v] rP K w := by
 refine A17 ?_
 unfold F17
 have hlen : A.length = s.len := by have := hs.len1; rwa [List.length_map] at this
 have hcap := hs.le
 have hbl := Lc A
 refine (St.start w).Af λ b1 w1 S1 e1 => Bm9 (hs.ext e1) (by omega) λ sl w2 o2 e2 => ?_
 have S2 := S1.ext e2
 have S2 : St (λ _ => False) w w2 [(b1, pgO s ⟨none, 0, 0⟩ 0 ⟨none, 0, 0⟩)] := S2
 refine Aj (S2.stC (off := 1) 0 rfl (by show 1 < 4; decide) λ w3 S3 u3 => Aj (S3.stC (off := 2) 0 rfl (by show 2 < 4; decide) λ w4 S4 u4 => ?_))
 have S4 : St (λ _ => False) w w4 [(b1, pgO s sl (lnN A : Int) ⟨none, 0, 0⟩)] := S4
 have o4 : Nq w4 sl A := (o2.in.box (S2.at_ 0 rfl) (by decide) u3).box (S3.at_ 0 rfl) (by decide) u4
 have hll := Zo o4
 refine Ad (λ _ V => ∃ (so : Sl) (xs : List Sl), St (λ _ => False) w V [(b1, pgO s sl (lnN A : Int) so)] /\ Nq V sl A /\ Bh V so 73 1 (xs.map Cell.sl.val) /\ xs.length = brs A + 1 /\ ∀ (i : Nat) x, xs[i]? = some x -> Qa V x A i) ?_ ?_
 ·refine Ar (λ x V => ∃ (i : Nat) (so : Sl) (xs : List Sl), x = ((i : Int), ()) /\ i <= brs A + 1 /\ xs.length = i /\ St (λ _ => False) w V [(b1, pgO s sl (lnN A : Int) so)] /\ Nq V sl A /\ Ap V w4.heap.size so 73 1 (xs.map Cell.sl.val) /\ w4.heap.size <= V.heap.size /\ ∀ (j : Nat) x, xs[j]? = some x -> Qa V x A j) (λ x _ => ((brs A : Int) + 1 - x.1).toNat) ⟨0, ⟨none, 0, 0⟩, [], rfl, Nat.zero_le _, rfl, S4, o4, Ap.nil _ _ _ _, Nat.le_refl _, λ j x hx => by simp at hx⟩ ?_
  rintro _ V ⟨i, so, xs, rfl, hi, hxs, SV, oV, ho, hsz, hsp⟩
  dsimp only
  refine Aj (SV.ld (off := 1) 0 rfl (x := sl) rfl (Ac (λ hc => ?_) (λ hc => ?_)))
  ·simp only [decide_eq_true_eq] at hc
   have hib : i <= brs A := by omega
   have ok := Bz hib
   have ft := ok.ft; have tn := ok.tn; have nl := ok.nl
   have hrl := Ov hib
   have hcl := Iy hib
   refine Aj (SV.ld (off := 1) 0 rfl (x := sl) rfl (Si (cs := c71) (xs := (lnF A).map lnR) oV (by decide) (Int.natCast_nonneg i) (Vm hib) λ p13 => ?_))
   refine SV.Ku rfl rfl rfl λ b15 w5 S5 e5 => ?_
   have S5 : St (λ _ => False) w w5 [(b15, r6O (Aw A i)), (b1, pgO s sl (lnN A : Int) so)] := S5
   refine S5.ld (off := 0) 0 rfl (x := ((Aw A i).from_ : Int)) rfl (S5.ld (off := 1) 0 rfl (x := ((Aw A i).to_ : Int)) rfl ?_)
   refine Aq4 (hs.ext S5.upd) (by omega) (by omega) (by omega) (by omega) (by omega) λ y hy _ _ _ => ?_
   have hy : Bh w5 y t 1 (iv (rowB A i)) := by
    rw [Nat.mul_one, Nat.mul_one, Int.toNat_natCast, Int.toNat_natCast, ← List.map_drop, ← List.map_take] at hy
    exact hy
   refine Al0 hy (by omega) λ sb w6 ob e6 => ?_
   have S6 := S5.ext e6
   have nvi : nv (cuts (rowB A i)) = ((cuts (rowB A i)).map λ (n : Nat) => (n : Int)).map (Cell.int .i64).val := by rw [List.map_map]; rfl
   rw [nvi] at ob
   have hbl2 := ob.len1
   rw [List.length_map, List.length_map] at hbl2
   have hcuts := Af6 A i
   have hcnt : (Ag A i).length = (cuts (rowB A i)).length - 1 := by omega
   have hcp := Ab3 (rowB A i)
   refine Ad (λ x W => Ext w6 W /\ Ap W w6.heap.size x.1 76 5 (flat c76 ((Ag A i).map spT))) ?_ ?_
   ·refine Ar (λ x W => ∃ j : Nat, x.2 = ((j : Int), ()) /\ j <= (Ag A i).length /\ Ext w6 W /\ Ap W w6.heap.size x.1 76 5 (flat c76 (((Ag A i).take j).map spT))) (λ x _ => (((Ag A i).length : Int) - x.2.1).toNat) ⟨0, rfl, Nat.zero_le _, Ext.refl _, Ap.nil _ _ _ _⟩ ?_
    rintro ⟨r, _⟩ W ⟨j, rfl, hj, eW, hr⟩
    dsimp only at hr ⊢
    have ew1 : W64 ((j : Int) + 1) = ((j + 1 : Nat) : Int) := by rw [wrap64 (by omega) (by omega)]; omega
    rw [ew1]
    refine Ac (λ hc2 => ?_) (λ hc2 => ?_)
    ·simp only [decide_eq_true_eq] at hc2
     obtain ⟨c, hcc⟩ : ∃ c, (Ag A i)[j]? = some c := ⟨_, List.getElem?_eq_getElem (by omega)⟩
     have hcc' : (Sv (rowB A i) (Aw A i).from_)[j]? = some c := hcc
     obtain ⟨ci, cj, g1, g2, g3, g4, g5, g6, _, _, g7, g8, g9⟩ := (Pq hcc').ex
     have m1 : ((cuts (rowB A i)).map λ (n : Nat) => (n : Int))[((j : Int)).toNat]? = some (ci : Int) := by rw [Int.toNat_natCast, List.getElem?_map, g1]; rfl
     have m2 : ((cuts (rowB A i)).map λ (n : Nat) => (n : Int))[(((j + 1 : Nat) : Int)).toNat]? = some (cj : Int) := by rw [Int.toNat_natCast, List.getElem?_map, g2]; rfl
     have SW := S6.ext eW
     refine Gl (c := .int .i64) (xs := (cuts (rowB A i)).map λ (n : Nat) => (n : Int)) (ob.ext eW).in (Int.natCast_nonneg j) m1 λ p24 => rdA ((hy.ext e6).ext eW) g7 λ p26 => SW.drew λ w7 S7 e7 _ => S7.ld (off := 0) 0 rfl (x := ((Aw A i).from_ : Int)) rfl ?_
     have ob7 := (ob.ext (eW.trans e7)).in
     refine Am5 (c := .int .i64) (xs := (cuts (rowB A i)).map λ (n : Nat) => (n : Int)) ob7 (Int.natCast_nonneg j) m1 λ p29 k29 => S7.ld (off := 0) 0 rfl (x := ((Aw A i).from_ : Int)) rfl ?_
     refine Am5 (c := .int .i64) (xs := (cuts (rowB A i)).map λ (n : Nat) => (n : Int)) ob7 (Int.natCast_nonneg _) m2 λ p32 k32 => ?_
     refine Am5 (c := .int .i64) (xs := (cuts (rowB A i)).map λ (n : Nat) => (n : Int)) ob7 (Int.natCast_nonneg _) m2 λ p34 k34 => ?_
     refine Am5 (c := .int .i64) (xs := (cuts (rowB A i)).map λ (n : Nat) => (n : Int)) ob7 (Int.natCast_nonneg j) m1 λ p36 k36 => ?_
     refine Az9 ?_
     refine Au (k36 w7 (Ext.refl _)) (Au (k34 w7 (Ext.refl _)) (Au (k32 w7 (Ext.refl _)) (S7.keep (off := 0) 0 rfl (v := .int .i64 ((Aw A i).from_ : Int)) rfl (Au (k29 w7 (Ext.refl _)) (S7.keep (off := 0) 0 rfl (v := .int .i64 ((Aw A i).from_ : Int)) rfl ?_)))))
     have q1 : W64 (((Aw A i).from_ : Int) + (ci : Int)) = (c.from_ : Int) := by rw [wrap64 (by omega) (by omega)]; omega
     have q2 : W64 (((Aw A i).from_ : Int) + (cj : Int)) = (c.to_ : Int) := by rw [wrap64 (by omega) (by omega)]; omega
     have q3 : (W64 ((cj : Int) - (ci : Int)) == (1 : Int)) = c.alone := by
      rw [wrap64 (by omega) (by omega), Bool.eq_iff_iff, beq_iff_eq, g9]; omega
     rw [q1, q2, q3, ← g8]
     refine Cm λ b39 w8 e8 n8 hb8 _ => Cj9 (c := c) (hr.ext (e7.trans e8)) n8 (by rw [List.length_take]; omega) (by have := eW.size; have := e7.size; have := e8.size; omega) λ r' w9 o9 _ u9 => ?_
     refine ⟨⟨j + 1, rfl, by omega, ((eW.trans e7).trans e8).step u9 λ k hk => hr.Ew hk, ?_⟩, by omega⟩
     rw [List.take_add_one, hcc]; exact o9
    ·simp only [decide_eq_false_iff_not] at hc2
     obtain rfl : j = (Ag A i).length := by omega
     rw [List.take_length] at hr
     exact ⟨eW, hr⟩
   rintro ⟨sp, _⟩ W ⟨eW, hr⟩
   have eVW : Ext V W := (e5.trans e6).trans eW
   have SW := (S6.ext eW).tail
   have hoW := ho.ext eVW
   refine Aj (SW.ld (off := 3) 0 rfl (x := so) rfl (SW.Y8 λ b43 w7 S7 e7 hb43 => ?_))
   have hsol := hoW.len1
   rw [List.length_map] at hsol
   have ho7 := hoW.ext e7
   have hsz7 : w4.heap.size <= w7.heap.size := by have := eVW.size; have := e7.size; omega
   have hbox : SlX w7 ⟨some (at0 b43), 1, 1⟩ 1 ([sp].map Cell.sl.val) := (Bh.Iw (S7.at_ 0 rfl) (n := 1) (sz := 1) rfl).x
   have hb1 : b1 < w4.heap.size := lt_of_heap (S4.at_ 0 rfl)
   have hw4 : w.heap.size <= w4.heap.size := S4.upd.size
   refine Ej Bj3 Bj3.ts_ (x := ⟨some (at0 b43), 1, 1⟩) ho7 hbox (λ v hv => by rw [List.mem_singleton.1 hv]; rfl) (by
    show (so.len + 1 + (so.len + 1) / 4 + 512) * 24 <= 2 ^ 48
    omega) hsz7 λ so' w8 o8 l8 u8 _ => ?_
   have nty1 : Fb w7 so.blk 71 := λ k hk c fr hn => by
    obtain ⟨c', fr', hc'⟩ := ho7.in.Ep hk
    rw [hn] at hc'; cases hc'
   have nty2 : Fb w7 so.blk 76 := λ k hk c fr hn => by
    obtain ⟨c', fr', hc'⟩ := ho7.in.Ep hk
    rw [hn] at hc'; cases hc'
   have S8 : St (λ _ => False) w w8 [(b1, pgO s sl (lnN A : Int) so)] := S7.tail.fresh u8 (λ k hk => .inr (by have := ho7.Ew hk; omega)) (λ z hz hk => by
    rw [List.mem_singleton.1 hz] at hk
    have := ho7.Ew hk
    dsimp only at this
    omega)
   refine Aj (S8.stC (off := 3) 0 rfl (by show 3 < 4; decide) λ w9 S9 u9 => ?_)
   have ewi : W64 ((i : Int) + 1) = ((i + 1 : Nat) : Int) := by rw [wrap64 (by omega) (by omega)]; omega
   rw [ewi]
   refine ⟨⟨i + 1, so', xs ++ [sp], rfl, by omega, by simp [hxs], S9, ?_, ?_, ?_, ?_⟩, by omega⟩
   ·exact ((oV.ext (eVW.trans e7)).ty u8 nty1).box (S8.at_ 0 rfl) (by decide) u9
   ·rw [List.map_append]; exact o8.box (S8.at_ 0 rfl) (by decide) u9
   ·have := u8.size; have := u9.size; omega
   ·intro j x hx
    refine Bh.box ?_ (S8.at_ 0 rfl) (by decide) u9
    by_cases hj : j < xs.length
    ·rw [List.getElem?_append_left hj] at hx
     exact ((hsp j x hx).ext (eVW.trans e7)).ty u8 nty2
    ·have hje : j = xs.length := by
      have := (List.getElem?_eq_some_iff.1 hx).1
      simp at this; omega
     subst hje
     rw [List.getElem?_concat_length] at hx
     cases hx
     rw [hxs]
     exact (hr.in.ext e7).ty u8 nty2
  ·simp only [decide_eq_false_iff_not] at hc
   exact ⟨so, xs, SV, oV, ho.in, by omega, hsp⟩
 rintro _ V ⟨so, xs, SV, oV, ho, hxs, hsp⟩
 exact hK b1 V ⟨⟨s, sl, so, t, xs, SV.at_ 0 rfl, hs.ext SV.upd, oV, ho, hxs, hsp⟩, hl⟩ (SV.ge 0 rfl) SV.upd
end
section
variable {w w' : World} {q : Nat} {A : List Int} {i : Nat}
theorem N7 {n : Nat} (h : n <= 2 ^ 40) : W64 ((n : Int) + 1) = ((n + 1 : Nat) : Int) := by rw [wrap64 (by omega) (by omega)]; omega
theorem Xz (h : Iu w q A) {x : Int} {K : Int -> Wp} (hK : K (inT A x : Int) w) : Aa Tryz.prog 82 #[.pointer (some (at0 q)), .int .i64 x] rI K w := by
 refine A82 ?_
 unfold F82
 have e : (inT A x : Int) = min (max x 0) (A.length : Int) := by unfold inT; omega
 rw [e] at hK
 refine Ac (λ hc => ?_) (λ hc => h.Qm λ s t hs => ?_)
 ·simp only [decide_eq_true_eq] at hc
  rw [show min (max x 0) (A.length : Int) = 0 by omega] at hK; exact hK
 ·simp only [decide_eq_false_iff_not] at hc
  have hl := hs.len1
  rw [List.length_map] at hl
  refine Ac (λ hc2 => h.Qm λ s2 t2 hs2 => ?_) (λ hc2 => ?_)
  ·simp only [decide_eq_true_eq, gt_iff_lt] at hc2
   have hl2 := hs2.len1
   rw [List.length_map] at hl2
   rw [show min (max x 0) (A.length : Int) = (A.length : Int) by omega] at hK
   rw [← hl2]; exact hK
  ·simp only [decide_eq_false_iff_not, gt_iff_lt] at hc2
   rw [show min (max x 0) (A.length : Int) = x by omega] at hK; exact hK
theorem Qr (h : Iu w q A) {n : Nat} (hn : n <= A.length) {K : Int -> Wp} (hK : K (nb A n : Int) w) : Aa Tryz.prog 83 #[.pointer (some (at0 q)), .int .i64 (n : Int)] rI K w := by
 refine A83 ?_
 unfold F83
 have hA := h.len; have hbl := Lc A
 have hnb := Ns A n
 obtain ⟨r1, r2⟩ := row_of (A := A) hn
 refine Ad (λ _ W => w = W /\ nb A n = brs A) ?_ ?_
 ·refine Ar (λ x W => ∃ i : Nat, x = ((i : Int), ()) /\ w = W /\ i <= brs A + 1 /\ (i <= nb A n \/ nb A n = brs A)) (λ x _ => ((brs A + 1 : Nat) - x.1).toNat) ⟨0, rfl, rfl, by omega, .inl (Nat.zero_le _)⟩ ?_
  rintro _ _ ⟨i, rfl, rfl, hi, hin⟩
  dsimp only
  refine h.Zp λ s hs _ => ?_
  have hl := Zo hs
  refine Ac (λ hc => ?_) (λ hc => ?_)
  ·simp only [decide_eq_true_eq] at hc
   have hib : i <= brs A := by omega
   have ok := Bz hib
   have ft := ok.ft; have tn := ok.tn
   rw [N7 (by omega)]
   refine h.nextK hib λ s p => ?_
   refine Ac (λ hlt => ?_) (λ hlt => ?_)
   ·simp only [decide_eq_true_eq] at hlt
    have : nb A n = i := by
     by_cases hq : (Aw A i).from_ <= n
     ·exact ok.nbf n hq (by omega)
     ·exfalso
      rcases Nat.lt_trichotomy i (nb A n) with u | u | u
      ·have := Ob (A := A) u hnb; omega
      ·rw [u] at hq; exact hq r1
      ·rcases hin with v | v <;> omega
    rw [this] at hK; exact hK
   ·simp only [decide_eq_false_iff_not] at hlt
    refine ⟨⟨i + 1, rfl, rfl, by omega, ?_⟩, by omega⟩
    rcases hin with v | v
    ·rcases Nat.lt_or_ge i (nb A n) with u | u
     ·exact .inl u
     ·right
      have e : i = nb A n := by omega
      rw [e] at hlt
      rcases r2 with r2 | r2
      ·omega
      ·exact r2.1
    ·exact .inr v
  ·simp only [decide_eq_false_iff_not] at hc
   refine ⟨rfl, ?_⟩
   rcases hin with v | v <;> omega
 rintro _ _ ⟨rfl, hb⟩
 refine h.Zp λ s hs _ => ?_
 have hl := Zo hs
 rw [hl, show W64 (((brs A + 1 : Nat) : Int) - 1) = (nb A n : Int) by rw [wrap64 (by omega) (by omega)]; omega]
 exact hK
theorem Bu3 (h : Iu w q A) {n : Nat} (hn : n <= A.length) {K : Int -> Wp} (hK : K (Cj A (n : Int) false : Int) w) : Aa Tryz.prog 84 #[.pointer (some (at0 q)), .int .i64 (n : Int)] rI K w := by
 refine A84 ?_
 unfold F84
 have hb := Bl A; have hA := h.len; have hbl := Lc A
 have e : Cj A (n : Int) false = min (nb A n) (lnN A - 1) := by unfold Cj ofI; rw [if_neg (by decide), Xj hn]
 rw [e] at hK
 refine Qr h hn (h.Ab5 (Ac (λ hc => h.Ab5 ?_) (λ hc => ?_)))
 ·simp only [decide_eq_true_eq, ge_iff_le] at hc
  rw [show W64 ((lnN A : Int) - 1) = ((min (nb A n) (lnN A - 1) : Nat) : Int) by rw [wrap64 (by omega) (by omega)]; omega]
  exact hK
 ·simp only [decide_eq_false_iff_not, ge_iff_le] at hc
  rw [show min (nb A n) (lnN A - 1) = nb A n by omega] at hK
  exact hK
theorem Y3 (h : Iu w q A) (hi : i <= brs A) {K : Int -> Wp} (hK : K (Bf A i (((Ag A i).length : Int) - 1) : Int) w) : Aa Tryz.prog 85 #[.pointer (some (at0 q)), .int .i64 (i : Int)] rI K w := by
 refine A85 ?_
 unfold F85
 have hA := h.len
 have hcl := Iy hi
 have ok := Bz hi
 have tn := ok.tn; have nl := ok.nl
 refine h.Aq2 hi λ s p y hy hyl => ?_
 refine Ac (λ hc => h.Ah4 hi λ s p => ?_) (λ hc => ?_)
 ·rw [beq_iff_eq] at hc
  rw [Ji (by omega), Ar4 hi] at hK
  exact hK
 ·rw [beq_eq_false_iff_ne] at hc
  have ew : W64 (((y.len : Nat) : Int) - 1) = (((Ag A i).length - 1 : Nat) : Int) := by rw [wrap64 (by omega) (by omega)]; omega
  rw [ew]
  obtain ⟨c, hcc⟩ := Dy (C := Ag A i) (j := (Ag A i).length - 1) (by omega)
  rw [show ((Ag A i).length : Int) - 1 = (((Ag A i).length - 1 : Nat) : Int) by omega, Eh (by omega), Ht hcc] at hK
  exact Zd hy hcc λ p => hK
theorem Oy (h : Iu w q A) (hi : i <= brs A) {K : Bool -> Wp} (hK : K (Eb A i) w) : Aa Tryz.prog 102 #[.pointer (some (at0 q)), .int .i64 (i : Int)] rB K w := by
 refine Dt1 ?_
 unfold F102
 have hA := h.len
 have hcl := Iy hi
 have ok := Bz hi
 have tn := ok.tn; have nl := ok.nl
 refine h.Aq2 hi λ s p y hy hyl => ?_
 refine Ad (λ _ W => w = W /\ Eb A i = true) ?_ ?_
 ·refine Ar (λ x W => ∃ j : Nat, x = ((j : Int), ()) /\ w = W /\ j <= (Ag A i).length /\ ∀ (m : Nat) c, m < j -> (Ag A i)[m]? = some c -> c.kind = 0) (λ x _ => (((Ag A i).length : Int) - x.1).toNat) ⟨0, rfl, rfl, Nat.zero_le _, λ m c hm => by omega⟩ ?_
  rintro _ _ ⟨j, rfl, rfl, hj, hz⟩
  dsimp only
  refine Ac (λ hc => ?_) (λ hc => ?_)
  ·simp only [decide_eq_true_eq] at hc
   obtain ⟨c, hcc⟩ := Dy (C := Ag A i) (j := j) (by omega)
   rw [N7 (by omega)]
   refine Bl9 hy hcc λ p => Ac (λ hk => ?_) (λ hk => ⟨⟨j + 1, rfl, rfl, by omega, λ m d hm hd => ?_⟩, by omega⟩)
   ·have hk : c.kind ≠ 0 := by
     rw [bne_iff_ne] at hk
     intro h0; exact hk (by rw [h0]; rfl)
    have : Eb A i = false := by
     unfold Eb
     rw [List.all_eq_false]
     exact ⟨c, List.mem_of_getElem? hcc, by simpa using hk⟩
    rw [this] at hK; exact hK
   ·by_cases hmj : m = j
    ·subst hmj
     rw [hcc] at hd; cases hd
     rw [bne_eq_false_iff_eq] at hk
     omega
    ·exact hz m d (by omega) hd
  ·simp only [decide_eq_false_iff_not] at hc
   refine ⟨rfl, ?_⟩
   unfold Eb
   rw [List.all_eq_true]
   intro c hm
   obtain ⟨m, hm⟩ := List.getElem?_of_mem hm
   have := hz m c (by have := (List.getElem?_eq_some_iff.1 hm).1; omega) hm
   simpa using this
 rintro _ _ ⟨rfl, hz⟩
 rw [hz] at hK; exact hK
theorem Ar6 (h : Iu w q A) {x : Int} {past : Bool} {K : Int -> Wp} (hK : K (Bg A x past : Int) w) : Aa Tryz.prog 35 #[.pointer (some (at0 q)), .int .i64 x, .bool past] rI K w := by
 refine A35 ?_
 unfold F35
 have hA := h.len
 have hi := Ru A x past
 have hin := Bc8 A x
 have ok := Bz hi
 have ft := ok.ft; have tn := ok.tn; have nl := ok.nl
 have hcl := Iy hi
 refine Xz h (Qr h hin (Ad (λ y W => y = ((Cj A x past : Int), ()) /\ w = W) ?_ ?_))
 ·cases past with
  | true => exact Am ⟨rfl, rfl⟩
  | false =>
   refine Bo (Bu3 h hin ⟨?_, rfl⟩)
   have : Cj A (inT A x : Int) false = Cj A x false := by unfold Cj ofI; rw [Xj hin]
   rw [this]
 rintro _ _ ⟨rfl, rfl⟩
 unfold Bg at hK
 obtain ⟨n, hn⟩ : ∃ n, inT A x = n := ⟨_, rfl⟩
 have hro := row_of (A := A) hin
 have hrow : past = true /\ Cj A x past = nb A n \/ past = false /\ Cj A x past = min (nb A n) (lnN A - 1) := by
  cases past with
  | true => left; refine ⟨rfl, ?_⟩; unfold Cj ofI; rw [if_pos rfl, hn]
  | false => right; refine ⟨rfl, ?_⟩; unfold Cj ofI; rw [if_neg (by decide), hn]
 rw [hn] at hro hin hK
 rw [hn]
 obtain ⟨i, hi'⟩ : ∃ i, Cj A x past = i := ⟨_, rfl⟩
 rw [hi'] at hi ok ft tn nl hcl hrow hK
 rw [hi']
 refine h.toK hi λ s p => Ac (λ hc => ?_) (λ hc => ?_)
 ·simp only [decide_eq_true_eq, ge_iff_le] at hc
  rw [if_pos (by omega)] at hK
  refine Ac (λ hp => h.toK hi λ s p => ?_) (λ hp => Y3 h hi ?_)
  ·rw [if_pos hp] at hK; exact hK
  ·rw [if_neg (by rw [hp]; decide)] at hK; exact hK
 ·simp only [decide_eq_false_iff_not, ge_iff_le] at hc
  rw [if_neg (by omega)] at hK
  have hf : (Aw A i).from_ <= n := by
   rcases hrow with ⟨_, hr⟩ | ⟨_, hr⟩
   ·rw [hr]; exact hro.1
   ·rcases Nat.lt_or_ge (lnN A - 1) (nb A n) with u | u
    ·exfalso
     have hb := Bl A
     have hnb := Ns A n
     have := Ob (A := A) (i := i) (j := nb A n) (by omega) hnb
     omega
    ·rw [show i = nb A n by omega]; exact hro.1
  obtain ⟨g1, g2⟩ := Au1 hi hf (by omega)
  obtain ⟨m, hm⟩ : ∃ m, Du (Ag A i) (n : Int) = m := ⟨_, rfl⟩
  obtain ⟨s1, s2⟩ := Po (C := Ag A i) (at_ := (n : Int))
  rw [hm] at g1 g2 hK s1 s2
  rw [Eh g1] at hK g2
  obtain ⟨cm, hcm⟩ := Dy g1
  rw [Ht hcm] at hK g2
  have hto := s2 cm hcm
  have hch := Ib A i
  refine h.Ah4 hi λ s p => h.Aq2 hi λ s2 p2 y hy hyl => ?_
  refine Ad (λ x W => x = ((cm.from_ : Int), ()) /\ w = W) ?_ (by rintro _ _ ⟨rfl, rfl⟩; exact hK)
  refine Ar (λ x W => ∃ j : Nat, x = (((if j = 0 then (Aw A i).from_ else frm (Ag A i) (min (j - 1) m) : Nat) : Int), (j : Int), ()) /\ w = W /\ j <= (Ag A i).length) (λ x _ => (((Ag A i).length : Int) - x.2.1).toNat) ⟨0, rfl, rfl, Nat.zero_le _⟩ ?_
  rintro _ _ ⟨j, rfl, rfl, hj⟩
  dsimp only
  refine Ac (λ hc2 => ?_) (λ hc2 => ?_)
  ·simp only [decide_eq_true_eq] at hc2
   obtain ⟨c, hcc⟩ := Dy (C := Ag A i) (j := j) (by omega)
   refine Ad (λ x W => x = (((frm (Ag A i) (min j m) : Nat) : Int), ()) /\ w = W) ?_ ?_
   ·refine Zd hy hcc λ p => Ac (λ hle => Zd hy hcc λ p => ⟨?_, rfl⟩) (λ hle => ⟨?_, rfl⟩)
    ·simp only [decide_eq_true_eq] at hle
     have : j <= m := by
      rcases Nat.lt_or_ge m j with u | u
      ·have := hch.lt u hcm hcc; omega
      ·exact u
     rw [Nat.min_eq_left this, Ht hcc]
    ·simp only [decide_eq_false_iff_not] at hle
     have hmj : m < j := by
      rcases Nat.lt_or_ge m j with u | u
      ·exact u
      ·exfalso
       rcases Nat.lt_or_ge j m with v | v
       ·have := hch.lt v hcc hcm; have := hch.pos _ c hcc; omega
       ·have : j = m := by omega
        subst this
        rw [hcm] at hcc; cases hcc
        omega
     rw [if_neg (by omega), Nat.min_eq_right (by omega), Nat.min_eq_right (by omega)]
   rintro _ _ ⟨rfl, rfl⟩
   rw [N7 (by omega)]
   refine ⟨⟨j + 1, ?_, rfl, by omega⟩, by omega⟩
   rw [if_neg (by omega), Nat.add_sub_cancel]
  ·simp only [decide_eq_false_iff_not] at hc2
   refine ⟨?_, rfl⟩
   rw [if_neg (by omega), Nat.min_eq_right (by omega), Ht hcm]
theorem Bp7 (A : List Int) (x : Int) : Du (Ag A (ofI A x)) x = Du (Ag A (ofI A x)) (inT A x : Int) := by
 have hi := Zm A x
 have ok := Bz hi
 have tn := ok.tn; have nl := ok.nl
 obtain ⟨s1, s2⟩ := Po (C := Ag A (ofI A x)) (at_ := x)
 refine (Zy (Zx _ _) (λ j c hj hc => ?_) λ c hc => ?_).symm
 ·have := s1 j c hj hc
  have := Vh hi hc
  unfold inT; omega
 ·have := s2 c hc
  have := Vh hi hc
  unfold inT; omega
theorem Bn5 (h : Iu w q A) {x : Int} {K : Int -> Wp} (hK : ∀ w', Ext w w' -> K (Q8 A x : Int) w') : Aa Tryz.prog 39 #[.pointer (some (at0 q)), .int .i64 x] rI K w := by
 refine A39 ?_
 unfold F39
 have hA := h.len
 have hi := Zm A x
 have hin := Bc8 A x
 unfold Q8 at hK
 rw [Bp7] at hK
 have ok := Bz hi
 have tn := ok.tn; have nl := ok.nl
 have hcl := Iy hi
 have hofn : ofI A x = nb A (inT A x) := rfl
 refine Xz h (Di λ w1 e1 _ => ?_)
 have h1 := h.ext e1
 refine h1.Cq3 λ s ks kr => Qr h1 hin (Au (ks w1 (Ext.refl _)) ?_)
 rw [← hofn]
 refine kr _ w1 _ hi (Ext.refl _) λ p y hy hyl => ?_
 have hK := hK w1 e1
 obtain ⟨i, hi'⟩ : ∃ i, ofI A x = i := ⟨_, rfl⟩
 obtain ⟨n, hn⟩ : ∃ n, inT A x = n := ⟨_, rfl⟩
 rw [hi'] at hK hi hcl hy hyl tn nl
 rw [hn] at hK
 rw [hn]
 obtain ⟨s1, s2⟩ := Po (C := Ag A i) (at_ := (n : Int))
 have hfl := Zx (Ag A i) (n : Int)
 obtain ⟨m, hm⟩ : ∃ m, Du (Ag A i) (n : Int) = m := ⟨_, rfl⟩
 rw [hm] at hK s1 s2 hfl
 have hch := Ib A i
 refine Ad (λ x W => x = ((m : Int), ()) /\ w1 = W) ?_ (by rintro _ _ ⟨rfl, rfl⟩; exact hK)
 refine Ar (λ x W => ∃ j : Nat, x = (((min j m : Nat) : Int), (j : Int), ()) /\ w1 = W /\ j <= (Ag A i).length) (λ x _ => (((Ag A i).length : Int) - x.2.1).toNat) ⟨0, by simp, rfl, Nat.zero_le _⟩ ?_
 rintro _ _ ⟨j, rfl, rfl, hj⟩
 dsimp only
 refine Ac (λ hc2 => ?_) (λ hc2 => ?_)
 ·simp only [decide_eq_true_eq] at hc2
  obtain ⟨c, hcc⟩ := Dy (C := Ag A i) (j := j) (by omega)
  refine Ad (λ x W => x = (((min (j + 1) m : Nat) : Int), ()) /\ w1 = W) ?_ ?_
  ·refine Cd3 hy hcc λ p => Ac (λ hle => ⟨?_, rfl⟩) (λ hle => ⟨?_, rfl⟩)
   ·simp only [decide_eq_true_eq] at hle
    have : j < m := by
     rcases Nat.lt_or_ge j m with u | u
     ·exact u
     ·exfalso
      rcases Nat.lt_or_ge m j with v | v
      ·obtain ⟨cm, hcm⟩ := Dy (C := Ag A i) (j := m) (by omega)
       have := hch.lt v hcm hcc; have := hch.pos _ c hcc; have := s2 cm hcm; omega
      ·have : j = m := by omega
       subst this
       have := s2 c hcc; omega
    rw [Nat.min_eq_left (by omega), Nat.min_eq_left (by omega), N7 (by omega)]
   ·simp only [decide_eq_false_iff_not] at hle
    have : m <= j := by
     rcases Nat.lt_or_ge j m with u | u
     ·exfalso
      exact hle (s1 j c u hcc)
     ·exact u
    rw [Nat.min_eq_right (by omega), Nat.min_eq_right (by omega)]
  rintro _ _ ⟨rfl, rfl⟩
  rw [N7 (by omega)]
  exact ⟨⟨j + 1, rfl, rfl, by omega⟩, by omega⟩
 ·simp only [decide_eq_false_iff_not] at hc2
  refine ⟨?_, rfl⟩
  rw [Nat.min_eq_right (by omega)]
theorem Ar1 {kind count arg : Int} {K : Int × Bool × Unit -> Wp} (hK : ∀ w', Ext w w' -> K ((kOf count : Int), decide (0 < count), ()) w') : Aa Tryz.prog 91 #[.agg (Cells.vals c48 (mvM kind count arg)).toArray] (.tup [(.one (.int .i64)), (.one .bool)]) K w := by
 refine A91 (a0 := mvM kind count arg) ?_
 unfold F91
 have ek : (kOf count : Int) = if 0 < count then min count 9999 else 1 := by unfold kOf; split <;> omega
 rw [ek] at hK
 refine (St.start w).Af λ b1 w1 S1 e1 => ?_
 have S1 : St (λ _ => False) w w1 [(b1, Yd kind count arg)] := S1
 have hK := hK w1 e1
 refine S1.ld (off := 1) 0 rfl (x := count) rfl (Ac (λ hc => ?_) (λ hc => S1.ld (off := 1) 0 rfl (x := count) rfl (Ac (λ hc2 => ?_) (λ hc2 => S1.ld (off := 1) 0 rfl (x := count) rfl ?_))))
 all_goals simp only [decide_eq_true_eq, decide_eq_false_iff_not, gt_iff_lt] at *
 ·rw [if_neg (by omega), decide_eq_false (by omega)] at hK; exact hK
 ·rw [if_pos (by omega), decide_eq_true (by omega), show min count 9999 = 9999 by omega] at hK; exact hK
 ·rw [if_pos (by omega), decide_eq_true (by omega), show min count 9999 = count by omega] at hK; exact hK
theorem Bu4 {e : Int} {K : LdT -> Wp} (hK : ∀ w', Ext w w' -> K (ldT (noP e)) w') : Aa Tryz.prog 92 #[.int .i64 e] (.tup [(.agg c83), (.one (.int .i64))]) K w := by
 refine A92 ?_
 unfold F92
 exact (St.start w).Af λ b1 w1 S1 e1 => S1.Ae 0 rfl rfl rfl rfl λ w2 S2 _ => S2.lds 0 (ldT (noP e)).1 rfl (hK w2 S2.upd)
theorem Bb1 (h : Iu w q A) {n : Nat} {kind : Int} {K : LdT -> Wp} (hK : ∀ w', Ext w w' -> K (ldT (Dq A n kind)) w') : Aa Tryz.prog 93 #[.pointer (some (at0 q)), .int .i64 (n : Int), .int .i64 kind] (.tup [(.agg c83), (.one (.int .i64))]) K w := by
 refine A93 ?_
 unfold F93
 exact (St.start w).Af λ b1 w1 S1 e1 => Bn5 (h.ext e1) λ w2 e2 => (S1.ext e2).Ae 0 rfl rfl rfl rfl λ w3 S3 _ => S3.lds 0 (ldT (Dq A n kind)).1 rfl (hK w3 S3.upd)
end
section
variable {w w' : World}
theorem Cf7 {w0 : World} {c : Cell} {s : Sl} {xs : List c.T} {n : Int} {K : Addr -> c.T -> Wp} (h : SlX w0 s 1 (xs.map c.val)) (x0 : Ext w0 w) (h0 : 0 <= n) {x : c.T} (hx : xs[n.toNat]? = some x)
  (hK : ∀ p, (∀ w', Ext w0 w' -> w'.cell? (p.add (scaled (Int.toNat n) 1)) = some (c.val x)) -> K p x w) : ix s.a s.len n (λ p => ld c (p.add (scaled (Int.toNat n) 1)) (K p)) w := by
 have hlt := (List.getElem?_eq_some_iff.1 hx).1
 have hl := h.len1
 rw [List.length_map] at hl
 obtain ⟨t, h⟩ := h.Ah2 (by omega)
 rcases h.at_ with ⟨_, hc⟩ | ⟨b, off, cc, fr, ha, hb, _, hv⟩
 ·have := h.le; omega
 ·have hcell : ∀ w', Ext w0 w' -> w'.cell? ((⟨b, off, none⟩ : Addr).add (scaled (Int.toNat n) 1)) = some (c.val x) := λ w' e => by
   rw [addr_add, Dx]
   exact cell_of (e.ext_get hb) (hv _ _ (by rw [Nat.mul_one, List.getElem?_map, hx]; rfl))
  exact ⟨⟨b, off, none⟩, ⟨ha, h0, by omega⟩, Wu (x := x) (hcell w x0) (hK _ hcell)⟩
structure Bt (w0 w : World) (e : Enc) (p r : Nat) (A : As) (na : Nat) : Prop where
 ex : ∃ O M F na', na' <= na /\ Txt w p e 65536 na' O M /\ aOf e M = A /\ Oo w r e (atoms A) F /\ (∀ k, F k -> ¬ O k) /\ (∀ k, O k -> w0.heap.size <= k) /\ (∀ k, F k -> w0.heap.size <= k)
 ok : A = prs e (atoms A)
 sz : szs A <= 65536
theorem Bt.tx {w0 : World} {e : Enc} {p r : Nat} {A : As} {na : Nat} (h : Bt w0 w e p r A na) : TxA w p (atoms A) := by
 obtain ⟨O, M, F, na', _, h1, h2, _⟩ := h.ex
 exact ⟨e, 65536, na', O, M, h1, by rw [h2]⟩
theorem Bt.ext {w0 : World} {e : Enc} {p r : Nat} {A : As} {na : Nat} (h : Bt w0 w e p r A na) (x : Ext w w') : Bt w0 w' e p r A na := by
 obtain ⟨O, M, F, na', h0, h1, h2, h3, h4, h5, h6⟩ := h.ex
 exact ⟨⟨O, M, F, na', h0, h1.ext x, h2, h3.ext x, h4, h5, h6⟩, h.ok, h.sz⟩
set_option maxHeartbeats 1000000 in
theorem Bq0 {w0 : World} {e : Enc} {p r : Nat} {A : As} {na : Nat} {s : Sl} {es : List LEd} (x0 : Ext w0 w) (hB : Bt w0 w e p r A na) (hE : EdX w0 s es) (hna : na + 200000 < 2 ^ 40) {P1 P2 : World -> Prop} (hP : ∀ w', Ext w0 w' -> P1 w' /\ P2 w') {R : Int -> Int -> Wp} (hR : ∀ v A' w', Ext w0 w' -> Bt w0 w' e p r A' (na + 65536) -> R v v w') :
  Aa Tryz.prog 15 #[s.v] rS (λ x23 => keep P1 (keep P2 (Aa Tryz.prog 14 #[.pointer (some (at0 p)), x23.v] rI λ x24 => keep P1 (keep P2 (Aa Tryz.prog 16 #[.pointer (some (at0 r)), s.v] rI λ x25 => R x24 x25))))) w := by
 obtain ⟨O, M, F, na', h0, h1, h2, h3, h4, h5, h6⟩ := hB.ex
 have hok := hB.ok; have hsz := hB.sz
 subst h2
 refine Bu8 (hE.ext x0) λ q zs w6 hEd hr hz e6 => ?_
 have x6 := x0.trans e6
 refine Au (hP w6 x6).1 (Au (hP w6 x6).2 ?_)
 have t6 := h1.ext e6
 obtain ⟨ys, hER⟩ := hE.toR
 refine An7 t6 hEd hsz (λ k hk hOk => ?_) (λ j z hj k hk hOk => ?_) (by omega) (λ c w7 hc0 hc e7 => ?_) λ hc O' M' w7 t7 ha7 hs7 u7 _ o2 => ?_
 ·have := hr k hk; have := h1.own k hOk; omega
 ·have := hz j z hj k hk; have := h1.own k hOk; omega
 ·have x7 := x6.trans e7
  refine Au (hP w7 x7).1 (Au (hP w7 x7).2 ?_)
  refine Xy (h3.ext (e6.trans e7)) hok (hER.ext x7) hsz (λ hne w8 e8 => ?_) (λ heq => by rw [heq] at hc; exact absurd hc.symm hc0)
  rw [hc]
  exact hR c _ w8 (x7.trans e8) ⟨⟨O, M, F, na', by omega, ((h1.ext e6).ext e7).ext e8, rfl, ((h3.ext e6).ext e7).ext e8, h4, h5, h6⟩, hok, hsz⟩
 ·have x7 : Ext w0 w7 := x6.step u7 λ k hk => h5 k hk.1
  refine Au (hP w7 x7).1 (Au (hP w7 x7).2 ?_)
  have hps := Ba5 hc
  have r7 : Oo w7 r e (atoms (aOf e M)) F := (h3.ext e6).upd u7 λ k hk hw => h4 k hk hw.1
  refine Xy r7 hok (hER.ext x7) hsz (λ hne => absurd hc hne) (λ _ F' w8 r8 u8 f8 => ?_)
  have hrO : ¬ O' r := λ hO => by
   rcases o2 r hO with q1 | q1
   ·exact h4 r h3.root q1
   ·have := h3.own r h3.root; have := e6.size; omega
  obtain ⟨sa0, st0, T0, hr0, _⟩ := r7.ex
  have t8 : Txt w8 p e 65536 _ O' M' := t7.upd u8 (λ k hk hkr => by subst hkr; exact hrO hk) (λ k hk c fr hn => by
   subst hk
   rw [hr0] at hn
   cases hn)
  have x8 : Ext w0 w8 := x7.step u8 λ k hk => by subst hk; exact h6 _ h3.root
  have hok' : Df e (aOf e M) es = prs e (atoms (Df e (aOf e M) es)) := (Ac7 (e := e) (by rw [hok]; exact Ba8 e _) es).prs
  refine hR 0 (Df e (aOf e M) es) w8 x8 ⟨⟨O', M', F', _, by omega, t8, ha7, r8, λ k hk hO => ?_, λ k hk => ?_, λ k hk => ?_⟩, hok', by rw [← ha7]; exact hs7⟩
  ·rcases f8 k hk with q1 | q1
   ·rcases o2 k hO with q2 | q2
    ·exact h4 k q1 q2
    ·have := h3.own k q1; have := e6.size; omega
   ·have := t7.own k hO; omega
  ·rcases o2 k hk with q1 | q1
   ·exact h5 k q1
   ·have := x6.size; omega
  ·rcases f8 k hk with q1 | q1
   ·exact h6 k q1
   ·have := x7.size; omega
theorem Bt5 {c : Int} {s : Sl} {n : Nat} (hl : s.len = n) (hc : ¬ (1 <= c /\ c <= 4 /\ n <= 65536)) {K : Option Addr × Int × Unit -> Wp} (hK : ∀ v, v ≠ 0 -> K (none, v, ()) w) :
  Aa Tryz.prog 12 #[.int .i64 c, s.v, .int .i64 65536] (.tup [(.one .ptr), (.one (.int .i64))]) K w := by
 refine A12 ?_
 unfold F12
 refine Ad (λ x W => x = (decide (¬ (1 <= c /\ c <= 4)), ()) /\ w = W) (Ac (λ hc => ⟨Az ?_, rfl⟩) (λ hc => ⟨Az ?_, rfl⟩)) ?_
 ·simp only [decide_eq_true_eq, true_iff] at hc ⊢; omega
 ·simp only [decide_eq_false_iff_not, decide_eq_true_eq, gt_iff_lt] at hc ⊢; omega
 rintro _ _ ⟨rfl, rfl⟩
 refine Ac (λ _ => hK 10 (by decide)) (λ hc2 => ?_)
 have hc2 := Classical.byContradiction λ hn => (of_decide_eq_false hc2) hn
 refine Ad (λ x W => x = (false, ()) /\ w = W) (Am ⟨rfl, rfl⟩) ?_
 rintro _ _ ⟨rfl, rfl⟩
 refine Am (Ac (λ _ => hK 50 (by decide)) (λ hc3 => ?_))
 simp only [decide_eq_false_iff_not, gt_iff_lt] at hc3
 omega
set_option maxHeartbeats 2000000 in
theorem Ao8 {y : Cells.T c26} {c : Int} {l : List UInt8} {L : List (List LEd)} {al : List Ua} (h : Tt w y c l L al) {K : Option Addr × Option Addr × Bool × Unit -> Wp} (hN : ∀ w', Ext w w' -> K (none, none, true, ()) w')
  (hS : ∀ p q e A w', l.length <= 65536 -> e.num = c -> (∃ w1, Ext w w1 /\ ∃ r, Bt w1 w' e p r A (65536 * L.length)) -> Iu w' q (atoms A) -> Ext w w' -> K (some (at0 p), some (at0 q), true, ()) w') :
  Aa Tryz.prog 11 #[.agg (Cells.vals c26 y).toArray] (.tup [(.one .ptr), (.one .ptr), (.one .bool)]) K w := by
 refine A11 (a0 := y) ?_
 unfold F11
 have hbl : l.length = y.2.1.len := by have := h.bytes.len1; rwa [List.length_map] at this
 obtain ⟨ys, hys, hyl, hye⟩ := h.edits.ex
 have few := h.edits.few
 have hsl : ys.length = y.2.2.1.len := by have := hys.len1; rwa [List.length_map] at this
 have he : (some (Value.int .i64 y.1) : Option Value) = some (Value.int .i64 c) := congrArg (λ (n : Int) => some (Value.int .i64 n)) h.e
 refine (St.start w).Af λ b1 w1 S1 e1 => Br5 λ w2 e2 => Am ?_
 have S2 := S1.ext e2
 have S2 : St (λ _ => False) w w2 [(b1, lkO y)] := S2
 refine S2.ld (off := 0) 0 rfl (x := c) he (S2.ld (off := 1) 0 rfl (x := y.2.1) rfl ?_)
 by_cases hc : ¬ (1 <= c /\ c <= 4 /\ l.length <= 65536)
 ·exact Bt5 hbl.symm hc λ v hv => Ac (λ _ => hN w2 S2.upd) (λ hh => absurd (by simpa using hh) hv)
 have hc := Classical.byContradiction hc
 obtain ⟨e, hen⟩ := Cg9 (c := c) ⟨hc.1, hc.2.1⟩
 rw [← hen]
 refine Ba1 (h.bytes.ext S2.upd) hc.2.2 λ r w3 F hR hF e3 => Am ?_
 have S3 := S2.ext e3
 refine S3.drew λ w4 S4 e4 _ => S4.ld (off := 0) 0 rfl (x := e.num) (by rw [hen]; exact he) (S4.ld (off := 1) 0 rfl (x := y.2.1) rfl ?_)
 refine Cb9 (s := ⟨none, 0, 0⟩) (l := []) (m := l) (B := w.heap.size) (Ap.nil w4 w.heap.size 5 1) (h.bytes.ext S4.upd) (by
  show 0 + y.2.1.len + (0 + y.2.1.len) / 4 + 512 <= 2 ^ 48
  omega) S4.upd.size λ s8 w5 o5 l5 u5 b5 _ => ?_
 have e5 : Ext w4 w5 := (Ext.refl w4).step u5 λ k hk => by obtain ⟨_, hp, _⟩ := hk; cases hp
 have S5 := S4.ext e5
 rw [List.nil_append] at o5
 refine S5.keep (off := 0) 0 rfl (v := .int .i64 e.num) (by rw [hen]; exact he) ?_
 have hB5 : By w5 s8 l := o5.in
 refine Ag0 (e := e) (lim := 65536) hB5 hc.2.2 (Nat.le_refl _) λ p O M w6 tx hA _ e6 hnew => ?_
 have S6 := S5.ext e6
 refine Ad (λ x W => x = (false, ()) /\ w6 = W) (Am ⟨rfl, rfl⟩) ?_
 rintro _ _ ⟨rfl, rfl⟩
 refine Am ?_
 have x26 : Ext w2 w6 := ((e3.trans e4).trans e5).trans e6
 have hsz : szs (ats e l) <= 65536 := by rw [He]; exact hc.2.2
 have B6 : Bt w2 w6 e p r (ats e l) 0 := ⟨⟨O, M, F, 0, Nat.le_refl _, tx, hA, ((hR.ext e4).ext e5).ext e6, λ k hk hO => by
  have := hR.own k hk; have := hnew k hO; have := e4.size; have := e5.size; omega, λ k hO => by
  have := hnew k hO; have := e3.size; have := e4.size; have := e5.size; omega, hF⟩, (Bf5 e _ l (Nat.le_refl _)).prs, hsz⟩
 have hb1 : b1 < w2.heap.size := lt_of_heap (S2.at_ 0 rfl)
 have hob : w2.heap[b1]? = some (lkO y) := S2.at_ 0 rfl
 have hw2 : Ext w w2 := S2.upd
 refine Ad (λ _ W => ∃ A, Ext w2 W /\ Bt w2 W e p r A (65536 * L.length)) ?_ ?_
 ·refine Ar (λ x W => ∃ (i : Nat) (A : As), x = ((i : Int), ()) /\ i <= L.length /\ Ext w2 W /\ Bt w2 W e p r A (65536 * i)) (λ x _ => ((L.length : Int) - x.1).toNat) ⟨0, _, rfl, Nat.zero_le _, x26, B6⟩ ?_
  rintro _ W ⟨i, A, rfl, hi, xW, hB⟩
  dsimp only
  have hobW := xW.ext_get hob
  refine Cc (off := 2) (x := y.2.2.1) hobW rfl (Ac (λ hc2 => ?_) (λ hc2 => ?_))
  ·simp only [decide_eq_true_eq] at hc2
   have ew : W64 ((i : Int) + 1) = ((i + 1 : Nat) : Int) := by rw [wrap64 (by omega) (by omega)]; omega
   rw [ew]
   obtain ⟨q, hq⟩ : ∃ q, ys[i]? = some q := ⟨_, List.getElem?_eq_getElem (by omega)⟩
   obtain ⟨es, hes⟩ : ∃ es, L[i]? = some es := ⟨_, List.getElem?_eq_getElem (by omega)⟩
   have hqn : ys[((i : Int)).toNat]? = some q := by rw [Int.toNat_natCast]; exact hq
   refine Di λ w7 e7 _ => ?_
   have x7 := xW.trans e7
   have ob7 := x7.ext_get hob
   refine Cc (off := 2) (x := y.2.2.1) ob7 rfl ?_
   refine Am4 (c := .sl) (xs := ys) (hys.ext (hw2.trans x7)) (Int.natCast_nonneg i) hqn λ p1 => ?_
   refine Cc (off := 2) (x := y.2.2.1) ob7 rfl ?_
   refine Cf7 (c := .sl) (xs := ys) (hys.ext hw2) x7 (Int.natCast_nonneg i) hqn λ p2 k2 => ?_
   refine Bq0 x7 (hB.ext e7) ((hye i q es hq hes).ext hw2) (by omega) (λ w' x' => ⟨k2 w' x', cell_of (off := 2) (x'.ext_get hob) rfl⟩) λ v A' w8 x8 B8 => ?_
   rw [bne_self_eq_false]
   exact Am ⟨⟨i + 1, A', rfl, by omega, x8, by rw [Nat.mul_succ]; exact B8⟩, by omega⟩
  ·simp only [decide_eq_false_iff_not] at hc2
   obtain rfl : i = L.length := by omega
   exact ⟨A, xW, hB⟩
 rintro _ W ⟨A, xW, hB⟩
 obtain ⟨O', M', F', na', _, _, _, hR', _, _, _⟩ := hB.ex
 refine hR'.Qm λ sa hsa => Bw7 hsa hR'.len λ q w8 hq _ e8 => ?_
 exact hS p q e A w8 hc.2.2 hen ⟨w2, hw2, r, hB.ext e8⟩ hq ((hw2.trans xW).trans e8)
end
section
variable {w w' : World} {p : Nat} {A : List Int}
abbrev Cb6 (a : Ua) : Obj := .cells #[.int .i64 a.kind, .int .i64 a.at_, .int .i64 a.b, .int .i64 a.mkd, .int .i64 a.count, .int .i64 a.arg, .bool a.past] 50 (0, 0)
theorem Aw8 {W : World} {b : Nat} {a : Ua} {K : Cells.T c48 -> Wp} (hb : W.heap[b]? = some (Cb6 a)) (hK : K (mvM a.mkd a.count a.arg) W) : lds c48 ⟨b, 3, none⟩ K W :=
 Nb (x := mvM a.mkd a.count a.arg) hb (λ j v hv => by
  match j with
  | 0 => exact hv
  | 1 => exact hv
  | 2 => exact hv
  | j + 3 => cases hv) hK
end
def Brk (w : World) : Prop := ∀ j, j < 6 -> w.cell? ⟨0, j, none⟩ = some (.int .i64 (Yv.getD j 0))
section
variable {w w' : World} {p q : Nat} {A : List Int} {a : Ua}
theorem Brk.ext (h : Brk w) (x : Ext w w') : Brk w' := λ j hj => Rj (h j hj) x
def Cl0 (a : Ua) : Prop := ∀ (w : World) (p q : Nat) (A : List Int) (K : Bool -> Wp), Brk w -> TxA w p A -> Iu w q A -> (∀ w', Ext w w' -> K true w') -> Aa Tryz.prog 18 #[.pointer (some (at0 p)), .pointer (some (at0 q)), .agg (Cells.vals c50 (Ao4 a)).toArray] rB K w
theorem Az8 {l : Ld} {K : Bool -> Wp} (hK : ∀ w', Ext w w' -> K true w') : Aa Tryz.prog 42 #[.agg (Cells.vals c83 (ldT l).1).toArray, .int .i64 l.2, .agg (Cells.vals c83 (ldT l).1).toArray, .int .i64 l.2] rB K w := by
 refine A42 (a0 := (ldT l).1) (a2 := (ldT l).1) ?_
 unfold F42
 refine (St.start w).Af λ b1 w1 S1 e1 => S1.Af λ b2 w2 S2 e2 => S2.ld (off := 0) 1 rfl (x := l.1.1) rfl (S2.ld (off := 0) 0 rfl (x := l.1.1) rfl ?_)
 rw [beq_self_eq_true]
 refine Bo (S2.ld (off := 1) 1 rfl (x := l.1.2.1) rfl (S2.ld (off := 1) 0 rfl (x := l.1.2.1) rfl ?_))
 rw [beq_self_eq_true]
 refine Bo (S2.ld (off := 2) 1 rfl (x := l.1.2.2) rfl (S2.ld (off := 2) 0 rfl (x := l.1.2.2) rfl ?_))
 rw [beq_self_eq_true, beq_self_eq_true]
 exact Bo (hK w2 S2.upd)
section
variable {y : Cells.T c26} {c : Int} {l : List UInt8} {L : List (List LEd)} {al : List Ua}
theorem Tt.Cp6 {W : World} (h : Tt w y c l L al) (e : Ext w W) : Tt W y c l L al :=
 ⟨h.e, h.i64, h.bytes.ext e, h.blen, ⟨by obtain ⟨ys, g1, g2, g3⟩ := h.edits.ex; exact ⟨ys, g1.ext e, g2, λ i q es hq he => (g3 i q es hq he).ext e⟩, h.edits.few⟩, ⟨h.asks.row.ext e, h.asks.few, h.asks.i64⟩⟩
theorem Tt.Cu9 (h : Tt w y c l L al) {W : World} (x : Ext w W) {i : Nat} {a : Ua} (ha : al[i]? = some a) {K : Addr -> Cells.T c50 -> Wp} (hK : ∀ q, K q (Ao4 a) W) :
  ix y.2.2.2.1.a y.2.2.2.1.len (i : Int) (λ q => lds c50 (q.add (scaled (Int.toNat (i : Int)) 7)) (K q)) W :=
 Bi9 (cs := c50) (xs := al.map Ao4) (h.asks.row.ext x) (by decide) (Int.natCast_nonneg i) (by rw [Int.toNat_natCast, List.getElem?_map, ha]; rfl) hK
theorem Tt.Cp7 (h : Tt w y c l L al) : al.length = y.2.2.2.1.len := by
 have := SlX.Jt (cs := c50) h.asks.row (by decide)
 rwa [List.length_map] at this
set_option maxHeartbeats 1000000 in
theorem Ax8 (h : Tt w y c l L al) (hg : Brk w) {lo hi : Int} (hask : ∀ a, lo <= a.kind -> a.kind <= hi -> Cl0 a) {K : Bool -> Wp} (hK : ∀ w', Ext w w' -> K true w') :
  Aa Tryz.prog 10 #[.agg (Cells.vals c26 y).toArray, .int .i64 lo, .int .i64 hi] rB K w := by
 refine A10 (a0 := y) ?_
 unfold F10
 have hal := h.Cp7
 have hfew := h.asks.few
 refine (St.start w).Af λ b1 w1 S1 e1 => ?_
 have S1 : St (λ _ => False) w w1 [(b1, lkO y)] := S1
 refine S1.lds 0 y rfl (Ao8 (h.Cp6 e1) (λ w2 e2 => ?_) λ p q e A w2 _ _ hB pg e2 => ?_)
 ·refine Ad (λ s W => s = (true, ()) /\ w2 = W) (Am ⟨rfl, rfl⟩) ?_
  rintro _ _ ⟨rfl, rfl⟩
  exact Bo (hK w2 (S1.ext e2).upd)
 obtain ⟨w0, _, r, hB⟩ := hB
 have tx2 := hB.tx
 refine Ad (λ s W => s = (false, ()) /\ w2 = W) (Am ⟨rfl, rfl⟩) ?_
 rintro _ _ ⟨rfl, rfl⟩
 refine Am ?_
 have S2 := S1.ext e2
 refine Ad (λ _ W => Ext w W) ?_ (λ _ W hW => hK W hW)
 refine Ar (λ x W => ∃ i : Nat, x = ((i : Int), ()) /\ i <= al.length /\ TxA W p (atoms A) /\ Iu W q (atoms A) /\ St (λ _ => False) w W [(b1, lkO y)]) (λ x _ => ((al.length : Int) - x.1).toNat) ⟨0, rfl, Nat.zero_le _, tx2, pg, S2⟩ ?_
 rintro _ W ⟨i, rfl, hi, tx, pg, SW⟩
 dsimp only
 refine SW.ld (off := 3) 0 rfl (x := y.2.2.2.1) rfl (Ac (λ hc => ?_) (λ hc => SW.upd))
 simp only [decide_eq_true_eq] at hc
 obtain ⟨a, ha⟩ : ∃ a, al[i]? = some a := ⟨_, List.getElem?_eq_getElem (by omega)⟩
 have ewi : W64 ((i : Int) + 1) = ((i + 1 : Nat) : Int) := by rw [wrap64 (by omega) (by omega)]; omega
 rw [ewi]
 refine SW.ld (off := 3) 0 rfl (x := y.2.2.2.1) rfl (h.Cu9 SW.upd ha λ q1 => ?_)
 refine (St.start W).Ku rfl rfl rfl λ bA w4 T4 _ => ?_
 have T4 : St (λ _ => False) W w4 [(bA, Cb6 a)] := T4
 refine Ad (λ x V => x = (false, ()) /\ Ext W V) ?_ ?_
 ·refine T4.ld (off := 0) 0 rfl (x := a.kind) rfl (Ac (λ h1 => T4.ld (off := 0) 0 rfl (x := a.kind) rfl (Ac (λ h2 => ?_) (λ _ => ⟨rfl, T4.upd⟩))) (λ _ => ⟨rfl, T4.upd⟩))
  simp only [decide_eq_true_eq, ge_iff_le] at h1 h2
  exact T4.lds 0 (Ao4 a) rfl (hask a h1 h2 w4 p q _ _ (hg.ext (SW.upd.trans T4.upd)) (tx.ext T4.upd) (pg.ext T4.upd) λ w5 e5 => ⟨rfl, (T4.ext e5).upd⟩)
 rintro _ V ⟨rfl, xV⟩
 exact Am ⟨⟨i + 1, rfl, by omega, tx.ext xV, pg.ext xV, SW.ext xV⟩, by omega⟩
end
end
end Go.Proofs.YtolhlldgnfbemaaGreatDoor
namespace Go.Proofs.YtolhlldgnfbemaaGreatDoor
open Go Go.Vx Go.ChangeShapes Go.WideShapes Go.RowKit Cdc Mot
theorem Df3 : Tryz.prog.globalNamed "copyist/copyistref8.brackets" = some 0 := by kernel_rfl
theorem Cv1 : (Tryz.prog.globals[0]?).map (·.type) = some 202 := by kernel_rfl
theorem Cv0 : Tryz.prog.underlying 202 = some (.array 6 3) := by kernel_rfl
theorem Dg1 : Tryz.prog.cellsOf 3 = 1 := by kernel_rfl
abbrev laidB : List (String × DataW Unit) := [("copyist/copyistref8.brackets", Rows.laid_copyist_copyistref8_brackets)]
theorem Aw1 {W : World} (h : laidMetH Tryz.prog laidB W) : Brk W := by
 rw [MakeChecks.laidMetH_plain _ _ _ (by kernel_rfl)] at h
 obtain ⟨ps, ⟨g0, t0, cs0, f0, p0, q0, hg0, ht0, hv0, hd0, _, _⟩, _, _⟩ := h
 obtain rfl := Option.some.inj (Df3.symm.trans hg0)
 obtain rfl := Option.some.inj (Cv1.symm.trans ht0)
 obtain ⟨xs, m1, rfl, hx1, hlen, hn6, hel⟩ := DataW.trod_array Cv0 hd0
 have hm : xs.map (·.1) = [.lit (.int .i64 40), .lit (.int .i64 91), .lit (.int .i64 123), .lit (.int .i64 41), .lit (.int .i64 93), .lit (.int .i64 125)] := by
  have := (Prod.mk.inj hx1).1
  unfold Rows.laid_copyist_copyistref8_brackets at this
  exact (DataW.agg.inj this).symm
 intro j hj
 have h0 := hel j hj
 rw [Dg1, Nat.mul_one] at h0
 obtain ⟨x, hx⟩ : ∃ x, xs[j]? = some x := ⟨_, List.getElem?_eq_getElem (by omega)⟩
 rw [hx] at h0
 obtain ⟨n, e1, e2, _⟩ := DataW.trod_int ui h0
 have hcs : cs0[j]? = some (.int .i64 n) := by
  have := congrArg (λ l : List Value => l[0]?) e1
  simp only [List.getElem?_take, List.getElem?_drop, Nat.add_zero] at this
  simpa using this
 have hx1 : (xs.map (·.1))[j]? = some (.lit (.int .i64 n)) := by rw [List.getElem?_map, hx, e2]; rfl
 rw [hm] at hx1
 rw [World.var?_cell hg0 hv0 j, hcs]
 have hn : n = Yv.getD j 0 := by
  rcases (by omega : j = 0 \/ j = 1 \/ j = 2 \/ j = 3 \/ j = 4 \/ j = 5) with rfl | rfl | rfl | rfl | rfl | rfl
  all_goals
   have := Option.some.inj hx1
   have := Lit.int.inj (DataW.lit.inj this)
   exact this.2.symm
 rw [hn]
def laidWorld (os : Os) : World :=
 let w0 := World.holding Tryz.prog os ⟨#[], #[], []⟩
 { w0 with heap := w0.heap.modify 0 λ
  | .cells _ t frozen => .cells #[.int .i64 40, .int .i64 91, .int .i64 123, .int .i64 41, .int .i64 93, .int .i64 125] t frozen
  | o => o }
abbrev look0 : Value := .agg #[.int .i64 0, .slice none 0 0, .slice none 0 0, .slice none 0 0]
theorem laid_met (os : Os) (args : Array Value) : laidMetH Tryz.prog laidB ((laidWorld os).forCall (λ _ _ => 0) ⟨#[], args, []⟩).memory := by
 rw [MakeChecks.laidMetH_plain _ _ _ (by kernel_rfl)]
 exact (LaidIn.of_run [0] 8 (by kernel_rfl) (by kernel_rfl) (by kernel_rfl) (by kernel_rfl)).met
end Go.Proofs.YtolhlldgnfbemaaGreatDoor
namespace Go.Proofs.YtolhlldgnfbemaaGreatDoor
open Go Go.Vx Cdc Trx Gly Clu Lns Obx Mot
theorem Cf5 (c : Int) : 1 <= kOf c /\ kOf c <= 9999 := by unfold kOf; split <;> omega
section
variable {w w' : World} {p : Nat} {A : List Int}
end
def Zk : Option Nat -> Int
 | none => -1
 | some j => (j : Int)
section
variable {w w' : World} {q : Nat} {A : List Int} {i : Nat}
end
abbrev ldX (l : Ld) : Obj := .cells #[.int .i64 l.1.1, .int .i64 l.1.2.1, .int .i64 l.1.2.2] 83 (0, 0)
section
variable {w w' : World} {p q : Nat} {A : List Int} {a : Ua}
end
end Go.Proofs.YtolhlldgnfbemaaGreatDoor
namespace Go.Proofs.YtolhlldgnfbemaaGreatDoor
open Trx Gly Clu Lns Obx
namespace Mot
def bkF (A : List Int) (p : Nat × Nat) : Option ((Nat × Nat) × Nat) := (Ql A p).map λ b => (p, b)
def bkL (A : List Int) (i : Nat) : List ((Nat × Nat) × Nat) := ((List.range i).flatMap (rowP A)).filterMap (bkF A)
def bkR (A : List Int) (i j : Nat) : List ((Nat × Nat) × Nat) := ((List.range j).map λ c => (i, c)).filterMap (bkF A)
def Br2 (A : List Int) (p : Nat × Nat) : Cel := ((Ag A p.1)[p.2]?).getD { from_ := 0, to_ := 0, atom := 0, alone := false, kind := 0 }
variable {A : List Int} {i j : Nat}
theorem Bk6 (A : List Int) : bkL A (lnN A) = Fv A := rfl
theorem Ca9 (A : List Int) : bkL A 0 = [] := rfl
theorem Aw3 (A : List Int) (i : Nat) : bkR A i 0 = [] := rfl
theorem Ac4 (A : List Int) (i : Nat) : bkL A (i + 1) = bkL A i ++ bkR A i (Ag A i).length := by
 unfold bkL bkR
 rw [List.range_succ, List.flatMap_append, List.filterMap_append]
 congr 1
 simp only [List.flatMap_cons, List.flatMap_nil, List.append_nil]
 unfold rowP
 split
 ·rename_i h0
  have h1 : bkF A (i, 0) = none := by
   unfold bkF Ql
   have : (Ag A i)[0]? = none := List.getElem?_eq_none (by omega)
   dsimp only; rw [this]; rfl
  rw [h0]; simp [h1]
 ·rfl
theorem Ca7 {x : (Nat × Nat) × Nat} (h : bkF A (i, j) = some x) : bkR A i (j + 1) = bkR A i j ++ [x] := by
 unfold bkR
 rw [List.range_succ, List.map_append, List.filterMap_append]
 congr 1
 simp [h]
theorem Aw4 (h : bkF A (i, j) = none) : bkR A i (j + 1) = bkR A i j := by
 unfold bkR
 rw [List.range_succ, List.map_append, List.filterMap_append]
 simp [h]
theorem Cp1 {c : Cel} (hc : (Ag A i)[j]? = some c) : bkF A (i, j) = (sortB c).map λ b => ((i, j), b) := by
 unfold bkF Ql; dsimp only; rw [hc]; rfl
theorem Bj9 {c : Cel} (hc : (Ag A i)[j]? = some c) : Br2 A (i, j) = c := by
 unfold Br2; dsimp only; rw [hc]; rfl
theorem Ci4 {x : (Nat × Nat) × Nat} (h : x ∈ Fv A) : ∃ c, (Ag A x.1.1)[x.1.2]? = some c /\ sortB c = some x.2 /\ Br2 A x.1 = c /\ Ec A x.1 = c.from_ := by
 unfold Fv at h
 rw [List.mem_filterMap] at h
 obtain ⟨p, _, hp⟩ := h
 obtain ⟨b, hb, rfl⟩ := Option.map_eq_some_iff.1 hp
 unfold Ql at hb
 obtain ⟨c, hc, hs⟩ := Option.bind_eq_some_iff.1 hb
 refine ⟨c, hc, hs, Bj9 hc, ?_⟩
 unfold Ec
 rw [Eh (List.getElem?_eq_some_iff.1 hc).1, Ht hc]
theorem Aq3 {c : Cel} {b : Nat} (h : sortB c = some b) : b < 6 := by
 unfold sortB at h
 repeat' split at h
 all_goals first | cases h; omega | cases h
theorem Ao3 (A : List Int) (i j : Nat) : (bkR A i j).length <= j := by
 unfold bkR
 have := List.length_filterMap_le (bkF A) ((List.range j).map λ c => (i, c))
 rwa [List.length_map, List.length_range] at this
theorem Bk5 (h : i <= brs A) : (bkL A i).length <= (Aw A i).from_ := by
 induction i with
 | zero => rw [Ca9]; exact Nat.zero_le _
 | succ i ih =>
  rw [Ac4, List.length_append]
  have h1 := ih (by omega)
  have h2 := Ao3 A i (Ag A i).length
  have h3 := Iy (A := A) (i := i) (by omega)
  have h4 := Ob (A := A) (i := i) (j := i + 1) (by omega) h
  have ok := Bz (A := A) (i := i) (by omega)
  have := ok.ft; have := ok.tn
  omega
theorem Ca2 (A : List Int) : (Fv A).length <= A.length := by
 obtain ⟨k, hk⟩ : ∃ k, lnN A = k + 1 := ⟨lnN A - 1, by have := Bl A; omega⟩
 have hb := Bl A
 rw [← Bk6, hk, Ac4, List.length_append]
 have h1 := Bk5 (A := A) (i := k) (by omega)
 have h2 := Ao3 A k (Ag A k).length
 have h3 := Iy (A := A) (i := k) (by omega)
 have ok := Bz (A := A) (i := k) (by omega)
 have := ok.ft; have := ok.tn; have := ok.nl
 omega
def Cn6 (A : List Int) (s : Nat) (q : (Nat × Nat) × Nat) : Bool := q.1.1 == nb A s && decide (s <= Ec A q.1)
theorem Cf0 {s : Nat} (hs : s <= A.length) (hi : i <= brs A) {c : Cel} (hc : (Ag A i)[j]? = some c) (b : Nat) : Cn6 A s ((i, j), b) = decide (s <= c.from_ /\ c.from_ < (Aw A (nb A s)).to_) := by
 have ho : Ec A (i, j) = c.from_ := by
  unfold Ec
  rw [Eh (List.getElem?_eq_some_iff.1 hc).1, Ht hc]
 have hn := Ns A s
 have hr := row_of hs
 have hcl := Vh hi hc
 have ok := Bz hi
 have okn := Bz hn
 have := ok.ft; have := ok.tn; have := okn.ft; have := okn.tn
 unfold Cn6
 dsimp only
 rw [ho, Bool.eq_iff_iff, Bool.and_eq_true, decide_eq_true_eq, decide_eq_true_eq, beq_iff_eq]
 constructor
 ·rintro ⟨h1, h2⟩
  refine ⟨h2, ?_⟩
  rw [← h1]; omega
 ·rintro ⟨h1, h2⟩
  refine ⟨?_, h1⟩
  rcases Nat.lt_trichotomy i (nb A s) with h | h | h
  ·have := Ob h hn; omega
  ·exact h
  ·have := Ob h hi; omega
theorem Bx9 {β : Type} (l : List β) (x : β) (P : β -> Bool) : (l ++ [x]).findIdx? P = match l.findIdx? P with | some m => some m | none => if P x then some l.length else none := by
 rw [List.findIdx?_append]
 cases l.findIdx? P with
 | some m => rfl
 | none =>
  by_cases h : P x = true
  ·simp [h]
  ·simp [h]
def Rest {β : Type} (L : List β) (up : Bool) (x : Int) (R : List β) : Prop := if up then ∃ j : Nat, x = (j : Int) /\ j <= L.length /\ R = L.drop j else ∃ n : Nat, x = (n : Int) - 1 /\ n <= L.length /\ R = (L.take n).reverse
theorem Rest.nil {β : Type} {L : List β} {up : Bool} {x : Int} (h : Rest L up x []) : ¬ (0 <= x /\ x < (L.length : Int)) := by
 cases up with
 | true =>
  obtain ⟨j, rfl, hj, hr⟩ := h
  have := congrArg List.length hr
  rw [List.length_drop, List.length_nil] at this
  omega
 | false =>
  obtain ⟨n, rfl, hn, hr⟩ := h
  have := congrArg List.length hr
  rw [List.length_reverse, List.length_take, List.length_nil] at this
  omega
theorem Rest.cons {β : Type} {L R : List β} {r : β} {up : Bool} {x : Int} (h : Rest L up x (r :: R)) : 0 <= x /\ x < (L.length : Int) /\ L[x.toNat]? = some r /\ Rest L up (if up then x + 1 else x - 1) R := by
 cases up with
 | true =>
  obtain ⟨j, rfl, hj, hr⟩ := h
  have hl := congrArg List.length hr
  rw [List.length_drop, List.length_cons] at hl
  have hd := List.drop_eq_getElem_cons (l := L) (i := j) (by omega)
  rw [hd] at hr
  injection hr with h1 h2
  refine ⟨by omega, by omega, ?_, j + 1, ?_, by omega, h2⟩
  ·rw [Int.toNat_natCast, List.getElem?_eq_getElem (by omega), h1]
  ·rw [if_pos rfl]; omega
 | false =>
  obtain ⟨n, rfl, hn, hr⟩ := h
  have hl := congrArg List.length hr
  rw [List.length_reverse, List.length_take, List.length_cons] at hl
  obtain ⟨m, rfl⟩ : ∃ m, n = m + 1 := ⟨n - 1, by omega⟩
  have hm : L[m]? = some L[m] := List.getElem?_eq_getElem (by omega)
  rw [List.take_add_one, hm, Option.toList_some, List.reverse_append] at hr
  injection hr with h1 h2
  refine ⟨by omega, by omega, ?_, m, ?_, by omega, h2⟩
  ·rw [show (((m + 1 : Nat) : Int) - 1).toNat = m by omega, hm, h1]
  ·rw [if_neg (by decide)]; omega
theorem Ce3 {β : Type} {L : List β} {m : Nat} {q : β} (h : L[m]? = some q) : Rest L true (m : Int) (q :: L.drop (m + 1)) := by
 have hm := (List.getElem?_eq_some_iff.1 h)
 refine ⟨m, rfl, by have := hm.1; omega, ?_⟩
 rw [List.drop_eq_getElem_cons hm.1, hm.2]
theorem Ce5 {β : Type} {L : List β} {m : Nat} {q : β} (h : L[m]? = some q) : Rest L false (m : Int) (q :: (L.take m).reverse) := by
 have hm := (List.getElem?_eq_some_iff.1 h).1
 refine ⟨m + 1, by omega, by omega, ?_⟩
 rw [List.take_add_one, h, Option.toList_some, List.reverse_append]; rfl
theorem Rest.len {β : Type} {L R : List β} {up : Bool} {x : Int} (h : Rest L up x R) : R.length <= L.length := by
 cases up with
 | true => obtain ⟨j, _, _, rfl⟩ := h; rw [List.length_drop]; omega
 | false => obtain ⟨n, _, _, rfl⟩ := h; rw [List.length_reverse, List.length_take]; omega
theorem Aq5 {own : Nat} {p : Nat × Nat} {R : List ((Nat × Nat) × Nat)} {d : Nat} : Dk own ((p, own) :: R) d = Dk own R (d + 1) := by
 rw [Dk, if_neg (λ h => h rfl), if_pos rfl]
theorem Az4 {own b : Nat} {p : Nat × Nat} {R : List ((Nat × Nat) × Nat)} {d : Nat} (h : b % 3 ≠ own % 3) : Dk own ((p, b) :: R) d = Dk own R d := by
 rw [Dk, if_pos h]
theorem Bm3 {own b : Nat} {p : Nat × Nat} {R : List ((Nat × Nat) × Nat)} (h : b % 3 = own % 3) (hb : b ≠ own) : Dk own ((p, b) :: R) 1 = some p := by
 rw [Dk, if_neg (λ hh => hh h), if_neg hb, if_pos rfl]
theorem Bm2 {own b : Nat} {p : Nat × Nat} {R : List ((Nat × Nat) × Nat)} {d : Nat} (h : b % 3 = own % 3) (hb : b ≠ own) (hd : d ≠ 1) : Dk own ((p, b) :: R) d = Dk own R (d - 1) := by
 rw [Dk, if_neg (λ hh => hh h), if_neg hb, if_neg hd]
end Mot
namespace Mot
variable {A : List Int} {i j : Nat}
theorem Cm8 {s : Nat} (hj : j <= brs A) (h : j ≠ nb A s) : (Aw A j).from_ ≠ s := by
 intro he
 have ok := Bz hj
 have := Ck1 hj (n := s) (by omega) (by have := ok.ft; omega)
 omega
end Mot
end Go.Proofs.YtolhlldgnfbemaaGreatDoor
namespace Go.Proofs.YtolhlldgnfbemaaGreatDoor
open Go Go.Vx Cdc Trx Gly Clu Lns Obx Mot
abbrev spO (c : Cel) : Obj := .cells #[.int .i64 (c.from_ : Int), .int .i64 (c.to_ : Int), .int .i64 c.atom, .bool c.alone, .int .i64 (c.kind : Int)] 76 (0, 0)
abbrev Ax6 (w : World) : Prop := ∀ j, j < 6 -> w.cell? ⟨0, j, none⟩ = some (.int .i64 (Yv.getD j 0))
abbrev clB (A : List Int) (l : List ((Nat × Nat) × Nat)) : List Cel := l.map λ q => Br2 A q.1
section
variable {w w' : World} {q : Nat} {A : List Int} {i : Nat}
theorem Ax6.ext (h : Ax6 w) (x : Ext w w') : Ax6 w' := λ j hj => Rj (h j hj) x
theorem Rw (hg : Ax6 w) {c : Cel} {K : Int -> Wp} (hK : ∀ w', Ext w w' -> K (Zk (sortB c)) w') : Aa Tryz.prog 160 #[.agg (Cells.vals c76 (spT c)).toArray] rI K w := by
 refine Dp1 (a0 := spT c) ?_
 unfold F160
 refine (St.start w).Af λ b1 w1 S1 e1 => ?_
 have S1 : St (λ _ => False) w w1 [(b1, spO c)] := S1
 refine Ad (λ _ W => (∀ j, j < 6 -> c.alone = true -> c.atom ≠ Yv.getD j 0) /\ Ext w W) ?_ ?_
 ·refine Ar (λ x W => ∃ j : Nat, x = ((j : Int), ()) /\ j <= 6 /\ (∀ i, i < j -> c.alone = true -> c.atom ≠ Yv.getD i 0) /\ St (λ _ => False) w W [(b1, spO c)]) (λ x _ => (6 - x.1).toNat) ⟨0, rfl, Nat.zero_le _, λ i hi => by omega, S1⟩ ?_
  rintro _ W ⟨j, rfl, hj, hno, SW⟩
  dsimp only
  refine Ac (λ hc => ?_) (λ hc => ?_)
  ·simp only [decide_eq_true_eq] at hc
   refine Ad (λ x V => x = (decide (c.alone = true /\ c.atom = Yv.getD j 0), ()) /\ St (λ _ => False) w V [(b1, spO c)]) ?_ ?_
   ·refine SW.drew λ w2 S2 e2 _ => S2.ld (off := 3) 0 rfl (x := c.alone) rfl (Ac (λ ha => S2.ld (off := 2) 0 rfl (x := c.atom) rfl (Bq ⟨by omega, by omega⟩ (Wu (x := Yv.getD j 0) ?_ ⟨Az ?_, S2⟩))) (λ ha => ⟨Az ?_, S2⟩))
    ·have ea : (at0 0).add (scaled (Int.toNat (j : Int)) 1) = ⟨0, j, none⟩ := by rw [addr_add, Dx, Int.toNat_natCast]; simp
     rw [ea]
     exact (hg.ext S2.upd) j (by omega)
    ·simp only [beq_iff_eq, decide_eq_true_eq]
     exact ⟨λ hh => ⟨ha, hh⟩, λ hh => hh.2⟩
    ·simp only [Bool.false_eq_true, decide_eq_true_eq, false_iff]
     intro hh; rw [hh.1] at ha; cases ha
   rintro _ V ⟨rfl, SV⟩
   rw [N7 (by omega)]
   refine Ac (λ hb => ?_) (λ hb => ?_)
   ·obtain ⟨h1, h2⟩ := of_decide_eq_true hb
    have := hK V SV.upd
    rw [Bg5 h1 (by omega) h2] at this
    exact this
   ·have hb := of_decide_eq_false hb
    refine ⟨⟨j + 1, rfl, by omega, λ i hi ha he => ?_, SV⟩, by omega⟩
    by_cases hij : i = j
    ·subst hij; exact hb ⟨ha, he⟩
    ·exact hno i (by omega) ha he
  ·simp only [decide_eq_false_iff_not] at hc
   exact ⟨λ i hi => hno i (by omega), SW.upd⟩
 rintro _ W ⟨hno, eW⟩
 have := hK W eW
 have hn : sortB c = none := by
  cases ha : c.alone with
  | false => simp [sortB, ha]
  | true => exact Ae9 λ j hj => hno j hj ha
 rw [hn] at this; exact this
theorem P7 (o : Option Nat) : decide (Zk o < 0) = o.isNone := by
 cases o with
 | none => rfl
 | some x => show decide ((x : Int) < 0) = false; exact decide_eq_false (by omega)
theorem An6 {l : List ((Nat × Nat) × Nat)} {x : Int} {r : (Nat × Nat) × Nat} (h : l[x.toNat]? = some r) : ((clB A l).map spT)[x.toNat]? = some (spT (Br2 A r.1)) := by
 rw [List.getElem?_map, List.getElem?_map, h]; rfl
theorem Cj6 (b : Nat) : Int.tmod (b : Int) 3 = ((b % 3 : Nat) : Int) := by rw [Int.tmod_eq_emod_of_nonneg (by omega)]; omega
set_option maxHeartbeats 2000000 in
theorem Ar3 (h : Iu w q A) (hg : Ax6 w) {s : Nat} (hs : s <= A.length) {K : Int -> Wp} (hK : ∀ w', Ext w w' -> K (Zk (Md A s (nb A s))) w') : Aa Tryz.prog 103 #[.pointer (some (at0 q)), .int .i64 (s : Int)] rI K w := by
 refine Dt0 ?_
 unfold F103
 have hA := h.len; have hbl := Lc A; have hb := Bl A
 have hib := Ns A s
 refine Ad (λ x V => ∃ b, x = (at0 b, ()) /\ St (λ _ => False) w V [(b, r6O (Aw A (nb A s)))]) ?_ ?_
 ·refine Di λ w1 e1 _ => (h.ext e1).Zp λ sl hsl hk => ⟨?_, ?_⟩
  ·refine ((St.start w).ext e1).Af λ b5 w2 S2 e2 => Au (hk w2 e2) (Qr (h.ext S2.upd) hs (Au (hk w2 e2) ?_))
   exact Si (cs := c71) (xs := (lnF A).map lnR) (hsl.ext e2) (by decide) (Int.natCast_nonneg _) (Vm hib) λ p => S2.Ae 0 rfl rfl rfl rfl λ w3 S3 _ => ⟨b5, rfl, S3⟩
  ·refine Qr (h.ext e1) hs (Au (hk w1 (Ext.refl _)) ?_)
   refine Bi8 (cs := c71) (xs := (lnF A).map lnR) hsl (by decide) (Int.natCast_nonneg _) (Vm hib) λ p hp => ⟨?_, trivial⟩
   refine ((St.start w).ext e1).Af λ b5 w2 S2 e2 => Au (hp w2 e2) (Au (hk w2 e2) ?_)
   exact S2.Ae 0 rfl rfl rfl rfl λ w3 S3 _ => ⟨b5, rfl, S3⟩
 rintro _ W0 ⟨b, rfl, S0⟩
 have S0 : St (λ _ => False) w W0 [(b, r6O (Aw A (nb A s)))] := S0
 have hbox := S0.at_ 0 rfl
 have h0 := h.ext S0.upd
 have hg0 := hg.ext S0.upd
 obtain ⟨P, hP⟩ : ∃ P, Cn6 A s = P := ⟨_, rfl⟩
 refine Ad (λ x V => Ext W0 V /\ Ap V W0.heap.size x.1 76 5 (flat c76 ((clB A (Fv A)).map spT)) /\ x.2.1 = Zk ((Fv A).findIdx? P)) ?_ ?_
 ·refine Ar (λ x V => ∃ i : Nat, x.2.2 = ((i : Int), ()) /\ i <= lnN A /\ Ext W0 V /\ Ap V W0.heap.size x.1 76 5 (flat c76 ((clB A (bkL A i)).map spT)) /\ x.2.1 = Zk ((bkL A i).findIdx? P)) (λ x _ => ((lnN A : Int) - x.2.2.1).toNat) ⟨0, rfl, Nat.zero_le _, Ext.refl _, Ap.nil _ _ _ _, rfl⟩ ?_
  rintro ⟨r, f, _⟩ V ⟨i, rfl, hi, eV, hr, hf⟩
  dsimp only at hr hf ⊢
  refine (h0.ext eV).Ab5 (Ac (λ hc => ?_) (λ hc => ?_))
  ·simp only [decide_eq_true_eq] at hc
   have hi2 : i <= brs A := by omega
   have hlen := Bk5 hi2
   have hcl := Iy hi2
   have ok := Bz hi2
   have ft := ok.ft; have tn := ok.tn; have nl := ok.nl
   obtain ⟨n, hn⟩ : ∃ n, (Ag A i).length = n := ⟨_, rfl⟩
   rw [N7 (by omega)]
   refine Ad (λ x U => Ext W0 U /\ Ap U W0.heap.size x.1 76 5 (flat c76 ((clB A (bkL A (i + 1))).map spT)) /\ x.2.1 = Zk ((bkL A (i + 1)).findIdx? P)) ?_ (λ x U hx => ⟨⟨i + 1, rfl, by omega, hx.1, hx.2.1, hx.2.2⟩, by omega⟩)
   refine Ar (λ x U => ∃ j : Nat, x.2.2 = ((j : Int), ()) /\ j <= n /\ Ext W0 U /\ Ap U W0.heap.size x.1 76 5 (flat c76 ((clB A (bkL A i ++ bkR A i j)).map spT)) /\ x.2.1 = Zk ((bkL A i ++ bkR A i j).findIdx? P)) (λ x _ => ((n : Int) - x.2.2.1).toNat) ⟨0, rfl, Nat.zero_le _, eV, by rw [Aw3, List.append_nil]; exact hr, by rw [Aw3, List.append_nil]; exact hf⟩ ?_
   rintro ⟨r, f, _⟩ U ⟨j, rfl, hj, eU, hr, hf⟩
   dsimp only at hr hf ⊢
   refine (h0.ext eU).Aq2 hi2 λ s1 p1 y1 hy1 hyl1 => Ac (λ hc2 => ?_) (λ hc2 => ?_)
   ·simp only [decide_eq_true_eq] at hc2
    have hjn : j < n := by omega
    obtain ⟨c, hcc⟩ := Dy (C := Ag A i) (j := j) (by omega)
    have hrl := Ao3 A i j
    rw [N7 (by omega)]
    refine Ad (λ x T => Ext W0 T /\ Ap T W0.heap.size x.1 76 5 (flat c76 ((clB A (bkL A i ++ bkR A i (j + 1))).map spT)) /\ x.2.1 = Zk ((bkL A i ++ bkR A i (j + 1)).findIdx? P)) ?_ (λ x T hx => ⟨⟨j + 1, rfl, by omega, hx.1, hx.2.1, hx.2.2⟩, by omega⟩)
    refine (h0.ext eU).Aq2 hi2 λ s2 p2 y hy hyl => ?_
    refine Si (cs := c76) (xs := (Ag A i).map spT) hy (by decide) (Int.natCast_nonneg j) (O8 hcc) λ p3 => ?_
    refine (St.start U).Ku rfl rfl rfl λ b35 w3 S3 e3 => ?_
    have S3 : St (λ _ => False) U w3 [(b35, spO c)] := S3
    refine S3.lds 0 (spT c) rfl (Rw (hg0.ext (eU.trans S3.upd)) λ w4 e4 => ?_)
    have S4 := S3.ext e4
    have x4 := eU.trans S4.upd
    have hbf := Cp1 hcc
    rw [P7]
    cases hsb : sortB c with
    | none =>
     rw [hsb] at hbf
     refine Bo ⟨x4, ?_, ?_⟩
     ·rw [Aw4 hbf]; exact hr.ext S4.upd
     ·rw [Aw4 hbf]; exact hf
    | some bb =>
     rw [hsb] at hbf
     have hbf : bkF A (i, j) = some ((i, j), bb) := hbf
     rw [Ca7 hbf, ← List.append_assoc]
     have hmet := Cf0 hs hi2 hcc bb
     rw [hP] at hmet
     obtain ⟨L, hL⟩ : ∃ L, bkL A i ++ bkR A i j = L := ⟨_, rfl⟩
     rw [hL] at hr hf ⊢
     have hLl : L.length <= 2 ^ 22 := by rw [← hL, List.length_append]; omega
     have hrl2 : L.length = r.len := by
      have := Ap.Jt (cs := c76) hr (by decide)
      rwa [List.length_map, List.length_map] at this
     refine Am (Ad (λ x T => x = (Zk ((L ++ [((i, j), bb)]).findIdx? P), ()) /\ w4 = T) ?_ ?_)
     ·refine Ad (λ x T => x = (decide (L.findIdx? P = none /\ P ((i, j), bb) = true), ()) /\ w4 = T) ?_ ?_
      ·rw [hf, P7, hmet]
       cases hfi : L.findIdx? P with
       | some m => exact Am ⟨Az (by simp), rfl⟩
       | none =>
        refine Bo (S4.ld (off := 0) 0 rfl (x := (c.from_ : Int)) rfl (Ac (λ h1 => ?_) (λ h1 => ⟨Az ?_, rfl⟩)))
        ·simp only [decide_eq_true_eq, ge_iff_le] at h1
         refine S4.ld (off := 0) 0 rfl (x := (c.from_ : Int)) rfl (Cc (off := 1) (x := ((Aw A (nb A s)).to_ : Int)) (x4.ext_get hbox) rfl ⟨Az ?_, rfl⟩)
         simp only [decide_eq_true_eq, true_and]; omega
        ·simp only [decide_eq_false_iff_not, ge_iff_le] at h1
         simp only [Bool.false_eq_true, decide_eq_true_eq, false_iff, true_and]; omega
      rintro _ _ ⟨rfl, rfl⟩
      rw [Bx9]
      refine Ac (λ h1 => ⟨?_, rfl⟩) (λ h1 => ⟨?_, rfl⟩)
      ·obtain ⟨h1, h2⟩ := of_decide_eq_true h1
       rw [h1, if_pos h2, ← hrl2]; rfl
      ·have h1 := of_decide_eq_false h1
       rw [hf]
       cases hfi : L.findIdx? P with
       | some m => rfl
       | none =>
        have h2 : ¬ P ((i, j), bb) = true := λ hh => h1 ⟨hfi, hh⟩
        rw [if_neg h2]
     rintro _ _ ⟨rfl, rfl⟩
     refine S4.lds 0 (spT c) rfl (Cm λ b46 w5 e5 n5 _ _ => ?_)
     have x5 := x4.trans e5
     refine Cj9 (L := clB A L) (c := c) (hr.ext (S4.upd.trans e5)) n5 (by rw [List.length_map]; omega) x5.size λ r' w6 o6 _ u6 => ?_
     refine ⟨x5.step u6 λ k hk => hr.Ew hk, ?_, rfl⟩
     have : clB A (L ++ [((i, j), bb)]) = clB A L ++ [c] := by
      simp only [clB, List.map_append, List.map_cons, List.map_nil, Bj9 hcc]
     rw [this]; exact o6
   ·simp only [decide_eq_false_iff_not] at hc2
    obtain rfl : j = n := by omega
    rw [Ac4, hn]
    exact ⟨eU, hr, hf⟩
  ·simp only [decide_eq_false_iff_not] at hc
   obtain rfl : i = lnN A := by omega
   rw [Bk6] at hr hf
   exact ⟨eV, hr, hf⟩
 rintro ⟨r, f, _⟩ V ⟨eV, hr, hf⟩
 dsimp only at hr hf ⊢
 have hV : ∀ {W1}, Ext V W1 -> Ext w W1 := λ e => (S0.upd.trans eV).trans e
 obtain ⟨B, hB⟩ : ∃ B, Fv A = B := ⟨_, rfl⟩
 have hBl : B.length <= 1048576 := by rw [← hB]; exact Nat.le_trans (Ca2 A) hA
 have hrl : B.length = r.len := by
  have := Ap.Jt (cs := c76) hr (by decide)
  rwa [List.length_map, List.length_map, hB] at this
 have hmem : ∀ x ∈ B, ∃ c, Br2 A x.1 = c /\ sortB c = some x.2 /\ Ec A x.1 = c.from_ := λ x hx => by
  rw [← hB] at hx
  obtain ⟨c, _, h2, h3, h4⟩ := Ci4 hx
  exact ⟨c, h3, h2, h4⟩
 obtain ⟨tg, htg⟩ : ∃ tg, Md A s (nb A s) = tg := ⟨_, rfl⟩
 rw [htg] at hK
 unfold Md at htg
 have hPe : (λ q : (Nat × Nat) × Nat => q.1.1 == nb A s && decide (s <= Ec A q.1)) = P := hP
 rw [hPe, hB] at htg
 rw [hB] at hf hr
 rw [hf, P7]
 cases hfi : B.findIdx? P with
 | none =>
  rw [hfi] at htg
  have htg : none = tg := htg
  refine Bo ?_
  have := hK V (hV (Ext.refl _))
  rw [← htg] at this; exact this
 | some m =>
  rw [hfi] at htg
  have hm : m < B.length := by
   have := List.findIdx?_eq_some_iff_getElem.1 hfi
   exact this.1
  obtain ⟨⟨p0, own⟩, hq⟩ : ∃ q, B[m]? = some q := ⟨_, List.getElem?_eq_getElem hm⟩
  dsimp only at htg
  rw [hq] at htg
  dsimp only at htg
  obtain ⟨c0, k1, k2, k3⟩ := hmem _ (List.mem_of_getElem? hq)
  dsimp only at k1 k2 k3
  have hown := Aq3 k2
  refine Am ?_
  show ix r.a r.len (m : Int) _ V
  refine Si (cs := c76) (xs := (clB A B).map spT) hr.in (by decide) (Int.natCast_nonneg m) (An6 (by rw [Int.toNat_natCast]; exact hq)) λ p48 => ?_
  rw [k1]
  refine Rw (hg0.ext eV) λ w1 e1 => ?_
  rw [k2]
  show join _ _ w1
  obtain ⟨up, hup⟩ : ∃ up, decide (own < 3) = up := ⟨_, rfl⟩
  refine Ad (λ x T => x = (((if up = true then 1 else -1 : Int)), ()) /\ w1 = T) (Ac (λ hc => ⟨?_, rfl⟩) (λ hc => ⟨?_, rfl⟩)) ?_
  ·have hc : ((own : Nat) : Int) >= 3 := of_decide_eq_true hc
   rw [← hup, decide_eq_false (by omega)]; rfl
  ·have hc : ¬ ((own : Nat) : Int) >= 3 := of_decide_eq_false hc
   rw [← hup, decide_eq_true (by omega)]; rfl
  rintro _ _ ⟨rfl, rfl⟩
  obtain ⟨R0, hR0, hsh⟩ : ∃ R0, Mot.Rest B up (m : Int) ((p0, own) :: R0) /\ (Dk own R0 1).map (Ec A) = tg := by
   by_cases hlt : own < 3
   ·rw [if_pos hlt] at htg
    rw [decide_eq_true hlt] at hup
    subst hup
    exact ⟨_, Ce3 hq, htg⟩
   ·rw [if_neg hlt] at htg
    rw [decide_eq_false hlt] at hup
    subst hup
    exact ⟨_, Ce5 hq, htg⟩
  have hR0l := hR0.len
  rw [← show Dk own ((p0, own) :: R0) 0 = Dk own R0 1 from Aq5] at hsh
  refine Ad (λ _ T => Ext w T /\ tg = none) ?_ (λ _ T hT => by have := hK T hT.1; rw [hT.2] at this; exact this)
  refine Ar (λ x T => ∃ (d : Nat) (xj : Int) (R : List ((Nat × Nat) × Nat)), x = ((d : Int), xj, ()) /\ Ext V T /\ Mot.Rest B up xj R /\ d + R.length <= 1048577 /\ (Dk own R d).map (Ec A) = tg /\ (d = 0 -> ∃ p R', R = (p, own) :: R')) (λ x _ => (if up = true then (B.length : Int) - x.2.1 else x.2.1 + 1).toNat) ⟨0, (m : Int), _, rfl, e1, hR0, by omega, hsh, λ _ => ⟨p0, R0, rfl⟩⟩ ?_
  rintro _ T ⟨d, xj, R, rfl, eT, hR, hd, hs1, hd0⟩
  dsimp only
  refine Ad (λ x U => x = (decide (0 <= xj /\ xj < (B.length : Int)), ()) /\ T = U) (Ac (λ h1 => ⟨Az ?_, rfl⟩) (λ h1 => ⟨Az ?_, rfl⟩)) ?_
  ·simp only [decide_eq_true_eq, ge_iff_le] at h1 ⊢; omega
  ·simp only [decide_eq_false_iff_not, ge_iff_le] at h1
   simp only [Bool.false_eq_true, decide_eq_true_eq, false_iff]; omega
  rintro _ _ ⟨rfl, rfl⟩
  refine Ac (λ hc => ?_) (λ hc => ?_)
  ·have hc := of_decide_eq_true hc
   cases R with
   | nil => exact absurd hc hR.nil
   | cons x R =>
    obtain ⟨g1, g2, g3, g4⟩ := hR.cons
    obtain ⟨pb, bb⟩ := x
    obtain ⟨c, k1', k2', k3'⟩ := hmem _ (List.mem_of_getElem? g3)
    dsimp only at k1' k2' k3'
    have hbb := Aq3 k2'
    have hrT := hr.ext eT
    rw [List.length_cons] at hd
    refine Ad (λ z U => ∃ d' : Nat, z = ((d' : Int), ()) /\ Ext V U /\ ((bb = own /\ d' = d + 1) \/ (bb ≠ own /\ bb % 3 = own % 3 /\ 1 <= d /\ d' = d - 1) \/ (bb % 3 ≠ own % 3 /\ 1 <= d /\ d' = d))) ?_ ?_
    ·refine Si (cs := c76) (xs := (clB A B).map spT) hrT.in (by decide) g1 (An6 g3) λ p61 => ?_
     rw [k1']
     refine Rw (hg0.ext (eV.trans eT)) λ w2 e2 => ?_
     rw [k2']
     refine Ac (λ h1 => ?_) (λ h1 => ?_)
     ·have h1 : ((bb : Nat) : Int) = (own : Int) := beq_iff_eq.1 h1
      exact ⟨d + 1, by rw [N7 (by omega)], eT.trans e2, .inl ⟨by omega, rfl⟩⟩
     ·have h1 : ((bb : Nat) : Int) ≠ (own : Int) := beq_eq_false_iff_ne.1 h1
      have hd1 : 1 <= d := by
       rcases Nat.eq_zero_or_pos d with hz | hz
       ·obtain ⟨p, R', he⟩ := hd0 hz
        cases he
        exact absurd rfl h1
       ·exact hz
      refine Si (cs := c76) (xs := (clB A B).map spT) (hrT.ext e2).in (by decide) g1 (An6 g3) λ p64 => ?_
      rw [k1']
      refine Rw (hg0.ext (eV.trans (eT.trans e2))) λ w3 e3 => ?_
      rw [k2']
      refine Bq (by decide) (Bq (by decide) ?_)
      rw [show Zk (some bb) = (bb : Int) from rfl, show Zk (some own) = (own : Int) from rfl, Cj6, Cj6]
      refine Ac (λ h2 => ?_) (λ h2 => ?_)
      ·rw [beq_iff_eq] at h2
       exact ⟨d - 1, by rw [wrap64 (by omega) (by omega)]; congr 1; omega, (eT.trans e2).trans e3, .inr (.inl ⟨by omega, by omega, hd1, rfl⟩)⟩
      ·rw [beq_eq_false_iff_ne] at h2
       exact ⟨d, rfl, (eT.trans e2).trans e3, .inr (.inr ⟨by omega, hd1, rfl⟩)⟩
    rintro _ U ⟨d', rfl, eU, hcase⟩
    refine Ac (λ h1 => ?_) (λ h1 => ?_)
    ·have h1 : ((d' : Nat) : Int) = 0 := beq_iff_eq.1 h1
     rcases hcase with ⟨_, _⟩ | ⟨q1, q2, q3, q4⟩ | ⟨_, _, _⟩
     ·omega
     ·obtain rfl : d = 1 := by omega
      rw [Bm3 q2 q1] at hs1
      refine Bj0 (c := .int .i64) (cs := c76) (hr.ext eU).in g1 (An6 g3) (by rw [k1']; rfl) (y := (c.from_ : Int)) λ p67 => ?_
      have := hK U (hV eU)
      rw [← hs1] at this
      have e9 : Zk ((some pb).map (Ec A)) = (c.from_ : Int) := by show ((Ec A pb : Nat) : Int) = _; rw [k3']
      rw [e9] at this; exact this
     ·omega
    ·have h1 : ((d' : Nat) : Int) ≠ 0 := beq_eq_false_iff_ne.1 h1
     have ej : W64 (xj + (if up = true then 1 else -1 : Int)) = (if up = true then xj + 1 else xj - 1) := by
      rw [wrap64 (by split <;> omega) (by split <;> omega)]; split <;> omega
     rw [ej]
     refine ⟨⟨d', _, R, rfl, eU, g4, by omega, ?_, λ hz => by omega⟩, ?_⟩
     ·rcases hcase with ⟨rfl, rfl⟩ | ⟨q1, q2, q3, rfl⟩ | ⟨q1, q2, rfl⟩
      ·rw [Aq5] at hs1; exact hs1
      ·rw [Bm2 q2 q1 (by omega)] at hs1; exact hs1
      ·rw [Az4 q1] at hs1; exact hs1
     ·split <;> omega
  ·have hc := of_decide_eq_false hc
   cases R with
   | nil => exact ⟨hV eT, hs1.symm⟩
   | cons x R =>
    obtain ⟨g1, g2, _, _⟩ := hR.cons
    exact absurd ⟨g1, g2⟩ hc
set_option maxHeartbeats 2000000 in
theorem Ar2 (h : Iu w q A) (hg : Ax6 w) {x kind count arg : Int} {K : LdT -> Wp} (hK : ∀ w', Ext w w' -> K (ldT (Gq A x kind count)) w') :
  Aa Tryz.prog 48 #[.pointer (some (at0 q)), .int .i64 x, .agg (Cells.vals c48 (mvM kind count arg)).toArray] (.tup [(.agg c83), (.one (.int .i64))]) K w := by
 refine A48 (a2 := mvM kind count arg) ?_
 unfold F48
 have hA := h.len; have hbl := Lc A; have hb := Bl A
 refine (St.start w).Af λ b1 w1 S1 e1 => S1.Af λ b2 w2 S2 e2 => ?_
 have S2 : St (λ _ => False) w w2 [(b2, ldZ), (b1, Yd kind count arg)] := S2
 have h2 := h.ext S2.upd
 obtain ⟨v, hv⟩ : ∃ v, Gq A x kind count = v := ⟨_, rfl⟩
 rw [hv] at hK
 unfold Gq at hv
 dsimp only at hv
 have hle := Bz3 A x false
 have hil := Ce2 A x
 rw [Gg A x false, ← Ar9 A x false] at hv
 rw [← Ar9 A x false] at hil
 refine Ar6 h2 (Qr h2 hle ?_)
 obtain ⟨s, hs⟩ : ∃ s, Bg A x false = s := ⟨_, rfl⟩
 rw [hs] at hv hle hil
 rw [hs]
 have hne : ∀ j, j <= brs A -> j ≠ nb A s -> (Aw A j).from_ ≠ s := λ j h1 h2 => Cm8 h1 h2
 have hmatch : ∀ {W : World} {K' : Int -> Wp}, Iu W q A -> Ax6 W -> (∀ w', Ext W w' -> K' (Zk (Md A s (nb A s))) w') -> Aa Tryz.prog 103 #[.pointer (some (at0 q)), .int .i64 (s : Int)] rI K' W := λ h' g' hk => Ar3 h' g' hle hk
 obtain ⟨i, hi'⟩ : ∃ i, nb A s = i := ⟨_, rfl⟩
 rw [hi'] at hv hil hne hmatch
 rw [hi']
 have hkr := Cf5 count
 refine S2.lds 1 (mvM kind count arg) rfl (Ar1 λ w4 e4 => ?_)
 have S4 := S2.ext e4
 have h4 := h.ext S4.upd
 have hg4 := hg.ext S4.upd
 obtain ⟨k, hk⟩ : ∃ k, kOf count = k := ⟨_, rfl⟩
 rw [hk] at hv hkr
 rw [hk]
 have ewl : W64 ((lnN A : Int) - 1) = ((lnN A - 1 : Nat) : Int) := by rw [wrap64 (by omega) (by omega)]; omega
 have fno : ∀ {e : Int} {W : World}, St (λ _ => False) w W [(b2, ldZ), (b1, Yd kind count arg)] -> v = noP e -> Aa Tryz.prog 92 #[.int .i64 e] (.tup [(.agg c83), (.one (.int .i64))]) (λ z => Ae (at0 b2) (.agg (Cells.vals c83 z.1).toArray) 3 (lds c83 (at0 b2) λ y => K (y, z.2.1, ()))) W := λ S hk => Bu4 λ w5 e5 => Am8 (S.ext e5) (by rw [← hk]; exact hK)
 have fland : ∀ {m : Nat} {kd : Int} {W : World}, St (λ _ => False) w W [(b2, ldZ), (b1, Yd kind count arg)] -> v = Dq A m kd -> Aa Tryz.prog 93 #[.pointer (some (at0 q)), .int .i64 (m : Int), .int .i64 kd] (.tup [(.agg c83), (.one (.int .i64))]) (λ z => Ae (at0 b2) (.agg (Cells.vals c83 z.1).toArray) 3 (lds c83 (at0 b2) λ y => K (y, z.2.1, ()))) W := λ S hk => Bb1 (h.ext S.upd) λ w5 e5 => Am8 (S.ext e5) (by rw [← hk]; exact hK)
 refine Ad (λ z W => ∃ (T : Nat) (kd : Int), z = ((T : Int), kd, ()) /\ v = (if T = s then noP 80 else Dq A T kd) /\ St (λ _ => False) w W [(b2, ldZ), (b1, Yd kind count arg)]) ?_ ?_
 ·refine S4.ld (off := 0) 1 rfl (x := kind) rfl (Ac (λ hk1 => ?_) (λ hk1 => ?_))
  ·rw [beq_iff_eq] at hk1
   rw [if_pos hk1] at hv
   obtain ⟨f, hf⟩ : ∃ f : Nat -> Bool, (λ j => Eb A j && !Eb A (j - 1)) = f := ⟨_, rfl⟩
   have hfj : ∀ j, f j = (Eb A j && !Eb A (j - 1)) := λ j => by rw [← hf]
   rw [hf] at hv
   obtain ⟨tg, htg⟩ : ∃ tg, upF f (i + 1) (lnN A) k = tg := ⟨_, rfl⟩
   rw [show ((upL (lnN A) i).filter f)[k - 1]? = tg from htg] at hv
   refine Ad (λ z W => ∃ (k' : Nat) (t : Int), z = ((k' : Int), t, ()) /\ w4 = W /\ ((0 < k' /\ tg = none) \/ (k' = 0 /\ ∃ m, tg = some m /\ t = ((Aw A m).from_ : Int) /\ i < m /\ m < lnN A))) ?_ ?_
   ·rw [N7 (by omega)]
    refine Ar (λ z W => ∃ (k' j : Nat) (t : Int), z = ((k' : Int), t, (j : Int), ()) /\ w4 = W /\ i < j /\ j <= lnN A /\ k' <= 9999 /\ ((0 < k' /\ upF f j (lnN A) k' = tg) \/ (k' = 0 /\ ∃ m, tg = some m /\ t = ((Aw A m).from_ : Int) /\ i < m /\ m < lnN A))) (λ z _ => ((lnN A : Int) - z.2.2.1).toNat) ⟨k, i + 1, -1, rfl, rfl, by omega, by omega, hkr.2, .inl ⟨by omega, htg⟩⟩ ?_
    rintro _ _ ⟨k', j, t, rfl, rfl, hj1, hj2, hk', hor⟩
    dsimp only
    refine Ad (λ z W => z = (decide (j < lnN A /\ 0 < k'), ()) /\ w4 = W) (h4.Ab5 (Ac (λ h1 => ⟨Az ?_, rfl⟩) (λ h1 => ⟨Az ?_, rfl⟩))) ?_
    ·simp only [decide_eq_true_eq, gt_iff_lt] at h1 ⊢; omega
    ·simp only [decide_eq_false_iff_not] at h1
     simp only [Bool.false_eq_true, decide_eq_true_eq, false_iff]; omega
    rintro _ _ ⟨rfl, rfl⟩
    refine Ac (λ hc => ?_) (λ hc => ?_)
    ·obtain ⟨hc1, hc2⟩ := of_decide_eq_true hc
     have hjb : j <= brs A := by omega
     obtain ⟨_, hu⟩ := hor.resolve_right (λ hh => by have := hh.1; omega)
     rw [N7 (n := j) (by omega)]
     have ek : W64 ((k' : Int) - 1) = ((k' - 1 : Nat) : Int) := by rw [wrap64 (by omega) (by omega)]; omega
     have ej : W64 ((j : Int) - 1) = ((j - 1 : Nat) : Int) := by rw [wrap64 (by omega) (by omega)]; omega
     rw [ek, ej]
     refine Ad (λ z W => z = (((if f j = true then k' - 1 else k' : Nat) : Int), (if f j = true then ((Aw A j).from_ : Int) else t), ()) /\ w4 = W) ?_ ?_
     ·refine Ad (λ z W => z = (f j, ()) /\ w4 = W) ?_ ?_
      ·rw [hfj]
       refine Oy h4 hjb (Ac (λ hbl => ?_) (λ hbl => ?_))
       ·rw [hbl]
        exact Oy h4 (i := j - 1) (by omega) ⟨rfl, rfl⟩
       ·rw [hbl]; exact ⟨rfl, rfl⟩
      rintro _ _ ⟨rfl, rfl⟩
      refine Ac (λ hf1 => ?_) (λ hf1 => ?_)
      ·have hf1 : f j = true := hf1
       rw [if_pos hf1, if_pos hf1]
       exact h4.Ah4 hjb λ s p => ⟨rfl, rfl⟩
      ·have hf1 : f j = false := hf1
       rw [if_neg (by rw [hf1]; decide), if_neg (by rw [hf1]; decide)]
       exact ⟨rfl, rfl⟩
     rintro _ _ ⟨rfl, rfl⟩
     by_cases hf1 : f j = true
     ·rw [if_pos hf1, if_pos hf1]
      refine ⟨⟨k' - 1, j + 1, _, rfl, rfl, by omega, by omega, by omega, ?_⟩, by omega⟩
      by_cases h1 : k' = 1
      ·subst h1
       rw [Aj4 hc1 hf1] at hu
       exact .inr ⟨rfl, j, hu.symm, rfl, hj1, hc1⟩
      ·refine .inl ⟨by omega, ?_⟩
       have hm := U4 (k := k' - 1) hc1 hf1 (by omega)
       rw [show k' - 1 + 1 = k' by omega] at hm
       rw [← hm]; exact hu
     ·have hf2 : f j = false := by cases hx : f j with
       | true => exact absurd hx hf1
       | false => rfl
      rw [if_neg hf1, if_neg hf1]
      refine ⟨⟨k', j + 1, t, rfl, rfl, by omega, by omega, hk', .inl ⟨hc2, ?_⟩⟩, by omega⟩
      rw [← Ay3 hc1 hf2]; exact hu
    ·have hc := of_decide_eq_false hc
     refine ⟨k', t, rfl, rfl, ?_⟩
     rcases hor with ⟨h1, hu⟩ | h1
     ·exact .inl ⟨h1, by rw [← hu]; exact U3 (by omega)⟩
     ·exact .inr h1
   rintro _ _ ⟨k', t, rfl, rfl, hor⟩
   dsimp only
   refine Ac (λ hc => ?_) (λ hc => ?_)
   ·simp only [decide_eq_true_eq, gt_iff_lt] at hc
    obtain ⟨_, rfl⟩ := hor.resolve_right (λ hh => by have := hh.1; omega)
    have hv : (if Kz A = s then noP 80 else Dq A (Kz A) 1) = v := hv
    refine h4.Ab5 ?_
    rw [ewl]
    exact Y3 h4 (by omega) ⟨Kz A, 1, rfl, hv.symm, S4⟩
   ·simp only [decide_eq_false_iff_not, gt_iff_lt] at hc
    rcases hor with ⟨h0, _⟩ | ⟨_, m, rfl, rfl, hm1, hm2⟩
    ·omega
    have hv : Dq A (Aw A m).from_ 0 = v := hv
    refine ⟨(Aw A m).from_, 0, rfl, ?_, S4⟩
    rw [if_neg (hne m (by omega) (by omega))]; exact hv.symm
  rw [beq_eq_false_iff_ne] at hk1
  rw [if_neg hk1] at hv
  refine Ac (λ hk2 => ?_) (λ hk2 => ?_)
  ·rw [beq_iff_eq] at hk2
   rw [if_pos hk2] at hv
   obtain ⟨f, hf⟩ : ∃ f : Nat -> Bool, (λ j => Eb A j && !Eb A (j + 1)) = f := ⟨_, rfl⟩
   have hfj : ∀ j, f j = (Eb A j && !Eb A (j + 1)) := λ j => by rw [← hf]
   rw [hf] at hv
   obtain ⟨tg, htg⟩ : ∃ tg, dnF f i k = tg := ⟨_, rfl⟩
   rw [show ((Ol i).filter f)[k - 1]? = tg from htg] at hv
   refine Ad (λ z W => ∃ (k' : Nat) (t : Int), z = ((k' : Int), t, ()) /\ w4 = W /\ ((0 < k' /\ tg = none) \/ (k' = 0 /\ ∃ m, tg = some m /\ t = ((Aw A m).from_ : Int) /\ m < i))) ?_ ?_
   ·rw [show W64 ((i : Int) - 1) = (i : Int) - 1 from wrap64 (by omega) (by omega)]
    refine Ar (λ z W => ∃ (k' n : Nat) (t : Int), z = ((k' : Int), t, (n : Int) - 1, ()) /\ w4 = W /\ n <= i /\ k' <= 9999 /\ ((0 < k' /\ dnF f n k' = tg) \/ (k' = 0 /\ ∃ m, tg = some m /\ t = ((Aw A m).from_ : Int) /\ m < i))) (λ z _ => (z.2.2.1 + 1).toNat) ⟨k, i, -1, rfl, rfl, Nat.le_refl _, hkr.2, .inl ⟨by omega, htg⟩⟩ ?_
    rintro _ _ ⟨k', n, t, rfl, rfl, hn, hk', hor⟩
    dsimp only
    refine Ad (λ z W => z = (decide (0 < n /\ 0 < k'), ()) /\ w4 = W) (Ac (λ h1 => ⟨Az ?_, rfl⟩) (λ h1 => ⟨Az ?_, rfl⟩)) ?_
    ·simp only [decide_eq_true_eq, ge_iff_le, gt_iff_lt] at h1 ⊢; omega
    ·simp only [decide_eq_false_iff_not, ge_iff_le] at h1
     simp only [Bool.false_eq_true, decide_eq_true_eq, false_iff]; omega
    rintro _ _ ⟨rfl, rfl⟩
    refine Ac (λ hc => ?_) (λ hc => ?_)
    ·obtain ⟨hc1, hc2⟩ := of_decide_eq_true hc
     obtain ⟨j, rfl⟩ : ∃ j, n = j + 1 := ⟨n - 1, by omega⟩
     have hjb : j + 1 <= brs A := by omega
     obtain ⟨_, hu⟩ := hor.resolve_right (λ hh => by have := hh.1; omega)
     rw [show ((j + 1 : Nat) : Int) - 1 = (j : Int) by omega]
     have ek : W64 ((k' : Int) - 1) = ((k' - 1 : Nat) : Int) := by rw [wrap64 (by omega) (by omega)]; omega
     have ej : W64 ((j : Int) - 1) = (j : Int) - 1 := wrap64 (by omega) (by omega)
     rw [ek, ej, N7 (n := j) (by omega)]
     refine Ad (λ z W => z = (((if f j = true then k' - 1 else k' : Nat) : Int), (if f j = true then ((Aw A j).from_ : Int) else t), ()) /\ w4 = W) ?_ ?_
     ·refine Ad (λ z W => z = (f j, ()) /\ w4 = W) ?_ ?_
      ·rw [hfj]
       refine Oy h4 (i := j) (by omega) (Ac (λ hbl => ?_) (λ hbl => ?_))
       ·rw [hbl]
        exact Oy h4 (i := j + 1) hjb ⟨rfl, rfl⟩
       ·rw [hbl]; exact ⟨rfl, rfl⟩
      rintro _ _ ⟨rfl, rfl⟩
      refine Ac (λ hf1 => ?_) (λ hf1 => ?_)
      ·have hf1 : f j = true := hf1
       rw [if_pos hf1, if_pos hf1]
       exact h4.Ah4 (i := j) (by omega) λ s p => ⟨rfl, rfl⟩
      ·have hf1 : f j = false := hf1
       rw [if_neg (by rw [hf1]; decide), if_neg (by rw [hf1]; decide)]
       exact ⟨rfl, rfl⟩
     rintro _ _ ⟨rfl, rfl⟩
     by_cases hf1 : f j = true
     ·rw [if_pos hf1, if_pos hf1]
      refine ⟨⟨k' - 1, j, _, rfl, rfl, by omega, by omega, ?_⟩, by omega⟩
      by_cases h1 : k' = 1
      ·subst h1
       rw [An2 hf1] at hu
       exact .inr ⟨rfl, j, hu.symm, rfl, by omega⟩
      ·refine .inl ⟨by omega, ?_⟩
       have hm := Ab2 (k := k' - 1) hf1 (by omega)
       rw [show k' - 1 + 1 = k' by omega] at hm
       rw [← hm]; exact hu
     ·have hf2 : f j = false := by cases hx : f j with
       | true => exact absurd hx hf1
       | false => rfl
      rw [if_neg hf1, if_neg hf1]
      refine ⟨⟨k', j, t, rfl, rfl, by omega, hk', .inl ⟨hc2, ?_⟩⟩, by omega⟩
      rw [← Be1 hf2]; exact hu
    ·have hc := of_decide_eq_false hc
     refine ⟨k', t, rfl, rfl, ?_⟩
     rcases hor with ⟨h1, hu⟩ | h1
     ·obtain rfl : n = 0 := by omega
      exact .inl ⟨h1, by rw [← hu]; exact By6⟩
     ·exact .inr h1
   rintro _ _ ⟨k', t, rfl, rfl, hor⟩
   dsimp only
   refine Ac (λ hc => ?_) (λ hc => ?_)
   ·simp only [decide_eq_true_eq, gt_iff_lt] at hc
    obtain ⟨_, rfl⟩ := hor.resolve_right (λ hh => by have := hh.1; omega)
    have hv : (if s = 0 then noP 80 else Dq A 0 0) = v := hv
    refine ⟨0, 0, rfl, ?_, S4⟩
    rw [← hv]
    by_cases hs0 : s = 0
    ·rw [if_pos hs0, if_pos hs0.symm]
    ·rw [if_neg hs0, if_neg (λ hh => hs0 hh.symm)]
   ·simp only [decide_eq_false_iff_not, gt_iff_lt] at hc
    rcases hor with ⟨h0, _⟩ | ⟨_, m, rfl, rfl, hm1⟩
    ·omega
    have hv : Dq A (Aw A m).from_ 0 = v := hv
    refine ⟨(Aw A m).from_, 0, rfl, ?_, S4⟩
    rw [if_neg (hne m (by omega) (by omega))]; exact hv.symm
  rw [beq_eq_false_iff_ne] at hk2
  rw [if_neg hk2] at hv
  refine Ac (λ hk3 => ?_) (λ hk3 => ?_)
  ·rw [beq_iff_eq] at hk3
   rw [if_pos hk3] at hv
   refine hmatch h4 hg4 λ w5 e5 => ?_
   rw [P7]
   cases hm : Md A s i with
   | none =>
    rw [hm] at hv
    have hv : noP 80 = v := hv
    exact Bo (fno (S4.ext e5) hv.symm)
   | some to =>
    rw [hm] at hv
    have hv : Dq A to 1 = v := hv
    exact Am (fland (S4.ext e5) hv.symm)
  ·rw [beq_eq_false_iff_ne] at hk3
   rw [if_neg hk3] at hv
   exact fno S4 hv.symm
 rintro _ W ⟨T, kd, rfl, hvv, SW⟩
 refine Ac (λ hc => ?_) (λ hc => ?_)
 ·have hc : ((T : Nat) : Int) = (s : Int) := beq_iff_eq.1 hc
  rw [if_pos (by omega)] at hvv
  exact fno SW hvv
 ·have hc : ((T : Nat) : Int) ≠ (s : Int) := beq_eq_false_iff_ne.1 hc
  rw [if_neg (by omega)] at hvv
  exact fland SW hvv
end
section
variable {w w' : World} {p q : Nat} {A : List Int} {a : Ua}
theorem Ax9 (hk : a.kind = 7) : Cl0 a := by
 intro w p q A K hg tx pg hK
 refine A18 (a2 := Ao4 a) ?_
 unfold F18
 refine (St.start w).Af λ b1 w1 S1 e1 => ?_
 have S1 : St (λ _ => False) w w1 [(b1, Cb6 a)] := S1
 refine S1.ld (off := 0) 0 rfl (x := a.kind) rfl ?_
 rw [hk]
 refine Am (Am (Am (Am (Am (Am (Bo (S1.ld (off := 1) 0 rfl (x := a.at_) rfl (Aw8 (S1.at_ 0 rfl) (As6 (tx.ext S1.upd) λ w2 e2 => ?_)))))))))
 obtain ⟨l, hl⟩ : ∃ l, Gq A a.at_ a.mkd a.count = l := ⟨_, rfl⟩
 rw [hl]
 refine (S1.ext e2).Ku rfl rfl rfl λ b3 w3 S3 e3 => ?_
 have S3 : St (λ _ => False) w w3 [(b3, ldX l), (b1, Cb6 a)] := S3
 refine S3.ld (off := 1) 1 rfl (x := a.at_) rfl (Aw8 (S3.at_ 1 rfl) (Ar2 (pg.ext S3.upd) (Ax6.ext hg S3.upd) λ w4 e4 => ?_))
 rw [hl]
 refine (S3.ext e4).Ku rfl rfl rfl λ b5 w5 S5 e5 => ?_
 have S5 : St (λ _ => False) w w5 [(b5, ldX l), (b3, ldX l), (b1, Cb6 a)] := S5
 exact S5.lds 1 (ldT l).1 rfl (S5.lds 0 (ldT l).1 rfl (Az8 λ w6 e6 => hK w6 (S5.ext e6).upd))
theorem Ao9 {y : Cells.T c26} {c : Int} {l : List UInt8} {L : List (List LEd)} {al : List Ua} (h : Tt w y c l L al) (hg : Brk w) {K : Bool -> Wp} (hK : ∀ w', Ext w w' -> K true w') : Aa Tryz.prog 7 #[.agg (Cells.vals c26 y).toArray] rB K w := by
 refine A7 (a0 := y) ?_
 unfold F7
 refine (St.start w).Af λ b1 w1 S1 e1 => ?_
 have S1 : St (λ _ => False) w w1 [(b1, lkO y)] := S1
 refine S1.lds 0 y rfl (Ax8 (h.Cp6 e1) (hg.ext e1) (λ a h1 h2 => Ax9 (by omega)) λ w2 e2 => hK w2 (S1.ext e2).upd)
end
end Go.Proofs.YtolhlldgnfbemaaGreatDoor
namespace Go.Proofs.YtolhlldgnfbemaaGreatDoor
open Go Go.Vx Go.ChangeShapes Go.WideShapes Go.RowKit
theorem Vz (os : Os) {H : Type} (enc : TypeId × Value -> H) :
  (Rows.OpenSpec.upto Rows.motionParasSpec).preRow enc Tryz.prog Tryz.f7 Rows.motionParasUptoRow.domain false laidB ((laidWorld os).forCall (λ _ _ => 0) ⟨#[], #[look0], []⟩).memory #[look0] := by
 have hw : (DataW.whole enc Tryz.prog ((laidWorld os).forCall (λ _ _ => 0) ⟨#[], #[look0], []⟩).memory Tryz.f7.params.toList (Rows.OpenSpec.upto Rows.motionParasSpec).vars false #[look0].toList 8).map (λ x => (x.1, x.2.1)) =
   some ([.agg [.lit (.int .i64 0), .nil, .nil, .nil]], []) := by kernel_rfl
 obtain ⟨⟨x1, x2, x3⟩, hx, hx1⟩ := Option.map_eq_some_iff.1 hw
 simp only [Prod.mk.injEq] at hx1
 obtain ⟨rfl, rfl⟩ := hx1
 exact OpenSpec.preRow_of_cond 8 hx (by kernel_rfl) (λ k hk => by cases hk; kernel_rfl) (by kernel_rfl) (laid_met os _)
set_option maxRecDepth 100000 in
set_option maxHeartbeats 2000000 in
theorem Xg (os : Os) (started : os.Started) (H : Type) (enc : TypeId × Value -> H) (F : Stop.Interp) :
  ReturnsInHanded {} Tryz.checked os 7 .any ((Rows.OpenSpec.upto Rows.motionParasSpec).preRow enc Tryz.prog Tryz.f7 Rows.motionParasUptoRow.domain false laidB) (((Rows.OpenSpec.upto Rows.motionParasSpec).at F).post enc Tryz.prog Tryz.f7 false true false false) := by
 refine returnsInHanded_of_row (C := Tryz.checked) (s := Rows.OpenSpec.upto Rows.motionParasSpec) Tryz.own started (by kernel_rfl) Tryz.func7
  (witness_row_atRef (enc := enc) (C := Tryz.checked) false (laidWorld os) #[look0] rfl (by kernel_rfl) (by kernel_rfl) (by kernel_rfl) (Vz os enc)) ?_
 intro W base args ds gs before hval0 hW _ hk hwt0 hL _ _
 have hval : ∀ (j : Nat) t v, Tryz.f7.params[j]? = some t -> args[j]? = some v -> Value.okWide Tryz.prog W .any base t v := hval0
 have hwt : (DataW.weightsEach Tryz.prog (Tryz.f7.params.toList ++ []) (ds ++ gs)).all (· <= reachBytes) = true := hwt0
 have hW' := hW
 obtain ⟨p, q, hA0, hV, rfl, hfz, hnd⟩ := hW
 have hA : DataW.TrodAll enc Tryz.prog W 0 (λ _ => true) true Tryz.f7.params.toList args.toList ds p := hA0
 clear hA0 hval0 hwt0
 rw [Tryz.params7] at hA hval hwt
 obtain ⟨rfl, rfl⟩ := trodVars_none hV
 obtain ⟨hn1, hn2, hT⟩ := G5 hA
 obtain ⟨v0, hv⟩ := Bw5 args.toList hn1
 obtain rfl : args = #[v0] := by cases args; simp_all
 obtain ⟨d0, rfl⟩ := Bw5 ds hn2
 have hbulk : bulk d0 <= 1048576 := by
  have h : Rows.uptoBulkAll ([d0] ++ []) <= 1048576 := of_decide_eq_true (hk _ rfl)
  simp only [List.append_nil, Rows.uptoBulkAll] at h
  show Rows.uptoBulk d0 <= _
  omega
 obtain ⟨p0, q0⟩ := hT 0 26 v0 d0 rfl rfl rfl
 obtain ⟨y, c, l, L, al, rfl, hLk⟩ := Cb8 (hval 0 26 v0 rfl rfl) q0 (weigh hwt 0 rfl rfl) hbulk
 have walk := Ao9 hLk (Aw1 hL) (K := λ r w' => r = true /\ Ext W w') λ w' e => ⟨rfl, e⟩
 refine walk.mono λ e W' ⟨x, he, hx, hext⟩ => ⟨.bool true, ?_, ?_⟩
 ·subst hx; exact he
 ·exact Bn2 (s := Rows.motionParasSpec) hW' rfl rfl u4 rfl Tryz.laidOut (λ t ht => by
   rw [Tryz.params7] at ht
   have ht : t ∈ [26] := ht
   simp only [List.mem_cons, List.not_mem_nil, or_false] at ht
   exact recs ht) hext
theorem N9 : Rows.MotionParasUptoSaid :=
 OpenClaim.holds_of_cond 7 Tryz.f7 rfl rfl rfl rfl rfl rfl rfl ⟨rfl, rfl, rfl, rfl, rfl⟩ rfl rfl rfl rfl rfl (by kernel_rfl) Tryz.func7 (by kernel_rfl)
  (of_decide_eq_true (by kernel_rfl)) (by unfold Func.isWrapper; rw [if_neg (by decide +kernel)]; exact ⟨rfl, rfl⟩)
  (λ os started H enc _ F => by rw [OpenClaim.pre_eq_preRow]; exact Xg os started H enc F)
theorem motionParas_holds : Rows.MotionParasUptoCardSaid :=
 Claim7.holds_tied_plain_at .later [] [.data] true (true, "8f74c5824d2844387da4d3f60a6cadad0d89fd3d2452e68467ab9657e16e6046") false
  N9 (λ _ h => by cases h) (by kernel_rfl) (λ _ h => by cases h) motionParasUpto_row_tie rfl ⟨rfl, rfl⟩ (by kernel_rfl) rfl
  (λ f fn hf hfn => by
   obtain rfl : f = 7 := Option.some.inj ((show Tryz.prog.funcNamed "copyist/copyistlaw8.MotionParas" = some 7 by kernel_rfl).symm.trans hf) |>.symm
   obtain rfl : fn = Tryz.f7 := (Option.some.inj (Tryz.func7.symm.trans hfn)).symm
   exact ⟨by kernel_rfl, λ j t ht => by
    rw [Tryz.params7] at ht
    have hm : t ∈ [26] := by simpa using Array.mem_of_getElem? ht
    have hall : ([26].all λ u => !Tryz.prog.wantsStandIn u) = true := by kernel_rfl
    exact (show Tryz.prog.wantsStandIn t = false by simpa using List.all_eq_true.1 hall t hm)⟩)
  (by kernel_rfl)
end Go.Proofs.YtolhlldgnfbemaaGreatDoor
