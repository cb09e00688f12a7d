/- The law holds for every input: it returns true, and each argument reads behind the call as it did. Conditions: those of the form alone. -/
import Derived.Test.YtolhlldgnfbemaaGreatDoorXWo6
set_option linter.unusedVariables false
set_option linter.unusedSimpArgs false
set_option linter.unusedSectionVars false
noncomputable section
set_option maxRecDepth 100000
namespace Go.Proofs.YtolhlldgnfbemaaGreatDoor
open Go Go.Vx Gly Clu Rgl
section
variable {w w' : World}
theorem Ak1 {l r : Nat} {K : Bool -> Wp} (h : K (Jh l r) w) : Aa Tryz.prog 126 #[.int .i64 (l : Int), .int .i64 (r : Int)] rB K w := by
 refine Dr0 ?_
 unfold F126
 have g : ∀ {b : Bool}, (b = true ↔ Jh l r = true) -> K b w := λ {b} hb => by
  have : Jh l r = b := Bool.eq_iff_iff.2 hb.symm
  rw [this] at h; exact h
 have hx : ∀ {n m : Nat}, (((n : Int) == (m : Int)) = true) = (n = m) := by intro n m; simp; omega
 refine Ae (λ x W => x = (decide (l = 9 /\ (r = 9 \/ r = 10 \/ r = 12 \/ r = 13)), ()) /\ w = W) ?_ ?_
 ·refine Ac (λ h1 => Ac (λ h2 => ⟨Au ?_, rfl⟩) λ h2 => Ac (λ h3 => ⟨Au ?_, rfl⟩) λ h3 => Ac (λ h4 => ⟨Au ?_, rfl⟩) λ h4 => ⟨Au ?_, rfl⟩) λ h1 => ⟨Au ?_, rfl⟩
  all_goals simp only [beq_iff_eq, beq_eq_false_iff_ne, ne_eq, decide_eq_true_eq, true_iff, Bool.false_eq_true, false_iff] at *
  all_goals omega
 rintro _ _ ⟨rfl, rfl⟩
 refine Ac (λ h1 => ?_) (λ h1 => ?_)
 ·simp only [decide_eq_true_eq] at h1
  refine g ?_
  unfold Jh
  simp only [decide_eq_true_eq, true_iff]
  exact .inl h1
 simp only [decide_eq_false_iff_not] at h1
 refine Ae (λ x W => x = (decide ((l = 12 \/ l = 10) /\ (r = 10 \/ r = 11)), ()) /\ w = W) ?_ ?_
 ·refine Ac (λ h1 => Ac (λ h2 => ⟨Au ?_, rfl⟩) λ h2 => ⟨Au ?_, rfl⟩) λ h1 => Ac (λ h2 => Ac (λ h3 => ⟨Au ?_, rfl⟩) λ h3 => ⟨Au ?_, rfl⟩) λ h2 => ⟨Au ?_, rfl⟩
  all_goals simp only [beq_iff_eq, beq_eq_false_iff_ne, ne_eq, decide_eq_true_eq, true_iff, Bool.false_eq_true, false_iff] at *
  all_goals omega
 rintro _ _ ⟨rfl, rfl⟩
 refine Ac (λ h2 => ?_) (λ h2 => ?_)
 ·simp only [decide_eq_true_eq] at h2
  refine g ?_
  unfold Jh
  simp only [decide_eq_true_eq, true_iff]
  exact .inr (.inl h2)
 simp only [decide_eq_false_iff_not] at h2
 refine Ac (λ h3 => g ?_) (λ h3 => Ac (λ h4 => g ?_) (λ h4 => g ?_))
 all_goals unfold Jh
 all_goals simp only [beq_iff_eq, beq_eq_false_iff_ne, ne_eq, decide_eq_true_eq, Bool.false_eq_true, false_iff] at *
 all_goals omega
variable {A : List Int} {s : Sl} {t : TypeId}
theorem Xp {A : List Int} {j : Nat} {a : Int} (h : A[j]? = some a) : (A.take (j + 1)).reverse = a :: (A.take j).reverse := by
 rw [List.take_add_one, h]; simp
theorem rdA (hs : Bh w s t 1 (iv A)) {j : Nat} {a : Int} (h : A[j]? = some a) {K : Addr -> Int -> Wp} (hK : ∀ q, K q a w) : ix s.a s.len (j : Int) (λ q => ld (.int .i64) (q.add (scaled (Int.toNat (j : Int)) 1)) (K q)) w :=
 Fh (c := .int .i64) (xs := A) hs (by omega) (by rw [Int.toNat_natCast]; exact h) hK
theorem X5 (hs : Bh w s t 1 (iv A)) (hl : A.length < 2 ^ 40) {k : Nat} {a : Int} (ha : A[k]? = some a) {K : Bool -> Wp} (h : K (decide (cnj a = 1) && Tf (A.take k).reverse 0) w) :
  Aa Tryz.prog 127 #[s.v, .int .i64 (k : Int)] rB K w := by
 refine Dq9 ?_
 unfold F127
 have hk := (List.getElem?_eq_some_iff.1 ha).1
 refine rdA hs ha λ q => X6 (Ac (λ h1 => ?_) (λ h1 => ?_))
 ·simp only [bne_iff_ne, ne_eq] at h1
  rw [decide_eq_false (by omega), Bool.false_and] at h; exact h
 simp only [bne_eq_false_iff_eq] at h1
 rw [decide_eq_true (by omega), Bool.true_and] at h
 have ew : W64 ((k : Int) - 1) = (k : Int) - 1 := wrap64 (by omega) (by omega)
 rw [ew]
 refine Ae (λ _ W => w = W /\ Tf (A.take k).reverse 0 = false) ?_ (λ _ W hW => by obtain ⟨rfl, hf⟩ := hW; rw [hf] at h; exact h)
 refine Aw (λ x W => ∃ n j : Nat, x = ((n : Int), (j : Int) - 1, ()) /\ j <= k /\ n + j <= k /\ w = W /\ Tf (A.take k).reverse 0 = Tf (A.take j).reverse n) (λ x _ => (x.2.1 + 1).toNat) ⟨0, k, rfl, Nat.le_refl _, by omega, rfl, rfl⟩ ?_
 rintro _ _ ⟨n, j, rfl, hj, hnj, rfl, he⟩
 dsimp only
 refine Ac (λ hc => ?_) (λ hc => ?_)
 ·simp only [decide_eq_true_eq, ge_iff_le] at hc
  obtain ⟨i, rfl⟩ : ∃ i, j = i + 1 := ⟨j - 1, by omega⟩
  obtain ⟨b, hb⟩ : ∃ b, A[i]? = some b := ⟨_, List.getElem?_eq_getElem (by omega)⟩
  have e1 : ((i + 1 : Nat) : Int) - 1 = (i : Int) := by omega
  rw [Xp hb, Tf] at he
  rw [e1]
  have ewi : W64 ((i : Int) - 1) = (i : Int) - 1 := wrap64 (by omega) (by omega)
  have ewn : W64 ((n : Int) + 1) = ((n + 1 : Nat) : Int) := by rw [wrap64 (by omega) (by omega)]; omega
  rw [ewi, ewn]
  refine rdA hs hb λ q => X6 ?_
  refine Ae (λ x W => x = (((if cnj b = 3 then n + 1 else n : Nat) : Int), ()) /\ w = W) (Ac (λ h3 => ⟨?_, rfl⟩) (λ h3 => ⟨?_, rfl⟩)) ?_
  ·simp only [beq_iff_eq] at h3
   rw [if_pos (by omega)]
  ·simp only [beq_eq_false_iff_ne, ne_eq] at h3
   rw [if_neg (by omega)]
  rintro _ _ ⟨rfl, rfl⟩
  refine Ae (λ x W => x = (decide (cnj b ≠ 3 /\ cnj b ≠ 2), ()) /\ w = W) (Ac (λ h3 => ⟨Au ?_, rfl⟩) (λ h3 => ⟨Au ?_, rfl⟩)) ?_
  ·simp only [bne_iff_ne, ne_eq, decide_eq_true_eq] at *; omega
  ·simp only [bne_eq_false_iff_eq, ne_eq, decide_eq_true_eq, Bool.false_eq_true, false_iff] at *; omega
  rintro _ _ ⟨rfl, rfl⟩
  refine Ac (λ h3 => ?_) (λ h3 => ?_)
  ·simp only [decide_eq_true_eq] at h3
   rw [if_pos h3] at he
   rw [if_neg h3.1]
   refine Ac (λ h4 => ?_) (λ h4 => ?_)
   ·simp only [decide_eq_true_eq, gt_iff_lt] at h4
    rw [he, decide_eq_true (by omega), Bool.true_and] at h
    have : (((cnj b : Nat) : Int) == (1 : Int)) = (cnj b == 1) := by rw [Bool.eq_iff_iff, beq_iff_eq, beq_iff_eq]; omega
    rw [this]; exact h
   ·simp only [decide_eq_false_iff_not, gt_iff_lt] at h4
    rw [he, decide_eq_false (by omega), Bool.false_and] at h
    exact h
  ·simp only [decide_eq_false_iff_not] at h3
   rw [if_neg h3] at he
   exact ⟨⟨_, i, rfl, by omega, by split <;> omega, rfl, he⟩, by omega⟩
 ·simp only [decide_eq_false_iff_not, ge_iff_le] at hc
  obtain rfl : j = 0 := by omega
  exact ⟨rfl, he⟩
theorem Ak0 (hs : Bh w s t 1 (iv A)) (hl : A.length < 2 ^ 40) {k : Nat} {a b : Int} (ha : A[k + 1]? = some a) (hb : A[k]? = some b) {K : Bool -> Wp} (h : K (decide (cls a = 14 /\ cls b = 5) && Qk (A.take k).reverse) w) :
  Aa Tryz.prog 128 #[s.v, .int .i64 ((k + 1 : Nat) : Int)] rB K w := by
 refine Dq8 ?_
 unfold F128
 have hk := (List.getElem?_eq_some_iff.1 ha).1
 have ew1 : W64 (((k + 1 : Nat) : Int) - 1) = (k : Int) := by rw [wrap64 (by omega) (by omega)]; omega
 have ew2 : W64 (((k + 1 : Nat) : Int) - 2) = (k : Int) - 1 := by rw [wrap64 (by omega) (by omega)]; omega
 rw [ew1, ew2]
 refine Ae (λ x W => x = (decide (¬ (cls a = 14 /\ cls b = 5)), ()) /\ w = W) ?_ ?_
 ·refine rdA hs ha λ q => Gw (Ac (λ h1 => ⟨Au ?_, rfl⟩) (λ h1 => rdA hs hb λ q => Gw ⟨Au ?_, rfl⟩))
  ·simp only [bne_iff_ne, ne_eq, decide_eq_true_eq, true_iff] at *; omega
  ·simp only [bne_eq_false_iff_eq, bne_iff_ne, ne_eq, decide_eq_true_eq] at *; omega
 rintro _ _ ⟨rfl, rfl⟩
 refine Ac (λ h1 => ?_) (λ h1 => ?_)
 ·simp only [decide_eq_true_eq] at h1
  rw [decide_eq_false h1, Bool.false_and] at h; exact h
 simp only [decide_eq_false_iff_not, Decidable.not_not] at h1
 rw [decide_eq_true h1, Bool.true_and] at h
 refine Ae (λ _ W => w = W /\ Qk (A.take k).reverse = false) ?_ (λ _ W hW => by obtain ⟨rfl, hf⟩ := hW; rw [hf] at h; exact h)
 refine Aw (λ x W => ∃ j : Nat, x = ((j : Int) - 1, ()) /\ j <= k /\ w = W /\ Qk (A.take k).reverse = Qk (A.take j).reverse) (λ x _ => (x.1 + 1).toNat) ⟨k, rfl, Nat.le_refl _, rfl, rfl⟩ ?_
 rintro _ _ ⟨j, rfl, hj, rfl, he⟩
 dsimp only
 refine Ac (λ hc => ?_) (λ hc => ?_)
 ·simp only [decide_eq_true_eq, ge_iff_le] at hc
  obtain ⟨i, rfl⟩ : ∃ i, j = i + 1 := ⟨j - 1, by omega⟩
  obtain ⟨c, hcc⟩ : ∃ b, A[i]? = some b := ⟨_, List.getElem?_eq_getElem (by omega)⟩
  have e1 : ((i + 1 : Nat) : Int) - 1 = (i : Int) := by omega
  rw [Xp hcc, Qk] at he
  rw [e1]
  have ewi : W64 ((i : Int) - 1) = (i : Int) - 1 := wrap64 (by omega) (by omega)
  rw [ewi]
  refine rdA hs hcc λ q => Gw (Ac (λ h3 => ?_) (λ h3 => ?_))
  ·simp only [bne_iff_ne, ne_eq] at h3
   rw [if_pos (by omega)] at he
   rw [he] at h
   have : (((cls c : Nat) : Int) == (14 : Int)) = (cls c == 14) := by rw [Bool.eq_iff_iff, beq_iff_eq, beq_iff_eq]; omega
   rw [this]; exact h
  ·simp only [bne_eq_false_iff_eq] at h3
   rw [if_neg (by omega)] at he
   exact ⟨⟨i, rfl, by omega, rfl, he⟩, by omega⟩
 ·simp only [decide_eq_false_iff_not, ge_iff_le] at hc
  obtain rfl : j = 0 := by omega
  exact ⟨rfl, he⟩
theorem Ay8 (hs : Bh w s t 1 (iv A)) (hl : A.length < 2 ^ 40) {k : Nat} {a : Int} (ha : A[k]? = some a) {K : Bool -> Wp} (h : K (decide (cls a = 6) && Qu (A.take k).reverse % 2 == 1) w) :
  Aa Tryz.prog 129 #[s.v, .int .i64 (k : Int)] rB K w := by
 refine Dq7 ?_
 unfold F129
 have hk := (List.getElem?_eq_some_iff.1 ha).1
 refine rdA hs ha λ q => Gw (Ac (λ h1 => ?_) (λ h1 => ?_))
 ·simp only [bne_iff_ne, ne_eq] at h1
  rw [decide_eq_false (by omega), Bool.false_and] at h; exact h
 simp only [bne_eq_false_iff_eq] at h1
 rw [decide_eq_true (by omega), Bool.true_and] at h
 have ew : W64 ((k : Int) - 1) = (k : Int) - 1 := wrap64 (by omega) (by omega)
 rw [ew]
 refine Ae (λ x W => x = (((Qu (A.take k).reverse : Nat) : Int), ()) /\ w = W) ?_ ?_
 ·refine Aw (λ x W => ∃ n j : Nat, x = ((n : Int), (j : Int) - 1, ()) /\ j <= k /\ n + j <= k /\ w = W /\ Qu (A.take k).reverse = n + Qu (A.take j).reverse) (λ x _ => (x.2.1 + 1).toNat) ⟨0, k, rfl, Nat.le_refl _, by omega, rfl, by omega⟩ ?_
  rintro _ _ ⟨n, j, rfl, hj, hnj, rfl, he⟩
  dsimp only
  refine Ac (λ hc => ?_) (λ hc => ?_)
  ·simp only [decide_eq_true_eq, ge_iff_le] at hc
   obtain ⟨i, rfl⟩ : ∃ i, j = i + 1 := ⟨j - 1, by omega⟩
   obtain ⟨c, hcc⟩ : ∃ b, A[i]? = some b := ⟨_, List.getElem?_eq_getElem (by omega)⟩
   have e1 : ((i + 1 : Nat) : Int) - 1 = (i : Int) := by omega
   rw [Xp hcc, Qu] at he
   rw [e1]
   have ewi : W64 ((i : Int) - 1) = (i : Int) - 1 := wrap64 (by omega) (by omega)
   have ewn : W64 ((n : Int) + 1) = ((n + 1 : Nat) : Int) := by rw [wrap64 (by omega) (by omega)]; omega
   rw [ewi, ewn]
   refine rdA hs hcc λ q => Gw (Ac (λ h3 => ⟨?_, rfl⟩) (λ h3 => ?_))
   ·simp only [bne_iff_ne, ne_eq] at h3
    rw [if_pos (by omega)] at he
    rw [he, Nat.add_zero]
   ·simp only [bne_eq_false_iff_eq] at h3
    rw [if_neg (by omega)] at he
    exact ⟨⟨n + 1, i, rfl, by omega, by omega, rfl, by omega⟩, by omega⟩
  ·simp only [decide_eq_false_iff_not, ge_iff_le] at hc
   obtain rfl : j = 0 := by omega
   refine ⟨?_, rfl⟩
   rw [he]; rfl
 rintro _ _ ⟨rfl, rfl⟩
 refine Cm (by decide) ?_
 rw [Int.tmod_eq_emod_of_nonneg (by omega)]
 have : ((((Qu (A.take k).reverse : Nat) : Int) % 2) == (1 : Int)) = (Qu (A.take k).reverse % 2 == 1) := by rw [Bool.eq_iff_iff, beq_iff_eq, beq_iff_eq]; omega
 rw [this]; exact h
theorem Ad2 (hs : Bh w s t 1 (iv A)) (hl : A.length < 2 ^ 40) {k : Nat} (hk : k <= A.length) {K : Bool -> Wp} (h : K (bk A k) w) :
  Aa Tryz.prog 75 #[s.v, .int .i64 (k : Int)] rB K w := by
 refine A75 ?_
 unfold F75
 have hlen : A.length = s.len := by have := hs.len1; rwa [List.length_map] at this
 refine Ae (λ x W => x = (false, ()) /\ w = W) (Ac (λ hc => ?_) (λ hc => ⟨Au ?_, rfl⟩)) ?_
 ·simp only [decide_eq_true_eq] at hc; omega
 ·simp only [decide_eq_true_eq, gt_iff_lt, Bool.false_eq_true, iff_false]; omega
 rintro _ _ ⟨rfl, rfl⟩
 refine Am ?_
 refine Ae (λ x W => x = (decide (k = 0 \/ k = A.length), ()) /\ w = W) (Ac (λ hc => ⟨Au ?_, rfl⟩) (λ hc => ⟨Au ?_, rfl⟩)) ?_
 ·simp only [beq_iff_eq, decide_eq_true_eq, true_iff] at *; omega
 ·simp only [beq_eq_false_iff_ne, ne_eq, beq_iff_eq, decide_eq_true_eq] at *; omega
 rintro _ _ ⟨rfl, rfl⟩
 refine Ac (λ hc => ?_) (λ hc => ?_)
 ·simp only [decide_eq_true_eq] at hc
  have : bk A k = true := by
   rcases hc with rfl | rfl
   ·exact Zc A
   ·exact An6 A
  rw [this] at h; exact h
 simp only [decide_eq_false_iff_not, not_or] at hc
 obtain ⟨j, rfl⟩ : ∃ j, k = j + 1 := ⟨k - 1, by omega⟩
 have ha : A[j + 1]? = some A[j + 1] := List.getElem?_eq_getElem (by omega)
 have hb : A[j]? = some A[j] := List.getElem?_eq_getElem (by omega)
 generalize A[j + 1] = a at *
 generalize A[j] = b at *
 have hbk : bk A (j + 1) = !Al9 (b :: (A.take j).reverse) (cls b) (cls a) (cnj a) := by
  rw [Bi3 ha (by omega), List.take_add_one, hb]
  have := Ba7 (b := b) (A.take j).reverse (cls a) (cnj a)
  rw [List.reverse_reverse] at this
  show (!joins (sc (A.take j ++ [b])) _ _) = _
  rw [this]
 rw [hbk] at h
 have ew1 : W64 (((j + 1 : Nat) : Int) - 1) = (j : Int) := by rw [wrap64 (by omega) (by omega)]; omega
 rw [ew1]
 refine rdA hs hb λ q => Gw (rdA hs ha λ q => Gw ?_)
 unfold Al9 at h
 refine Ae (λ x W => x = (decide (cls b = 1 /\ cls a = 2), ()) /\ w = W) (Ac (λ h1 => ⟨Au ?_, rfl⟩) (λ h1 => ⟨Au ?_, rfl⟩)) ?_
 ·simp only [beq_iff_eq, decide_eq_true_eq] at *; omega
 ·simp only [beq_eq_false_iff_ne, ne_eq, decide_eq_true_eq, Bool.false_eq_true, false_iff] at *; omega
 rintro _ _ ⟨rfl, rfl⟩
 refine Ac (λ h1 => ?_) (λ h1 => ?_)
 ·simp only [decide_eq_true_eq] at h1
  rw [if_pos h1] at h; exact h
 simp only [decide_eq_false_iff_not] at h1
 rw [if_neg h1] at h
 refine Ae (λ x W => x = (decide (apart (cls b) = true \/ apart (cls a) = true), ()) /\ w = W) ?_ ?_
 ·refine Ac (λ g1 => ⟨Au ?_, rfl⟩) λ g1 => Ac (λ g2 => ⟨Au ?_, rfl⟩) λ g2 => Ac (λ g3 => ⟨Au ?_, rfl⟩) λ g3 => Ac (λ g4 => ⟨Au ?_, rfl⟩) λ g4 => Ac (λ g5 => ⟨Au ?_, rfl⟩) λ g5 => ⟨Au ?_, rfl⟩
  all_goals unfold apart
  all_goals simp only [beq_iff_eq, beq_eq_false_iff_ne, ne_eq, decide_eq_true_eq, true_iff] at *
  all_goals omega
 rintro _ _ ⟨rfl, rfl⟩
 refine Ac (λ h2 => ?_) (λ h2 => ?_)
 ·simp only [decide_eq_true_eq] at h2
  rw [if_pos h2] at h; exact h
 simp only [decide_eq_false_iff_not] at h2
 rw [if_neg h2] at h
 refine Ak1 ?_
 refine Ae (λ x W => x = ((Jh (cls b) (cls a) || decide (cls a = 4 \/ cls a = 5 \/ cls a = 8 \/ cls b = 7)), ()) /\ w = W) ?_ ?_
 ·refine Ac (λ g1 => ⟨Au ?_, rfl⟩) λ g1 => Ac (λ g2 => ⟨Au ?_, rfl⟩) λ g2 => Ac (λ g3 => ⟨Au ?_, rfl⟩) λ g3 => Ac (λ g4 => ⟨Au ?_, rfl⟩) λ g4 => ⟨Au ?_, rfl⟩
  all_goals simp only [g1, Bool.true_or, Bool.false_or, beq_iff_eq, beq_eq_false_iff_ne, ne_eq, decide_eq_true_eq, true_iff] at *
  all_goals omega
 rintro _ _ ⟨rfl, rfl⟩
 refine Ac (λ h3 => ?_) (λ h3 => ?_)
 ·have h3 : (Jh (cls b) (cls a) || decide (cls a = 4 \/ cls a = 5 \/ cls a = 8 \/ cls b = 7)) = true := h3
  rw [h3, Bool.true_or, Bool.true_or, Bool.true_or] at h; exact h
 have h3 : (Jh (cls b) (cls a) || decide (cls a = 4 \/ cls a = 5 \/ cls a = 8 \/ cls b = 7)) = false := h3
 rw [h3, Bool.false_or] at h
 refine X5 hs hl ha (Ak0 hs hl ha hb (Ay8 hs hl ha ?_))
 rw [Xp hb]
 have ht : (b :: (A.take j).reverse).tail = (A.take j).reverse := rfl
 rw [ht] at h
 generalize (decide (cnj a = 1) && Tf (b :: (A.take j).reverse) 0) = x at *
 generalize (decide (cls a = 14 /\ cls b = 5) && Qk (A.take j).reverse) = y at *
 generalize (decide (cls a = 6) && Qu (b :: (A.take j).reverse) % 2 == 1) = z at *
 cases x
 ·cases y
  ·refine Ac (λ _ => Ac (λ _ => ?_) (λ q => by cases q)) (λ q => by cases q)
   exact h
  ·exact Bj (Am h)
 ·exact Am h
end
end Go.Proofs.YtolhlldgnfbemaaGreatDoor
namespace Go.Proofs.YtolhlldgnfbemaaGreatDoor
open Go Go.Vx Gly Clu Rgl Lns Trx Obx
section
variable {w w' : World} {A : List Int} {s : Sl} {t : TypeId}
theorem Ak8 (hs : Bh w s t 1 (iv A)) (hl : A.length < 2 ^ 40) {K : Sl -> Wp} (hK : ∀ s' w', Ap w' w.heap.size s' 3 1 (nv (cuts A)) -> Ext w w' -> K s' w') :
  Aa Tryz.prog 32 #[s.v] rS K w := by
 refine A32 ?_
 unfold F32
 have hlen : A.length = s.len := by have := hs.len1; rwa [List.length_map] at this
 have nvi : ∀ l : List Nat, nv l = iv (l.map λ (n : Nat) => (n : Int)) := λ l => by show l.map _ = (l.map _).map _; rw [List.map_map]; rfl
 have full : (List.range (A.length + 1)).filter (bk A) = cuts A := rfl
 refine Ae (λ x W => Ap W w.heap.size x.1 3 1 (nv (cuts A)) /\ Ext w W) ?_ (λ x W h => hK _ _ h.1 h.2)
 refine Aw (λ x W => ∃ i : Nat, i <= A.length + 1 /\ x.2 = ((i : Int), ()) /\ Ap W w.heap.size x.1 3 1 (nv ((List.range i).filter (bk A))) /\ Ext w W) (λ x _ => ((A.length : Int) + 1 - x.2.1).toNat) ⟨0, Nat.zero_le _, rfl, Ap.nil _ _ _ _, Ext.refl w⟩ ?_
 rintro ⟨r, _⟩ W ⟨i, hi, rfl, hr, eW⟩
 dsimp only at hr ⊢
 refine Ac (λ hc => ?_) (λ hc => ?_)
 ·simp only [decide_eq_true_eq] at hc
  have ew : W64 ((i : Int) + 1) = ((i + 1 : Nat) : Int) := by rw [wrap64 (by omega) (by omega)]; omega
  rw [ew]
  have fl : ((List.range i).filter (bk A)).length <= i := by have := List.length_filter_le (bk A) (List.range i); rwa [List.length_range] at this
  refine Ae (λ x W' => Ap W' w.heap.size x.1 3 1 (nv ((List.range (i + 1)).filter (bk A))) /\ Ext w W') ?_ (λ x W' h => ⟨⟨i + 1, by omega, rfl, h.1, h.2⟩, by omega⟩)
  refine Ad2 (hs.ext eW) hl (by omega) ?_
  rw [List.range_succ, List.filter_append]
  refine Ac (λ hb => ?_) (λ hb => ?_)
  ·rw [List.filter_cons_of_pos hb]
   rw [nvi] at hr
   refine Cc λ b8 w4 e4 n4 hb4 _ => push (hr.ext e4) n4 (by rw [List.length_map]; omega) (by have := eW.size; have := e4.size; omega) λ r' w5 o5 u5 => ?_
   refine ⟨?_, (eW.trans e4).step u5 λ k hk => hr.Et hk⟩
   rw [nvi, List.map_append]
   exact o5
  ·rw [List.filter_cons_of_neg (by rw [hb]; decide)]
   rw [show ([] : List Nat).filter (bk A) = [] from rfl, List.append_nil]
   exact ⟨hr, eW⟩
 ·simp only [decide_eq_false_iff_not] at hc
  have : i = A.length + 1 := by omega
  subst this
  rw [full] at hr
  exact ⟨hr, eW⟩
def lnF (A : List Int) : List Ln := (List.range (brs A + 1)).map λ i => (Kw A i).getD ⟨0, 0, 0, 0⟩
theorem Bg5 (A : List Int) : (lnF A).length = brs A + 1 := by unfold lnF; simp
theorem Bv7 {A : List Int} {i : Nat} {l : Ln} (h : Kw A i = some l) : (lnF A)[i]? = some l := by
 have := (Qp h).1
 unfold lnF
 rw [List.getElem?_map, List.getElem?_range (by omega), Option.map_some, h]; rfl
abbrev lnR (l : Ln) : Cells.T c71 := ((l.from_ : Int), (l.to_ : Int), (l.next : Int), (l.kind : Int), ())
theorem eR6 : Hr Tryz.prog 60 71 4 32 := Hr.of (z := .agg #[.int .i64 0, .int .i64 0, .int .i64 0, .int .i64 0]) C60 C71 rfl rfl rfl (by decide)
theorem Cl9 (l : Ln) : ∀ v ∈ flat c71 [lnR l], Ew v = true := by
 intro v hv
 rw [Yq] at hv
 have h : v ∈ [_, _, _, _] := hv
 simp only [List.mem_cons, List.not_mem_nil, or_false] at h
 rcases h with rfl | rfl | rfl | rfl <;> rfl
theorem Bf2 {r : Sl} {L : List Ln} {l : Ln} {b N : Nat} {K : Sl -> Wp} (hr : Ap w N r 71 4 (flat c71 (L.map lnR))) (hb : w.heap[b]? = some (.cells #[.int .i64 (l.from_ : Int), .int .i64 (l.to_ : Int), .int .i64 (l.next : Int), .int .i64 (l.kind : Int)] 71 (0, 0))) (hl : L.length < 2 ^ 40) (hN : N <= w.heap.size)
  (hK : ∀ r' w', Ap w' N r' 71 4 (flat c71 ((L ++ [l]).map lnR)) -> r'.len = L.length + 1 -> Upd r.blk w w' -> K r' w') :
  Dt Tryz.prog (.one (.one .sl)) (Builtin.append_ #[60, 60] 60 #[.slice r.a r.len r.cap, .slice (some (at0 b)) 1 1]) K w := by
 have hrl := Ap.Jt (cs := c71) hr (by decide)
 rw [List.length_map] at hrl
 have hbox : SlX w ⟨some (at0 b), 1, 1⟩ 4 (flat c71 [lnR l]) := (Bh.Iq hb (n := 1) (sz := 4) rfl).x
 refine Ec eR6 eR6.ts_ (x := ⟨some (at0 b), 1, 1⟩) hr hbox (Cl9 l) (by
  show (r.len + 1 + (r.len + 1) / 4 + 512) * 32 <= 2 ^ 48
  omega) hN λ r' w' o l' u k => hK r' w' ?_ (by rw [l', hrl]) u
 rw [List.map_append, Jo]; exact o
set_option maxHeartbeats 1000000 in
theorem Bk7 (hs : Bh w s t 1 (iv A)) (hl : A.length < 2 ^ 39) {K : Sl × Int × Unit -> Wp} (hK : ∀ s' w', Ap w' w.heap.size s' 71 4 (flat c71 ((lnF A).map lnR)) -> Ext w w' -> K (s', ((lnN A : Nat) : Int), ()) w') :
  Aa Tryz.prog 31 #[s.v] (.tup [(.one .sl), (.one (.int .i64))]) K w := by
 refine A31 ?_
 unfold F31
 have hlen : A.length = s.len := by have := hs.len1; rwa [List.length_map] at this
 have hbr : brs A <= A.length := by rw [Jk]; exact Ar2 _ _
 have hF := Bg5 A
 have grow : ∀ {i m : Nat} {l : Ln}, i = m -> Kw A i = some l -> (lnF A).take (m + 1) = (lnF A).take m ++ [l] := λ {i m l} e h => by
  subst e; rw [List.take_add_one, Bv7 h]; rfl
 refine Ae (λ x W => ∃ f : Nat, Ap W w.heap.size x.1 71 4 (flat c71 (((lnF A).take (brs A)).map lnR)) /\ x.2 = ((f : Int), ()) /\ sk A (brs A) = some f /\ Ext w W) ?_ ?_
 ·refine Aw (λ x W => ∃ i f : Nat, i <= A.length /\ x.2 = ((f : Int), (i : Int), ()) /\ sk A (nb A i) = some f /\ f <= i /\ (f < i -> A[i]? = some 10 -> A[i - 1]? ≠ some 13) /\ Ap W w.heap.size x.1 71 4 (flat c71 (((lnF A).take (nb A i)).map lnR)) /\ Ext w W) (λ x _ => ((A.length : Int) - x.2.2.1).toNat) ⟨0, 0, Nat.zero_le _, rfl, by rw [La, Aj7], Nat.le_refl _, (λ h => by omega), by rw [La]; exact Ap.nil _ _ _ _, Ext.refl w⟩ ?_
  rintro ⟨r, _⟩ W ⟨i, f, hi, rfl, hsk, hfi, hmid, hr, eW⟩
  dsimp only at hr ⊢
  have hnb : nb A i <= brs A := by rw [Jk]; exact Js A _ _ hi
  have tkl : ((lnF A).take (nb A i)).length < 2 ^ 40 := by rw [List.length_take]; omega
  refine Ac (λ hc => ?_) (λ hc => ?_)
  ·simp only [decide_eq_true_eq] at hc
   have hil : i < A.length := by omega
   obtain ⟨v, hv⟩ : ∃ v, A[i]? = some v := ⟨_, List.getElem?_eq_getElem hil⟩
   have hsW := hs.ext eW
   have ew1 : W64 ((i : Int) + 1) = ((i + 1 : Nat) : Int) := by rw [wrap64 (by omega) (by omega)]; omega
   have ew2 : W64 ((i : Int) + 2) = ((i + 2 : Nat) : Int) := by rw [wrap64 (by omega) (by omega)]; omega
   have ewk : ∀ k : Nat, k <= A.length -> W64 ((k : Int) + 1) = ((k + 1 : Nat) : Int) := λ k hk => by rw [wrap64 (by omega) (by omega)]; omega
   rw [ew1, ew2]
   refine Ae (λ x W' => ∃ j f : Nat, i <= j /\ j < A.length /\ x.2 = ((f : Int), (j : Int), ()) /\ sk A (nb A (j + 1)) = some f /\ f <= j + 1 /\ (f < j + 1 -> A[j + 1]? = some 10 -> A[j]? ≠ some 13) /\ Ap W' w.heap.size x.1 71 4 (flat c71 (((lnF A).take (nb A (j + 1))).map lnR)) /\ Ext w W') ?_ ?_
   ·refine rdA hsW hv λ q => Ac (λ h10 => ?_) (λ h10 => ?_)
    ·simp only [beq_iff_eq] at h10
     subst h10
     obtain ⟨g1, g2⟩ := Ax6 ((Il hv).2 (.inl rfl))
     have hln : Kw A (nb A i) = some ⟨f, i, i + 1, 1⟩ := by
      unfold Kw
      rw [hsk, g1]
      simp only [lnC, Nat.add_sub_cancel, hv, Option.some.injEq]
      rw [if_neg (by decide)]
      rw [if_neg (λ h => hmid (by omega) hv (by have := h.2; rwa [show i + 1 - 2 = i - 1 by omega] at this))]
     refine Cc λ b9 w4 e4 n4 hb4 _ => Bf2 (l := ⟨f, i, i + 1, 1⟩) (hr.ext e4) n4 tkl (by have := eW.size; have := e4.size; omega) λ r' w5 o5 _ u5 => ?_
     rw [← grow rfl hln] at o5
     refine ⟨i, i + 1, Nat.le_refl _, hil, rfl, by rw [g2]; exact g1, Nat.le_refl _, (λ h => by omega), by rw [g2]; exact o5, (eW.trans e4).step u5 λ k hk => hr.Et hk⟩
    ·simp only [beq_eq_false_iff_ne, ne_eq] at h10
     refine Ae (λ x W' => x = (decide (v = 13 /\ A[i + 1]? = some 10), ()) /\ W = W') ?_ ?_
     ·refine rdA hsW hv λ q => Ac (λ h13 => ?_) (λ h13 => ⟨Au ?_, rfl⟩)
      ·simp only [beq_iff_eq] at h13
       refine Ac (λ hlt => ?_) (λ hlt => ⟨Au ?_, rfl⟩)
       ·simp only [decide_eq_true_eq] at hlt
        obtain ⟨u, hu⟩ : ∃ u, A[i + 1]? = some u := ⟨_, List.getElem?_eq_getElem (by omega)⟩
        refine rdA hsW hu λ q => ⟨Au ?_, rfl⟩
        rw [hu]
        simp [h13]
       ·simp only [decide_eq_false_iff_not] at hlt
        rw [List.getElem?_eq_none (by omega)]; simp
      ·simp only [beq_eq_false_iff_ne, ne_eq] at h13
       simp [h13]
     rintro _ _ ⟨rfl, rfl⟩
     refine Ac (λ hcl => ?_) (λ hcl => ?_)
     ·simp only [decide_eq_true_eq] at hcl
      obtain ⟨rfl, hu⟩ := hcl
      have hil2 := (List.getElem?_eq_some_iff.1 hu).1
      have hno : isb A i = false := by
       cases hb : isb A i with
       | false => rfl
       | true =>
        rcases (Il hv).1 hb with h | h
        ·exact absurd h h10
        ·exact absurd hu h.2
      have hn1 : nb A (i + 1) = nb A i := by rw [Oy, hno]; simp
      obtain ⟨g1, g2⟩ := Ax6 ((Il hu).2 (.inl rfl))
      rw [hn1] at g1 g2
      have hln : Kw A (nb A i) = some ⟨f, i, i + 2, 2⟩ := by
       unfold Kw
       rw [hsk, g1]
       simp only [lnC, Option.some.injEq]
       rw [show i + 1 + 1 - 1 = i + 1 by omega, hu, if_neg (by decide), show i + 1 + 1 - 2 = i by omega, if_pos ⟨by omega, hv⟩]
      refine Cc λ b9 w4 e4 n4 hb4 _ => Bf2 (l := ⟨f, i, i + 2, 2⟩) (hr.ext e4) n4 tkl (by have := eW.size; have := e4.size; omega) λ r' w5 o5 _ u5 => ?_
      rw [← grow rfl hln] at o5
      refine ⟨i + 1, i + 2, by omega, hil2, rfl, by rw [g2]; exact g1, Nat.le_refl _, (λ h => by omega), by rw [g2]; exact o5, (eW.trans e4).step u5 λ k hk => hr.Et hk⟩
     ·simp only [decide_eq_false_iff_not] at hcl
      refine rdA hsW hv λ q => Ac (λ h13 => ?_) (λ h13 => ?_)
      ·simp only [beq_iff_eq] at h13
       subst h13
       have hu : A[i + 1]? ≠ some 10 := λ h => hcl ⟨rfl, h⟩
       obtain ⟨g1, g2⟩ := Ax6 ((Il hv).2 (.inr ⟨rfl, hu⟩))
       have hln : Kw A (nb A i) = some ⟨f, i, i + 1, 3⟩ := by
        unfold Kw
        rw [hsk, g1]
        simp only [lnC, Nat.add_sub_cancel, hv, Option.some.injEq]
        rw [if_pos trivial]
       refine Cc λ b9 w4 e4 n4 hb4 _ => Bf2 (l := ⟨f, i, i + 1, 3⟩) (hr.ext e4) n4 tkl (by have := eW.size; have := e4.size; omega) λ r' w5 o5 _ u5 => ?_
       rw [← grow rfl hln] at o5
       refine ⟨i, i + 1, Nat.le_refl _, hil, rfl, by rw [g2]; exact g1, Nat.le_refl _, (λ h => by omega), by rw [g2]; exact o5, (eW.trans e4).step u5 λ k hk => hr.Et hk⟩
      ·simp only [beq_eq_false_iff_ne, ne_eq] at h13
       have hno : isb A i = false := by
        cases hb : isb A i with
        | false => rfl
        | true =>
         rcases (Il hv).1 hb with h | h
         ·exact absurd h h10
         ·exact absurd h.1 h13
       have hn1 : nb A (i + 1) = nb A i := by rw [Oy, hno]; simp
       refine ⟨i, f, Nat.le_refl _, hil, rfl, by rw [hn1]; exact hsk, by omega, (λ _ _ h => by rw [hv] at h; cases h; exact h13 rfl), by rw [hn1]; exact hr, eW⟩
   ·rintro ⟨r', _⟩ W' ⟨j, f', hij, hjl, rfl, g1, g2, g3, g4, g5⟩
    dsimp only at g4 ⊢
    rw [ewk j (by omega)]
    exact ⟨⟨j + 1, f', by omega, rfl, g1, g2, (by rw [Nat.add_sub_cancel]; exact g3), g4, g5⟩, by omega⟩
  ·simp only [decide_eq_false_iff_not] at hc
   obtain rfl : i = A.length := by omega
   rw [← Jk] at hsk hr
   exact ⟨f, hr, rfl, hsk, eW⟩
 ·rintro ⟨r, _⟩ W ⟨f, hr, rfl, hsk, eW⟩
  dsimp only at hr ⊢
  have hrl := Ap.Jt (cs := c71) hr (by decide)
  rw [List.length_map, List.length_take] at hrl
  have hfl := (Nw hsk).2.1
  have hln : Kw A (brs A) = some ⟨f, A.length, A.length, 0⟩ := by
   unfold Kw
   rw [hsk, Vb A _ (by omega)]
  rw [← hlen]
  refine Cc λ b23 w4 e4 n4 hb4 _ => Bf2 (l := ⟨f, A.length, A.length, 0⟩) (hr.ext e4) n4 (by rw [List.length_take]; omega) (by have := eW.size; have := e4.size; omega) λ r' w5 o5 l5 u5 => ?_
  rw [← grow rfl hln, List.take_of_length_le (by omega)] at o5
  rw [List.length_take] at l5
  have x5 : Ext w w5 := (eW.trans e4).step u5 λ k hk => hr.Et hk
  have hN : lnN A = if A.length = 0 \/ f < A.length then brs A + 1 else brs A := by
   unfold lnN ended
   rw [hsk]
   by_cases h0 : A.length = 0 \/ f < A.length
   ·rw [if_pos h0]
    have : (decide (0 < A.length) && (some f == some A.length)) = false := by
     rw [Bool.eq_false_iff]; intro h; simp at h; omega
    rw [this]; simp
   ·rw [if_neg h0]
    have : (decide (0 < A.length) && (some f == some A.length)) = true := by simp; omega
    rw [this]; simp
  refine Ae (λ x W' => x = (((lnN A : Nat) : Int), ()) /\ w5 = W') ?_ ?_
  ·refine Ae (λ x W' => x = (decide (A.length = 0 \/ f < A.length), ()) /\ w5 = W') (Ac (λ h0 => ⟨Au ?_, rfl⟩) (λ h0 => ⟨Au ?_, rfl⟩)) ?_
   ·simp only [beq_iff_eq, decide_eq_true_eq, true_iff] at *; omega
   ·simp only [beq_eq_false_iff_ne, ne_eq, decide_eq_true_eq] at *; omega
   rintro _ _ ⟨rfl, rfl⟩
   refine Ac (λ h0 => ⟨?_, rfl⟩) (λ h0 => ⟨?_, rfl⟩)
   ·simp only [decide_eq_true_eq] at h0
    rw [hN, if_pos h0, l5]; congr 1; omega
   ·simp only [decide_eq_false_iff_not] at h0
    rw [hN, if_neg h0, ← hrl]; congr 1; omega
  rintro _ _ ⟨rfl, rfl⟩
  exact hK r' w5 o5 x5
end
end Go.Proofs.YtolhlldgnfbemaaGreatDoor
namespace Go.Proofs.YtolhlldgnfbemaaGreatDoor
open Go Go.Vx Cdc Trx Gly Clu Lns Obx Mot
abbrev spT (c : Cel) : Cells.T c76 := ((c.from_ : Int), (c.to_ : Int), c.atom, c.alone, (c.kind : Int), ())
abbrev pgO (sa sl : Sl) (n : Int) (ss : Sl) : Obj := .cells #[.slice sa.a sa.len sa.cap, .slice sl.a sl.len sl.cap, .int .i64 n, .slice ss.a ss.len ss.cap] 63 (0, 0)
abbrev r6O (l : Ln) : Obj := .cells #[.int .i64 (l.from_ : Int), .int .i64 (l.to_ : Int), .int .i64 (l.next : Int), .int .i64 (l.kind : Int)] 71 (0, 0)
abbrev Nq (w : World) (s : Sl) (A : List Int) : Prop := Bh w s 71 4 (flat c71 ((lnF A).map lnR))
abbrev Lj (w : World) (s : Sl) (A : List Int) (i : Nat) : Prop := Bh w s 76 5 (flat c76 ((Ag A i).map spT))
structure Ip (w : World) (q : Nat) (A : List Int) : Prop where
 ex : ∃ (sa sl ss : Sl) (t0 : TypeId) (xs : List Sl), w.heap[q]? = some (pgO sa sl (lnN A : Int) ss) /\ Bh w sa t0 1 (iv A) /\ Nq w sl A /\ Bh w ss 73 1 (xs.map Cell.sl.val) /\ xs.length = brs A + 1 /\ ∀ (i : Nat) x, xs[i]? = some x -> Lj w x A i
 len : A.length <= 1048576
theorem Bx8 : Hr Tryz.prog 73 76 5 40 := Hr.of (z := .agg #[.int .i64 0, .int .i64 0, .int .i64 0, .bool false, .int .i64 0]) C73 C76 rfl rfl rfl (by decide)
theorem Bh4 : Hr Tryz.prog 61 73 1 24 := Hr.of (z := .slice none 0 0) C61 C73 rfl rfl rfl (by decide)
section
variable {w w' : World} {q : Nat} {A : List Int} {i : Nat}
theorem Ip.ext (h : Ip w q A) (e : Ext w w') : Ip w' q A := by
 obtain ⟨sa, sl, ss, t0, xs, h1, h2, h3, h4, h5, h6⟩ := h.ex
 exact ⟨⟨sa, sl, ss, t0, xs, e.ext_get h1, h2.ext e, h3.ext e, h4.ext e, h5, λ i x hx => (h6 i x hx).ext e⟩, h.len⟩
theorem Ip.Ab1 (h : Ip w q A) {K : Addr -> Int -> Wp} (hK : K (at0 q) (lnN A : Int) w) : nn (some (at0 q)) (λ p => ld (.int .i64) (p.add 2) (K p)) w := by
 obtain ⟨sa, sl, ss, t0, xs, h1, h2, h3, h4, h5, h6⟩ := h.ex
 exact Aj (Ci (off := 2) (x := (lnN A : Int)) h1 rfl hK)
theorem Ip.Qe (h : Ip w q A) {K : Addr -> Sl -> Wp} (hK : ∀ s t, Bh w s t 1 (iv A) -> K (at0 q) s w) : nn (some (at0 q)) (λ p => ld .sl p (K p)) w := by
 obtain ⟨sa, sl, ss, t0, xs, h1, h2, h3, h4, h5, h6⟩ := h.ex
 exact Aj (Ci (off := 0) (x := sa) h1 rfl (hK sa t0 h2))
theorem Ip.Zx (h : Ip w q A) {K : Addr -> Sl -> Wp} (hK : ∀ s, Nq w s A -> (∀ w', Ext w w' -> w'.cell? ((at0 q).add 1) = some (Cell.val .sl s)) -> K (at0 q) s w) : nn (some (at0 q)) (λ p => ld .sl (p.add 1) (K p)) w := by
 obtain ⟨sa, sl, ss, t0, xs, h1, h2, h3, h4, h5, h6⟩ := h.ex
 exact Aj (Ci (off := 1) (x := sl) h1 rfl (hK sl h3 λ w' e => cell_of (off := 1) (e.ext_get h1) rfl))
theorem Q9 (hi : i <= brs A) : ((lnF A).map lnR)[((i : Int)).toNat]? = some (lnR (Ba A i)) := by
 rw [Int.toNat_natCast, List.getElem?_map, Bv7 (Ve hi)]; rfl
theorem Zw {s : Sl} (hs : Nq w s A) : s.len = brs A + 1 := by
 have := Bh.Jt (cs := c71) hs (by decide)
 rw [List.length_map, Bg5] at this
 exact this.symm
theorem Cr4 {c : Cell} {cs : List Cell} {s : Sl} {t : TypeId} {xs : List (Cells.T cs)} {n : Int} {K : Addr -> c.T -> Wp} (h : Bh w s t cs.length (flat cs xs)) (h0 : 0 <= n) {x : Cells.T cs} {y : c.T} (hx : xs[n.toNat]? = some x) (hy : (Cells.vals cs x)[0]? = some (c.val y))
  (hK : ∀ p, (∀ w', Ext w w' -> w'.cell? (p.add (scaled (Int.toNat n) cs.length)) = some (c.val y)) -> K p y w) :
  ix s.a s.len n (λ p => ld c (p.add (scaled (Int.toNat n) cs.length)) (K p)) w := by
 have hlt := (List.getElem?_eq_some_iff.1 hx).1
 have hjl : 0 < cs.length := by
  have := (List.getElem?_eq_some_iff.1 hy).1
  rwa [Eu] at this
 have hl := h.Jt (by omega)
 refine h.ix h0 (by omega) (by omega) λ b off ha hv => ?_
 have hc : w.cell? ((⟨b, off, none⟩ : Addr).add (scaled (Int.toNat n) cs.length)) = some (c.val y) := by
  rw [addr_add]
  have := hv 0 (c.val y) (by rw [flat_get cs xs _ 0 x hx hjl]; exact hy)
  simpa [Eb] using this
 exact Ym (x := y) hc (hK _ λ w' x' => Us hc x')
theorem Ba4 {s : Sl} (hs : Nq w s A) (hi : i <= brs A) {K : Addr -> Int -> Wp} (hK : ∀ p, (∀ w', Ext w w' -> w'.cell? (p.add (scaled (Int.toNat (i : Int)) 4)) = some (Cell.val (.int .i64) ((Ba A i).from_ : Int))) -> K p ((Ba A i).from_ : Int) w) : ix s.a s.len (i : Int) (λ p => ld (.int .i64) (p.add (scaled (Int.toNat (i : Int)) 4)) (K p)) w :=
 Cr4 (c := .int .i64) (cs := c71) hs (Int.natCast_nonneg i) (Q9 hi) rfl hK
theorem As2 {s : Sl} (hs : Nq w s A) (hi : i <= brs A) {K : Addr -> Int -> Wp} (hK : ∀ p, K p ((Ba A i).to_ : Int) w) : ix s.a s.len (i : Int) (λ p => ld (.int .i64) ((p.add (scaled (Int.toNat (i : Int)) 4)).add 1) (K p)) w :=
 Am1 (c := .int .i64) (cs := c71) (j := 1) hs (Int.natCast_nonneg i) (Q9 hi) rfl hK
theorem Ba3 {s : Sl} (hs : Nq w s A) (hi : i <= brs A) {K : Addr -> Int -> Wp} (hK : ∀ p, K p ((Ba A i).next : Int) w) : ix s.a s.len (i : Int) (λ p => ld (.int .i64) ((p.add (scaled (Int.toNat (i : Int)) 4)).add 2) (K p)) w :=
 Am1 (c := .int .i64) (cs := c71) (j := 2) hs (Int.natCast_nonneg i) (Q9 hi) rfl hK
theorem Ip.Ah0 (h : Ip w q A) (hi : i <= brs A) {K : Addr -> Sl -> Addr -> Int -> Wp} (hK : ∀ s p, K (at0 q) s p ((Ba A i).from_ : Int) w) :
  nn (some (at0 q)) (λ r => ld .sl (r.add 1) λ s => ix s.a s.len (i : Int) λ p => ld (.int .i64) (p.add (scaled (Int.toNat (i : Int)) 4)) (K r s p)) w :=
 h.Zx λ s hs _ => Ba4 hs hi λ p _ => hK s p
theorem Ip.toK (h : Ip w q A) (hi : i <= brs A) {K : Addr -> Sl -> Addr -> Int -> Wp} (hK : ∀ s p, K (at0 q) s p ((Ba A i).to_ : Int) w) :
  nn (some (at0 q)) (λ r => ld .sl (r.add 1) λ s => ix s.a s.len (i : Int) λ p => ld (.int .i64) ((p.add (scaled (Int.toNat (i : Int)) 4)).add 1) (K r s p)) w :=
 h.Zx λ s hs _ => As2 hs hi λ p => hK s p
theorem Ip.nextK (h : Ip w q A) (hi : i <= brs A) {K : Addr -> Sl -> Addr -> Int -> Wp} (hK : ∀ s p, K (at0 q) s p ((Ba A i).next : Int) w) :
  nn (some (at0 q)) (λ r => ld .sl (r.add 1) λ s => ix s.a s.len (i : Int) λ p => ld (.int .i64) ((p.add (scaled (Int.toNat (i : Int)) 4)).add 2) (K r s p)) w :=
 h.Zx λ s hs _ => Ba3 hs hi λ p => hK s p
theorem Ip.Cj2 (h : Ip w q A) (hi : i <= brs A) {K : Addr -> Sl -> Addr -> Sl -> Wp} (hK : ∀ s p y, Lj w y A i -> y.len = (Ag A i).length -> K (at0 q) s p y w) :
  nn (some (at0 q)) (λ r => ld .sl (r.add 3) λ s => ix s.a s.len (i : Int) λ p => ld .sl (p.add (scaled (Int.toNat (i : Int)) 1)) (K r s p)) w := by
 obtain ⟨sa, sl, ss, t0, xs, h1, h2, h3, h4, h5, h6⟩ := h.ex
 obtain ⟨y, hy⟩ : ∃ y, xs[i]? = some y := ⟨_, List.getElem?_eq_getElem (by omega)⟩
 have hy2 := h6 i y hy
 have hl := Bh.Jt (cs := c76) hy2 (by decide)
 rw [List.length_map] at hl
 exact Aj (Ci (off := 3) (x := ss) h1 rfl (Fh (c := .sl) (xs := xs) h4 (Int.natCast_nonneg i) (by rw [Int.toNat_natCast]; exact hy) λ p => hK ss p y hy2 hl.symm))
theorem Ip.Cp2 {W : World} (h : Ip w q A) (e : Ext w W) (hi : i <= brs A) {K : Addr -> Sl -> Addr -> Sl -> Wp} (hK : ∀ s p y, Lj w y A i -> y.len = (Ag A i).length -> K (at0 q) s p y W) :
  nn (some (at0 q)) (λ r => ld .sl (r.add 3) λ s => ix s.a s.len (i : Int) λ p => ld .sl (p.add (scaled (Int.toNat (i : Int)) 1)) (K r s p)) W := by
 obtain ⟨sa, sl, ss, t0, xs, h1, h2, h3, h4, h5, h6⟩ := h.ex
 obtain ⟨y, hy⟩ : ∃ y, xs[i]? = some y := ⟨_, List.getElem?_eq_getElem (by omega)⟩
 have hy2 := h6 i y hy
 have hl := Bh.Jt (cs := c76) hy2 (by decide)
 rw [List.length_map] at hl
 exact Aj (Ci (off := 3) (x := ss) (e.ext_get h1) rfl (Fh (c := .sl) (xs := xs) (h4.ext e) (Int.natCast_nonneg i) (by rw [Int.toNat_natCast]; exact hy) λ p => hK ss p y hy2 hl.symm))
theorem Ip.Cp3 (h : Ip w q A) {K : Addr -> Sl -> Wp} (hK : ∀ s, (∀ w', Ext w w' -> w'.cell? ((at0 q).add 3) = some (Cell.val .sl s)) -> (∀ (j : Nat) (w' : World) (K' : Addr -> Sl -> Wp), j <= brs A -> Ext w w' -> (∀ p y, Lj w' y A j -> y.len = (Ag A j).length -> K' p y w') -> ix s.a s.len (j : Int) (λ p => ld .sl (p.add (scaled (Int.toNat (j : Int)) 1)) (K' p)) w') -> K (at0 q) s w) :
  nn (some (at0 q)) (λ r => ld .sl (r.add 3) (K r)) w := by
 obtain ⟨sa, sl, ss, t0, xs, h1, h2, h3, h4, h5, h6⟩ := h.ex
 refine Aj (Ci (off := 3) (x := ss) h1 rfl (hK ss (λ w' e => cell_of (off := 3) (e.ext_get h1) rfl) λ j w' K' hj e hK' => ?_))
 obtain ⟨y, hy⟩ : ∃ y, xs[j]? = some y := ⟨_, List.getElem?_eq_getElem (by omega)⟩
 have hy2 := (h6 j y hy).ext e
 have hl := Bh.Jt (cs := c76) hy2 (by decide)
 rw [List.length_map] at hl
 exact Fh (c := .sl) (xs := xs) (h4.ext e) (Int.natCast_nonneg j) (by rw [Int.toNat_natCast]; exact hy) λ p => hK' p y hy2 hl.symm
theorem Aj5 {j : Nat} {c : Cel} (hc : (Ag A i)[j]? = some c) : ((Ag A i).map spT)[((j : Int)).toNat]? = some (spT c) := by rw [Int.toNat_natCast, List.getElem?_map, hc]; rfl
theorem Nr {y : Sl} (hy : Lj w y A i) {j : Nat} {c : Cel} (hc : (Ag A i)[j]? = some c) {K : Addr -> Int -> Wp} (hK : ∀ p, K p (c.from_ : Int) w) : ix y.a y.len (j : Int) (λ p => ld (.int .i64) (p.add (scaled (Int.toNat (j : Int)) 5)) (K p)) w :=
 Cf4 (c := .int .i64) (cs := c76) hy (Int.natCast_nonneg j) (Aj5 hc) rfl hK
theorem Cd0 {y : Sl} (hy : Lj w y A i) {j : Nat} {c : Cel} (hc : (Ag A i)[j]? = some c) {K : Addr -> Int -> Wp} (hK : ∀ p, K p (c.to_ : Int) w) : ix y.a y.len (j : Int) (λ p => ld (.int .i64) ((p.add (scaled (Int.toNat (j : Int)) 5)).add 1) (K p)) w :=
 Am1 (c := .int .i64) (cs := c76) (j := 1) hy (Int.natCast_nonneg j) (Aj5 hc) rfl hK
theorem Bj6 {y : Sl} (hy : Lj w y A i) {j : Nat} {c : Cel} (hc : (Ag A i)[j]? = some c) {K : Addr -> Int -> Wp} (hK : ∀ p, K p (c.kind : Int) w) : ix y.a y.len (j : Int) (λ p => ld (.int .i64) ((p.add (scaled (Int.toNat (j : Int)) 5)).add 4) (K p)) w :=
 Am1 (c := .int .i64) (cs := c76) (j := 4) hy (Int.natCast_nonneg j) (Aj5 hc) rfl hK
theorem Cl2 (c : Cel) : ∀ v ∈ flat c76 [spT c], Ew v = true := by
 intro v hv
 rw [Yq] at hv
 have h : v ∈ [_, _, _, _, _] := hv
 simp only [List.mem_cons, List.not_mem_nil, or_false] at h
 rcases h with rfl | rfl | rfl | rfl | rfl <;> rfl
theorem Cp9 {r : Sl} {L : List Cel} {c : Cel} {b N : Nat} {K : Sl -> Wp} (hr : Ap w N r 76 5 (flat c76 (L.map spT))) (hb : w.heap[b]? = some (.cells #[.int .i64 (c.from_ : Int), .int .i64 (c.to_ : Int), .int .i64 c.atom, .bool c.alone, .int .i64 (c.kind : Int)] 76 (0, 0))) (hl : L.length < 2 ^ 40) (hN : N <= w.heap.size)
  (hK : ∀ r' w', Ap w' N r' 76 5 (flat c76 ((L ++ [c]).map spT)) -> r'.len = L.length + 1 -> Upd r.blk w w' -> K r' w') :
  Dt Tryz.prog (.one (.one .sl)) (Builtin.append_ #[73, 73] 73 #[.slice r.a r.len r.cap, .slice (some (at0 b)) 1 1]) K w := by
 have hrl := Ap.Jt (cs := c76) hr (by decide)
 rw [List.length_map] at hrl
 have hbox : SlX w ⟨some (at0 b), 1, 1⟩ 5 (flat c76 [spT c]) := (Bh.Iq hb (n := 1) (sz := 5) rfl).x
 refine Ec Bx8 Bx8.ts_ (x := ⟨some (at0 b), 1, 1⟩) hr hbox (Cl2 c) (by
  show (r.len + 1 + (r.len + 1) / 4 + 512) * 40 <= 2 ^ 48
  omega) hN λ r' w' o l' u k => hK r' w' ?_ (by rw [l', hrl]) u
 rw [List.map_append, Jo]; exact o
set_option maxHeartbeats 2000000 in
theorem Bv9 {s : Sl} {t : TypeId} (hs : Bh w s t 1 (iv A)) (hl : A.length <= 1048576) {K : Option Addr -> Wp} (hK : ∀ q w', Ip w' q A -> w.heap.size <= q -> Ext w w' -> K (some (at0 q)) w') :
  Aa Tryz.prog 17 #[s.v] rP K w := by
 refine A17 ?_
 unfold F17
 have hlen : A.length = s.len := by have := hs.len1; rwa [List.length_map] at this
 have hcap := hs.le
 have hbl := Me A
 refine (St.start w).Af λ b1 w1 S1 e1 => Bk7 (hs.ext e1) (by omega) λ sl w2 o2 e2 => ?_
 have S2 := S1.ext e2
 have S2 : St (λ _ => False) w w2 [(b1, pgO s ⟨none, 0, 0⟩ 0 ⟨none, 0, 0⟩)] := S2
 refine Aj (S2.stC (off := 1) 0 rfl (by show 1 < 4; decide) λ w3 S3 u3 => Aj (S3.stC (off := 2) 0 rfl (by show 2 < 4; decide) λ w4 S4 u4 => ?_))
 have S4 : St (λ _ => False) w w4 [(b1, pgO s sl (lnN A : Int) ⟨none, 0, 0⟩)] := S4
 have o4 : Nq w4 sl A := (o2.in.box (S2.at_ 0 rfl) (by decide) u3).box (S3.at_ 0 rfl) (by decide) u4
 have hll := Zw o4
 refine Ae (λ _ V => ∃ (so : Sl) (xs : List Sl), St (λ _ => False) w V [(b1, pgO s sl (lnN A : Int) so)] /\ Nq V sl A /\ Bh V so 73 1 (xs.map Cell.sl.val) /\ xs.length = brs A + 1 /\ ∀ (i : Nat) x, xs[i]? = some x -> Lj V x A i) ?_ ?_
 ·refine Aw (λ x V => ∃ (i : Nat) (so : Sl) (xs : List Sl), x = ((i : Int), ()) /\ i <= brs A + 1 /\ xs.length = i /\ St (λ _ => False) w V [(b1, pgO s sl (lnN A : Int) so)] /\ Nq V sl A /\ Ap V w4.heap.size so 73 1 (xs.map Cell.sl.val) /\ w4.heap.size <= V.heap.size /\ ∀ (j : Nat) x, xs[j]? = some x -> Lj V x A j) (λ x _ => ((brs A : Int) + 1 - x.1).toNat) ⟨0, ⟨none, 0, 0⟩, [], rfl, Nat.zero_le _, rfl, S4, o4, Ap.nil _ _ _ _, Nat.le_refl _, λ j x hx => by simp at hx⟩ ?_
  rintro _ V ⟨i, so, xs, rfl, hi, hxs, SV, oV, ho, hsz, hsp⟩
  dsimp only
  refine Aj (SV.ld (off := 1) 0 rfl (x := sl) rfl (Ac (λ hc => ?_) (λ hc => ?_)))
  ·simp only [decide_eq_true_eq] at hc
   have hib : i <= brs A := by omega
   have ok := Dq hib
   have ft := ok.ft; have tn := ok.tn; have nl := ok.nl
   have hrl := Ub hib
   have hcl := Nz hib
   refine Aj (SV.ld (off := 1) 0 rfl (x := sl) rfl (Am0 (cs := c71) (xs := (lnF A).map lnR) oV (by decide) (Int.natCast_nonneg i) (Q9 hib) λ p13 => ?_))
   refine SV.Mc rfl rfl rfl λ b15 w5 S5 e5 => ?_
   have S5 : St (λ _ => False) w w5 [(b15, r6O (Ba A i)), (b1, pgO s sl (lnN A : Int) so)] := S5
   refine S5.ld (off := 0) 0 rfl (x := ((Ba A i).from_ : Int)) rfl (S5.ld (off := 1) 0 rfl (x := ((Ba A i).to_ : Int)) rfl ?_)
   refine Aq0 (hs.ext S5.upd) (by omega) (by omega) (by omega) (by omega) (by omega) λ y hy _ _ _ => ?_
   have hy : Bh w5 y t 1 (iv (rowB A i)) := by
    rw [Nat.mul_one, Nat.mul_one, Int.toNat_natCast, Int.toNat_natCast, ← List.map_drop, ← List.map_take] at hy
    exact hy
   refine Ak8 hy (by omega) λ sb w6 ob e6 => ?_
   have S6 := S5.ext e6
   have nvi : nv (cuts (rowB A i)) = ((cuts (rowB A i)).map λ (n : Nat) => (n : Int)).map (Cell.int .i64).val := by rw [List.map_map]; rfl
   rw [nvi] at ob
   have hbl2 := ob.len1
   rw [List.length_map, List.length_map] at hbl2
   have hcuts := Af2 A i
   have hcnt : (Ag A i).length = (cuts (rowB A i)).length - 1 := by omega
   have hcp := Aa9 (rowB A i)
   refine Ae (λ x W => Ext w6 W /\ Ap W w6.heap.size x.1 76 5 (flat c76 ((Ag A i).map spT))) ?_ ?_
   ·refine Aw (λ x W => ∃ j : Nat, x.2 = ((j : Int), ()) /\ j <= (Ag A i).length /\ Ext w6 W /\ Ap W w6.heap.size x.1 76 5 (flat c76 (((Ag A i).take j).map spT))) (λ x _ => (((Ag A i).length : Int) - x.2.1).toNat) ⟨0, rfl, Nat.zero_le _, Ext.refl _, Ap.nil _ _ _ _⟩ ?_
    rintro ⟨r, _⟩ W ⟨j, rfl, hj, eW, hr⟩
    dsimp only at hr ⊢
    have ew1 : W64 ((j : Int) + 1) = ((j + 1 : Nat) : Int) := by rw [wrap64 (by omega) (by omega)]; omega
    rw [ew1]
    refine Ac (λ hc2 => ?_) (λ hc2 => ?_)
    ·simp only [decide_eq_true_eq] at hc2
     obtain ⟨c, hcc⟩ : ∃ c, (Ag A i)[j]? = some c := ⟨_, List.getElem?_eq_getElem (by omega)⟩
     have hcc' : (Si (rowB A i) (Ba A i).from_)[j]? = some c := hcc
     obtain ⟨ci, cj, g1, g2, g3, g4, g5, g6, _, _, g7, g8, g9⟩ := (Ph hcc').ex
     have m1 : ((cuts (rowB A i)).map λ (n : Nat) => (n : Int))[((j : Int)).toNat]? = some (ci : Int) := by rw [Int.toNat_natCast, List.getElem?_map, g1]; rfl
     have m2 : ((cuts (rowB A i)).map λ (n : Nat) => (n : Int))[(((j + 1 : Nat) : Int)).toNat]? = some (cj : Int) := by rw [Int.toNat_natCast, List.getElem?_map, g2]; rfl
     have SW := S6.ext eW
     refine Fh (c := .int .i64) (xs := (cuts (rowB A i)).map λ (n : Nat) => (n : Int)) (ob.ext eW).in (Int.natCast_nonneg j) m1 λ p24 => rdA ((hy.ext e6).ext eW) g7 λ p26 => SW.drew λ w7 S7 e7 _ => S7.ld (off := 0) 0 rfl (x := ((Ba A i).from_ : Int)) rfl ?_
     have ob7 := (ob.ext (eW.trans e7)).in
     refine Am3 (c := .int .i64) (xs := (cuts (rowB A i)).map λ (n : Nat) => (n : Int)) ob7 (Int.natCast_nonneg j) m1 λ p29 k29 => S7.ld (off := 0) 0 rfl (x := ((Ba A i).from_ : Int)) rfl ?_
     refine Am3 (c := .int .i64) (xs := (cuts (rowB A i)).map λ (n : Nat) => (n : Int)) ob7 (Int.natCast_nonneg _) m2 λ p32 k32 => ?_
     refine Am3 (c := .int .i64) (xs := (cuts (rowB A i)).map λ (n : Nat) => (n : Int)) ob7 (Int.natCast_nonneg _) m2 λ p34 k34 => ?_
     refine Am3 (c := .int .i64) (xs := (cuts (rowB A i)).map λ (n : Nat) => (n : Int)) ob7 (Int.natCast_nonneg j) m1 λ p36 k36 => ?_
     refine Ay3 ?_
     refine Aq (k36 w7 (Ext.refl _)) (Aq (k34 w7 (Ext.refl _)) (Aq (k32 w7 (Ext.refl _)) (S7.keep (off := 0) 0 rfl (v := .int .i64 ((Ba A i).from_ : Int)) rfl (Aq (k29 w7 (Ext.refl _)) (S7.keep (off := 0) 0 rfl (v := .int .i64 ((Ba A i).from_ : Int)) rfl ?_)))))
     have q1 : W64 (((Ba A i).from_ : Int) + (ci : Int)) = (c.from_ : Int) := by rw [wrap64 (by omega) (by omega)]; omega
     have q2 : W64 (((Ba A i).from_ : Int) + (cj : Int)) = (c.to_ : Int) := by rw [wrap64 (by omega) (by omega)]; omega
     have q3 : (W64 ((cj : Int) - (ci : Int)) == (1 : Int)) = c.alone := by
      rw [wrap64 (by omega) (by omega), Bool.eq_iff_iff, beq_iff_eq, g9]; omega
     rw [q1, q2, q3, ← g8]
     refine Cc λ b39 w8 e8 n8 hb8 _ => Cp9 (c := c) (hr.ext (e7.trans e8)) n8 (by rw [List.length_take]; omega) (by have := eW.size; have := e7.size; have := e8.size; omega) λ r' w9 o9 _ u9 => ?_
     refine ⟨⟨j + 1, rfl, by omega, ((eW.trans e7).trans e8).step u9 λ k hk => hr.Et hk, ?_⟩, by omega⟩
     rw [List.take_add_one, hcc]; exact o9
    ·simp only [decide_eq_false_iff_not] at hc2
     obtain rfl : j = (Ag A i).length := by omega
     rw [List.take_length] at hr
     exact ⟨eW, hr⟩
   rintro ⟨sp, _⟩ W ⟨eW, hr⟩
   have eVW : Ext V W := (e5.trans e6).trans eW
   have SW := (S6.ext eW).tail
   have hoW := ho.ext eVW
   refine Aj (SW.ld (off := 3) 0 rfl (x := so) rfl (SW.Y5 λ b43 w7 S7 e7 hb43 => ?_))
   have hsol := hoW.len1
   rw [List.length_map] at hsol
   have ho7 := hoW.ext e7
   have hsz7 : w4.heap.size <= w7.heap.size := by have := eVW.size; have := e7.size; omega
   have hbox : SlX w7 ⟨some (at0 b43), 1, 1⟩ 1 ([sp].map Cell.sl.val) := (Bh.Iq (S7.at_ 0 rfl) (n := 1) (sz := 1) rfl).x
   have hb1 : b1 < w4.heap.size := lt_of_heap (S4.at_ 0 rfl)
   have hw4 : w.heap.size <= w4.heap.size := S4.upd.size
   refine Ec Bh4 Bh4.ts_ (x := ⟨some (at0 b43), 1, 1⟩) ho7 hbox (λ v hv => by rw [List.mem_singleton.1 hv]; rfl) (by
    show (so.len + 1 + (so.len + 1) / 4 + 512) * 24 <= 2 ^ 48
    omega) hsz7 λ so' w8 o8 l8 u8 _ => ?_
   have nty1 : Ez w7 so.blk 71 := λ k hk c fr hn => by
    obtain ⟨c', fr', hc'⟩ := ho7.in.Eo hk
    rw [hn] at hc'; cases hc'
   have nty2 : Ez w7 so.blk 76 := λ k hk c fr hn => by
    obtain ⟨c', fr', hc'⟩ := ho7.in.Eo hk
    rw [hn] at hc'; cases hc'
   have S8 : St (λ _ => False) w w8 [(b1, pgO s sl (lnN A : Int) so)] := S7.tail.fresh u8 (λ k hk => .inr (by have := ho7.Et hk; omega)) (λ z hz hk => by
    rw [List.mem_singleton.1 hz] at hk
    have := ho7.Et hk
    dsimp only at this
    omega)
   refine Aj (S8.stC (off := 3) 0 rfl (by show 3 < 4; decide) λ w9 S9 u9 => ?_)
   have ewi : W64 ((i : Int) + 1) = ((i + 1 : Nat) : Int) := by rw [wrap64 (by omega) (by omega)]; omega
   rw [ewi]
   refine ⟨⟨i + 1, so', xs ++ [sp], rfl, by omega, by simp [hxs], S9, ?_, ?_, ?_, ?_⟩, by omega⟩
   ·exact ((oV.ext (eVW.trans e7)).ty u8 nty1).box (S8.at_ 0 rfl) (by decide) u9
   ·rw [List.map_append]; exact o8.box (S8.at_ 0 rfl) (by decide) u9
   ·have := u8.size; have := u9.size; omega
   ·intro j x hx
    refine Bh.box ?_ (S8.at_ 0 rfl) (by decide) u9
    by_cases hj : j < xs.length
    ·rw [List.getElem?_append_left hj] at hx
     exact ((hsp j x hx).ext (eVW.trans e7)).ty u8 nty2
    ·have hje : j = xs.length := by
      have := (List.getElem?_eq_some_iff.1 hx).1
      simp at this; omega
     subst hje
     rw [List.getElem?_concat_length] at hx
     cases hx
     rw [hxs]
     exact (hr.in.ext e7).ty u8 nty2
  ·simp only [decide_eq_false_iff_not] at hc
   exact ⟨so, xs, SV, oV, ho.in, by omega, hsp⟩
 rintro _ V ⟨so, xs, SV, oV, ho, hxs, hsp⟩
 exact hK b1 V ⟨⟨s, sl, so, t, xs, SV.at_ 0 rfl, hs.ext SV.upd, oV, ho, hxs, hsp⟩, hl⟩ (SV.ge 0 rfl) SV.upd
end
section
variable {w w' : World} {q : Nat} {A : List Int} {i : Nat}
theorem Ao8 {n : Nat} (h : n <= 2 ^ 40) : W64 ((n : Int) + 1) = ((n + 1 : Nat) : Int) := by rw [wrap64 (by omega) (by omega)]; omega
theorem Yc (h : Ip w q A) {x : Int} {K : Int -> Wp} (hK : K (inT A x : Int) w) : Aa Tryz.prog 82 #[.pointer (some (at0 q)), .int .i64 x] rI K w := by
 refine A82 ?_
 unfold F82
 have e : (inT A x : Int) = min (max x 0) (A.length : Int) := by unfold inT; omega
 rw [e] at hK
 refine Ac (λ hc => ?_) (λ hc => h.Qe λ s t hs => ?_)
 ·simp only [decide_eq_true_eq] at hc
  rw [show min (max x 0) (A.length : Int) = 0 by omega] at hK; exact hK
 ·simp only [decide_eq_false_iff_not] at hc
  have hl := hs.len1
  rw [List.length_map] at hl
  refine Ac (λ hc2 => h.Qe λ s2 t2 hs2 => ?_) (λ hc2 => ?_)
  ·simp only [decide_eq_true_eq, gt_iff_lt] at hc2
   have hl2 := hs2.len1
   rw [List.length_map] at hl2
   rw [show min (max x 0) (A.length : Int) = (A.length : Int) by omega] at hK
   rw [← hl2]; exact hK
  ·simp only [decide_eq_false_iff_not, gt_iff_lt] at hc2
   rw [show min (max x 0) (A.length : Int) = x by omega] at hK; exact hK
theorem X9 (h : Ip w q A) {n : Nat} (hn : n <= A.length) {K : Int -> Wp} (hK : K (nb A n : Int) w) : Aa Tryz.prog 83 #[.pointer (some (at0 q)), .int .i64 (n : Int)] rI K w := by
 refine A83 ?_
 unfold F83
 have hA := h.len; have hbl := Me A
 have hnb := Vj A n
 obtain ⟨r1, r2⟩ := row_of (A := A) hn
 refine Ae (λ _ W => w = W /\ nb A n = brs A) ?_ ?_
 ·refine Aw (λ x W => ∃ i : Nat, x = ((i : Int), ()) /\ w = W /\ i <= brs A + 1 /\ (i <= nb A n \/ nb A n = brs A)) (λ x _ => ((brs A + 1 : Nat) - x.1).toNat) ⟨0, rfl, rfl, by omega, .inl (Nat.zero_le _)⟩ ?_
  rintro _ _ ⟨i, rfl, rfl, hi, hin⟩
  dsimp only
  refine h.Zx λ s hs _ => ?_
  have hl := Zw hs
  refine Ac (λ hc => ?_) (λ hc => ?_)
  ·simp only [decide_eq_true_eq] at hc
   have hib : i <= brs A := by omega
   have ok := Dq hib
   have ft := ok.ft; have tn := ok.tn
   rw [Ao8 (by omega)]
   refine h.nextK hib λ s p => ?_
   refine Ac (λ hlt => ?_) (λ hlt => ?_)
   ·simp only [decide_eq_true_eq] at hlt
    have : nb A n = i := by
     by_cases hq : (Ba A i).from_ <= n
     ·exact ok.nbf n hq (by omega)
     ·exfalso
      rcases Nat.lt_trichotomy i (nb A n) with u | u | u
      ·have := Xw (A := A) u hnb; omega
      ·rw [u] at hq; exact hq r1
      ·rcases hin with v | v <;> omega
    rw [this] at hK; exact hK
   ·simp only [decide_eq_false_iff_not] at hlt
    refine ⟨⟨i + 1, rfl, rfl, by omega, ?_⟩, by omega⟩
    rcases hin with v | v
    ·rcases Nat.lt_or_ge i (nb A n) with u | u
     ·exact .inl u
     ·right
      have e : i = nb A n := by omega
      rw [e] at hlt
      rcases r2 with r2 | r2
      ·omega
      ·exact r2.1
    ·exact .inr v
  ·simp only [decide_eq_false_iff_not] at hc
   refine ⟨rfl, ?_⟩
   rcases hin with v | v <;> omega
 rintro _ _ ⟨rfl, hb⟩
 refine h.Zx λ s hs _ => ?_
 have hl := Zw hs
 rw [hl, show W64 (((brs A + 1 : Nat) : Int) - 1) = (nb A n : Int) by rw [wrap64 (by omega) (by omega)]; omega]
 exact hK
theorem Bt6 (h : Ip w q A) {n : Nat} (hn : n <= A.length) {K : Int -> Wp} (hK : K (Dk A (n : Int) false : Int) w) : Aa Tryz.prog 84 #[.pointer (some (at0 q)), .int .i64 (n : Int)] rI K w := by
 refine A84 ?_
 unfold F84
 have hb := Bq A; have hA := h.len; have hbl := Me A
 have e : Dk A (n : Int) false = min (nb A n) (lnN A - 1) := by unfold Dk ofI; rw [if_neg (by decide), Xj hn]
 rw [e] at hK
 refine X9 h hn (h.Ab1 (Ac (λ hc => h.Ab1 ?_) (λ hc => ?_)))
 ·simp only [decide_eq_true_eq, ge_iff_le] at hc
  rw [show W64 ((lnN A : Int) - 1) = ((min (nb A n) (lnN A - 1) : Nat) : Int) by rw [wrap64 (by omega) (by omega)]; omega]
  exact hK
 ·simp only [decide_eq_false_iff_not, ge_iff_le] at hc
  rw [show min (nb A n) (lnN A - 1) = nb A n by omega] at hK
  exact hK
theorem Y0 (h : Ip w q A) (hi : i <= brs A) {K : Int -> Wp} (hK : K (Bf A i (((Ag A i).length : Int) - 1) : Int) w) : Aa Tryz.prog 85 #[.pointer (some (at0 q)), .int .i64 (i : Int)] rI K w := by
 refine A85 ?_
 unfold F85
 have hA := h.len
 have hcl := Nz hi
 have ok := Dq hi
 have tn := ok.tn; have nl := ok.nl
 refine h.Cj2 hi λ s p y hy hyl => ?_
 refine Ac (λ hc => h.Ah0 hi λ s p => ?_) (λ hc => ?_)
 ·rw [beq_iff_eq] at hc
  rw [Jg (by omega), I9 hi] at hK
  exact hK
 ·rw [beq_eq_false_iff_ne] at hc
  have ew : W64 (((y.len : Nat) : Int) - 1) = (((Ag A i).length - 1 : Nat) : Int) := by rw [wrap64 (by omega) (by omega)]; omega
  rw [ew]
  obtain ⟨c, hcc⟩ := Ea (C := Ag A i) (j := (Ag A i).length - 1) (by omega)
  rw [show ((Ag A i).length : Int) - 1 = (((Ag A i).length - 1 : Nat) : Int) by omega, Fj (by omega), Ir hcc] at hK
  exact Nr hy hcc λ p => hK
theorem Aq8 (h : Ip w q A) {x : Int} {past : Bool} {K : Int -> Wp} (hK : K (Az A x past : Int) w) : Aa Tryz.prog 35 #[.pointer (some (at0 q)), .int .i64 x, .bool past] rI K w := by
 refine A35 ?_
 unfold F35
 have hA := h.len
 have hi := Vf A x past
 have hin := Bb0 A x
 have ok := Dq hi
 have ft := ok.ft; have tn := ok.tn; have nl := ok.nl
 have hcl := Nz hi
 refine Yc h (X9 h hin (Ae (λ y W => y = ((Dk A x past : Int), ()) /\ w = W) ?_ ?_))
 ·cases past with
  | true => exact Am ⟨rfl, rfl⟩
  | false =>
   refine Bj (Bt6 h hin ⟨?_, rfl⟩)
   have : Dk A (inT A x : Int) false = Dk A x false := by unfold Dk ofI; rw [Xj hin]
   rw [this]
 rintro _ _ ⟨rfl, rfl⟩
 unfold Az at hK
 obtain ⟨n, hn⟩ : ∃ n, inT A x = n := ⟨_, rfl⟩
 have hro := row_of (A := A) hin
 have hrow : past = true /\ Dk A x past = nb A n \/ past = false /\ Dk A x past = min (nb A n) (lnN A - 1) := by
  cases past with
  | true => left; refine ⟨rfl, ?_⟩; unfold Dk ofI; rw [if_pos rfl, hn]
  | false => right; refine ⟨rfl, ?_⟩; unfold Dk ofI; rw [if_neg (by decide), hn]
 rw [hn] at hro hin hK
 rw [hn]
 obtain ⟨i, hi'⟩ : ∃ i, Dk A x past = i := ⟨_, rfl⟩
 rw [hi'] at hi ok ft tn nl hcl hrow hK
 rw [hi']
 refine h.toK hi λ s p => Ac (λ hc => ?_) (λ hc => ?_)
 ·simp only [decide_eq_true_eq, ge_iff_le] at hc
  rw [if_pos (by omega)] at hK
  refine Ac (λ hp => h.toK hi λ s p => ?_) (λ hp => Y0 h hi ?_)
  ·rw [if_pos hp] at hK; exact hK
  ·rw [if_neg (by rw [hp]; decide)] at hK; exact hK
 ·simp only [decide_eq_false_iff_not, ge_iff_le] at hc
  rw [if_neg (by omega)] at hK
  have hf : (Ba A i).from_ <= n := by
   rcases hrow with ⟨_, hr⟩ | ⟨_, hr⟩
   ·rw [hr]; exact hro.1
   ·rcases Nat.lt_or_ge (lnN A - 1) (nb A n) with u | u
    ·exfalso
     have hb := Bq A
     have hnb := Vj A n
     have := Xw (A := A) (i := i) (j := nb A n) (by omega) hnb
     omega
    ·rw [show i = nb A n by omega]; exact hro.1
  obtain ⟨g1, g2⟩ := As9 hi hf (by omega)
  obtain ⟨m, hm⟩ : ∃ m, Dw (Ag A i) (n : Int) = m := ⟨_, rfl⟩
  obtain ⟨s1, s2⟩ := Pg (C := Ag A i) (at_ := (n : Int))
  rw [hm] at g1 g2 hK s1 s2
  rw [Fj g1] at hK g2
  obtain ⟨cm, hcm⟩ := Ea g1
  rw [Ir hcm] at hK g2
  have hto := s2 cm hcm
  have hch := Hy A i
  refine h.Ah0 hi λ s p => h.Cj2 hi λ s2 p2 y hy hyl => ?_
  refine Ae (λ x W => x = ((cm.from_ : Int), ()) /\ w = W) ?_ (by rintro _ _ ⟨rfl, rfl⟩; exact hK)
  refine Aw (λ x W => ∃ j : Nat, x = (((if j = 0 then (Ba A i).from_ else frm (Ag A i) (min (j - 1) m) : Nat) : Int), (j : Int), ()) /\ w = W /\ j <= (Ag A i).length) (λ x _ => (((Ag A i).length : Int) - x.2.1).toNat) ⟨0, rfl, rfl, Nat.zero_le _⟩ ?_
  rintro _ _ ⟨j, rfl, rfl, hj⟩
  dsimp only
  refine Ac (λ hc2 => ?_) (λ hc2 => ?_)
  ·simp only [decide_eq_true_eq] at hc2
   obtain ⟨c, hcc⟩ := Ea (C := Ag A i) (j := j) (by omega)
   refine Ae (λ x W => x = (((frm (Ag A i) (min j m) : Nat) : Int), ()) /\ w = W) ?_ ?_
   ·refine Nr hy hcc λ p => Ac (λ hle => Nr hy hcc λ p => ⟨?_, rfl⟩) (λ hle => ⟨?_, rfl⟩)
    ·simp only [decide_eq_true_eq] at hle
     have : j <= m := by
      rcases Nat.lt_or_ge m j with u | u
      ·have := hch.lt u hcm hcc; omega
      ·exact u
     rw [Nat.min_eq_left this, Ir hcc]
    ·simp only [decide_eq_false_iff_not] at hle
     have hmj : m < j := by
      rcases Nat.lt_or_ge m j with u | u
      ·exact u
      ·exfalso
       rcases Nat.lt_or_ge j m with v | v
       ·have := hch.lt v hcc hcm; have := hch.pos _ c hcc; omega
       ·have : j = m := by omega
        subst this
        rw [hcm] at hcc; cases hcc
        omega
     rw [if_neg (by omega), Nat.min_eq_right (by omega), Nat.min_eq_right (by omega)]
   rintro _ _ ⟨rfl, rfl⟩
   rw [Ao8 (by omega)]
   refine ⟨⟨j + 1, ?_, rfl, by omega⟩, by omega⟩
   rw [if_neg (by omega), Nat.add_sub_cancel]
  ·simp only [decide_eq_false_iff_not] at hc2
   refine ⟨?_, rfl⟩
   rw [if_neg (by omega), Nat.min_eq_right (by omega), Ir hcm]
theorem Bn9 (A : List Int) (x : Int) : Dw (Ag A (ofI A x)) x = Dw (Ag A (ofI A x)) (inT A x : Int) := by
 have hi := Zr A x
 have ok := Dq hi
 have tn := ok.tn; have nl := ok.nl
 obtain ⟨s1, s2⟩ := Pg (C := Ag A (ofI A x)) (at_ := x)
 refine (D8 (D7 _ _) (λ j c hj hc => ?_) λ c hc => ?_).symm
 ·have := s1 j c hj hc
  have := Xy hi hc
  unfold inT; omega
 ·have := s2 c hc
  have := Xy hi hc
  unfold inT; omega
theorem Bl3 (h : Ip w q A) {x : Int} {K : Int -> Wp} (hK : ∀ w', Ext w w' -> K (U3 A x : Int) w') : Aa Tryz.prog 39 #[.pointer (some (at0 q)), .int .i64 x] rI K w := by
 refine A39 ?_
 unfold F39
 have hA := h.len
 have hi := Zr A x
 have hin := Bb0 A x
 unfold U3 at hK
 rw [Bn9] at hK
 have ok := Dq hi
 have tn := ok.tn; have nl := ok.nl
 have hcl := Nz hi
 have hofn : ofI A x = nb A (inT A x) := rfl
 refine Yc h (Ce λ w1 e1 _ => ?_)
 have h1 := h.ext e1
 refine h1.Cp3 λ s ks kr => X9 h1 hin (Aq (ks w1 (Ext.refl _)) ?_)
 rw [← hofn]
 refine kr _ w1 _ hi (Ext.refl _) λ p y hy hyl => ?_
 have hK := hK w1 e1
 obtain ⟨i, hi'⟩ : ∃ i, ofI A x = i := ⟨_, rfl⟩
 obtain ⟨n, hn⟩ : ∃ n, inT A x = n := ⟨_, rfl⟩
 rw [hi'] at hK hi hcl hy hyl tn nl
 rw [hn] at hK
 rw [hn]
 obtain ⟨s1, s2⟩ := Pg (C := Ag A i) (at_ := (n : Int))
 have hfl := D7 (Ag A i) (n : Int)
 obtain ⟨m, hm⟩ : ∃ m, Dw (Ag A i) (n : Int) = m := ⟨_, rfl⟩
 rw [hm] at hK s1 s2 hfl
 have hch := Hy A i
 refine Ae (λ x W => x = ((m : Int), ()) /\ w1 = W) ?_ (by rintro _ _ ⟨rfl, rfl⟩; exact hK)
 refine Aw (λ x W => ∃ j : Nat, x = (((min j m : Nat) : Int), (j : Int), ()) /\ w1 = W /\ j <= (Ag A i).length) (λ x _ => (((Ag A i).length : Int) - x.2.1).toNat) ⟨0, by simp, rfl, Nat.zero_le _⟩ ?_
 rintro _ _ ⟨j, rfl, rfl, hj⟩
 dsimp only
 refine Ac (λ hc2 => ?_) (λ hc2 => ?_)
 ·simp only [decide_eq_true_eq] at hc2
  obtain ⟨c, hcc⟩ := Ea (C := Ag A i) (j := j) (by omega)
  refine Ae (λ x W => x = (((min (j + 1) m : Nat) : Int), ()) /\ w1 = W) ?_ ?_
  ·refine Cd0 hy hcc λ p => Ac (λ hle => ⟨?_, rfl⟩) (λ hle => ⟨?_, rfl⟩)
   ·simp only [decide_eq_true_eq] at hle
    have : j < m := by
     rcases Nat.lt_or_ge j m with u | u
     ·exact u
     ·exfalso
      rcases Nat.lt_or_ge m j with v | v
      ·obtain ⟨cm, hcm⟩ := Ea (C := Ag A i) (j := m) (by omega)
       have := hch.lt v hcm hcc; have := hch.pos _ c hcc; have := s2 cm hcm; omega
      ·have : j = m := by omega
       subst this
       have := s2 c hcc; omega
    rw [Nat.min_eq_left (by omega), Nat.min_eq_left (by omega), Ao8 (by omega)]
   ·simp only [decide_eq_false_iff_not] at hle
    have : m <= j := by
     rcases Nat.lt_or_ge j m with u | u
     ·exfalso
      exact hle (s1 j c u hcc)
     ·exact u
    rw [Nat.min_eq_right (by omega), Nat.min_eq_right (by omega)]
  rintro _ _ ⟨rfl, rfl⟩
  rw [Ao8 (by omega)]
  exact ⟨⟨j + 1, rfl, rfl, by omega⟩, by omega⟩
 ·simp only [decide_eq_false_iff_not] at hc2
  refine ⟨?_, rfl⟩
  rw [Nat.min_eq_right (by omega)]
theorem Aq5 {kind count arg : Int} {K : Int × Bool × Unit -> Wp} (hK : ∀ w', Ext w w' -> K ((kOf count : Int), decide (0 < count), ()) w') : Aa Tryz.prog 91 #[.agg (Cells.vals c48 (mvM kind count arg)).toArray] (.tup [(.one (.int .i64)), (.one .bool)]) K w := by
 refine A91 (a0 := mvM kind count arg) ?_
 unfold F91
 have ek : (kOf count : Int) = if 0 < count then min count 9999 else 1 := by unfold kOf; split <;> omega
 rw [ek] at hK
 refine (St.start w).Af λ b1 w1 S1 e1 => ?_
 have S1 : St (λ _ => False) w w1 [(b1, Yi kind count arg)] := S1
 have hK := hK w1 e1
 refine S1.ld (off := 1) 0 rfl (x := count) rfl (Ac (λ hc => ?_) (λ hc => S1.ld (off := 1) 0 rfl (x := count) rfl (Ac (λ hc2 => ?_) (λ hc2 => S1.ld (off := 1) 0 rfl (x := count) rfl ?_))))
 all_goals simp only [decide_eq_true_eq, decide_eq_false_iff_not, gt_iff_lt] at *
 ·rw [if_neg (by omega), decide_eq_false (by omega)] at hK; exact hK
 ·rw [if_pos (by omega), decide_eq_true (by omega), show min count 9999 = 9999 by omega] at hK; exact hK
 ·rw [if_pos (by omega), decide_eq_true (by omega), show min count 9999 = count by omega] at hK; exact hK
theorem Bt7 {e : Int} {K : LdT -> Wp} (hK : ∀ w', Ext w w' -> K (ldT (noP e)) w') : Aa Tryz.prog 92 #[.int .i64 e] (.tup [(.agg c83), (.one (.int .i64))]) K w := by
 refine A92 ?_
 unfold F92
 exact (St.start w).Af λ b1 w1 S1 e1 => S1.Ad 0 rfl rfl rfl rfl λ w2 S2 _ => S2.lds 0 (ldT (noP e)).1 rfl (hK w2 S2.upd)
theorem Az3 (h : Ip w q A) {n : Nat} {kind : Int} {K : LdT -> Wp} (hK : ∀ w', Ext w w' -> K (ldT (Dv A n kind)) w') : Aa Tryz.prog 93 #[.pointer (some (at0 q)), .int .i64 (n : Int), .int .i64 kind] (.tup [(.agg c83), (.one (.int .i64))]) K w := by
 refine A93 ?_
 unfold F93
 exact (St.start w).Af λ b1 w1 S1 e1 => Bl3 (h.ext e1) λ w2 e2 => (S1.ext e2).Ad 0 rfl rfl rfl rfl λ w3 S3 _ => S3.lds 0 (ldT (Dv A n kind)).1 rfl (hK w3 S3.upd)
end
section
variable {w w' : World}
theorem Cf5 {w0 : World} {c : Cell} {s : Sl} {xs : List c.T} {n : Int} {K : Addr -> c.T -> Wp} (h : SlX w0 s 1 (xs.map c.val)) (x0 : Ext w0 w) (h0 : 0 <= n) {x : c.T} (hx : xs[n.toNat]? = some x)
  (hK : ∀ p, (∀ w', Ext w0 w' -> w'.cell? (p.add (scaled (Int.toNat n) 1)) = some (c.val x)) -> K p x w) : ix s.a s.len n (λ p => ld c (p.add (scaled (Int.toNat n) 1)) (K p)) w := by
 have hlt := (List.getElem?_eq_some_iff.1 hx).1
 have hl := h.len1
 rw [List.length_map] at hl
 obtain ⟨t, h⟩ := h.Ag8 (by omega)
 rcases h.at_ with ⟨_, hc⟩ | ⟨b, off, cc, fr, ha, hb, _, hv⟩
 ·have := h.le; omega
 ·have hcell : ∀ w', Ext w0 w' -> w'.cell? ((⟨b, off, none⟩ : Addr).add (scaled (Int.toNat n) 1)) = some (c.val x) := λ w' e => by
   rw [addr_add, Eb]
   exact cell_of (e.ext_get hb) (hv _ _ (by rw [Nat.mul_one, List.getElem?_map, hx]; rfl))
  exact ⟨⟨b, off, none⟩, ⟨ha, h0, by omega⟩, Ym (x := x) (hcell w x0) (hK _ hcell)⟩
structure Bt (w0 w : World) (e : Enc) (p r : Nat) (A : As) (na : Nat) : Prop where
 ex : ∃ O M F na', na' <= na /\ Txt w p e 65536 na' O M /\ aOf e M = A /\ Oo w r e (atoms A) F /\ (∀ k, F k -> ¬ O k) /\ (∀ k, O k -> w0.heap.size <= k) /\ (∀ k, F k -> w0.heap.size <= k)
 ok : A = prs e (atoms A)
 sz : szs A <= 65536
theorem Bt.tx {w0 : World} {e : Enc} {p r : Nat} {A : As} {na : Nat} (h : Bt w0 w e p r A na) : TxA w p (atoms A) := by
 obtain ⟨O, M, F, na', _, h1, h2, _⟩ := h.ex
 exact ⟨e, 65536, na', O, M, h1, by rw [h2]⟩
theorem Bt.ext {w0 : World} {e : Enc} {p r : Nat} {A : As} {na : Nat} (h : Bt w0 w e p r A na) (x : Ext w w') : Bt w0 w' e p r A na := by
 obtain ⟨O, M, F, na', h0, h1, h2, h3, h4, h5, h6⟩ := h.ex
 exact ⟨⟨O, M, F, na', h0, h1.ext x, h2, h3.ext x, h4, h5, h6⟩, h.ok, h.sz⟩
set_option maxHeartbeats 1000000 in
theorem Bo2 {w0 : World} {e : Enc} {p r : Nat} {A : As} {na : Nat} {s : Sl} {es : List LEd} (x0 : Ext w0 w) (hB : Bt w0 w e p r A na) (hE : EdX w0 s es) (hna : na + 200000 < 2 ^ 40) {P1 P2 : World -> Prop} (hP : ∀ w', Ext w0 w' -> P1 w' /\ P2 w') {R : Int -> Int -> Wp} (hR : ∀ v A' w', Ext w0 w' -> Bt w0 w' e p r A' (na + 65536) -> R v v w') :
  Aa Tryz.prog 15 #[s.v] rS (λ x23 => keep P1 (keep P2 (Aa Tryz.prog 14 #[.pointer (some (at0 p)), x23.v] rI λ x24 => keep P1 (keep P2 (Aa Tryz.prog 16 #[.pointer (some (at0 r)), s.v] rI λ x25 => R x24 x25))))) w := by
 obtain ⟨O, M, F, na', h0, h1, h2, h3, h4, h5, h6⟩ := hB.ex
 have hok := hB.ok; have hsz := hB.sz
 subst h2
 refine Bu1 (hE.ext x0) λ q zs w6 hEd hr hz e6 => ?_
 have x6 := x0.trans e6
 refine Aq (hP w6 x6).1 (Aq (hP w6 x6).2 ?_)
 have t6 := h1.ext e6
 obtain ⟨ys, hER⟩ := hE.toR
 refine An1 t6 hEd hsz (λ k hk hOk => ?_) (λ j z hj k hk hOk => ?_) (by omega) (λ c w7 hc0 hc e7 => ?_) λ hc O' M' w7 t7 ha7 hs7 u7 _ o2 => ?_
 ·have := hr k hk; have := h1.own k hOk; omega
 ·have := hz j z hj k hk; have := h1.own k hOk; omega
 ·have x7 := x6.trans e7
  refine Aq (hP w7 x7).1 (Aq (hP w7 x7).2 ?_)
  refine Yb (h3.ext (e6.trans e7)) hok (hER.ext x7) hsz (λ hne w8 e8 => ?_) (λ heq => by rw [heq] at hc; exact absurd hc.symm hc0)
  rw [hc]
  exact hR c _ w8 (x7.trans e8) ⟨⟨O, M, F, na', by omega, ((h1.ext e6).ext e7).ext e8, rfl, ((h3.ext e6).ext e7).ext e8, h4, h5, h6⟩, hok, hsz⟩
 ·have x7 : Ext w0 w7 := x6.step u7 λ k hk => h5 k hk.1
  refine Aq (hP w7 x7).1 (Aq (hP w7 x7).2 ?_)
  have hps := Ay9 hc
  have r7 : Oo w7 r e (atoms (aOf e M)) F := (h3.ext e6).upd u7 λ k hk hw => h4 k hk hw.1
  refine Yb r7 hok (hER.ext x7) hsz (λ hne => absurd hc hne) (λ _ F' w8 r8 u8 f8 => ?_)
  have hrO : ¬ O' r := λ hO => by
   rcases o2 r hO with q1 | q1
   ·exact h4 r h3.root q1
   ·have := h3.own r h3.root; have := e6.size; omega
  obtain ⟨sa0, st0, T0, hr0, _⟩ := r7.ex
  have t8 : Txt w8 p e 65536 _ O' M' := t7.upd u8 (λ k hk hkr => by subst hkr; exact hrO hk) (λ k hk c fr hn => by
   subst hk
   rw [hr0] at hn
   cases hn)
  have x8 : Ext w0 w8 := x7.step u8 λ k hk => by subst hk; exact h6 _ h3.root
  have hok' : Dh e (aOf e M) es = prs e (atoms (Dh e (aOf e M) es)) := (Ac2 (e := e) (by rw [hok]; exact Az2 e _) es).prs
  refine hR 0 (Dh e (aOf e M) es) w8 x8 ⟨⟨O', M', F', _, by omega, t8, ha7, r8, λ k hk hO => ?_, λ k hk => ?_, λ k hk => ?_⟩, hok', by rw [← ha7]; exact hs7⟩
  ·rcases f8 k hk with q1 | q1
   ·rcases o2 k hO with q2 | q2
    ·exact h4 k q1 q2
    ·have := h3.own k q1; have := e6.size; omega
   ·have := t7.own k hO; omega
  ·rcases o2 k hk with q1 | q1
   ·exact h5 k q1
   ·have := x6.size; omega
  ·rcases f8 k hk with q1 | q1
   ·exact h6 k q1
   ·have := x7.size; omega
theorem Bs6 {c : Int} {s : Sl} {n : Nat} (hl : s.len = n) (hc : ¬ (1 <= c /\ c <= 4 /\ n <= 65536)) {K : Option Addr × Int × Unit -> Wp} (hK : ∀ v, v ≠ 0 -> K (none, v, ()) w) :
  Aa Tryz.prog 12 #[.int .i64 c, s.v, .int .i64 65536] (.tup [(.one .ptr), (.one (.int .i64))]) K w := by
 refine A12 ?_
 unfold F12
 refine Ae (λ x W => x = (decide (¬ (1 <= c /\ c <= 4)), ()) /\ w = W) (Ac (λ hc => ⟨Au ?_, rfl⟩) (λ hc => ⟨Au ?_, rfl⟩)) ?_
 ·simp only [decide_eq_true_eq, true_iff] at hc ⊢; omega
 ·simp only [decide_eq_false_iff_not, decide_eq_true_eq, gt_iff_lt] at hc ⊢; omega
 rintro _ _ ⟨rfl, rfl⟩
 refine Ac (λ _ => hK 10 (by decide)) (λ hc2 => ?_)
 have hc2 := Classical.byContradiction λ hn => (of_decide_eq_false hc2) hn
 refine Ae (λ x W => x = (false, ()) /\ w = W) (Am ⟨rfl, rfl⟩) ?_
 rintro _ _ ⟨rfl, rfl⟩
 refine Am (Ac (λ _ => hK 50 (by decide)) (λ hc3 => ?_))
 simp only [decide_eq_false_iff_not, gt_iff_lt] at hc3
 omega
set_option maxHeartbeats 2000000 in
theorem Ao4 {y : Cells.T c26} {c : Int} {l : List UInt8} {L : List (List LEd)} {al : List Tq} (h : Tj w y c l L al) {K : Option Addr × Option Addr × Bool × Unit -> Wp} (hN : ∀ w', Ext w w' -> K (none, none, true, ()) w')
  (hS : ∀ p q e A w', l.length <= 65536 -> e.num = c -> (∃ w1, Ext w w1 /\ ∃ r, Bt w1 w' e p r A (65536 * L.length)) -> Ip w' q (atoms A) -> Ext w w' -> K (some (at0 p), some (at0 q), true, ()) w') :
  Aa Tryz.prog 11 #[.agg (Cells.vals c26 y).toArray] (.tup [(.one .ptr), (.one .ptr), (.one .bool)]) K w := by
 refine A11 (a0 := y) ?_
 unfold F11
 have hbl : l.length = y.2.1.len := by have := h.bytes.len1; rwa [List.length_map] at this
 obtain ⟨ys, hys, hyl, hye⟩ := h.edits.ex
 have few := h.edits.few
 have hsl : ys.length = y.2.2.1.len := by have := hys.len1; rwa [List.length_map] at this
 have he : (some (Value.int .i64 y.1) : Option Value) = some (Value.int .i64 c) := congrArg (λ (n : Int) => some (Value.int .i64 n)) h.e
 refine (St.start w).Af λ b1 w1 S1 e1 => Bp9 λ w2 e2 => Am ?_
 have S2 := S1.ext e2
 have S2 : St (λ _ => False) w w2 [(b1, lkO y)] := S2
 refine S2.ld (off := 0) 0 rfl (x := c) he (S2.ld (off := 1) 0 rfl (x := y.2.1) rfl ?_)
 by_cases hc : ¬ (1 <= c /\ c <= 4 /\ l.length <= 65536)
 ·exact Bs6 hbl.symm hc λ v hv => Ac (λ _ => hN w2 S2.upd) (λ hh => absurd (by simpa using hh) hv)
 have hc := Classical.byContradiction hc
 obtain ⟨e, hen⟩ := Cg8 (c := c) ⟨hc.1, hc.2.1⟩
 rw [← hen]
 refine Ay5 (h.bytes.ext S2.upd) hc.2.2 λ r w3 F hR hF e3 => Am ?_
 have S3 := S2.ext e3
 refine S3.drew λ w4 S4 e4 _ => S4.ld (off := 0) 0 rfl (x := e.num) (by rw [hen]; exact he) (S4.ld (off := 1) 0 rfl (x := y.2.1) rfl ?_)
 refine Cb3 (s := ⟨none, 0, 0⟩) (l := []) (m := l) (B := w.heap.size) (Ap.nil w4 w.heap.size 5 1) (h.bytes.ext S4.upd) (by
  show 0 + y.2.1.len + (0 + y.2.1.len) / 4 + 512 <= 2 ^ 48
  omega) S4.upd.size λ s8 w5 o5 l5 u5 b5 _ => ?_
 have e5 : Ext w4 w5 := (Ext.refl w4).step u5 λ k hk => by obtain ⟨_, hp, _⟩ := hk; cases hp
 have S5 := S4.ext e5
 rw [List.nil_append] at o5
 refine S5.keep (off := 0) 0 rfl (v := .int .i64 e.num) (by rw [hen]; exact he) ?_
 have hB5 : By w5 s8 l := o5.in
 refine Af5 (e := e) (lim := 65536) hB5 hc.2.2 (Nat.le_refl _) λ p O M w6 tx hA _ e6 hnew => ?_
 have S6 := S5.ext e6
 refine Ae (λ x W => x = (false, ()) /\ w6 = W) (Am ⟨rfl, rfl⟩) ?_
 rintro _ _ ⟨rfl, rfl⟩
 refine Am ?_
 have x26 : Ext w2 w6 := ((e3.trans e4).trans e5).trans e6
 have hsz : szs (ats e l) <= 65536 := by rw [He]; exact hc.2.2
 have B6 : Bt w2 w6 e p r (ats e l) 0 := ⟨⟨O, M, F, 0, Nat.le_refl _, tx, hA, ((hR.ext e4).ext e5).ext e6, λ k hk hO => by
  have := hR.own k hk; have := hnew k hO; have := e4.size; have := e5.size; omega, λ k hO => by
  have := hnew k hO; have := e3.size; have := e4.size; have := e5.size; omega, hF⟩, (Bd7 e _ l (Nat.le_refl _)).prs, hsz⟩
 have hb1 : b1 < w2.heap.size := lt_of_heap (S2.at_ 0 rfl)
 have hob : w2.heap[b1]? = some (lkO y) := S2.at_ 0 rfl
 have hw2 : Ext w w2 := S2.upd
 refine Ae (λ _ W => ∃ A, Ext w2 W /\ Bt w2 W e p r A (65536 * L.length)) ?_ ?_
 ·refine Aw (λ x W => ∃ (i : Nat) (A : As), x = ((i : Int), ()) /\ i <= L.length /\ Ext w2 W /\ Bt w2 W e p r A (65536 * i)) (λ x _ => ((L.length : Int) - x.1).toNat) ⟨0, _, rfl, Nat.zero_le _, x26, B6⟩ ?_
  rintro _ W ⟨i, A, rfl, hi, xW, hB⟩
  dsimp only
  have hobW := xW.ext_get hob
  refine Ci (off := 2) (x := y.2.2.1) hobW rfl (Ac (λ hc2 => ?_) (λ hc2 => ?_))
  ·simp only [decide_eq_true_eq] at hc2
   have ew : W64 ((i : Int) + 1) = ((i + 1 : Nat) : Int) := by rw [wrap64 (by omega) (by omega)]; omega
   rw [ew]
   obtain ⟨q, hq⟩ : ∃ q, ys[i]? = some q := ⟨_, List.getElem?_eq_getElem (by omega)⟩
   obtain ⟨es, hes⟩ : ∃ es, L[i]? = some es := ⟨_, List.getElem?_eq_getElem (by omega)⟩
   have hqn : ys[((i : Int)).toNat]? = some q := by rw [Int.toNat_natCast]; exact hq
   refine Ce λ w7 e7 _ => ?_
   have x7 := xW.trans e7
   have ob7 := x7.ext_get hob
   refine Ci (off := 2) (x := y.2.2.1) ob7 rfl ?_
   refine Am2 (c := .sl) (xs := ys) (hys.ext (hw2.trans x7)) (Int.natCast_nonneg i) hqn λ p1 => ?_
   refine Ci (off := 2) (x := y.2.2.1) ob7 rfl ?_
   refine Cf5 (c := .sl) (xs := ys) (hys.ext hw2) x7 (Int.natCast_nonneg i) hqn λ p2 k2 => ?_
   refine Bo2 x7 (hB.ext e7) ((hye i q es hq hes).ext hw2) (by omega) (λ w' x' => ⟨k2 w' x', cell_of (off := 2) (x'.ext_get hob) rfl⟩) λ v A' w8 x8 B8 => ?_
   rw [bne_self_eq_false]
   exact Am ⟨⟨i + 1, A', rfl, by omega, x8, by rw [Nat.mul_succ]; exact B8⟩, by omega⟩
  ·simp only [decide_eq_false_iff_not] at hc2
   obtain rfl : i = L.length := by omega
   exact ⟨A, xW, hB⟩
 rintro _ W ⟨A, xW, hB⟩
 obtain ⟨O', M', F', na', _, _, _, hR', _, _, _⟩ := hB.ex
 refine hR'.Qe λ sa hsa => Bv9 hsa hR'.len λ q w8 hq _ e8 => ?_
 exact hS p q e A w8 hc.2.2 hen ⟨w2, hw2, r, hB.ext e8⟩ hq ((hw2.trans xW).trans e8)
end
section
variable {w w' : World} {p : Nat} {A : List Int}
abbrev Cb0 (a : Tq) : Obj := .cells #[.int .i64 a.kind, .int .i64 a.at_, .int .i64 a.b, .int .i64 a.mkd, .int .i64 a.count, .int .i64 a.arg, .bool a.past] 50 (0, 0)
theorem Av6 {W : World} {b : Nat} {a : Tq} {K : Cells.T c48 -> Wp} (hb : W.heap[b]? = some (Cb0 a)) (hK : K (mvM a.mkd a.count a.arg) W) : lds c48 ⟨b, 3, none⟩ K W :=
 Na (x := mvM a.mkd a.count a.arg) hb (λ j v hv => by
  match j with
  | 0 => exact hv
  | 1 => exact hv
  | 2 => exact hv
  | j + 3 => cases hv) hK
end
def Brk (w : World) : Prop := ∀ j, j < 6 -> w.cell? ⟨0, j, none⟩ = some (.int .i64 (Cs6.getD j 0))
section
variable {w w' : World} {p q : Nat} {A : List Int} {a : Tq}
theorem Brk.ext (h : Brk w) (x : Ext w w') : Brk w' := λ j hj => Us (h j hj) x
def Ck4 (a : Tq) : Prop := ∀ (w : World) (p q : Nat) (A : List Int) (K : Bool -> Wp), Brk w -> TxA w p A -> Ip w q A -> (∀ w', Ext w w' -> K true w') -> Aa Tryz.prog 18 #[.pointer (some (at0 p)), .pointer (some (at0 q)), .agg (Cells.vals c50 (An8 a)).toArray] rB K w
theorem Ay2 {l : Ld} {K : Bool -> Wp} (hK : ∀ w', Ext w w' -> K true w') : Aa Tryz.prog 42 #[.agg (Cells.vals c83 (ldT l).1).toArray, .int .i64 l.2, .agg (Cells.vals c83 (ldT l).1).toArray, .int .i64 l.2] rB K w := by
 refine A42 (a0 := (ldT l).1) (a2 := (ldT l).1) ?_
 unfold F42
 refine (St.start w).Af λ b1 w1 S1 e1 => S1.Af λ b2 w2 S2 e2 => S2.ld (off := 0) 1 rfl (x := l.1.1) rfl (S2.ld (off := 0) 0 rfl (x := l.1.1) rfl ?_)
 rw [beq_self_eq_true]
 refine Bj (S2.ld (off := 1) 1 rfl (x := l.1.2.1) rfl (S2.ld (off := 1) 0 rfl (x := l.1.2.1) rfl ?_))
 rw [beq_self_eq_true]
 refine Bj (S2.ld (off := 2) 1 rfl (x := l.1.2.2) rfl (S2.ld (off := 2) 0 rfl (x := l.1.2.2) rfl ?_))
 rw [beq_self_eq_true, beq_self_eq_true]
 exact Bj (hK w2 S2.upd)
section
variable {y : Cells.T c26} {c : Int} {l : List UInt8} {L : List (List LEd)} {al : List Tq}
theorem Tj.Co5 {W : World} (h : Tj w y c l L al) (e : Ext w W) : Tj W y c l L al :=
 ⟨h.e, h.i64, h.bytes.ext e, h.blen, ⟨by obtain ⟨ys, g1, g2, g3⟩ := h.edits.ex; exact ⟨ys, g1.ext e, g2, λ i q es hq he => (g3 i q es hq he).ext e⟩, h.edits.few⟩, ⟨h.asks.row.ext e, h.asks.few, h.asks.i64⟩⟩
theorem Tj.Cu2 (h : Tj w y c l L al) {W : World} (x : Ext w W) {i : Nat} {a : Tq} (ha : al[i]? = some a) {K : Addr -> Cells.T c50 -> Wp} (hK : ∀ q, K q (An8 a) W) :
  ix y.2.2.2.1.a y.2.2.2.1.len (i : Int) (λ q => lds c50 (q.add (scaled (Int.toNat (i : Int)) 7)) (K q)) W :=
 Bh1 (cs := c50) (xs := al.map An8) (h.asks.row.ext x) (by decide) (Int.natCast_nonneg i) (by rw [Int.toNat_natCast, List.getElem?_map, ha]; rfl) hK
theorem Tj.Co6 (h : Tj w y c l L al) : al.length = y.2.2.2.1.len := by
 have := SlX.Jt (cs := c50) h.asks.row (by decide)
 rwa [List.length_map] at this
set_option maxHeartbeats 1000000 in
theorem Aw3 (h : Tj w y c l L al) (hg : Brk w) {lo hi : Int} (hask : ∀ a, lo <= a.kind -> a.kind <= hi -> Ck4 a) {K : Bool -> Wp} (hK : ∀ w', Ext w w' -> K true w') :
  Aa Tryz.prog 10 #[.agg (Cells.vals c26 y).toArray, .int .i64 lo, .int .i64 hi] rB K w := by
 refine A10 (a0 := y) ?_
 unfold F10
 have hal := h.Co6
 have hfew := h.asks.few
 refine (St.start w).Af λ b1 w1 S1 e1 => ?_
 have S1 : St (λ _ => False) w w1 [(b1, lkO y)] := S1
 refine S1.lds 0 y rfl (Ao4 (h.Co5 e1) (λ w2 e2 => ?_) λ p q e A w2 _ _ hB pg e2 => ?_)
 ·refine Ae (λ s W => s = (true, ()) /\ w2 = W) (Am ⟨rfl, rfl⟩) ?_
  rintro _ _ ⟨rfl, rfl⟩
  exact Bj (hK w2 (S1.ext e2).upd)
 obtain ⟨w0, _, r, hB⟩ := hB
 have tx2 := hB.tx
 refine Ae (λ s W => s = (false, ()) /\ w2 = W) (Am ⟨rfl, rfl⟩) ?_
 rintro _ _ ⟨rfl, rfl⟩
 refine Am ?_
 have S2 := S1.ext e2
 refine Ae (λ _ W => Ext w W) ?_ (λ _ W hW => hK W hW)
 refine Aw (λ x W => ∃ i : Nat, x = ((i : Int), ()) /\ i <= al.length /\ TxA W p (atoms A) /\ Ip W q (atoms A) /\ St (λ _ => False) w W [(b1, lkO y)]) (λ x _ => ((al.length : Int) - x.1).toNat) ⟨0, rfl, Nat.zero_le _, tx2, pg, S2⟩ ?_
 rintro _ W ⟨i, rfl, hi, tx, pg, SW⟩
 dsimp only
 refine SW.ld (off := 3) 0 rfl (x := y.2.2.2.1) rfl (Ac (λ hc => ?_) (λ hc => SW.upd))
 simp only [decide_eq_true_eq] at hc
 obtain ⟨a, ha⟩ : ∃ a, al[i]? = some a := ⟨_, List.getElem?_eq_getElem (by omega)⟩
 have ewi : W64 ((i : Int) + 1) = ((i + 1 : Nat) : Int) := by rw [wrap64 (by omega) (by omega)]; omega
 rw [ewi]
 refine SW.ld (off := 3) 0 rfl (x := y.2.2.2.1) rfl (h.Cu2 SW.upd ha λ q1 => ?_)
 refine (St.start W).Mc rfl rfl rfl λ bA w4 T4 _ => ?_
 have T4 : St (λ _ => False) W w4 [(bA, Cb0 a)] := T4
 refine Ae (λ x V => x = (false, ()) /\ Ext W V) ?_ ?_
 ·refine T4.ld (off := 0) 0 rfl (x := a.kind) rfl (Ac (λ h1 => T4.ld (off := 0) 0 rfl (x := a.kind) rfl (Ac (λ h2 => ?_) (λ _ => ⟨rfl, T4.upd⟩))) (λ _ => ⟨rfl, T4.upd⟩))
  simp only [decide_eq_true_eq, ge_iff_le] at h1 h2
  exact T4.lds 0 (An8 a) rfl (hask a h1 h2 w4 p q _ _ (hg.ext (SW.upd.trans T4.upd)) (tx.ext T4.upd) (pg.ext T4.upd) λ w5 e5 => ⟨rfl, (T4.ext e5).upd⟩)
 rintro _ V ⟨rfl, xV⟩
 exact Am ⟨⟨i + 1, rfl, by omega, tx.ext xV, pg.ext xV, SW.ext xV⟩, by omega⟩
end
end
end Go.Proofs.YtolhlldgnfbemaaGreatDoor
namespace Go.Proofs.YtolhlldgnfbemaaGreatDoor
open Go Go.Vx Go.ChangeShapes Go.WideShapes Go.RowKit Cdc Mot
theorem De7 : Tryz.prog.globalNamed "copyist/copyistref8.brackets" = some 0 := by kernel_rfl
theorem Cu4 : (Tryz.prog.globals[0]?).map (·.type) = some 202 := by kernel_rfl
theorem Cu3 : Tryz.prog.underlying 202 = some (.array 6 3) := by kernel_rfl
theorem Df5 : Tryz.prog.cellsOf 3 = 1 := by kernel_rfl
abbrev laidB : List (String × DataW Unit) := [("copyist/copyistref8.brackets", Rows.laid_copyist_copyistref8_brackets)]
theorem Av0 {W : World} (h : laidMetH Tryz.prog laidB W) : Brk W := by
 rw [MakeChecks.laidMetH_plain _ _ _ (by kernel_rfl)] at h
 obtain ⟨ps, ⟨g0, t0, cs0, f0, p0, q0, hg0, ht0, hv0, hd0, _, _⟩, _, _⟩ := h
 obtain rfl := Option.some.inj (De7.symm.trans hg0)
 obtain rfl := Option.some.inj (Cu4.symm.trans ht0)
 obtain ⟨xs, m1, rfl, hx1, hlen, hn6, hel⟩ := DataW.trod_array Cu3 hd0
 have hm : xs.map (·.1) = [.lit (.int .i64 40), .lit (.int .i64 91), .lit (.int .i64 123), .lit (.int .i64 41), .lit (.int .i64 93), .lit (.int .i64 125)] := by
  have := (Prod.mk.inj hx1).1
  unfold Rows.laid_copyist_copyistref8_brackets at this
  exact (DataW.agg.inj this).symm
 intro j hj
 have h0 := hel j hj
 rw [Df5, Nat.mul_one] at h0
 obtain ⟨x, hx⟩ : ∃ x, xs[j]? = some x := ⟨_, List.getElem?_eq_getElem (by omega)⟩
 rw [hx] at h0
 obtain ⟨n, e1, e2, _⟩ := DataW.trod_int ui h0
 have hcs : cs0[j]? = some (.int .i64 n) := by
  have := congrArg (λ l : List Value => l[0]?) e1
  simp only [List.getElem?_take, List.getElem?_drop, Nat.add_zero] at this
  simpa using this
 have hx1 : (xs.map (·.1))[j]? = some (.lit (.int .i64 n)) := by rw [List.getElem?_map, hx, e2]; rfl
 rw [hm] at hx1
 rw [World.var?_cell hg0 hv0 j, hcs]
 have hn : n = Cs6.getD j 0 := by
  rcases (by omega : j = 0 \/ j = 1 \/ j = 2 \/ j = 3 \/ j = 4 \/ j = 5) with rfl | rfl | rfl | rfl | rfl | rfl
  all_goals
   have := Option.some.inj hx1
   have := Lit.int.inj (DataW.lit.inj this)
   exact this.2.symm
 rw [hn]
def laidWorld (os : Os) : World :=
 let w0 := World.holding Tryz.prog os ⟨#[], #[], []⟩
 { w0 with heap := w0.heap.modify 0 λ
  | .cells _ t frozen => .cells #[.int .i64 40, .int .i64 91, .int .i64 123, .int .i64 41, .int .i64 93, .int .i64 125] t frozen
  | o => o }
abbrev look0 : Value := .agg #[.int .i64 0, .slice none 0 0, .slice none 0 0, .slice none 0 0]
theorem laid_met (os : Os) (args : Array Value) : laidMetH Tryz.prog laidB ((laidWorld os).forCall (λ _ _ => 0) ⟨#[], args, []⟩).memory := by
 rw [MakeChecks.laidMetH_plain _ _ _ (by kernel_rfl)]
 exact (LaidIn.of_run [0] 8 (by kernel_rfl) (by kernel_rfl) (by kernel_rfl) (by kernel_rfl)).met
end Go.Proofs.YtolhlldgnfbemaaGreatDoor
namespace Go.Proofs.YtolhlldgnfbemaaGreatDoor
open Go Go.Vx Cdc Trx Gly Clu Lns Obx Mot
theorem Cf2 (c : Int) : 1 <= kOf c /\ kOf c <= 9999 := by unfold kOf; split <;> omega
section
variable {w w' : World} {p : Nat} {A : List Int}
end
def Az4 : Option Nat -> Int
 | none => -1
 | some j => (j : Int)
section
variable {w w' : World} {q : Nat} {A : List Int} {i : Nat}
theorem Ap3 {kind a b : Int} {W : World} {B C : World -> Prop} (hB : kind = a \/ kind = b -> B W) (hC : ¬ (kind = a \/ kind = b) -> C W) : join (S := Bool × Unit) (λ J => sif (kind == a) (J ((kind == a), ())) (J ((kind == b), ()))) (λ s => sif s.1 B C) W := by
 refine Ae (λ x V => x = (decide (kind = a \/ kind = b), ()) /\ W = V) (Ac (λ hc => ⟨Au ?_, rfl⟩) (λ hc => ⟨Au ?_, rfl⟩)) ?_
 ·rw [beq_iff_eq] at hc
  simp only [beq_iff_eq, decide_eq_true_eq]
  exact ⟨λ h => .inl h, λ _ => hc⟩
 ·rw [beq_eq_false_iff_ne] at hc
  simp only [beq_iff_eq, decide_eq_true_eq]
  exact ⟨λ h => .inr h, λ h => h.resolve_left hc⟩
 ·rintro _ _ ⟨rfl, rfl⟩
  exact Ac (λ hc => hB (of_decide_eq_true hc)) (λ hc => hC (of_decide_eq_false hc))
end
abbrev ldX (l : Ld) : Obj := .cells #[.int .i64 l.1.1, .int .i64 l.1.2.1, .int .i64 l.1.2.2] 83 (0, 0)
section
variable {w w' : World} {p q : Nat} {A : List Int} {a : Tq}
end
namespace Mot
abbrev nI (l : List Nat) : List Int := l.map λ (n : Nat) => (n : Int)
def bgM (A : List Int) (big empty : Bool) (p : Nat × Nat) : Bool := ((Ag A p.1).length != 0 || empty) && Ol A big p
def enM (A : List Int) (big empty : Bool) (p : Nat × Nat) : Bool := ((Ag A p.1).length != 0 || empty) && Qv A big p
theorem Av3 (A : List Int) (big : Bool) : bgM A big true = Ol A big := by funext p; simp [bgM]
theorem Bx7 (A : List Int) (big : Bool) : enM A big true = Qv A big := by funext p; simp [enM]
theorem Ah5 (A : List Int) (big : Bool) : enM A big false = Md A big := by funext p; simp [enM, Md]
def mkL (A : List Int) (f : Nat × Nat -> Bool) (i : Nat) : List Nat := (((List.range i).flatMap (rowP A)).filter f).map (Cb A)
def ptL (A : List Int) (f : Nat × Nat -> Bool) (i j : Nat) : List Nat := if (Ag A i).length = 0 then (([(i, 0)] : List (Nat × Nat)).filter f).map (Cb A) else ((((List.range j).map λ c => (i, c)) : List (Nat × Nat)).filter f).map (Cb A)
variable {A : List Int} {f : Nat × Nat -> Bool} {i j : Nat}
theorem Y9 (A : List Int) (f : Nat × Nat -> Bool) (i : Nat) : mkL A f (i + 1) = mkL A f i ++ ptL A f i (Ag A i).length := by
 unfold mkL ptL
 rw [List.range_succ, List.flatMap_append, List.filter_append, List.map_append]
 congr 1
 simp only [List.flatMap_cons, List.flatMap_nil, List.append_nil]
 unfold rowP
 split <;> rfl
theorem Uc (h : (Ag A i).length ≠ 0) : ptL A f i (j + 1) = ptL A f i j ++ (if f (i, j) then [Cb A (i, j)] else []) := by
 unfold ptL
 rw [if_neg h, if_neg h, List.range_succ, List.map_append, List.filter_append, List.map_append]
 congr 1
 by_cases hf : f (i, j) = true
 ·simp [hf]
 ·simp [hf]
theorem Aq6 (h : (Ag A i).length ≠ 0) : ptL A f i 0 = [] := by unfold ptL; rw [if_neg h]; rfl
theorem Al0 (A : List Int) (f : Nat × Nat -> Bool) (i j : Nat) : (ptL A f i j).length <= j + 1 := by
 unfold ptL
 split
 ·rw [List.length_map]
  have := List.length_filter_le f ([(i, 0)] : List (Nat × Nat))
  simp at this; omega
 ·rw [List.length_map]
  have := List.length_filter_le f ((List.range j).map λ c => (i, c))
  rw [List.length_map, List.length_range] at this; omega
theorem Bg3 (hr : ∀ k, k < i -> (Ag A k).length <= 1048576) : (mkL A f i).length <= i * 1048577 := by
 induction i with
 | zero => simp [mkL]
 | succ i ih =>
  rw [Y9, List.length_append]
  have := ih λ k hk => hr k (by omega)
  have := Al0 A f i (Ag A i).length
  have := hr i (by omega)
  omega
def Qr (C : List Cel) (big : Bool) (j : Nat) : Nat := if j = 0 then 0 else Fg C (j - 1) big
end Mot
section
variable {w w' : World} {q : Nat} {A : List Int} {i : Nat}
structure Two (w : World) (N : Nat) (r z : Sl) (l m : List Nat) : Prop where
 one : Ap w N r 3 1 (iv (nI l))
 two : Ap w N z 3 1 (iv (nI m))
 apart : ∀ k, r.blk k -> ¬ z.blk k
theorem Two.ext {N : Nat} {r z : Sl} {l m : List Nat} (h : Two w N r z l m) (e : Ext w w') : Two w' N r z l m := ⟨h.one.ext e, h.two.ext e, h.apart⟩
theorem Bt3 {N : Nat} {r z : Sl} {l m : List Nat} {v b : Nat} {K : Sl -> Wp} (h : Two w N r z l m) (hb : w.heap[b]? = some (.cells #[.int .i64 (v : Int)] 3 (0, 0))) (hl : l.length < 2 ^ 43) (hN : N <= w.heap.size)
  (hK : ∀ r' w', Two w' N r' z (l ++ [v]) m -> (∀ k, r.blk k -> N <= k) -> Upd r.blk w w' -> K r' w') :
  Dt Tryz.prog (.one (.one .sl)) (Builtin.append_ #[43, 43] 43 #[.slice r.a r.len r.cap, .slice (some (at0 b)) 1 1]) K w := by
 have hrl := h.one.len1
 rw [List.length_map, List.length_map] at hrl
 refine Ec Tc Tc.ts_ (x := ⟨some (at0 b), 1, 1⟩) h.one (Z7 hb) (λ v hv => by rw [List.mem_singleton.1 hv]; rfl) (by
  show (r.len + 1 + (r.len + 1) / 4 + 512) * 8 <= 2 ^ 48
  omega) hN λ r' w' o l' u k => hK r' w' ⟨?_, h.two.upd u λ k hk hz hr => h.apart k hr hz, λ x hx hz => ?_⟩ (λ k hk => h.one.Et hk) u
 ·have : iv (nI (l ++ [v])) = iv (nI l) ++ [.int .i64 (v : Int)] := by simp
  rw [this]; exact o
 ·rcases k x hx with y | y
  ·exact h.apart x y hz
  ·have := h.two.in.Kz hz; omega
theorem Bt2 {N : Nat} {r z : Sl} {l m : List Nat} {v b : Nat} {K : Sl -> Wp} (h : Two w N r z l m) (hb : w.heap[b]? = some (.cells #[.int .i64 (v : Int)] 3 (0, 0))) (hl : m.length < 2 ^ 43) (hN : N <= w.heap.size)
  (hK : ∀ z' w', Two w' N r z' l (m ++ [v]) -> (∀ k, z.blk k -> N <= k) -> Upd z.blk w w' -> K z' w') :
  Dt Tryz.prog (.one (.one .sl)) (Builtin.append_ #[43, 43] 43 #[.slice z.a z.len z.cap, .slice (some (at0 b)) 1 1]) K w :=
 Bt3 (z := r) ⟨h.two, h.one, λ k hz hr => h.apart k hr hz⟩ hb hl hN λ z' w' t g u => hK z' w' ⟨t.two, t.one, λ k hr hz => t.apart k hz hr⟩ g u
theorem Cf1 {big : Bool} {j : Nat} {c : Cel} (hc : (Ag A i)[j]? = some c) : Fg (Ag A i) j big = if big then min c.kind 1 else c.kind := by unfold Fg; rw [hc]; rfl
set_option maxHeartbeats 2000000 in
theorem Ll (h : Ip w q A) {big empty : Bool} {K : Sl × Sl × Unit -> Wp} (hK : ∀ r z w', Bh w' r 3 1 (iv (nI (Bo A (bgM A big empty)))) -> Bh w' z 3 1 (iv (nI (Bo A (enM A big empty)))) -> Ext w w' -> K (r, z, ()) w') :
  Aa Tryz.prog 98 #[.pointer (some (at0 q)), .bool big, .bool empty] (.tup [(.one .sl), (.one .sl)]) K w := by
 refine A98 ?_
 unfold F98
 have hA := h.len; have hbl := Me A; have hb := Bq A
 have hrow : ∀ k, k <= brs A -> (Ag A k).length <= 1048576 := λ k hk => by
  have := Nz hk
  have ok := Dq hk
  have := ok.tn; have := ok.nl
  omega
 obtain ⟨f1, hf1⟩ : ∃ f1, bgM A big empty = f1 := ⟨_, rfl⟩
 obtain ⟨f2, hf2⟩ : ∃ f2, enM A big empty = f2 := ⟨_, rfl⟩
 rw [hf1, hf2] at hK
 refine Ae (λ x W => Ext w W /\ Two W w.heap.size x.1 x.2.1 (mkL A f1 (lnN A)) (mkL A f2 (lnN A))) ?_ (λ x W hx => by
  have := hK x.1 x.2.1 W hx.2.one.in hx.2.two.in hx.1
  exact this)
 refine Aw (λ x W => ∃ i : Nat, x.2.2 = ((i : Int), ()) /\ i <= lnN A /\ Ext w W /\ Two W w.heap.size x.1 x.2.1 (mkL A f1 i) (mkL A f2 i)) (λ x _ => ((lnN A : Int) - x.2.2.1).toNat) ⟨0, rfl, Nat.zero_le _, Ext.refl _, ⟨Ap.nil _ _ _ _, Ap.nil _ _ _ _, λ k ⟨_, hp, _⟩ => by cases hp⟩⟩ ?_
 rintro ⟨r, z, _⟩ W ⟨i, rfl, hi, eW, tw⟩
 dsimp only at tw ⊢
 refine (h.ext eW).Ab1 (Ac (λ hc => ?_) (λ hc => ?_))
 ·simp only [decide_eq_true_eq] at hc
  have hib : i <= brs A := by omega
  have hrl := hrow i hib
  have hm1 : (mkL A f1 i).length <= i * 1048577 := Bg3 λ k hk => hrow k (by omega)
  have hm2 : (mkL A f2 i).length <= i * 1048577 := Bg3 λ k hk => hrow k (by omega)
  have hp1 := λ j => Al0 A f1 i j
  have hp2 := λ j => Al0 A f2 i j
  rw [Ao8 (by omega)]
  refine Ae (λ x V => Ext w V /\ Two V w.heap.size x.1 x.2.1 (mkL A f1 (i + 1)) (mkL A f2 (i + 1))) ?_ (λ x V hx => ⟨⟨i + 1, rfl, by omega, hx.1, hx.2⟩, by omega⟩)
  refine h.Cp2 eW hib λ s p y hy hyl => ?_
  have hoff : ∀ (j : Nat) c, (Ag A i)[j]? = some c -> Cb A (i, j) = c.from_ := λ j c hc => by
   unfold Cb
   rw [Fj (List.getElem?_eq_some_iff.1 hc).1, Ir hc]
  obtain ⟨n, hn⟩ : ∃ n, (Ag A i).length = n := ⟨_, rfl⟩
  refine Ae (λ x V => Ext w V /\ Two V w.heap.size x.1 x.2.1 (mkL A f1 i ++ ptL A f1 i 0) (mkL A f2 i ++ ptL A f2 i 0)) ?_ ?_
  ·refine Ae (λ x V => x = (decide (n = 0 /\ empty = true), ()) /\ W = V) (Ac (λ h0 => ⟨Au ?_, rfl⟩) (λ h0 => ⟨Au ?_, rfl⟩)) ?_
   ·rw [beq_iff_eq] at h0
    simp only [decide_eq_true_eq]
    exact ⟨λ hh => ⟨by omega, hh⟩, λ hh => hh.2⟩
   ·rw [beq_eq_false_iff_ne] at h0
    simp only [Bool.false_eq_true, decide_eq_true_eq, false_iff]
    intro hh; omega
   rintro _ _ ⟨rfl, rfl⟩
   refine Ac (λ h0 => ?_) (λ h0 => ?_)
   ·obtain ⟨h0, hem⟩ := of_decide_eq_true h0
    have hz := (Xx hib).1 (by omega)
    have hpl : Cb A (i, 0) = (Ba A i).from_ := I9 hib
    have q1 : ptL A f1 i 0 = [(Ba A i).from_] := by
     unfold ptL
     rw [if_pos (by omega), ← hf1]
     simp [bgM, Ol, hem, hn, h0, hpl]
    have q2 : ptL A f2 i 0 = [(Ba A i).from_] := by
     unfold ptL
     rw [if_pos (by omega), ← hf2]
     simp [enM, Qv, hem, hn, h0, hpl]
    rw [q1, q2]
    refine (h.ext eW).Ah0 hib λ s p => Cc λ b w1 e1 n1 hb1 _ => Bt3 (tw.ext e1) n1 (by omega) (by have := eW.size; have := e1.size; omega) λ r' w2 t2 g2 u2 => ?_
    have x2 : Ext w w2 := (eW.trans e1).step u2 g2
    refine (h.ext x2).Ah0 hib λ s p => Cc λ b3 w3 e3 n3 hb3 _ => Bt2 (t2.ext e3) n3 (by omega) (by have := x2.size; have := e3.size; omega) λ z' w4 t4 g4 u4 => ?_
    exact ⟨(x2.trans e3).step u4 g4, t4⟩
   ·have h0 := of_decide_eq_false h0
    refine ⟨eW, ?_⟩
    have q1 : ptL A f1 i 0 = [] := by
     by_cases hz : n = 0
     ·have hem : empty = false := by cases empty with
       | false => rfl
       | true => exact absurd ⟨hz, rfl⟩ h0
      unfold ptL
      rw [if_pos (by omega), ← hf1]
      simp [bgM, hem, hn, hz]
     ·exact Aq6 (by omega)
    have q2 : ptL A f2 i 0 = [] := by
     by_cases hz : n = 0
     ·have hem : empty = false := by cases empty with
       | false => rfl
       | true => exact absurd ⟨hz, rfl⟩ h0
      unfold ptL
      rw [if_pos (by omega), ← hf2]
      simp [enM, hem, hn, hz]
     ·exact Aq6 (by omega)
    rw [q1, q2, List.append_nil, List.append_nil]; exact tw
  rintro ⟨r1, z1, _⟩ V ⟨eV, tw1⟩
  dsimp only at tw1 ⊢
  rw [hn] at hyl hrl
  refine Ae (λ x U => x.2.2.1 = (Qr (Ag A i) big n : Int) /\ Ext w U /\ Two U w.heap.size x.1 x.2.1 (mkL A f1 i ++ ptL A f1 i n) (mkL A f2 i ++ ptL A f2 i (n - 1))) ?_ ?_
  ·refine Aw (λ x U => ∃ j : Nat, x.2.2 = ((Qr (Ag A i) big j : Int), (j : Int), ()) /\ j <= n /\ Ext w U /\ Two U w.heap.size x.1 x.2.1 (mkL A f1 i ++ ptL A f1 i j) (mkL A f2 i ++ ptL A f2 i (j - 1))) (λ x _ => ((n : Int) - x.2.2.2.1).toNat) ⟨0, rfl, Nat.zero_le _, eV, tw1⟩ ?_
   rintro ⟨r2, z2, _⟩ U ⟨j, rfl, hj, eU, tw2⟩
   dsimp only at tw2 ⊢
   refine Ac (λ hc2 => ?_) (λ hc2 => ?_)
   ·simp only [decide_eq_true_eq] at hc2
    have hjn : j < n := by omega
    obtain ⟨c, hcc⟩ := Ea (C := Ag A i) (j := j) (by omega)
    have hkj := Cf1 (big := big) hcc
    have hn0 : (Ag A i).length ≠ 0 := by omega
    have hyU : Lj U y A i := hy.ext eU
    refine Bj6 hyU hcc λ p => ?_
    refine Ae (λ x T => x = ((Fg (Ag A i) j big : Int), ()) /\ U = T) ?_ ?_
    ·refine Ae (λ x T => x = (decide (big = true /\ 1 < c.kind), ()) /\ U = T) ?_ ?_
     ·cases big with
      | true => exact Bj ⟨Au (by simp only [decide_eq_true_eq, gt_iff_lt, true_and]; omega), rfl⟩
      | false => exact Am ⟨Au (by simp), rfl⟩
     rintro _ _ ⟨rfl, rfl⟩
     rw [hkj]
     refine Ac (λ hb => ⟨?_, rfl⟩) (λ hb => ⟨?_, rfl⟩)
     ·obtain ⟨b1, b2⟩ := of_decide_eq_true hb
      rw [if_pos b1, Nat.min_eq_right (by omega)]; rfl
     ·have hb := of_decide_eq_false hb
      congr 2
      cases big with
      | true => rw [if_pos rfl, Nat.min_eq_left (by have : ¬ 1 < c.kind := λ hh => hb ⟨rfl, hh⟩; omega)]
      | false => rw [if_neg (by decide)]
    rintro _ _ ⟨rfl, rfl⟩
    rw [Ao8 (by omega)]
    have endq : 0 < j -> f2 (i, j - 1) = (Fg (Ag A i) (j - 1) big != 0 && Fg (Ag A i) j big != Fg (Ag A i) (j - 1) big) := λ h0 => by
     rw [← hf2]
     unfold enM Qv
     dsimp only
     rw [hn, show (n != 0) = true by simp; omega, show (n == 0) = false by simp; omega, show decide (j - 1 < n) = true by simp; omega, show j - 1 + 1 = j by omega, show (j == n) = false by simp; omega]
     simp
    have begq : f1 (i, j) = (Fg (Ag A i) j big != 0 && (j == 0 || Fg (Ag A i) (j - 1) big != Fg (Ag A i) j big)) := by
     rw [← hf1]
     unfold bgM Ol
     dsimp only
     rw [hn, show (n != 0) = true by simp; omega, show (n == 0) = false by simp; omega]
     simp
    refine Ae (λ x T => Ext w T /\ Two T w.heap.size r2 x.1 (mkL A f1 i ++ ptL A f1 i j) (mkL A f2 i ++ ptL A f2 i j)) ?_ ?_
    ·refine Ae (λ x T => x = (decide (0 < j /\ f2 (i, j - 1) = true), ()) /\ U = T) ?_ ?_
     ·have hl : Qr (Ag A i) big j = if j = 0 then 0 else Fg (Ag A i) (j - 1) big := rfl
      refine Ac (λ h1 => ⟨Au ?_, rfl⟩) (λ h1 => ⟨Au ?_, rfl⟩)
      ·rw [bne_iff_ne] at h1
       rw [bne_iff_ne, decide_eq_true_eq, hl]
       by_cases h0 : j = 0
       ·rw [if_pos h0]; constructor
        ·intro hh; exact absurd rfl hh
        ·intro hh; omega
       ·rw [if_neg h0, endq (by omega), Bool.and_eq_true, bne_iff_ne, bne_iff_ne]
        rw [hl, if_neg h0] at h1
        constructor
        ·intro hh; exact ⟨by omega, by omega, by omega⟩
        ·intro hh; omega
      ·rw [bne_eq_false_iff_eq] at h1
       simp only [Bool.false_eq_true, decide_eq_true_eq, false_iff]
       rintro ⟨h0, hh⟩
       rw [endq h0, Bool.and_eq_true, bne_iff_ne, bne_iff_ne] at hh
       rw [hl, if_neg (by omega)] at h1
       omega
     rintro _ _ ⟨rfl, rfl⟩
     refine Ac (λ hq => ?_) (λ hq => ?_)
     ·obtain ⟨h0, hq⟩ := of_decide_eq_true hq
      obtain ⟨d, hd⟩ := Ea (C := Ag A i) (j := j - 1) (by omega)
      have e2 : ptL A f2 i j = ptL A f2 i (j - 1) ++ [d.from_] := by
       have := Uc (A := A) (f := f2) (j := j - 1) hn0
       rw [show j - 1 + 1 = j by omega, if_pos hq, hoff _ _ hd] at this
       exact this
      rw [e2, ← List.append_assoc]
      rw [show W64 ((j : Int) - 1) = ((j - 1 : Nat) : Int) by rw [wrap64 (by omega) (by omega)]; omega]
      have := hp2 (j - 1)
      refine Nr hyU hd λ p => Cc λ b w1 e1 n1 hb1 _ => Bt2 (tw2.ext e1) n1 (by rw [List.length_append]; omega) (by have := eU.size; have := e1.size; omega) λ z' w2 t2 g2 u2 => ⟨(eU.trans e1).step u2 g2, t2⟩
     ·have hq := of_decide_eq_false hq
      refine ⟨eU, ?_⟩
      have e2 : ptL A f2 i j = ptL A f2 i (j - 1) := by
       by_cases h0 : j = 0
       ·rw [h0]
       ·have := Uc (A := A) (f := f2) (j := j - 1) hn0
        rw [show j - 1 + 1 = j by omega, if_neg (λ hh => hq ⟨by omega, hh⟩), List.append_nil] at this
        exact this
      rw [e2]; exact tw2
    rintro ⟨z3, _⟩ T ⟨eT, tw3⟩
    dsimp only at tw3 ⊢
    refine Ae (λ x T' => Ext w T' /\ Two T' w.heap.size x.1 z3 (mkL A f1 i ++ ptL A f1 i (j + 1)) (mkL A f2 i ++ ptL A f2 i j)) ?_ (λ x T' hx => ⟨⟨j + 1, ?_, by omega, hx.1, by rw [Nat.add_sub_cancel]; exact hx.2⟩, by omega⟩)
    ·refine Ae (λ x T' => x = (f1 (i, j), ()) /\ T = T') ?_ ?_
     ·have hl : Qr (Ag A i) big j = if j = 0 then 0 else Fg (Ag A i) (j - 1) big := rfl
      refine Ac (λ h1 => ⟨Au ?_, rfl⟩) (λ h1 => ⟨Au ?_, rfl⟩)
      ·rw [bne_iff_ne] at h1
       rw [bne_iff_ne, begq, Bool.and_eq_true, Bool.or_eq_true, bne_iff_ne, bne_iff_ne, beq_iff_eq]
       constructor
       ·intro hh
        refine ⟨by omega, ?_⟩
        by_cases h0 : j = 0
        ·exact .inl h0
        ·rw [hl, if_neg h0] at h1
         right; omega
       ·intro hh; omega
      ·rw [bne_eq_false_iff_eq] at h1
       rw [begq, Bool.and_eq_true, Bool.or_eq_true, bne_iff_ne, bne_iff_ne, beq_iff_eq]
       simp only [Bool.false_eq_true, false_iff]
       rintro ⟨g1, g2⟩
       rw [hl] at h1
       by_cases h0 : j = 0
       ·rw [if_pos h0] at h1; omega
       ·rw [if_neg h0] at h1
        rcases g2 with g2 | g2 <;> omega
     rintro _ _ ⟨rfl, rfl⟩
     have hs1 := Uc (A := A) (f := f1) (j := j) hn0
     rw [hs1]
     refine Ac (λ hq => ?_) (λ hq => ?_)
     ·have hq : f1 (i, j) = true := hq
      rw [if_pos hq, hoff _ _ hcc, ← List.append_assoc]
      have := hp1 j
      refine Nr (hy.ext eT) hcc λ p => Cc λ b w1 e1 n1 hb1 _ => Bt3 (tw3.ext e1) n1 (by rw [List.length_append]; omega) (by have := eT.size; have := e1.size; omega) λ r' w2 t2 g2 u2 => ⟨(eT.trans e1).step u2 g2, t2⟩
     ·have hq : f1 (i, j) = false := hq
      rw [hq, if_neg (by decide), List.append_nil]
      exact ⟨eT, tw3⟩
    ·unfold Qr
     rw [if_neg (by omega), Nat.add_sub_cancel]
   ·simp only [decide_eq_false_iff_not] at hc2
    obtain rfl : j = n := by omega
    exact ⟨rfl, eU, tw2⟩
  rintro ⟨r2, z2, lk, _⟩ U ⟨he, eU, tw2⟩
  dsimp only at tw2 he ⊢
  subst he
  rw [Y9, Y9, hn]
  refine Ac (λ hq => ?_) (λ hq => ?_)
  ·rw [bne_iff_ne] at hq
   have hn0 : n ≠ 0 := λ h0 => hq (by rw [h0]; rfl)
   obtain ⟨d, hd⟩ := Ea (C := Ag A i) (j := n - 1) (by omega)
   have hl : Qr (Ag A i) big n = Fg (Ag A i) (n - 1) big := by unfold Qr; rw [if_neg hn0]
   rw [hl] at hq
   have hf : f2 (i, n - 1) = true := by
    rw [← hf2]
    unfold enM Qv
    dsimp only
    rw [hn, show (n != 0) = true by simp; omega, show (n == 0) = false by simp; omega, show decide (n - 1 < n) = true by simp; omega, show n - 1 + 1 = n by omega, show (n == n) = true by simp, show (Fg (Ag A i) (n - 1) big != 0) = true by rw [bne_iff_ne]; omega]
    rfl
   have e2 : ptL A f2 i n = ptL A f2 i (n - 1) ++ [d.from_] := by
    have := Uc (A := A) (f := f2) (i := i) (j := n - 1) (by omega)
    rw [show n - 1 + 1 = n by omega, if_pos hf, hoff _ _ hd] at this
    exact this
   rw [e2, ← List.append_assoc]
   rw [show W64 (((y.len : Nat) : Int) - 1) = ((n - 1 : Nat) : Int) by rw [wrap64 (by omega) (by omega)]; omega]
   have := hp2 (n - 1)
   refine Nr (hy.ext eU) hd λ p => Cc λ b w1 e1 n1 hb1 _ => Bt2 (tw2.ext e1) n1 (by rw [List.length_append]; omega) (by have := eU.size; have := e1.size; omega) λ z' w2 t2 g2 u2 => ⟨(eU.trans e1).step u2 g2, t2⟩
  ·rw [bne_eq_false_iff_eq] at hq
   refine ⟨eU, ?_⟩
   have e2 : ptL A f2 i n = ptL A f2 i (n - 1) := by
    by_cases h0 : n = 0
    ·rw [h0]
    ·have hl : Qr (Ag A i) big n = Fg (Ag A i) (n - 1) big := by unfold Qr; rw [if_neg h0]
     rw [hl] at hq
     have hf : f2 (i, n - 1) = false := by
      rw [← hf2]
      unfold enM Qv
      dsimp only
      rw [hn, show (n == 0) = false by simp; omega, show (Fg (Ag A i) (n - 1) big != 0) = false by rw [bne_eq_false_iff_eq]; omega]
      simp
     have := Uc (A := A) (f := f2) (i := i) (j := n - 1) (by omega)
     rw [show n - 1 + 1 = n by omega, hf, if_neg (by decide), List.append_nil] at this
     exact this
   rw [e2]; exact tw2
 ·simp only [decide_eq_false_iff_not] at hc
  obtain rfl : i = lnN A := by omega
  exact ⟨eW, tw⟩
end
section
variable {w w' : World} {q : Nat} {A : List Int} {i : Nat}
theorem Bg1 {l : List Nat} {j x : Nat} (h : l[j]? = some x) : (nI l)[((j : Int)).toNat]? = some (x : Int) := by rw [Int.toNat_natCast, List.getElem?_map, h]; rfl
theorem Ug {s : Sl} {t : TypeId} {l : List Nat} (hs : Bh w s t 1 (iv (nI l))) (hl : l.length < 2 ^ 40) {m k : Nat} (hk : 1 <= k /\ k <= 9999) {K : Int -> Wp} (hK : K (Az4 (Gn l m k)) w) :
  Aa Tryz.prog 99 #[s.v, .int .i64 (m : Int), .int .i64 (k : Int)] rI K w := by
 refine A99 ?_
 unfold F99
 have hsl := hs.len1
 rw [List.length_map, List.length_map] at hsl
 unfold Gn at hK
 obtain ⟨P, hP⟩ : ∃ P : Nat -> Bool, (λ x => decide (m <= x)) = P := ⟨_, rfl⟩
 rw [hP] at hK
 obtain ⟨tg, htg⟩ : ∃ tg, (l.filter P)[k - 1]? = tg := ⟨_, rfl⟩
 rw [htg] at hK
 refine Ae (λ _ W => w = W /\ tg = none) ?_ (by rintro _ _ ⟨rfl, rfl⟩; exact hK)
 refine Aw (λ x W => ∃ j k' : Nat, x = ((k' : Int), (j : Int), ()) /\ w = W /\ j <= l.length /\ 1 <= k' /\ k' <= 9999 /\ ((l.drop j).filter P)[k' - 1]? = tg) (λ x _ => ((l.length : Int) - x.2.1).toNat) ⟨0, k, rfl, rfl, Nat.zero_le _, hk.1, hk.2, htg⟩ ?_
 rintro _ _ ⟨j, k', rfl, rfl, hj, hk1, hk2, hu⟩
 dsimp only
 refine Ac (λ hc => ?_) (λ hc => ?_)
 ·simp only [decide_eq_true_eq] at hc
  obtain ⟨x, hx⟩ : ∃ x, l[j]? = some x := ⟨_, List.getElem?_eq_getElem (by omega)⟩
  have hd : l.drop j = x :: l.drop (j + 1) := by
   rw [List.drop_eq_getElem_cons (by omega)]
   rw [(List.getElem?_eq_some_iff.1 hx).2]
  rw [hd] at hu
  have hpx : P x = decide (m <= x) := by rw [← hP]
  rw [Ao8 (by omega), show W64 ((k' : Int) - 1) = ((k' - 1 : Nat) : Int) by rw [wrap64 (by omega) (by omega)]; omega]
  refine Ae (λ z W => z = (((if m <= x then k' - 1 else k' : Nat) : Int), ()) /\ w = W /\ (m <= x -> k' ≠ 1)) ?_ ?_
  ·refine Fh (c := .int .i64) (xs := nI l) hs (Int.natCast_nonneg j) (Bg1 hx) λ p => Ac (λ he => ?_) (λ he => ?_)
   ·simp only [decide_eq_true_eq, ge_iff_le] at he
    have he : m <= x := by omega
    rw [decide_eq_true he] at hpx
    rw [List.filter_cons_of_pos hpx] at hu
    refine Ac (λ h1 => ?_) (λ h1 => ⟨by rw [if_pos he], rfl, λ _ => ?_⟩)
    ·rw [beq_iff_eq] at h1
     obtain rfl : k' = 1 := by omega
     refine Fh (c := .int .i64) (xs := nI l) hs (Int.natCast_nonneg j) (Bg1 hx) λ p => ?_
     have hu : some x = tg := hu
     rw [← hu] at hK; exact hK
    ·rw [beq_eq_false_iff_ne] at h1; omega
   ·simp only [decide_eq_false_iff_not, ge_iff_le] at he
    exact ⟨by rw [if_neg (by omega)], rfl, λ hh => absurd hh (by omega)⟩
  rintro _ _ ⟨rfl, rfl, h1⟩
  refine ⟨⟨j + 1, if m <= x then k' - 1 else k', rfl, rfl, by omega, by split <;> omega, by split <;> omega, ?_⟩, by omega⟩
  by_cases he : m <= x
  ·have := h1 he
   rw [decide_eq_true he] at hpx
   rw [List.filter_cons_of_pos hpx] at hu
   rw [if_pos he]
   obtain ⟨k2, rfl⟩ : ∃ k2, k' = k2 + 2 := ⟨k' - 2, by omega⟩
   exact hu
  ·rw [decide_eq_false he] at hpx
   rw [List.filter_cons_of_neg (by rw [hpx]; decide)] at hu
   rw [if_neg he]; exact hu
 ·simp only [decide_eq_false_iff_not] at hc
  refine ⟨rfl, ?_⟩
  rw [← hu, List.drop_eq_nil_of_le (by omega)]; rfl
theorem Ye {s : Sl} {t : TypeId} {l : List Nat} (hs : Bh w s t 1 (iv (nI l))) (hl : l.length < 2 ^ 40) {m k : Nat} (hk : 1 <= k /\ k <= 9999) {K : Int -> Wp} (hK : K (Az4 (beforeL l m k)) w) :
  Aa Tryz.prog 100 #[s.v, .int .i64 (m : Int), .int .i64 (k : Int)] rI K w := by
 refine Ds8 ?_
 unfold F100
 have hsl := hs.len1
 rw [List.length_map, List.length_map] at hsl
 unfold beforeL at hK
 obtain ⟨P, hP⟩ : ∃ P : Nat -> Bool, (λ x => decide (x < m)) = P := ⟨_, rfl⟩
 rw [hP] at hK
 obtain ⟨tg, htg⟩ : ∃ tg, (l.filter P).reverse[k - 1]? = tg := ⟨_, rfl⟩
 rw [htg] at hK
 refine Ae (λ _ W => w = W /\ tg = none) ?_ (by rintro _ _ ⟨rfl, rfl⟩; exact hK)
 rw [show W64 (((s.len : Nat) : Int) - 1) = (l.length : Int) - 1 by rw [wrap64 (by omega) (by omega)]; omega]
 refine Aw (λ x W => ∃ n k' : Nat, x = ((k' : Int), (n : Int) - 1, ()) /\ w = W /\ n <= l.length /\ 1 <= k' /\ k' <= 9999 /\ ((l.take n).filter P).reverse[k' - 1]? = tg) (λ x _ => (x.2.1 + 1).toNat) ⟨l.length, k, rfl, rfl, Nat.le_refl _, hk.1, hk.2, by rw [List.take_length]; exact htg⟩ ?_
 rintro _ _ ⟨n, k', rfl, rfl, hj, hk1, hk2, hu⟩
 dsimp only
 refine Ac (λ hc => ?_) (λ hc => ?_)
 ·simp only [decide_eq_true_eq, ge_iff_le] at hc
  obtain ⟨j, rfl⟩ : ∃ j, n = j + 1 := ⟨n - 1, by omega⟩
  rw [show ((j + 1 : Nat) : Int) - 1 = (j : Int) by omega]
  obtain ⟨x, hx⟩ : ∃ x, l[j]? = some x := ⟨_, List.getElem?_eq_getElem (by omega)⟩
  have hd : l.take (j + 1) = l.take j ++ [x] := by rw [List.take_add_one, hx]; rfl
  rw [hd, List.filter_append, List.reverse_append] at hu
  have hpx : P x = decide (x < m) := by rw [← hP]
  rw [show W64 ((j : Int) - 1) = (j : Int) - 1 by rw [wrap64 (by omega) (by omega)], show W64 ((k' : Int) - 1) = ((k' - 1 : Nat) : Int) by rw [wrap64 (by omega) (by omega)]; omega]
  refine Ae (λ z W => z = (((if x < m then k' - 1 else k' : Nat) : Int), ()) /\ w = W /\ (x < m -> k' ≠ 1)) ?_ ?_
  ·refine Fh (c := .int .i64) (xs := nI l) hs (Int.natCast_nonneg j) (Bg1 hx) λ p => Ac (λ he => ?_) (λ he => ?_)
   ·simp only [decide_eq_true_eq] at he
    have he : x < m := by omega
    rw [decide_eq_true he] at hpx
    rw [List.filter_cons_of_pos hpx] at hu
    refine Ac (λ h1 => ?_) (λ h1 => ⟨by rw [if_pos he], rfl, λ _ => ?_⟩)
    ·rw [beq_iff_eq] at h1
     obtain rfl : k' = 1 := by omega
     refine Fh (c := .int .i64) (xs := nI l) hs (Int.natCast_nonneg j) (Bg1 hx) λ p => ?_
     have hu : some x = tg := hu
     rw [← hu] at hK; exact hK
    ·rw [beq_eq_false_iff_ne] at h1; omega
   ·simp only [decide_eq_false_iff_not] at he
    exact ⟨by rw [if_neg (by omega)], rfl, λ hh => absurd hh (by omega)⟩
  rintro _ _ ⟨rfl, rfl, h1⟩
  refine ⟨⟨j, if x < m then k' - 1 else k', rfl, rfl, by omega, by split <;> omega, by split <;> omega, ?_⟩, by omega⟩
  by_cases he : x < m
  ·have := h1 he
   rw [decide_eq_true he] at hpx
   rw [List.filter_cons_of_pos hpx] at hu
   rw [if_pos he]
   obtain ⟨k2, rfl⟩ : ∃ k2, k' = k2 + 2 := ⟨k' - 2, by omega⟩
   exact hu
  ·rw [decide_eq_false he] at hpx
   rw [List.filter_cons_of_neg (by rw [hpx]; decide)] at hu
   rw [if_neg he]; exact hu
 ·simp only [decide_eq_false_iff_not, ge_iff_le] at hc
  refine ⟨rfl, ?_⟩
  rw [← hu, show n = 0 by omega]; rfl
theorem Zv (hA : A.length <= 1048576) (f : Nat × Nat -> Bool) : (Bo A f).length < 2 ^ 40 /\ ∀ x ∈ Bo A f, x <= A.length := by
 have hm : ∀ x ∈ Bo A f, x <= A.length := λ x hx => (Ax4 hx true).len
 refine ⟨?_, hm⟩
 have hr := Ba1 A f
 have key : ∀ (l : List Nat) (n : Nat), l.Pairwise (· < ·) -> (∀ x ∈ l, n <= x /\ x <= A.length) -> l.length + n <= A.length + 1 \/ l = [] := by
  intro l
  induction l with
  | nil => intro n _ _; exact .inr rfl
  | cons a l ih =>
   intro n hp hb
   left
   rw [List.pairwise_cons] at hp
   have ha := hb a List.mem_cons_self
   rcases ih (a + 1) hp.2 (λ x hx => ⟨hp.1 x hx, (hb x (List.mem_cons_of_mem _ hx)).2⟩) with h | h
   ·rw [List.length_cons]; omega
   ·rw [h]; simp; omega
 rcases key (Bo A f) 0 hr (λ x hx => ⟨Nat.zero_le _, hm x hx⟩) with h | h
 ·omega
 ·rw [h]; simp
theorem Vq {l : List Nat} {m k x : Nat} (h : beforeL l m k = some x) : x < m := by
 have := List.mem_of_getElem? h
 rw [List.mem_reverse, List.mem_filter, decide_eq_true_eq] at this
 exact this.2
set_option maxHeartbeats 2000000 in
theorem Aq4 (h : Ip w q A) {x kind count arg : Int} {past : Bool} {K : LdT -> Wp} (hK : ∀ w', Ext w w' -> K (ldT (Xa A x kind count past)) w') :
  Aa Tryz.prog 46 #[.pointer (some (at0 q)), .int .i64 x, .agg (Cells.vals c48 (mvM kind count arg)).toArray, .bool past] (.tup [(.agg c83), (.one (.int .i64))]) K w := by
 refine A46 (a2 := mvM kind count arg) ?_
 unfold F46
 have hA := h.len; have hbl := Me A; have hb := Bq A
 refine (St.start w).Af λ b1 w1 S1 e1 => S1.Af λ b2 w2 S2 e2 => ?_
 have S2 : St (λ _ => False) w w2 [(b2, ldZ), (b1, Yi kind count arg)] := S2
 have h2 := h.ext S2.upd
 obtain ⟨v, hv⟩ : ∃ v, Xa A x kind count past = v := ⟨_, rfl⟩
 rw [hv] at hK
 unfold Xa at hv
 dsimp only at hv
 have hle := By7 A x past
 refine Aq8 h2 ?_
 obtain ⟨s, hs⟩ : ∃ s, Az A x past = s := ⟨_, rfl⟩
 rw [hs] at hv hle
 rw [hs]
 have hkr := Cf2 count
 refine S2.lds 1 (mvM kind count arg) rfl (Aq5 λ w4 e4 => ?_)
 have S4 := S2.ext e4
 have h4 := h.ext S4.upd
 obtain ⟨k, hk⟩ : ∃ k, kOf count = k := ⟨_, rfl⟩
 rw [hk] at hv hkr
 rw [hk]
 obtain ⟨big, hbig⟩ : ∃ big, decide ((25 <= kind /\ kind <= 28) \/ kind = 30) = big := ⟨_, rfl⟩
 rw [hbig] at hv
 refine Ae (λ z W => z = (big, ()) /\ w4 = W) ?_ ?_
 ·rw [← hbig]
  refine S4.ld (off := 0) 1 rfl (x := kind) rfl (Ac (λ h1 => S4.ld (off := 0) 1 rfl (x := kind) rfl (Ac (λ h2 => ⟨Au ?_, rfl⟩) (λ h2 => S4.ld (off := 0) 1 rfl (x := kind) rfl ⟨Au ?_, rfl⟩))) (λ h1 => S4.ld (off := 0) 1 rfl (x := kind) rfl ⟨Au ?_, rfl⟩))
  all_goals simp only [decide_eq_true_eq, decide_eq_false_iff_not, ge_iff_le, beq_iff_eq, true_iff] at *
  all_goals omega
 rintro _ _ ⟨rfl, rfl⟩
 have ewl : W64 ((lnN A : Int) - 1) = ((lnN A - 1 : Nat) : Int) := by rw [wrap64 (by omega) (by omega)]; omega
 refine h4.Ab1 ?_
 rw [ewl]
 refine Y0 h4 (by omega) ?_
 have hlast : Bf A (lnN A - 1) (((Ag A (lnN A - 1)).length : Int) - 1) = Gm A := rfl
 rw [hlast]
 obtain ⟨m1, m2⟩ := Zv hA (Ol A big)
 obtain ⟨m3, m4⟩ := Zv hA (Qv A big)
 obtain ⟨m5, m6⟩ := Zv hA (Md A big)
 have es : W64 ((s : Int) + 1) = ((s + 1 : Nat) : Int) := Ao8 (by omega)
 have fno : ∀ {e : Int} {W : World}, St (λ _ => False) w W [(b2, ldZ), (b1, Yi kind count arg)] -> v = noP e -> Aa Tryz.prog 92 #[.int .i64 e] (.tup [(.agg c83), (.one (.int .i64))]) (λ z => Ad (at0 b2) (.agg (Cells.vals c83 z.1).toArray) 3 (lds c83 (at0 b2) λ y => K (y, z.2.1, ()))) W := λ S hk => Bt7 λ w5 e5 => Am5 (S.ext e5) (by rw [← hk]; exact hK)
 have fland : ∀ {m : Nat} {kd : Int} {W : World}, St (λ _ => False) w W [(b2, ldZ), (b1, Yi kind count arg)] -> v = Dv A m kd -> Aa Tryz.prog 93 #[.pointer (some (at0 q)), .int .i64 (m : Int), .int .i64 kd] (.tup [(.agg c83), (.one (.int .i64))]) (λ z => Ad (at0 b2) (.agg (Cells.vals c83 z.1).toArray) 3 (lds c83 (at0 b2) λ y => K (y, z.2.1, ()))) W := λ S hk => Az3 (h.ext S.upd) λ w5 e5 => Am5 (S.ext e5) (by rw [← hk]; exact hK)
 refine Ae (λ z W => ∃ (T : Nat) (kd : Int), z = ((T : Int), kd, ()) /\ v = (if T = s \/ ((kind = 21 \/ kind = 25 \/ kind = 23 \/ kind = 27) /\ T < s) then noP 80 else Dv A T kd) /\ St (λ _ => False) w W [(b2, ldZ), (b1, Yi kind count arg)]) ?_ ?_
 ·refine S4.ld (off := 0) 1 rfl (x := kind) rfl (Ap3 (λ hk1 => ?_) (λ hk1 => ?_))
  ·rw [if_pos hk1] at hv
   refine Ll h4 λ r z w5 o1 o2 e5 => ?_
   rw [Av3] at o1
   have S5 := S4.ext e5
   have h5 := h4.ext e5
   rw [es]
   refine Ug o1 m1 hkr ?_
   have fin : ∀ T : Nat, (Gn (Bo A (Ol A big)) (s + 1) k).getD (if past = true then (Ba A (lnN A - 1)).to_ else Gm A) = T -> v = (if T = s \/ ((kind = 21 \/ kind = 25 \/ kind = 23 \/ kind = 27) /\ T < s) then noP 80 else Dv A T 0) := λ T hT => by
    rw [hT] at hv
    rw [← hv]
    by_cases hc : T <= s
    ·rw [if_pos hc, if_pos (by omega)]
    ·rw [if_neg hc, if_neg (by omega)]
   cases ha : Gn (Bo A (Ol A big)) (s + 1) k with
   | none =>
    rw [ha] at fin
    refine Bj (Ac (λ hp => ?_) (λ hp => ?_))
    ·rw [hp] at fin
     refine S5.drew λ w6 S6 e6 _ => (h5.ext e6).Zx λ sl hsl _ => (h5.ext e6).Ab1 ?_
     rw [ewl]
     exact As2 hsl (by omega) λ p => ⟨_, 0, rfl, fin _ rfl, S6⟩
    ·rw [hp] at fin
     exact ⟨_, 0, rfl, fin _ rfl, S5⟩
   | some T =>
    rw [ha] at fin
    rw [show Az4 (some T) = (T : Int) from rfl]
    refine Ac (λ hc => by simp only [decide_eq_true_eq] at hc; omega) (λ _ => ⟨T, 0, rfl, fin T rfl, S5⟩)
  rw [if_neg hk1] at hv
  refine Ap3 (λ hk2 => ?_) (λ hk2 => ?_)
  ·rw [if_pos hk2] at hv
   refine Ll h4 λ r z w5 o1 o2 e5 => ?_
   rw [Av3] at o1
   have S5 := S4.ext e5
   refine Ye o1 m1 hkr ?_
   refine ⟨(beforeL (Bo A (Ol A big)) s k).getD 0, 0, ?_, ?_, S5⟩
   ·cases hbf : beforeL (Bo A (Ol A big)) s k with
    | none => rfl
    | some T => rw [show Az4 (some T) = (T : Int) from rfl, if_neg (by omega)]; rfl
   ·rw [← hv]
    by_cases h0 : s = 0
    ·have : beforeL (Bo A (Ol A big)) s k = none := by
      cases hbf : beforeL (Bo A (Ol A big)) s k with
      | none => rfl
      | some T => have := Vq hbf; omega
     rw [if_pos h0, this, if_pos (.inl (by rw [h0]; rfl))]
    ·rw [if_neg h0, if_neg]
     intro hh
     cases hbf : beforeL (Bo A (Ol A big)) s k with
     | none =>
      rw [hbf] at hh
      have : (none : Option Nat).getD 0 = 0 := rfl
      omega
     | some T =>
      rw [hbf] at hh
      have := Vq hbf
      have : (some T).getD 0 = T := rfl
      omega
  rw [if_neg hk2] at hv
  refine Ap3 (λ hk3 => ?_) (λ hk3 => ?_)
  ·rw [if_pos hk3] at hv
   refine Ll h4 λ r z w5 o1 o2 e5 => ?_
   rw [Ah5] at o2
   have S5 := S4.ext e5
   rw [es]
   refine Ug o2 m5 hkr ?_
   have fin : ∀ T : Nat, (Gn (Bo A (Md A big)) (s + 1) k).getD (Gm A) = T -> v = (if T = s \/ ((kind = 21 \/ kind = 25 \/ kind = 23 \/ kind = 27) /\ T < s) then noP 80 else Dv A T 1) := λ T hT => by
    rw [hT] at hv
    rw [← hv]
    by_cases hc : T <= s
    ·rw [if_pos hc, if_pos (by omega)]
    ·rw [if_neg hc, if_neg (by omega)]
   cases ha : Gn (Bo A (Md A big)) (s + 1) k with
   | none =>
    rw [ha] at fin
    exact Bj ⟨_, 1, rfl, fin _ rfl, S5⟩
   | some T =>
    rw [ha] at fin
    rw [show Az4 (some T) = (T : Int) from rfl]
    exact Ac (λ hc => by simp only [decide_eq_true_eq] at hc; omega) (λ _ => ⟨T, 1, rfl, fin T rfl, S5⟩)
  rw [if_neg hk3] at hv
  refine Ap3 (λ hk4 => ?_) (λ hk4 => ?_)
  ·rw [if_pos hk4] at hv
   refine Ll h4 λ r z w5 o1 o2 e5 => ?_
   rw [Bx7] at o2
   have S5 := S4.ext e5
   refine Ye o2 m3 hkr ?_
   refine ⟨(beforeL (Bo A (Qv A big)) s k).getD 0, 1, ?_, ?_, S5⟩
   ·cases hbf : beforeL (Bo A (Qv A big)) s k with
    | none => rfl
    | some T => rw [show Az4 (some T) = (T : Int) from rfl, if_neg (by omega)]; rfl
   ·rw [← hv]
    by_cases h0 : s = 0
    ·have : beforeL (Bo A (Qv A big)) s k = none := by
      cases hbf : beforeL (Bo A (Qv A big)) s k with
      | none => rfl
      | some T => have := Vq hbf; omega
     rw [if_pos h0, this, if_pos (.inl (by rw [h0]; rfl))]
    ·rw [if_neg h0, if_neg]
     intro hh
     cases hbf : beforeL (Bo A (Qv A big)) s k with
     | none =>
      rw [hbf] at hh
      have : (none : Option Nat).getD 0 = 0 := rfl
      omega
     | some T =>
      rw [hbf] at hh
      have := Vq hbf
      have : (some T).getD 0 = T := rfl
      omega
  rw [if_neg hk4] at hv
  refine Ap3 (λ hk5 => ?_) (λ hk5 => ?_)
  ·rw [if_pos hk5] at hv
   refine Ll h4 λ r z w5 o1 o2 e5 => ?_
   rw [Ah5] at o2
   have S5 := S4.ext e5
   refine Ug o2 m5 hkr ?_
   refine Ae (λ z W => z = ((((Gn (Bo A (Md A big)) s k).getD (max (Gm A) s) : Nat) : Int), ()) /\ w5 = W) ?_ ?_
   ·cases ha : Gn (Bo A (Md A big)) s k with
    | none =>
     refine Bj ⟨?_, rfl⟩
     congr 1
     show _ = ((max (Gm A) s : Nat) : Int)
     split <;> omega
    | some T =>
     rw [show Az4 (some T) = (T : Int) from rfl]
     exact Ac (λ hc => by simp only [decide_eq_true_eq] at hc; omega) (λ _ => ⟨rfl, rfl⟩)
   rintro _ _ ⟨rfl, rfl⟩
   exact fland S5 hv.symm
  rw [if_neg hk5] at hv
  exact fno S4 hv.symm
 rintro _ w6 ⟨T, kd, rfl, hvv, S6⟩
 refine Ae (λ z W => z = (decide (kind = 21 \/ kind = 25 \/ kind = 23 \/ kind = 27), ()) /\ w6 = W) ?_ ?_
 ·refine S6.ld (off := 0) 1 rfl (x := kind) rfl (Ac (λ h1 => ⟨Au ?_, rfl⟩) (λ h1 => S6.ld (off := 0) 1 rfl (x := kind) rfl (Ac (λ h2 => ⟨Au ?_, rfl⟩) (λ h2 => S6.ld (off := 0) 1 rfl (x := kind) rfl (Ac (λ h3 => ⟨Au ?_, rfl⟩) (λ h3 => S6.ld (off := 0) 1 rfl (x := kind) rfl ⟨Au ?_, rfl⟩))))))
  all_goals simp only [decide_eq_true_eq, beq_iff_eq, beq_eq_false_iff_ne, ne_eq, true_iff] at *
  all_goals omega
 rintro _ _ ⟨rfl, rfl⟩
 refine Ae (λ z W => z = (decide (T = s \/ ((kind = 21 \/ kind = 25 \/ kind = 23 \/ kind = 27) /\ T < s)), ()) /\ w6 = W) ?_ ?_
 ·refine Ac (λ h1 => ⟨Au ?_, rfl⟩) (λ h1 => Ac (λ h2 => ⟨Au ?_, rfl⟩) (λ h2 => ⟨Au ?_, rfl⟩))
  ·rw [beq_iff_eq] at h1
   simp only [true_iff, decide_eq_true_eq]; omega
  ·rw [beq_eq_false_iff_ne] at h1
   have h2 := of_decide_eq_true h2
   simp only [decide_eq_true_eq]; omega
  ·rw [beq_eq_false_iff_ne] at h1
   have h2 := of_decide_eq_false h2
   simp only [Bool.false_eq_true, false_iff, decide_eq_true_eq]; omega
 rintro _ _ ⟨rfl, rfl⟩
 refine Ac (λ hc => ?_) (λ hc => ?_)
 ·rw [if_pos (of_decide_eq_true hc)] at hvv
  exact fno S6 hvv
 ·rw [if_neg (of_decide_eq_false hc)] at hvv
  exact fland S6 hvv
end
section
variable {w w' : World} {p q : Nat} {A : List Int} {a : Tq}
theorem Bq0 (hk : a.kind = 6) : Ck4 a := by
 intro w p q A K hg tx pg hK
 refine A18 (a2 := An8 a) ?_
 unfold F18
 refine (St.start w).Af λ b1 w1 S1 e1 => ?_
 have S1 : St (λ _ => False) w w1 [(b1, Cb0 a)] := S1
 refine S1.ld (off := 0) 0 rfl (x := a.kind) rfl ?_
 rw [hk]
 refine Am (Am (Am (Am (Am (Bj (S1.ld (off := 1) 0 rfl (x := a.at_) rfl (Av6 (S1.at_ 0 rfl) (S1.ld (off := 6) 0 rfl (x := a.past) rfl (Ar3 (tx.ext S1.upd) λ w2 e2 => ?_)))))))))
 obtain ⟨l, hl⟩ : ∃ l, Xa A a.at_ a.mkd a.count a.past = l := ⟨_, rfl⟩
 rw [hl]
 refine (S1.ext e2).Mc rfl rfl rfl λ b3 w3 S3 e3 => ?_
 have S3 : St (λ _ => False) w w3 [(b3, ldX l), (b1, Cb0 a)] := S3
 refine S3.ld (off := 1) 1 rfl (x := a.at_) rfl (Av6 (S3.at_ 1 rfl) (S3.ld (off := 6) 1 rfl (x := a.past) rfl (Aq4 (pg.ext S3.upd) λ w4 e4 => ?_)))
 rw [hl]
 refine (S3.ext e4).Mc rfl rfl rfl λ b5 w5 S5 e5 => ?_
 have S5 : St (λ _ => False) w w5 [(b5, ldX l), (b3, ldX l), (b1, Cb0 a)] := S5
 exact S5.lds 1 (ldT l).1 rfl (S5.lds 0 (ldT l).1 rfl (Ay2 λ w6 e6 => hK w6 (S5.ext e6).upd))
theorem Ao3 {y : Cells.T c26} {c : Int} {l : List UInt8} {L : List (List LEd)} {al : List Tq} (h : Tj w y c l L al) (hg : Brk w) {K : Bool -> Wp} (hK : ∀ w', Ext w w' -> K true w') : Aa Tryz.prog 6 #[.agg (Cells.vals c26 y).toArray] rB K w := by
 refine A6 (a0 := y) ?_
 unfold F6
 refine (St.start w).Af λ b1 w1 S1 e1 => ?_
 have S1 : St (λ _ => False) w w1 [(b1, lkO y)] := S1
 refine S1.lds 0 y rfl (Aw3 (h.Co5 e1) (hg.ext e1) (λ a h1 h2 => Bq0 (by omega)) λ w2 e2 => hK w2 (S1.ext e2).upd)
end
end Go.Proofs.YtolhlldgnfbemaaGreatDoor
namespace Go.Proofs.YtolhlldgnfbemaaGreatDoor
open Go Go.Vx Go.ChangeShapes Go.WideShapes Go.RowKit
theorem Vw (os : Os) {H : Type} (enc : TypeId × Value -> H) :
  (Rows.OpenSpec.upto Rows.motionWordsSpec).preRow enc Tryz.prog Tryz.f6 Rows.motionWordsUptoRow.domain false laidB ((laidWorld os).forCall (λ _ _ => 0) ⟨#[], #[look0], []⟩).memory #[look0] := by
 have hw : (DataW.whole enc Tryz.prog ((laidWorld os).forCall (λ _ _ => 0) ⟨#[], #[look0], []⟩).memory Tryz.f6.params.toList (Rows.OpenSpec.upto Rows.motionWordsSpec).vars false #[look0].toList 8).map (λ x => (x.1, x.2.1)) =
   some ([.agg [.lit (.int .i64 0), .nil, .nil, .nil]], []) := by kernel_rfl
 obtain ⟨⟨x1, x2, x3⟩, hx, hx1⟩ := Option.map_eq_some_iff.1 hw
 simp only [Prod.mk.injEq] at hx1
 obtain ⟨rfl, rfl⟩ := hx1
 exact OpenSpec.preRow_of_cond 8 hx (by kernel_rfl) (λ k hk => by cases hk; kernel_rfl) (by kernel_rfl) (laid_met os _)
set_option maxRecDepth 100000 in
set_option maxHeartbeats 2000000 in
theorem Xg (os : Os) (started : os.Started) (H : Type) (enc : TypeId × Value -> H) (F : Stop.Interp) :
  ReturnsInHanded {} Tryz.checked os 6 .any ((Rows.OpenSpec.upto Rows.motionWordsSpec).preRow enc Tryz.prog Tryz.f6 Rows.motionWordsUptoRow.domain false laidB) (((Rows.OpenSpec.upto Rows.motionWordsSpec).at F).post enc Tryz.prog Tryz.f6 false true false false) := by
 refine returnsInHanded_of_row (C := Tryz.checked) (s := Rows.OpenSpec.upto Rows.motionWordsSpec) Tryz.own started (by kernel_rfl) Tryz.func6
  (witness_row_atRef (enc := enc) (C := Tryz.checked) false (laidWorld os) #[look0] rfl (by kernel_rfl) (by kernel_rfl) (by kernel_rfl) (Vw os enc)) ?_
 intro W base args ds gs before hval0 hW _ hk hwt0 hL _ _
 have hval : ∀ (j : Nat) t v, Tryz.f6.params[j]? = some t -> args[j]? = some v -> Value.okWide Tryz.prog W .any base t v := hval0
 have hwt : (DataW.weightsEach Tryz.prog (Tryz.f6.params.toList ++ []) (ds ++ gs)).all (· <= reachBytes) = true := hwt0
 have hW' := hW
 obtain ⟨p, q, hA0, hV, rfl, hfz, hnd⟩ := hW
 have hA : DataW.TrodAll enc Tryz.prog W 0 (λ _ => true) true Tryz.f6.params.toList args.toList ds p := hA0
 clear hA0 hval0 hwt0
 rw [Tryz.params6] at hA hval hwt
 obtain ⟨rfl, rfl⟩ := trodVars_none hV
 obtain ⟨hn1, hn2, hT⟩ := H8 hA
 obtain ⟨v0, hv⟩ := Bv8 args.toList hn1
 obtain rfl : args = #[v0] := by cases args; simp_all
 obtain ⟨d0, rfl⟩ := Bv8 ds hn2
 have hbulk : bulk d0 <= 1048576 := by
  have h : Rows.uptoBulkAll ([d0] ++ []) <= 1048576 := of_decide_eq_true (hk _ rfl)
  simp only [List.append_nil, Rows.uptoBulkAll] at h
  show Rows.uptoBulk d0 <= _
  omega
 obtain ⟨p0, q0⟩ := hT 0 26 v0 d0 rfl rfl rfl
 obtain ⟨y, c, l, L, al, rfl, hLk⟩ := Cb2 (hval 0 26 v0 rfl rfl) q0 (weigh hwt 0 rfl rfl) hbulk
 have walk := Ao3 hLk (Av0 hL) (K := λ r w' => r = true /\ Ext W w') λ w' e => ⟨rfl, e⟩
 refine walk.mono λ e W' ⟨x, he, hx, hext⟩ => ⟨.bool true, ?_, ?_⟩
 ·subst hx; exact he
 ·exact Bl0 (s := Rows.motionWordsSpec) hW' rfl rfl u4 rfl Tryz.laidOut (λ t ht => by
   rw [Tryz.params6] at ht
   have ht : t ∈ [26] := ht
   simp only [List.mem_cons, List.not_mem_nil, or_false] at ht
   exact recs ht) hext
theorem O9 : Rows.MotionWordsUptoSaid :=
 OpenClaim.holds_of_cond 6 Tryz.f6 rfl rfl rfl rfl rfl rfl rfl ⟨rfl, rfl, rfl, rfl, rfl⟩ rfl rfl rfl rfl rfl (by kernel_rfl) Tryz.func6 (by kernel_rfl)
  (of_decide_eq_true (by kernel_rfl)) (by unfold Func.isWrapper; rw [if_neg (by decide +kernel)]; exact ⟨rfl, rfl⟩)
  (λ os started H enc _ F => by rw [OpenClaim.pre_eq_preRow]; exact Xg os started H enc F)
theorem motionWords_holds : Rows.MotionWordsUptoCardSaid :=
 Claim7.holds_tied_plain_at .later [] [.data] true (true, "8f74c5824d2844387da4d3f60a6cadad0d89fd3d2452e68467ab9657e16e6046") false
  O9 (λ _ h => by cases h) (by kernel_rfl) (λ _ h => by cases h) motionWordsUpto_row_tie rfl ⟨rfl, rfl⟩ (by kernel_rfl) rfl
  (λ f fn hf hfn => by
   obtain rfl : f = 6 := Option.some.inj ((show Tryz.prog.funcNamed "copyist/copyistlaw8.MotionWords" = some 6 by kernel_rfl).symm.trans hf) |>.symm
   obtain rfl : fn = Tryz.f6 := (Option.some.inj (Tryz.func6.symm.trans hfn)).symm
   exact ⟨by kernel_rfl, λ j t ht => by
    rw [Tryz.params6] at ht
    have hm : t ∈ [26] := by simpa using Array.mem_of_getElem? ht
    have hall : ([26].all λ u => !Tryz.prog.wantsStandIn u) = true := by kernel_rfl
    exact (show Tryz.prog.wantsStandIn t = false by simpa using List.all_eq_true.1 hall t hm)⟩)
  (by kernel_rfl)
end Go.Proofs.YtolhlldgnfbemaaGreatDoor
