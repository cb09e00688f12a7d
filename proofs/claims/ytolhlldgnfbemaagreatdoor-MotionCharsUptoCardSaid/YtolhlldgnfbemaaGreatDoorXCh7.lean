/- The law holds for every input: it returns true, and each argument reads behind the call as it did. Conditions: those of the form alone. -/
import Derived.Test.YtolhlldgnfbemaaGreatDoorXCh6
set_option linter.unusedVariables false
set_option linter.unusedSimpArgs false
set_option linter.unusedSectionVars false
noncomputable section
set_option maxRecDepth 100000
namespace Go.Proofs.YtolhlldgnfbemaaGreatDoor
open Go Go.Vx Cdc Trx Gly Clu Lns Obx Mot
def Bt5 : Option Nat -> Int
 | none => -1
 | some j => (j : Int)
section
variable {w w' : World} {q : Nat} {A : List Int} {i : Nat}
theorem Ak7 {y : Sl} (hy : Jk w y A i) (hyl : y.len = (Ah A i).length) (hs : (Ah A i).length <= 1048576) {c k : Nat} {a : Int} (hc : c <= (Ah A i).length) (hk : 1 <= k /\ k <= 9999) {K : Int -> Wp} (hK : K (Bt5 (Ez (Ah A i) a (upL (Ah A i).length c) k)) w) :
  Aa Tryz.prog 95 #[y.v, .int .i64 (c : Int), .int .i64 1, .int .i64 (k : Int), .int .i64 a] rI K w := by
 refine A95 ?_
 unfold F95
 rw [Ay2] at hK
 obtain ⟨n, hn⟩ : ∃ n, (Ah A i).length = n := ⟨_, rfl⟩
 rw [hn] at hyl hs hc hK
 obtain ⟨tg, htg⟩ : ∃ tg, upF (Py A i a) (c + 1) n k = tg := ⟨_, rfl⟩
 rw [htg] at hK
 refine Ae (λ _ W => w = W /\ tg = none) ?_ (by rintro _ _ ⟨rfl, rfl⟩; exact hK)
 rw [Aq2 (by omega)]
 refine Ar (λ x W => ∃ j k' : Nat, x = ((k' : Int), (j : Int), ()) /\ w = W /\ j <= n + 1 /\ 1 <= k' /\ k' <= 9999 /\ upF (Py A i a) j n k' = tg) (λ x _ => ((n : Int) + 1 - x.2.1).toNat) ⟨c + 1, k, rfl, rfl, by omega, hk.1, hk.2, htg⟩ ?_
 rintro _ _ ⟨j, k', rfl, rfl, hj, hk1, hk2, hu⟩
 dsimp only
 refine Ae (λ x W => x = (decide (j < n), ()) /\ w = W) (Ac (λ _ => ⟨Ba ?_, rfl⟩) (λ hc => by simp only [decide_eq_false_iff_not] at hc; omega)) ?_
 ·simp only [decide_eq_true_eq]; omega
 rintro _ _ ⟨rfl, rfl⟩
 refine Ac (λ hc => ?_) (λ hc => ?_)
 ·have hc := of_decide_eq_true hc
  obtain ⟨x, hx⟩ := Dt (C := Ah A i) (j := j) (by omega)
  have hh := Yl (a := a) hx
  rw [Aq2 (by omega), show W64 ((k' : Int) - 1) = ((k' - 1 : Nat) : Int) by rw [wrap64 (by omega) (by omega)]; omega]
  refine Ae (λ z W => z = (((if x.atom = a then k' - 1 else k' : Nat) : Int), ()) /\ w = W /\ (x.atom = a -> k' ≠ 1)) ?_ ?_
  ·refine Z4 hy hx λ p => Ac (λ he => ?_) (λ he => ?_)
   ·rw [beq_iff_eq] at he
    rw [decide_eq_true he] at hh
    refine Ac (λ h1 => ?_) (λ h1 => ⟨by rw [if_pos he], rfl, λ _ => ?_⟩)
    ·rw [beq_iff_eq] at h1
     obtain rfl : k' = 1 := by omega
     rw [Ax5 hc hh] at hu
     rw [← hu] at hK; exact hK
    ·rw [beq_eq_false_iff_ne] at h1; omega
   ·rw [beq_eq_false_iff_ne] at he
    exact ⟨by rw [if_neg he], rfl, λ hh => absurd hh he⟩
  rintro _ _ ⟨rfl, rfl, h1⟩
  refine ⟨⟨j + 1, if x.atom = a then k' - 1 else k', rfl, rfl, by omega, by split <;> omega, by split <;> omega, ?_⟩, by omega⟩
  by_cases he : x.atom = a
  ·have := h1 he
   rw [decide_eq_true he] at hh
   have hm := Aj1 (k := k' - 1) hc hh (by omega)
   rw [show k' - 1 + 1 = k' by omega] at hm
   rw [if_pos he, ← hm]; exact hu
  ·rw [decide_eq_false he] at hh
   rw [if_neg he, ← Bi6 hc hh]; exact hu
 ·have hc := of_decide_eq_false hc
  refine ⟨rfl, ?_⟩
  rw [← hu]; exact Aj0 (by omega)
theorem Af4 {y : Sl} (hy : Jk w y A i) (hyl : y.len = (Ah A i).length) (hs : (Ah A i).length <= 1048576) {c k : Nat} {a : Int} (hc : c <= (Ah A i).length) (hk : 1 <= k /\ k <= 9999) {K : Int -> Wp} (hK : K (Bt5 (Ez (Ah A i) a (Nj c) k)) w) :
  Aa Tryz.prog 95 #[y.v, .int .i64 (c : Int), .int .i64 (-1), .int .i64 (k : Int), .int .i64 a] rI K w := by
 refine A95 ?_
 unfold F95
 rw [Ay4] at hK
 obtain ⟨n, hn⟩ : ∃ n, (Ah A i).length = n := ⟨_, rfl⟩
 rw [hn] at hyl hs hc
 obtain ⟨tg, htg⟩ : ∃ tg, dnF (Py A i a) c k = tg := ⟨_, rfl⟩
 rw [htg] at hK
 refine Ae (λ _ W => w = W /\ tg = none) ?_ (by rintro _ _ ⟨rfl, rfl⟩; exact hK)
 have e0 : W64 ((c : Int) + (-1)) = (c : Int) - 1 := by rw [wrap64 (by omega) (by omega)]; omega
 rw [e0]
 refine Ar (λ x W => ∃ m k' : Nat, x = ((k' : Int), (m : Int) - 1, ()) /\ w = W /\ m <= n /\ 1 <= k' /\ k' <= 9999 /\ dnF (Py A i a) m k' = tg) (λ x _ => (x.2.1 + 1).toNat) ⟨c, k, rfl, rfl, hc, hk.1, hk.2, htg⟩ ?_
 rintro _ _ ⟨m, k', rfl, rfl, hj, hk1, hk2, hu⟩
 dsimp only
 refine Ae (λ x W => x = (decide (0 < m), ()) /\ w = W) (Ac (λ hc => ⟨Ba ?_, rfl⟩) (λ hc => ⟨Ba ?_, rfl⟩)) ?_
 ·simp only [decide_eq_true_eq, ge_iff_le] at hc ⊢; omega
 ·simp only [decide_eq_false_iff_not, ge_iff_le] at hc
  simp only [Bool.false_eq_true, decide_eq_true_eq, false_iff]; omega
 rintro _ _ ⟨rfl, rfl⟩
 refine Ac (λ hc => ?_) (λ hc => ?_)
 ·have hc := of_decide_eq_true hc
  obtain ⟨j, rfl⟩ : ∃ j, m = j + 1 := ⟨m - 1, by omega⟩
  have ej : ((j + 1 : Nat) : Int) - 1 = (j : Int) := by omega
  rw [ej]
  obtain ⟨x, hx⟩ := Dt (C := Ah A i) (j := j) (by omega)
  have hh := Yl (a := a) hx
  rw [show W64 ((j : Int) + (-1)) = (j : Int) - 1 by rw [wrap64 (by omega) (by omega)]; omega, show W64 ((k' : Int) - 1) = ((k' - 1 : Nat) : Int) by rw [wrap64 (by omega) (by omega)]; omega]
  refine Ae (λ z W => z = (((if x.atom = a then k' - 1 else k' : Nat) : Int), ()) /\ w = W /\ (x.atom = a -> k' ≠ 1)) ?_ ?_
  ·refine Z4 hy hx λ p => Ac (λ he => ?_) (λ he => ?_)
   ·rw [beq_iff_eq] at he
    rw [decide_eq_true he] at hh
    refine Ac (λ h1 => ?_) (λ h1 => ⟨by rw [if_pos he], rfl, λ _ => ?_⟩)
    ·rw [beq_iff_eq] at h1
     obtain rfl : k' = 1 := by omega
     rw [Bb0 hh] at hu
     rw [← hu] at hK; exact hK
    ·rw [beq_eq_false_iff_ne] at h1; omega
   ·rw [beq_eq_false_iff_ne] at he
    exact ⟨by rw [if_neg he], rfl, λ hh => absurd hh he⟩
  rintro _ _ ⟨rfl, rfl, h1⟩
  refine ⟨⟨j, if x.atom = a then k' - 1 else k', rfl, rfl, by omega, by split <;> omega, by split <;> omega, ?_⟩, by omega⟩
  by_cases he : x.atom = a
  ·have := h1 he
   rw [decide_eq_true he] at hh
   have hm := An4 (k := k' - 1) hh (by omega)
   rw [show k' - 1 + 1 = k' by omega] at hm
   rw [if_pos he, ← hm]; exact hu
  ·rw [decide_eq_false he] at hh
   rw [if_neg he, ← Bo6 hh]; exact hu
 ·have hc := of_decide_eq_false hc
  refine ⟨rfl, ?_⟩
  rw [← hu, show m = 0 by omega]; exact Bo5
theorem Bx3 {kind a b : Int} {W : World} {B C : World -> Prop} (hB : kind = a \/ kind = b -> B W) (hC : ¬ (kind = a \/ kind = b) -> C W) : join (S := Bool × Unit) (λ J => sif (kind == a) (J ((kind == a), ())) (J ((kind == b), ()))) (λ s => sif s.1 B C) W := by
 refine Ae (λ x V => x = (decide (kind = a \/ kind = b), ()) /\ W = V) (Ac (λ hc => ⟨Ba ?_, rfl⟩) (λ hc => ⟨Ba ?_, rfl⟩)) ?_
 ·rw [beq_iff_eq] at hc
  simp only [beq_iff_eq, decide_eq_true_eq]
  exact ⟨λ h => .inl h, λ _ => hc⟩
 ·rw [beq_eq_false_iff_ne] at hc
  simp only [beq_iff_eq, decide_eq_true_eq]
  exact ⟨λ h => .inr h, λ h => h.resolve_left hc⟩
 ·rintro _ _ ⟨rfl, rfl⟩
  exact Ac (λ hc => hB (of_decide_eq_true hc)) (λ hc => hC (of_decide_eq_false hc))
theorem At1 (A : List Int) (i : Nat) (c : Int) : Au A i (max c 0) = Au A i c := by
 unfold Au
 rw [show (max c 0).toNat = c.toNat by omega]
set_option maxHeartbeats 2000000 in
theorem Ak9 (h : Ii w q A) {x kind count arg : Int} {past : Bool} {K : LdT -> Wp} (hK : ∀ w', Ext w w' -> K (ldT (Bo A x kind count arg past)) w') :
  Aa Tryz.prog 41 #[.pointer (some (at0 q)), .int .i64 x, .agg (Cells.vals c48 (mvM kind count arg)).toArray, .bool past] (.tup [(.agg c83), (.one (.int .i64))]) K w := by
 refine A41 (a2 := mvM kind count arg) ?_
 unfold F41
 have hA := h.len; have hbl := Sm A; have hb := Fq A
 refine (St.start w).Af λ b1 w1 S1 e1 => S1.Af λ b2 w2 S2 e2 => ?_
 have S2 : St (λ _ => False) w w2 [(b2, ldZ), (b1, Zx kind count arg)] := S2
 have h2 := h.ext S2.upd
 have hle := Bp3 A x past
 have hro := Bl1 A x past
 have hcr := Ie A x past
 unfold Bo at hK
 dsimp only at hK
 rw [hcr, ← hro] at hK
 refine Ak8 h2 (Wu h2 hle ?_)
 have hi := Po A (Bh A x past)
 have hcol : Ue A (Bh A x past : Int) = Dk (Ah A (nb A (Bh A x past))) (Bh A x past : Int) := by
  unfold Ue ofI; rw [Yk hle]
 refine h2.Aj7 hi λ s0 p0 y hy hyl => Aa3 h2 λ w3 e3 => ?_
 rw [hcol]
 obtain ⟨s, hs⟩ : ∃ s, Bh A x past = s := ⟨_, rfl⟩
 rw [hs] at hK hi hle hy hyl
 rw [hs]
 obtain ⟨i, hi'⟩ : ∃ i, nb A s = i := ⟨_, rfl⟩
 rw [hi'] at hK hi hy hyl
 rw [hi']
 have hfl := Ua (Ah A i) (s : Int)
 obtain ⟨c, hc⟩ : ∃ c, Dk (Ah A i) (s : Int) = c := ⟨_, rfl⟩
 rw [hc] at hK hfl
 rw [hc]
 have hcl := Kr hi
 have ok := Dq hi
 have tn := ok.tn; have nl := ok.nl
 have hkr := Bu2 count
 have S3 := S2.ext e3
 refine S3.lds 1 (mvM kind count arg) rfl (Ak5 λ w4 e4 => ?_)
 have S4 := S3.ext e4
 have h4 := h.ext S4.upd
 have hy4 := (hy.ext e3).ext e4
 obtain ⟨k, hk⟩ : ∃ k, kOf count = k := ⟨_, rfl⟩
 rw [hk] at hK hkr
 rw [hk]
 obtain ⟨n, hn⟩ : ∃ n, (Ah A i).length = n := ⟨_, rfl⟩
 rw [hn] at hK hyl hfl hcl
 obtain ⟨most, hm⟩ : ∃ most, (if past = true then n else n - 1) = most := ⟨_, rfl⟩
 rw [hm] at hK
 have hmn : most <= n := by split at hm <;> omega
 refine Ae (λ z W => z = ((most : Int), ()) /\ w4 = W) ?_ ?_
 ·refine Ae (λ z W => z = (decide (past = false /\ 0 < n), ()) /\ w4 = W) ?_ ?_
  ·cases past with
   | true => exact Am ⟨by simp, rfl⟩
   | false => refine Bq ⟨Ba ?_, rfl⟩; simp only [decide_eq_true_eq, gt_iff_lt, true_and]; omega
  rintro _ _ ⟨rfl, rfl⟩
  refine Ac (λ hp => ⟨?_, rfl⟩) (λ hp => ⟨?_, rfl⟩)
  ·obtain ⟨p1, p2⟩ := of_decide_eq_true hp
   rw [if_neg (by rw [p1]; decide)] at hm
   rw [wrap64 (by omega) (by omega)]
   congr 1; omega
  ·have hp := of_decide_eq_false hp
   congr 1
   cases past with
   | true => rw [if_pos rfl] at hm; omega
   | false => rw [if_neg (by decide)] at hm; have : ¬ 0 < n := λ hh => hp ⟨rfl, hh⟩; omega
 rintro _ _ ⟨rfl, rfl⟩
 have fno : ∀ {e : Int} {W : World}, St (λ _ => False) w W [(b2, ldZ), (b1, Zx kind count arg)] -> (∀ w', Ext w w' -> K (ldT (noP e)) w') -> Aa Tryz.prog 92 #[.int .i64 e] (.tup [(.agg c83), (.one (.int .i64))]) (λ z => Ad (at0 b2) (.agg (Cells.vals c83 z.1).toArray) 3 (lds c83 (at0 b2) λ y => K (y, z.2.1, ()))) W := λ S hk => Bk5 λ w5 e5 => Ag6 (S.ext e5) hk
 have fland : ∀ {m : Nat} {kd : Int} {W : World}, St (λ _ => False) w W [(b2, ldZ), (b1, Zx kind count arg)] -> (∀ w', Ext w w' -> K (ldT (Gj A m kd)) w') -> Aa Tryz.prog 93 #[.pointer (some (at0 q)), .int .i64 (m : Int), .int .i64 kd] (.tup [(.agg c83), (.one (.int .i64))]) (λ z => Ad (at0 b2) (.agg (Cells.vals c83 z.1).toArray) 3 (lds c83 (at0 b2) λ y => K (y, z.2.1, ()))) W := λ S hk => As9 (h.ext S.upd) λ w5 e5 => Ag6 (S.ext e5) hk
 refine S4.ld (off := 0) 1 rfl (x := kind) rfl (Ac (λ hk1 => ?_) (λ hk1 => ?_))
 ·rw [beq_iff_eq] at hk1
  rw [if_pos hk1] at hK
  refine Ac (λ h0 => ?_) (λ h0 => ?_)
  ·rw [beq_iff_eq] at h0
   rw [if_pos (by omega)] at hK
   exact fno S4 hK
  ·rw [beq_eq_false_iff_ne] at h0
   rw [if_neg (by omega)] at hK
   have ew : W64 ((c : Int) - (k : Int)) = (c : Int) - k := wrap64 (by omega) (by omega)
   have em : (if (0 : Int) > (c : Int) - k then (0 : Int) else (c : Int) - k) = max ((c : Int) - k) 0 := by split <;> omega
   rw [ew, em]
   refine Hw h4 hi (by omega) ?_
   rw [At1]
   exact fland S4 hK
 rw [beq_eq_false_iff_ne] at hk1
 rw [if_neg hk1] at hK
 refine Ac (λ hk1 => ?_) (λ hk1 => ?_)
 ·rw [beq_iff_eq] at hk1
  rw [if_pos hk1] at hK
  refine Ac (λ h0 => ?_) (λ h0 => ?_)
  ·rw [beq_iff_eq] at h0
   rw [if_pos (by omega)] at hK
   exact fno S4 hK
  ·rw [beq_eq_false_iff_ne] at h0
   rw [if_neg (by omega)] at hK
   have ew : W64 ((c : Int) + (k : Int)) = (c : Int) + k := wrap64 (by omega) (by omega)
   have em : (if (most : Int) < (c : Int) + k then (most : Int) else (c : Int) + k) = min ((c : Int) + k) most := by split <;> omega
   rw [ew, em]
   exact Hw h4 hi (by omega) (fland S4 hK)
 rw [beq_eq_false_iff_ne] at hk1
 rw [if_neg hk1] at hK
 refine Ac (λ hk1 => ?_) (λ hk1 => ?_)
 ·rw [beq_iff_eq] at hk1
  rw [if_pos hk1] at hK
  refine Hw h4 hi (by omega) ?_
  rw [Zi hi]
  exact fland S4 hK
 rw [beq_eq_false_iff_ne] at hk1
 rw [if_neg hk1] at hK
 refine Ac (λ hk1 => ?_) (λ hk1 => ?_)
 ·rw [beq_iff_eq] at hk1
  rw [if_pos hk1] at hK
  exact As6 h4 hi (fland S4 hK)
 rw [beq_eq_false_iff_ne] at hk1
 rw [if_neg hk1] at hK
 refine Ac (λ hk1 => ?_) (λ hk1 => ?_)
 ·rw [beq_iff_eq] at hk1
  rw [if_pos hk1] at hK
  obtain ⟨j, hj⟩ : ∃ j, (if i < lnN A - 1 /\ 1 < k then min (i + k - 1) (lnN A - 1) else i) = j := ⟨_, rfl⟩
  rw [hj] at hK
  have hjb : j <= brs A := by split at hj <;> omega
  have ew1 : W64 ((lnN A : Int) - 1) = (lnN A : Int) - 1 := wrap64 (by omega) (by omega)
  have ew2 : W64 ((i : Int) + (k : Int)) = (i : Int) + k := wrap64 (by omega) (by omega)
  have ew3 : W64 ((i : Int) + k - 1) = (i : Int) + k - 1 := wrap64 (by omega) (by omega)
  refine Ae (λ z W => z = ((j : Int), ()) /\ w4 = W) (h4.Ah1 (Ac (λ hc => h4.Ah1 ⟨?_, rfl⟩) (λ hc => ⟨?_, rfl⟩))) ?_
  ·simp only [decide_eq_true_eq] at hc
   dsimp only
   rw [ew1, ew2, ew3]
   congr 1
   split <;> split at hj <;> omega
  ·simp only [decide_eq_false_iff_not] at hc
   congr 1
   split at hj <;> omega
  rintro _ _ ⟨rfl, rfl⟩
  exact Ve h4 hjb (Ag6 (l := ((((Au A j (((Ah A j).length : Int) - 1) : Nat) : Int), 1, 100000), 0)) S4 hK)
 rw [beq_eq_false_iff_ne] at hk1
 rw [if_neg hk1] at hK
 refine Ac (λ hk1 => ?_) (λ hk1 => ?_)
 ·rw [beq_iff_eq] at hk1
  rw [if_pos hk1] at hK
  have ew : W64 ((k : Int) - 1) = (k : Int) - 1 := wrap64 (by omega) (by omega)
  have em : (if (most : Int) < (k : Int) - 1 then (most : Int) else (k : Int) - 1) = min ((k : Int) - 1) most := by split <;> omega
  rw [ew, em]
  exact Hw h4 hi (by omega) (fland S4 hK)
 rw [beq_eq_false_iff_ne] at hk1
 rw [if_neg hk1] at hK
 refine Bx3 (λ hk1 => ?_) (λ hk1 => ?_)
 ·rw [if_pos hk1] at hK
  refine S4.ld (off := 2) 1 rfl (x := arg) rfl (Ak7 hy4 (by omega) (by omega) (by omega) hkr ?_)
  rw [hn]
  cases hsk : Ez (Ah A i) arg (upL n c) k with
  | none =>
   rw [hsk] at hK
   exact Bq (fno S4 hK)
  | some j =>
   rw [hsk] at hK
   dsimp only at hK
   have hjb : c + 1 <= j /\ j < n := Ay3 hsk
   rw [show Bt5 (some j) = (j : Int) from rfl]
   refine Ac (λ hc => by simp only [decide_eq_true_eq] at hc; omega) (λ _ => ?_)
   refine Ae (λ z W => z = ((if kind = 9 then (j : Int) - 1 else (j : Int)), ()) /\ w4 = W) (S4.ld (off := 0) 1 rfl (x := kind) rfl (Ac (λ h9 => ⟨?_, rfl⟩) (λ h9 => ⟨?_, rfl⟩))) ?_
   ·rw [beq_iff_eq] at h9
    rw [if_pos h9]
    congr 1
    exact wrap64 (by omega) (by omega)
   ·rw [beq_eq_false_iff_ne] at h9
    rw [if_neg h9]
   rintro _ _ ⟨rfl, rfl⟩
   exact Hw h4 hi (by dsimp only; split <;> omega) (fland S4 hK)
 rw [if_neg hk1] at hK
 refine Bx3 (λ hk1 => ?_) (λ hk1 => ?_)
 ·rw [if_pos hk1] at hK
  refine S4.ld (off := 2) 1 rfl (x := arg) rfl (Af4 hy4 (by omega) (by omega) (by omega) hkr ?_)
  cases hsk : Ez (Ah A i) arg (Nj c) k with
  | none =>
   rw [hsk] at hK
   exact Bq (fno S4 hK)
  | some j =>
   rw [hsk] at hK
   dsimp only at hK
   have hjb : j < c := Ak0 hsk
   rw [show Bt5 (some j) = (j : Int) from rfl]
   refine Ac (λ hc => by simp only [decide_eq_true_eq] at hc; omega) (λ _ => ?_)
   refine Ae (λ z W => z = ((if kind = 10 then (j : Int) + 1 else (j : Int)), ()) /\ w4 = W) (S4.ld (off := 0) 1 rfl (x := kind) rfl (Ac (λ h9 => ⟨?_, rfl⟩) (λ h9 => ⟨?_, rfl⟩))) ?_
   ·rw [beq_iff_eq] at h9
    rw [if_pos h9]
    congr 1
    exact wrap64 (by omega) (by omega)
   ·rw [beq_eq_false_iff_ne] at h9
    rw [if_neg h9]
   rintro _ _ ⟨rfl, rfl⟩
   exact Hw h4 hi (by dsimp only; split <;> omega) (fland S4 hK)
 rw [if_neg hk1] at hK
 exact fno S4 hK
end
abbrev ldX (l : Ld) : Obj := .cells #[.int .i64 l.1.1, .int .i64 l.1.2.1, .int .i64 l.1.2.2] 83 (0, 0)
section
variable {w w' : World} {p q : Nat} {A : List Int} {a : Sz}
theorem Bc3 (hk : a.kind = 4) : By6 a := by
 intro w p q A K hg tx pg hK
 refine A18 (a2 := Ai0 a) ?_
 unfold F18
 refine (St.start w).Af λ b1 w1 S1 e1 => ?_
 have S1 : St (λ _ => False) w w1 [(b1, Br1 a)] := S1
 refine S1.ld (off := 0) 0 rfl (x := a.kind) rfl ?_
 rw [hk]
 refine Am (Am (Am (Bq (S1.ld (off := 1) 0 rfl (x := a.at_) rfl (Ap2 (S1.at_ 0 rfl) (S1.ld (off := 6) 0 rfl (x := a.past) rfl (Zm (tx.ext S1.upd) λ w2 e2 => ?_)))))))
 obtain ⟨l, hl⟩ : ∃ l, Bo A a.at_ a.mkd a.count a.arg a.past = l := ⟨_, rfl⟩
 rw [hl]
 refine (S1.ext e2).Ku rfl rfl rfl λ b3 w3 S3 e3 => ?_
 have S3 : St (λ _ => False) w w3 [(b3, ldX l), (b1, Br1 a)] := S3
 refine S3.ld (off := 1) 1 rfl (x := a.at_) rfl (Ap2 (S3.at_ 1 rfl) (S3.ld (off := 6) 1 rfl (x := a.past) rfl (Ak9 (pg.ext S3.upd) λ w4 e4 => ?_)))
 rw [hl]
 refine (S3.ext e4).Ku rfl rfl rfl λ b5 w5 S5 e5 => ?_
 have S5 : St (λ _ => False) w w5 [(b5, ldX l), (b3, ldX l), (b1, Br1 a)] := S5
 exact S5.lds 1 (ldT l).1 rfl (S5.lds 0 (ldT l).1 rfl (Ar7 λ w6 e6 => hK w6 (S5.ext e6).upd))
theorem Ai5 {y : Cells.T c26} {c : Int} {l : List UInt8} {L : List (List LEd)} {al : List Sz} (h : Qz w y c l L al) (hg : Brk w) {K : Bool -> Wp} (hK : ∀ w', Ext w w' -> K true w') : Aa Tryz.prog 4 #[.agg (Cells.vals c26 y).toArray] rB K w := by
 refine A4 (a0 := y) ?_
 unfold F4
 refine (St.start w).Af λ b1 w1 S1 e1 => ?_
 have S1 : St (λ _ => False) w w1 [(b1, lkO y)] := S1
 refine S1.lds 0 y rfl (Ap9 (h.Cd0 e1) (hg.ext e1) (λ a h1 h2 => Bc3 (by omega)) λ w2 e2 => hK w2 (S1.ext e2).upd)
end
end Go.Proofs.YtolhlldgnfbemaaGreatDoor
namespace Go.Proofs.YtolhlldgnfbemaaGreatDoor
open Go Go.Vx Go.ChangeShapes Go.WideShapes Go.RowKit
theorem Uj (os : Os) {H : Type} (enc : TypeId × Value -> H) :
  (Rows.OpenSpec.upto Rows.motionCharsSpec).preRow enc Tryz.prog Tryz.f4 Rows.motionCharsUptoRow.domain false laidB ((laidWorld os).forCall (λ _ _ => 0) ⟨#[], #[look0], []⟩).memory #[look0] := by
 have hw : (DataW.whole enc Tryz.prog ((laidWorld os).forCall (λ _ _ => 0) ⟨#[], #[look0], []⟩).memory Tryz.f4.params.toList (Rows.OpenSpec.upto Rows.motionCharsSpec).vars false #[look0].toList 8).map (λ x => (x.1, x.2.1)) =
   some ([.agg [.lit (.int .i64 0), .nil, .nil, .nil]], []) := by kernel_rfl
 obtain ⟨⟨x1, x2, x3⟩, hx, hx1⟩ := Option.map_eq_some_iff.1 hw
 simp only [Prod.mk.injEq] at hx1
 obtain ⟨rfl, rfl⟩ := hx1
 exact OpenSpec.preRow_of_cond 8 hx (by kernel_rfl) (λ k hk => by cases hk; kernel_rfl) (by kernel_rfl) (laid_met os _)
set_option maxRecDepth 100000 in
set_option maxHeartbeats 2000000 in
theorem Vg (os : Os) (started : os.Started) (H : Type) (enc : TypeId × Value -> H) (F : Stop.Interp) :
  ReturnsInHanded {} Tryz.checked os 4 .any ((Rows.OpenSpec.upto Rows.motionCharsSpec).preRow enc Tryz.prog Tryz.f4 Rows.motionCharsUptoRow.domain false laidB) (((Rows.OpenSpec.upto Rows.motionCharsSpec).at F).post enc Tryz.prog Tryz.f4 false true false false) := by
 refine returnsInHanded_of_row (C := Tryz.checked) (s := Rows.OpenSpec.upto Rows.motionCharsSpec) Tryz.own started (by kernel_rfl) Tryz.func4
  (witness_row_atRef (enc := enc) (C := Tryz.checked) false (laidWorld os) #[look0] rfl (by kernel_rfl) (by kernel_rfl) (by kernel_rfl) (Uj os enc)) ?_
 intro W base args ds gs before hval0 hW _ hk hwt0 hL _ _
 have hval : ∀ (j : Nat) t v, Tryz.f4.params[j]? = some t -> args[j]? = some v -> Value.okWide Tryz.prog W .any base t v := hval0
 have hwt : (DataW.weightsEach Tryz.prog (Tryz.f4.params.toList ++ []) (ds ++ gs)).all (· <= reachBytes) = true := hwt0
 have hW' := hW
 obtain ⟨p, q, hA0, hV, rfl, hfz, hnd⟩ := hW
 have hA : DataW.TrodAll enc Tryz.prog W 0 (λ _ => true) true Tryz.f4.params.toList args.toList ds p := hA0
 clear hA0 hval0 hwt0
 rw [Tryz.params4] at hA hval hwt
 obtain ⟨rfl, rfl⟩ := trodVars_none hV
 obtain ⟨hn1, hn2, hT⟩ := Zc hA
 obtain ⟨v0, hv⟩ := Bm5 args.toList hn1
 obtain rfl : args = #[v0] := by cases args; simp_all
 obtain ⟨d0, rfl⟩ := Bm5 ds hn2
 have hbulk : bulk d0 <= 1048576 := by
  have h : Rows.uptoBulkAll ([d0] ++ []) <= 1048576 := of_decide_eq_true (hk _ rfl)
  simp only [List.append_nil, Rows.uptoBulkAll] at h
  show Rows.uptoBulk d0 <= _
  omega
 obtain ⟨p0, q0⟩ := hT 0 26 v0 d0 rfl rfl rfl
 obtain ⟨y, c, l, L, al, rfl, hLk⟩ := Br3 (hval 0 26 v0 rfl rfl) q0 (weigh hwt 0 rfl rfl) hbulk
 have walk := Ai5 hLk (Ao7 hL) (K := λ r w' => r = true /\ Ext W w') λ w' e => ⟨rfl, e⟩
 refine walk.mono λ e W' ⟨x, he, hx, hext⟩ => ⟨.bool true, ?_, ?_⟩
 ·subst hx; exact he
 ·exact Be1 (s := Rows.motionCharsSpec) hW' rfl rfl u4 rfl Tryz.laidOut (λ t ht => by
   rw [Tryz.params4] at ht
   have ht : t ∈ [26] := ht
   simp only [List.mem_cons, List.not_mem_nil, or_false] at ht
   exact recs ht) hext
theorem Zy : Rows.MotionCharsUptoSaid :=
 OpenClaim.holds_of_cond 4 Tryz.f4 rfl rfl rfl rfl rfl rfl rfl ⟨rfl, rfl, rfl, rfl, rfl⟩ rfl rfl rfl rfl rfl (by kernel_rfl) Tryz.func4 (by kernel_rfl)
  (of_decide_eq_true (by kernel_rfl)) (by unfold Func.isWrapper; rw [if_neg (by decide +kernel)]; exact ⟨rfl, rfl⟩)
  (λ os started H enc _ F => by rw [OpenClaim.pre_eq_preRow]; exact Vg os started H enc F)
theorem motionChars_holds : Rows.MotionCharsUptoCardSaid :=
 Claim7.holds_tied_plain_at .later [] [.data] true (true, "8f74c5824d2844387da4d3f60a6cadad0d89fd3d2452e68467ab9657e16e6046") false
  Zy (λ _ h => by cases h) (by kernel_rfl) (λ _ h => by cases h) motionCharsUpto_row_tie rfl ⟨rfl, rfl⟩ (by kernel_rfl) rfl
  (λ f fn hf hfn => by
   obtain rfl : f = 4 := Option.some.inj ((show Tryz.prog.funcNamed "copyist/copyistlaw8.MotionChars" = some 4 by kernel_rfl).symm.trans hf) |>.symm
   obtain rfl : fn = Tryz.f4 := (Option.some.inj (Tryz.func4.symm.trans hfn)).symm
   exact ⟨by kernel_rfl, λ j t ht => by
    rw [Tryz.params4] at ht
    have hm : t ∈ [26] := by simpa using Array.mem_of_getElem? ht
    have hall : ([26].all λ u => !Tryz.prog.wantsStandIn u) = true := by kernel_rfl
    exact (show Tryz.prog.wantsStandIn t = false by simpa using List.all_eq_true.1 hall t hm)⟩)
  (by kernel_rfl)
end Go.Proofs.YtolhlldgnfbemaaGreatDoor
