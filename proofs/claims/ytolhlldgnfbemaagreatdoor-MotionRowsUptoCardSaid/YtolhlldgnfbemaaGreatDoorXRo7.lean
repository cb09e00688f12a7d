/- The law holds for every input: it returns true, and each argument reads behind the call as it did. Conditions: those of the form alone. -/
import Derived.Test.YtolhlldgnfbemaaGreatDoorXRo6
set_option linter.unusedVariables false
set_option linter.unusedSimpArgs false
set_option linter.unusedSectionVars false
noncomputable section
set_option maxRecDepth 100000
namespace Go.Proofs.YtolhlldgnfbemaaGreatDoor
open Go Go.Vx Cdc Trx Gly Clu Lns Obx Mot
section
variable {w w' : World} {q : Nat} {A : List Int} {i : Nat}
theorem Bk4 {n : Nat} (h : n <= 2 ^ 40) : W64 ((n : Int) + 1) = ((n + 1 : Nat) : Int) := by rw [wrap64 (by omega) (by omega)]; omega
theorem Wy (h : Ip w q A) {x : Int} {K : Int -> Wp} (hK : K (inT A x : Int) w) : Aa Tryz.prog 82 #[.pointer (some (at0 q)), .int .i64 x] rI K w := by
 refine A82 ?_
 unfold F82
 have e : (inT A x : Int) = min (max x 0) (A.length : Int) := by unfold inT; omega
 rw [e] at hK
 refine Ac (λ hc => ?_) (λ hc => h.Pj λ s t hs => ?_)
 ·simp only [decide_eq_true_eq] at hc
  rw [show min (max x 0) (A.length : Int) = 0 by omega] at hK; exact hK
 ·simp only [decide_eq_false_iff_not] at hc
  have hl := hs.len1
  rw [List.length_map] at hl
  refine Ac (λ hc2 => h.Pj λ s2 t2 hs2 => ?_) (λ hc2 => ?_)
  ·simp only [decide_eq_true_eq, gt_iff_lt] at hc2
   have hl2 := hs2.len1
   rw [List.length_map] at hl2
   rw [show min (max x 0) (A.length : Int) = (A.length : Int) by omega] at hK
   rw [← hl2]; exact hK
  ·simp only [decide_eq_false_iff_not, gt_iff_lt] at hc2
   rw [show min (max x 0) (A.length : Int) = x by omega] at hK; exact hK
theorem Xb (h : Ip w q A) {n : Nat} (hn : n <= A.length) {K : Int -> Wp} (hK : K (nb A n : Int) w) : Aa Tryz.prog 83 #[.pointer (some (at0 q)), .int .i64 (n : Int)] rI K w := by
 refine A83 ?_
 unfold F83
 have hA := h.len; have hbl := Ku A
 have hnb := Uf A n
 obtain ⟨r1, r2⟩ := row_of (A := A) hn
 refine Af (λ _ W => w = W /\ nb A n = brs A) ?_ ?_
 ·refine Ba (λ x W => ∃ i : Nat, x = ((i : Int), ()) /\ w = W /\ i <= brs A + 1 /\ (i <= nb A n \/ nb A n = brs A)) (λ x _ => ((brs A + 1 : Nat) - x.1).toNat) ⟨0, rfl, rfl, by omega, .inl (Nat.zero_le _)⟩ ?_
  rintro _ _ ⟨i, rfl, rfl, hi, hin⟩
  dsimp only
  refine h.U5 λ s hs _ => ?_
  have hl := Yo hs
  refine Ac (λ hc => ?_) (λ hc => ?_)
  ·simp only [decide_eq_true_eq] at hc
   have hib : i <= brs A := by omega
   have ok := Dv hib
   have ft := ok.ft; have tn := ok.tn
   rw [Bk4 (by omega)]
   refine h.nextK hib λ s p => ?_
   refine Ac (λ hlt => ?_) (λ hlt => ?_)
   ·simp only [decide_eq_true_eq] at hlt
    have : nb A n = i := by
     by_cases hq : (Bc A i).from_ <= n
     ·exact ok.nbf n hq (by omega)
     ·exfalso
      rcases Nat.lt_trichotomy i (nb A n) with u | u | u
      ·have := O5 (A := A) u hnb; omega
      ·rw [u] at hq; exact hq r1
      ·rcases hin with v | v <;> omega
    rw [this] at hK; exact hK
   ·simp only [decide_eq_false_iff_not] at hlt
    refine ⟨⟨i + 1, rfl, rfl, by omega, ?_⟩, by omega⟩
    rcases hin with v | v
    ·rcases Nat.lt_or_ge i (nb A n) with u | u
     ·exact .inl u
     ·right
      have e : i = nb A n := by omega
      rw [e] at hlt
      rcases r2 with r2 | r2
      ·omega
      ·exact r2.1
    ·exact .inr v
  ·simp only [decide_eq_false_iff_not] at hc
   refine ⟨rfl, ?_⟩
   rcases hin with v | v <;> omega
 rintro _ _ ⟨rfl, hb⟩
 refine h.U5 λ s hs _ => ?_
 have hl := Yo hs
 rw [hl, show W64 (((brs A + 1 : Nat) : Int) - 1) = (nb A n : Int) by rw [wrap64 (by omega) (by omega)]; omega]
 exact hK
theorem Bm7 (h : Ip w q A) {n : Nat} (hn : n <= A.length) {K : Int -> Wp} (hK : K (Cj A (n : Int) false : Int) w) : Aa Tryz.prog 84 #[.pointer (some (at0 q)), .int .i64 (n : Int)] rI K w := by
 refine A84 ?_
 unfold F84
 have hb := Dh A; have hA := h.len; have hbl := Ku A
 have e : Cj A (n : Int) false = min (nb A n) (lnN A - 1) := by unfold Cj ofI; rw [if_neg (by decide), U9 hn]
 rw [e] at hK
 refine Xb h hn (h.Zb (Ac (λ hc => h.Zb ?_) (λ hc => ?_)))
 ·simp only [decide_eq_true_eq, ge_iff_le] at hc
  rw [show W64 ((lnN A : Int) - 1) = ((min (nb A n) (lnN A - 1) : Nat) : Int) by rw [wrap64 (by omega) (by omega)]; omega]
  exact hK
 ·simp only [decide_eq_false_iff_not, ge_iff_le] at hc
  rw [show min (nb A n) (lnN A - 1) = nb A n by omega] at hK
  exact hK
theorem Vj (h : Ip w q A) (hi : i <= brs A) {K : Int -> Wp} (hK : K (Au A i (((Ai A i).length : Int) - 1) : Int) w) : Aa Tryz.prog 85 #[.pointer (some (at0 q)), .int .i64 (i : Int)] rI K w := by
 refine A85 ?_
 unfold F85
 have hA := h.len
 have hcl := Nk hi
 have ok := Dv hi
 have tn := ok.tn; have nl := ok.nl
 refine h.Ak7 hi λ s p y hy hyl => ?_
 refine Ac (λ hc => h.Bb5 hi λ s p => ?_) (λ hc => ?_)
 ·rw [beq_iff_eq] at hc
  rw [Gi (by omega), Al6 hi] at hK
  exact hK
 ·rw [beq_eq_false_iff_ne] at hc
  have ew : W64 (((y.len : Nat) : Int) - 1) = (((Ai A i).length - 1 : Nat) : Int) := by rw [wrap64 (by omega) (by omega)]; omega
  rw [ew]
  obtain ⟨c, hcc⟩ := Dz (C := Ai A i) (j := (Ai A i).length - 1) (by omega)
  rw [show ((Ai A i).length : Int) - 1 = (((Ai A i).length - 1 : Nat) : Int) by omega, Ei (by omega), Ib hcc] at hK
  exact Pn hy hcc λ p => hK
theorem At9 (h : Ip w q A) (hi : i <= brs A) {K : Int -> Wp} (hK : K (Au A i (Vw A i : Int) : Int) w) : Aa Tryz.prog 94 #[.pointer (some (at0 q)), .int .i64 (i : Int)] rI K w := by
 refine A94 ?_
 unfold F94
 have hA := h.len
 have hcl := Nk hi
 have ok := Dv hi
 have tn := ok.tn; have nl := ok.nl
 refine h.Ak7 hi λ s p y hy hyl => ?_
 refine Af (λ _ W => w = W /\ ∀ (j : Nat) c, (Ai A i)[j]? = some c -> c.kind = 0) ?_ ?_
 ·refine Ba (λ x W => ∃ j : Nat, x = ((j : Int), ()) /\ w = W /\ j <= (Ai A i).length /\ ∀ (m : Nat) c, m < j -> (Ai A i)[m]? = some c -> c.kind = 0) (λ x _ => (((Ai A i).length : Int) - x.1).toNat) ⟨0, rfl, rfl, Nat.zero_le _, λ m c hm => by omega⟩ ?_
  rintro _ _ ⟨j, rfl, rfl, hj, hz⟩
  dsimp only
  refine Ac (λ hc => ?_) (λ hc => ?_)
  ·simp only [decide_eq_true_eq] at hc
   obtain ⟨c, hcc⟩ := Dz (C := Ai A i) (j := j) (by omega)
   rw [Bk4 (by omega)]
   refine Bd9 hy hcc λ p => Ac (λ hk => Pn hy hcc λ p => ?_) (λ hk => ⟨⟨j + 1, rfl, rfl, by omega, λ m d hm hd => ?_⟩, by omega⟩)
   ·have hk : c.kind ≠ 0 := by
     rw [bne_iff_ne] at hk
     intro h0; exact hk (by rw [h0]; rfl)
    have := Az2 (A := A) (i := i) hcc hk λ m d hm hd => hz m d hm hd
    rw [this, Ei (by omega), Ib hcc] at hK
    exact hK
   ·by_cases hmj : m = j
    ·subst hmj
     rw [hcc] at hd; cases hd
     rw [bne_eq_false_iff_eq] at hk
     omega
    ·exact hz m d (by omega) hd
  ·simp only [decide_eq_false_iff_not] at hc
   exact ⟨rfl, λ m c hm => hz m c (by have := (List.getElem?_eq_some_iff.1 hm).1; omega) hm⟩
 rintro _ _ ⟨rfl, hz⟩
 refine Vj h hi ?_
 have := Aa7 (A := A) (i := i) hz
 rw [this] at hK
 rcases Nat.eq_zero_or_pos (Ai A i).length with u | u
 ·rw [u] at hK ⊢
  rw [Gi (by omega)]; exact hK
 ·rw [show ((Ai A i).length : Int) - 1 = (((Ai A i).length - 1 : Nat) : Int) by omega]; exact hK
theorem Al8 (h : Ip w q A) {x : Int} {past : Bool} {K : Int -> Wp} (hK : K (Bj A x past : Int) w) : Aa Tryz.prog 35 #[.pointer (some (at0 q)), .int .i64 x, .bool past] rI K w := by
 refine A35 ?_
 unfold F35
 have hA := h.len
 have hi := Qp A x past
 have hin := Aw0 A x
 have ok := Dv hi
 have ft := ok.ft; have tn := ok.tn; have nl := ok.nl
 have hcl := Nk hi
 refine Wy h (Xb h hin (Af (λ y W => y = ((Cj A x past : Int), ()) /\ w = W) ?_ ?_))
 ·cases past with
  | true => exact Am ⟨rfl, rfl⟩
  | false =>
   refine Df (Bm7 h hin ⟨?_, rfl⟩)
   have : Cj A (inT A x : Int) false = Cj A x false := by unfold Cj ofI; rw [U9 hin]
   rw [this]
 rintro _ _ ⟨rfl, rfl⟩
 unfold Bj at hK
 obtain ⟨n, hn⟩ : ∃ n, inT A x = n := ⟨_, rfl⟩
 have hro := row_of (A := A) hin
 have hrow : past = true /\ Cj A x past = nb A n \/ past = false /\ Cj A x past = min (nb A n) (lnN A - 1) := by
  cases past with
  | true => left; refine ⟨rfl, ?_⟩; unfold Cj ofI; rw [if_pos rfl, hn]
  | false => right; refine ⟨rfl, ?_⟩; unfold Cj ofI; rw [if_neg (by decide), hn]
 rw [hn] at hro hin hK
 rw [hn]
 obtain ⟨i, hi'⟩ : ∃ i, Cj A x past = i := ⟨_, rfl⟩
 rw [hi'] at hi ok ft tn nl hcl hrow hK
 rw [hi']
 refine h.toK hi λ s p => Ac (λ hc => ?_) (λ hc => ?_)
 ·simp only [decide_eq_true_eq, ge_iff_le] at hc
  rw [if_pos (by omega)] at hK
  refine Ac (λ hp => h.toK hi λ s p => ?_) (λ hp => Vj h hi ?_)
  ·rw [if_pos hp] at hK; exact hK
  ·rw [if_neg (by rw [hp]; decide)] at hK; exact hK
 ·simp only [decide_eq_false_iff_not, ge_iff_le] at hc
  rw [if_neg (by omega)] at hK
  have hf : (Bc A i).from_ <= n := by
   rcases hrow with ⟨_, hr⟩ | ⟨_, hr⟩
   ·rw [hr]; exact hro.1
   ·rcases Nat.lt_or_ge (lnN A - 1) (nb A n) with u | u
    ·exfalso
     have hb := Dh A
     have hnb := Uf A n
     have := O5 (A := A) (i := i) (j := nb A n) (by omega) hnb
     omega
    ·rw [show i = nb A n by omega]; exact hro.1
  obtain ⟨g1, g2⟩ := An8 hi hf (by omega)
  obtain ⟨m, hm⟩ : ∃ m, Du (Ai A i) (n : Int) = m := ⟨_, rfl⟩
  obtain ⟨s1, s2⟩ := Oi (C := Ai A i) (at_ := (n : Int))
  rw [hm] at g1 g2 hK s1 s2
  rw [Ei g1] at hK g2
  obtain ⟨cm, hcm⟩ := Dz g1
  rw [Ib hcm] at hK g2
  have hto := s2 cm hcm
  have hch := Hw A i
  refine h.Bb5 hi λ s p => h.Ak7 hi λ s2 p2 y hy hyl => ?_
  refine Af (λ x W => x = ((cm.from_ : Int), ()) /\ w = W) ?_ (by rintro _ _ ⟨rfl, rfl⟩; exact hK)
  refine Ba (λ x W => ∃ j : Nat, x = (((if j = 0 then (Bc A i).from_ else frm (Ai A i) (min (j - 1) m) : Nat) : Int), (j : Int), ()) /\ w = W /\ j <= (Ai A i).length) (λ x _ => (((Ai A i).length : Int) - x.2.1).toNat) ⟨0, rfl, rfl, Nat.zero_le _⟩ ?_
  rintro _ _ ⟨j, rfl, rfl, hj⟩
  dsimp only
  refine Ac (λ hc2 => ?_) (λ hc2 => ?_)
  ·simp only [decide_eq_true_eq] at hc2
   obtain ⟨c, hcc⟩ := Dz (C := Ai A i) (j := j) (by omega)
   refine Af (λ x W => x = (((frm (Ai A i) (min j m) : Nat) : Int), ()) /\ w = W) ?_ ?_
   ·refine Pn hy hcc λ p => Ac (λ hle => Pn hy hcc λ p => ⟨?_, rfl⟩) (λ hle => ⟨?_, rfl⟩)
    ·simp only [decide_eq_true_eq] at hle
     have : j <= m := by
      rcases Nat.lt_or_ge m j with u | u
      ·have := hch.lt u hcm hcc; omega
      ·exact u
     rw [Nat.min_eq_left this, Ib hcc]
    ·simp only [decide_eq_false_iff_not] at hle
     have hmj : m < j := by
      rcases Nat.lt_or_ge m j with u | u
      ·exact u
      ·exfalso
       rcases Nat.lt_or_ge j m with v | v
       ·have := hch.lt v hcc hcm; have := hch.pos _ c hcc; omega
       ·have : j = m := by omega
        subst this
        rw [hcm] at hcc; cases hcc
        omega
     rw [if_neg (by omega), Nat.min_eq_right (by omega), Nat.min_eq_right (by omega)]
   rintro _ _ ⟨rfl, rfl⟩
   rw [Bk4 (by omega)]
   refine ⟨⟨j + 1, ?_, rfl, by omega⟩, by omega⟩
   rw [if_neg (by omega), Nat.add_sub_cancel]
  ·simp only [decide_eq_false_iff_not] at hc2
   refine ⟨?_, rfl⟩
   rw [if_neg (by omega), Nat.min_eq_right (by omega), Ib hcm]
theorem Bi1 (A : List Int) (x : Int) : Du (Ai A (ofI A x)) x = Du (Ai A (ofI A x)) (inT A x : Int) := by
 have hi := Yl A x
 have ok := Dv hi
 have tn := ok.tn; have nl := ok.nl
 obtain ⟨s1, s2⟩ := Oi (C := Ai A (ofI A x)) (at_ := x)
 refine (Yw (Yv _ _) (λ j c hj hc => ?_) λ c hc => ?_).symm
 ·have := s1 j c hj hc
  have := Ws hi hc
  unfold inT; omega
 ·have := s2 c hc
  have := Ws hi hc
  unfold inT; omega
theorem Bf7 (h : Ip w q A) {x : Int} {K : Int -> Wp} (hK : ∀ w', Ext w w' -> K (H7 A x : Int) w') : Aa Tryz.prog 39 #[.pointer (some (at0 q)), .int .i64 x] rI K w := by
 refine A39 ?_
 unfold F39
 have hA := h.len
 have hi := Yl A x
 have hin := Aw0 A x
 unfold H7 at hK
 rw [Bi1] at hK
 have ok := Dv hi
 have tn := ok.tn; have nl := ok.nl
 have hcl := Nk hi
 have hofn : ofI A x = nb A (inT A x) := rfl
 refine Wy h (Ed λ w1 e1 _ => ?_)
 have h1 := h.ext e1
 refine h1.Ch0 λ s ks kr => Xb h1 hin (Ar (ks w1 (Ext.refl _)) ?_)
 rw [← hofn]
 refine kr _ w1 _ hi (Ext.refl _) λ p y hy hyl => ?_
 have hK := hK w1 e1
 obtain ⟨i, hi'⟩ : ∃ i, ofI A x = i := ⟨_, rfl⟩
 obtain ⟨n, hn⟩ : ∃ n, inT A x = n := ⟨_, rfl⟩
 rw [hi'] at hK hi hcl hy hyl tn nl
 rw [hn] at hK
 rw [hn]
 obtain ⟨s1, s2⟩ := Oi (C := Ai A i) (at_ := (n : Int))
 have hfl := Yv (Ai A i) (n : Int)
 obtain ⟨m, hm⟩ : ∃ m, Du (Ai A i) (n : Int) = m := ⟨_, rfl⟩
 rw [hm] at hK s1 s2 hfl
 have hch := Hw A i
 refine Af (λ x W => x = ((m : Int), ()) /\ w1 = W) ?_ (by rintro _ _ ⟨rfl, rfl⟩; exact hK)
 refine Ba (λ x W => ∃ j : Nat, x = (((min j m : Nat) : Int), (j : Int), ()) /\ w1 = W /\ j <= (Ai A i).length) (λ x _ => (((Ai A i).length : Int) - x.2.1).toNat) ⟨0, by simp, rfl, Nat.zero_le _⟩ ?_
 rintro _ _ ⟨j, rfl, rfl, hj⟩
 dsimp only
 refine Ac (λ hc2 => ?_) (λ hc2 => ?_)
 ·simp only [decide_eq_true_eq] at hc2
  obtain ⟨c, hcc⟩ := Dz (C := Ai A i) (j := j) (by omega)
  refine Af (λ x W => x = (((min (j + 1) m : Nat) : Int), ()) /\ w1 = W) ?_ ?_
  ·refine Bv3 hy hcc λ p => Ac (λ hle => ⟨?_, rfl⟩) (λ hle => ⟨?_, rfl⟩)
   ·simp only [decide_eq_true_eq] at hle
    have : j < m := by
     rcases Nat.lt_or_ge j m with u | u
     ·exact u
     ·exfalso
      rcases Nat.lt_or_ge m j with v | v
      ·obtain ⟨cm, hcm⟩ := Dz (C := Ai A i) (j := m) (by omega)
       have := hch.lt v hcm hcc; have := hch.pos _ c hcc; have := s2 cm hcm; omega
      ·have : j = m := by omega
       subst this
       have := s2 c hcc; omega
    rw [Nat.min_eq_left (by omega), Nat.min_eq_left (by omega), Bk4 (by omega)]
   ·simp only [decide_eq_false_iff_not] at hle
    have : m <= j := by
     rcases Nat.lt_or_ge j m with u | u
     ·exfalso
      exact hle (s1 j c u hcc)
     ·exact u
    rw [Nat.min_eq_right (by omega), Nat.min_eq_right (by omega)]
  rintro _ _ ⟨rfl, rfl⟩
  rw [Bk4 (by omega)]
  exact ⟨⟨j + 1, rfl, rfl, by omega⟩, by omega⟩
 ·simp only [decide_eq_false_iff_not] at hc2
  refine ⟨?_, rfl⟩
  rw [Nat.min_eq_right (by omega)]
theorem Ag6 (h : Ip w q A) (hi : i <= brs A) {x : Int} (hx : 0 <= x) {K : Int -> Wp} (hK : K (Au A i x : Int) w) : Aa Tryz.prog 88 #[.pointer (some (at0 q)), .int .i64 (i : Int), .int .i64 x] rI K w := by
 refine A88 ?_
 unfold F88
 obtain ⟨n, rfl⟩ : ∃ n : Nat, x = (n : Int) := ⟨x.toNat, by omega⟩
 refine h.Ak7 hi λ s p y hy hyl => Ac (λ hc => ?_) (λ hc => h.toK hi λ s p => ?_)
 ·simp only [decide_eq_true_eq] at hc
  obtain ⟨c, hcc⟩ := Dz (C := Ai A i) (j := n) (by omega)
  rw [Ei (by omega), Ib hcc] at hK
  exact Pn hy hcc λ p => hK
 ·simp only [decide_eq_false_iff_not] at hc
  rw [Fv (by omega)] at hK
  exact hK
theorem Al5 (h : Ip w q A) {line col : Int} {past : Bool} {K : Int -> Wp} (hK : K (Yj A line col past : Int) w) : Aa Tryz.prog 37 #[.pointer (some (at0 q)), .int .i64 line, .int .i64 col, .bool past] rI K w := by
 refine A37 ?_
 unfold F37
 have hA := h.len; have hbl := Ku A; have hb := Dh A
 obtain ⟨l1, l2⟩ := Sv A line
 have el : (Dp A line : Int) = max (min line ((lnN A : Int) - 1)) 0 := by unfold Dp; omega
 unfold Yj at hK
 obtain ⟨i, hi'⟩ : ∃ i, Dp A line = i := ⟨_, rfl⟩
 rw [hi'] at hK l1 l2 el
 refine Af (λ x W => x = (max line 0, ()) /\ w = W) (Ac (λ hc => ⟨?_, rfl⟩) (λ hc => ⟨?_, rfl⟩)) ?_
 ·simp only [decide_eq_true_eq] at hc
  rw [show max line 0 = 0 by omega]
 ·simp only [decide_eq_false_iff_not] at hc
  rw [show max line 0 = line by omega]
 rintro _ _ ⟨rfl, rfl⟩
 refine Af (λ x W => x = ((i : Int), ()) /\ w = W) (h.Zb (Ac (λ hc => h.Zb ⟨?_, rfl⟩) (λ hc => ⟨?_, rfl⟩))) ?_
 ·simp only [decide_eq_true_eq, ge_iff_le] at hc
  rw [wrap64 (by omega) (by omega), show (lnN A : Int) - 1 = (i : Int) by omega]
 ·simp only [decide_eq_false_iff_not, ge_iff_le] at hc
  rw [show max line 0 = (i : Int) by omega]
 rintro _ _ ⟨rfl, rfl⟩
 refine Af (λ x W => x = (max col 0, ()) /\ w = W) (Ac (λ hc => ⟨?_, rfl⟩) (λ hc => ⟨?_, rfl⟩)) ?_
 ·simp only [decide_eq_true_eq] at hc
  rw [show max col 0 = 0 by omega]
 ·simp only [decide_eq_false_iff_not] at hc
  rw [show max col 0 = col by omega]
 rintro _ _ ⟨rfl, rfl⟩
 have hmx : Au A i (max col 0) = Au A i col := by
  unfold Au
  rw [show (max col 0).toNat = col.toNat by omega]
 refine Af (λ x W => x = (decide (((Ai A i).length : Int) <= max col 0 /\ past = false), ()) /\ w = W) (h.Ak7 l2 λ s p y hy hyl => Ac (λ hc => ⟨Aw ?_, rfl⟩) (λ hc => ⟨Aw ?_, rfl⟩)) ?_
 ·simp only [decide_eq_true_eq, ge_iff_le] at hc
  cases past <;> simp <;> omega
 ·simp only [decide_eq_false_iff_not, ge_iff_le] at hc
  simp only [Bool.false_eq_true, decide_eq_true_eq, false_iff]; omega
 rintro _ _ ⟨rfl, rfl⟩
 refine Ac (λ hc => Vj h l2 ?_) (λ hc => Ag6 h l2 (by omega) ?_)
 ·obtain ⟨hc1, hc2⟩ := of_decide_eq_true hc
  by_cases hcc : ((Ai A i).length : Int) <= col
  ·rw [if_pos ⟨hcc, hc2⟩] at hK; exact hK
  ·rw [if_neg (λ hh => hcc hh.1), Gi (by omega)] at hK
   rw [Gi (by omega)]; exact hK
 ·have hc := of_decide_eq_false hc
  rw [hmx]
  rw [if_neg (λ hh => hc ⟨by omega, hh.2⟩)] at hK
  exact hK
theorem Al4 {kind count arg : Int} {K : Int × Bool × Unit -> Wp} (hK : ∀ w', Ext w w' -> K ((kOf count : Int), decide (0 < count), ()) w') : Aa Tryz.prog 91 #[.agg (Cells.vals c48 (mvM kind count arg)).toArray] (.tup [(.one (.int .i64)), (.one .bool)]) K w := by
 refine A91 (a0 := mvM kind count arg) ?_
 unfold F91
 have ek : (kOf count : Int) = if 0 < count then min count 9999 else 1 := by unfold kOf; split <;> omega
 rw [ek] at hK
 refine (St.start w).Ae λ b1 w1 S1 e1 => ?_
 have S1 : St (λ _ => False) w w1 [(b1, D7 kind count arg)] := S1
 have hK := hK w1 e1
 refine S1.ld (off := 1) 0 rfl (x := count) rfl (Ac (λ hc => ?_) (λ hc => S1.ld (off := 1) 0 rfl (x := count) rfl (Ac (λ hc2 => ?_) (λ hc2 => S1.ld (off := 1) 0 rfl (x := count) rfl ?_))))
 all_goals simp only [decide_eq_true_eq, decide_eq_false_iff_not, gt_iff_lt] at *
 ·rw [if_neg (by omega), decide_eq_false (by omega)] at hK; exact hK
 ·rw [if_pos (by omega), decide_eq_true (by omega), show min count 9999 = 9999 by omega] at hK; exact hK
 ·rw [if_pos (by omega), decide_eq_true (by omega), show min count 9999 = count by omega] at hK; exact hK
theorem Bm8 {e : Int} {K : LdT -> Wp} (hK : ∀ w', Ext w w' -> K (ldT (noP e)) w') : Aa Tryz.prog 92 #[.int .i64 e] (.tup [(.agg c83), (.one (.int .i64))]) K w := by
 refine A92 ?_
 unfold F92
 exact (St.start w).Ae λ b1 w1 S1 e1 => S1.Ad 0 rfl rfl rfl rfl λ w2 S2 _ => S2.lds 0 (ldT (noP e)).1 rfl (hK w2 S2.upd)
theorem Au4 (h : Ip w q A) {n : Nat} {kind : Int} {K : LdT -> Wp} (hK : ∀ w', Ext w w' -> K (ldT (Gu A n kind)) w') : Aa Tryz.prog 93 #[.pointer (some (at0 q)), .int .i64 (n : Int), .int .i64 kind] (.tup [(.agg c83), (.one (.int .i64))]) K w := by
 refine A93 ?_
 unfold F93
 exact (St.start w).Ae λ b1 w1 S1 e1 => Bf7 (h.ext e1) λ w2 e2 => (S1.ext e2).Ad 0 rfl rfl rfl rfl λ w3 S3 _ => S3.lds 0 (ldT (Gu A n kind)).1 rfl (hK w3 S3.upd)
end
section
variable {w w' : World}
theorem Bx6 {w0 : World} {c : Cell} {s : Sl} {xs : List c.T} {n : Int} {K : Addr -> c.T -> Wp} (h : SlX w0 s 1 (xs.map c.val)) (x0 : Ext w0 w) (h0 : 0 <= n) {x : c.T} (hx : xs[n.toNat]? = some x)
  (hK : ∀ p, (∀ w', Ext w0 w' -> w'.cell? (p.add (scaled (Int.toNat n) 1)) = some (c.val x)) -> K p x w) : ix s.a s.len n (λ p => ld c (p.add (scaled (Int.toNat n) 1)) (K p)) w := by
 have hlt := (List.getElem?_eq_some_iff.1 hx).1
 have hl := h.len1
 rw [List.length_map] at hl
 obtain ⟨t, h⟩ := h.Ac7 (by omega)
 rcases h.at_ with ⟨_, hc⟩ | ⟨b, off, cc, fr, ha, hb, _, hv⟩
 ·have := h.le; omega
 ·have hcell : ∀ w', Ext w0 w' -> w'.cell? ((⟨b, off, none⟩ : Addr).add (scaled (Int.toNat n) 1)) = some (c.val x) := λ w' e => by
   rw [addr_add, Dy]
   exact cell_of (e.ext_get hb) (hv _ _ (by rw [Nat.mul_one, List.getElem?_map, hx]; rfl))
  exact ⟨⟨b, off, none⟩, ⟨ha, h0, by omega⟩, Xh (x := x) (hcell w x0) (hK _ hcell)⟩
structure Bt (w0 w : World) (e : Enc) (p r : Nat) (A : As) (na : Nat) : Prop where
 ex : ∃ O M F na', na' <= na /\ Txt w p e 65536 na' O M /\ aOf e M = A /\ Nv w r e (atoms A) F /\ (∀ k, F k -> ¬ O k) /\ (∀ k, O k -> w0.heap.size <= k) /\ (∀ k, F k -> w0.heap.size <= k)
 ok : A = prs e (atoms A)
 sz : szs A <= 65536
theorem Bt.tx {w0 : World} {e : Enc} {p r : Nat} {A : As} {na : Nat} (h : Bt w0 w e p r A na) : TxA w p (atoms A) := by
 obtain ⟨O, M, F, na', _, h1, h2, _⟩ := h.ex
 exact ⟨e, 65536, na', O, M, h1, by rw [h2]⟩
theorem Bt.ext {w0 : World} {e : Enc} {p r : Nat} {A : As} {na : Nat} (h : Bt w0 w e p r A na) (x : Ext w w') : Bt w0 w' e p r A na := by
 obtain ⟨O, M, F, na', h0, h1, h2, h3, h4, h5, h6⟩ := h.ex
 exact ⟨⟨O, M, F, na', h0, h1.ext x, h2, h3.ext x, h4, h5, h6⟩, h.ok, h.sz⟩
set_option maxHeartbeats 1000000 in
theorem Bi4 {w0 : World} {e : Enc} {p r : Nat} {A : As} {na : Nat} {s : Sl} {es : List LEd} (x0 : Ext w0 w) (hB : Bt w0 w e p r A na) (hE : EdX w0 s es) (hna : na + 200000 < 2 ^ 40) {P1 P2 : World -> Prop} (hP : ∀ w', Ext w0 w' -> P1 w' /\ P2 w') {R : Int -> Int -> Wp} (hR : ∀ v A' w', Ext w0 w' -> Bt w0 w' e p r A' (na + 65536) -> R v v w') :
  Aa Tryz.prog 15 #[s.v] rS (λ x23 => keep P1 (keep P2 (Aa Tryz.prog 14 #[.pointer (some (at0 p)), x23.v] rI λ x24 => keep P1 (keep P2 (Aa Tryz.prog 16 #[.pointer (some (at0 r)), s.v] rI λ x25 => R x24 x25))))) w := by
 obtain ⟨O, M, F, na', h0, h1, h2, h3, h4, h5, h6⟩ := hB.ex
 have hok := hB.ok; have hsz := hB.sz
 subst h2
 refine Bn1 (hE.ext x0) λ q zs w6 hEd hr hz e6 => ?_
 have x6 := x0.trans e6
 refine Ar (hP w6 x6).1 (Ar (hP w6 x6).2 ?_)
 have t6 := h1.ext e6
 obtain ⟨ys, hER⟩ := hE.toR
 refine Ai6 t6 hEd hsz (λ k hk hOk => ?_) (λ j z hj k hk hOk => ?_) (by omega) (λ c w7 hc0 hc e7 => ?_) λ hc O' M' w7 t7 ha7 hs7 u7 _ o2 => ?_
 ·have := hr k hk; have := h1.own k hOk; omega
 ·have := hz j z hj k hk; have := h1.own k hOk; omega
 ·have x7 := x6.trans e7
  refine Ar (hP w7 x7).1 (Ar (hP w7 x7).2 ?_)
  refine Wx (h3.ext (e6.trans e7)) hok (hER.ext x7) hsz (λ hne w8 e8 => ?_) (λ heq => by rw [heq] at hc; exact absurd hc.symm hc0)
  rw [hc]
  exact hR c _ w8 (x7.trans e8) ⟨⟨O, M, F, na', by omega, ((h1.ext e6).ext e7).ext e8, rfl, ((h3.ext e6).ext e7).ext e8, h4, h5, h6⟩, hok, hsz⟩
 ·have x7 : Ext w0 w7 := x6.step u7 λ k hk => h5 k hk.1
  refine Ar (hP w7 x7).1 (Ar (hP w7 x7).2 ?_)
  have hps := At7 hc
  have r7 : Nv w7 r e (atoms (aOf e M)) F := (h3.ext e6).upd u7 λ k hk hw => h4 k hk hw.1
  refine Wx r7 hok (hER.ext x7) hsz (λ hne => absurd hc hne) (λ _ F' w8 r8 u8 f8 => ?_)
  have hrO : ¬ O' r := λ hO => by
   rcases o2 r hO with q1 | q1
   ·exact h4 r h3.root q1
   ·have := h3.own r h3.root; have := e6.size; omega
  obtain ⟨sa0, st0, T0, hr0, _⟩ := r7.ex
  have t8 : Txt w8 p e 65536 _ O' M' := t7.upd u8 (λ k hk hkr => by subst hkr; exact hrO hk) (λ k hk c fr hn => by
   subst hk
   rw [hr0] at hn
   cases hn)
  have x8 : Ext w0 w8 := x7.step u8 λ k hk => by subst hk; exact h6 _ h3.root
  have hok' : Cc e (aOf e M) es = prs e (atoms (Cc e (aOf e M) es)) := (Y1 (e := e) (by rw [hok]; exact Au1 e _) es).prs
  refine hR 0 (Cc e (aOf e M) es) w8 x8 ⟨⟨O', M', F', _, by omega, t8, ha7, r8, λ k hk hO => ?_, λ k hk => ?_, λ k hk => ?_⟩, hok', by rw [← ha7]; exact hs7⟩
  ·rcases f8 k hk with q1 | q1
   ·rcases o2 k hO with q2 | q2
    ·exact h4 k q1 q2
    ·have := h3.own k q1; have := e6.size; omega
   ·have := t7.own k hO; omega
  ·rcases o2 k hk with q1 | q1
   ·exact h5 k q1
   ·have := x6.size; omega
  ·rcases f8 k hk with q1 | q1
   ·exact h6 k q1
   ·have := x7.size; omega
theorem Bm1 {c : Int} {s : Sl} {n : Nat} (hl : s.len = n) (hc : ¬ (1 <= c /\ c <= 4 /\ n <= 65536)) {K : Option Addr × Int × Unit -> Wp} (hK : ∀ v, v ≠ 0 -> K (none, v, ()) w) :
  Aa Tryz.prog 12 #[.int .i64 c, s.v, .int .i64 65536] (.tup [(.one .ptr), (.one (.int .i64))]) K w := by
 refine A12 ?_
 unfold F12
 refine Af (λ x W => x = (decide (¬ (1 <= c /\ c <= 4)), ()) /\ w = W) (Ac (λ hc => ⟨Aw ?_, rfl⟩) (λ hc => ⟨Aw ?_, rfl⟩)) ?_
 ·simp only [decide_eq_true_eq, true_iff] at hc ⊢; omega
 ·simp only [decide_eq_false_iff_not, decide_eq_true_eq, gt_iff_lt] at hc ⊢; omega
 rintro _ _ ⟨rfl, rfl⟩
 refine Ac (λ _ => hK 10 (by decide)) (λ hc2 => ?_)
 have hc2 := Classical.byContradiction λ hn => (of_decide_eq_false hc2) hn
 refine Af (λ x W => x = (false, ()) /\ w = W) (Am ⟨rfl, rfl⟩) ?_
 rintro _ _ ⟨rfl, rfl⟩
 refine Am (Ac (λ _ => hK 50 (by decide)) (λ hc3 => ?_))
 simp only [decide_eq_false_iff_not, gt_iff_lt] at hc3
 omega
set_option maxHeartbeats 2000000 in
theorem Aj7 {y : Cells.T c26} {c : Int} {l : List UInt8} {L : List (List LEd)} {al : List Tn} (h : Rl w y c l L al) {K : Option Addr × Option Addr × Bool × Unit -> Wp} (hN : ∀ w', Ext w w' -> K (none, none, true, ()) w')
  (hS : ∀ p q e A w', l.length <= 65536 -> e.num = c -> (∃ w1, Ext w w1 /\ ∃ r, Bt w1 w' e p r A (65536 * L.length)) -> Ip w' q (atoms A) -> Ext w w' -> K (some (at0 p), some (at0 q), true, ()) w') :
  Aa Tryz.prog 11 #[.agg (Cells.vals c26 y).toArray] (.tup [(.one .ptr), (.one .ptr), (.one .bool)]) K w := by
 refine A11 (a0 := y) ?_
 unfold F11
 have hbl : l.length = y.2.1.len := by have := h.bytes.len1; rwa [List.length_map] at this
 obtain ⟨ys, hys, hyl, hye⟩ := h.edits.ex
 have few := h.edits.few
 have hsl : ys.length = y.2.2.1.len := by have := hys.len1; rwa [List.length_map] at this
 have he : (some (Value.int .i64 y.1) : Option Value) = some (Value.int .i64 c) := congrArg (λ (n : Int) => some (Value.int .i64 n)) h.e
 refine (St.start w).Ae λ b1 w1 S1 e1 => Bj7 λ w2 e2 => Am ?_
 have S2 := S1.ext e2
 have S2 : St (λ _ => False) w w2 [(b1, lkO y)] := S2
 refine S2.ld (off := 0) 0 rfl (x := c) he (S2.ld (off := 1) 0 rfl (x := y.2.1) rfl ?_)
 by_cases hc : ¬ (1 <= c /\ c <= 4 /\ l.length <= 65536)
 ·exact Bm1 hbl.symm hc λ v hv => Ac (λ _ => hN w2 S2.upd) (λ hh => absurd (by simpa using hh) hv)
 have hc := Classical.byContradiction hc
 obtain ⟨e, hen⟩ := By8 (c := c) ⟨hc.1, hc.2.1⟩
 rw [← hen]
 refine At3 (h.bytes.ext S2.upd) hc.2.2 λ r w3 F hR hF e3 => Am ?_
 have S3 := S2.ext e3
 refine S3.drew λ w4 S4 e4 _ => S4.ld (off := 0) 0 rfl (x := e.num) (by rw [hen]; exact he) (S4.ld (off := 1) 0 rfl (x := y.2.1) rfl ?_)
 refine Bt8 (s := ⟨none, 0, 0⟩) (l := []) (m := l) (B := w.heap.size) (Ak.nil w4 w.heap.size 5 1) (h.bytes.ext S4.upd) (by
  show 0 + y.2.1.len + (0 + y.2.1.len) / 4 + 512 <= 2 ^ 48
  omega) S4.upd.size λ s8 w5 o5 l5 u5 b5 _ => ?_
 have e5 : Ext w4 w5 := (Ext.refl w4).step u5 λ k hk => by obtain ⟨_, hp, _⟩ := hk; cases hp
 have S5 := S4.ext e5
 rw [List.nil_append] at o5
 refine S5.keep (off := 0) 0 rfl (v := .int .i64 e.num) (by rw [hen]; exact he) ?_
 have hB5 : By w5 s8 l := o5.in
 refine Ab5 (e := e) (lim := 65536) hB5 hc.2.2 (Nat.le_refl _) λ p O M w6 tx hA _ e6 hnew => ?_
 have S6 := S5.ext e6
 refine Af (λ x W => x = (false, ()) /\ w6 = W) (Am ⟨rfl, rfl⟩) ?_
 rintro _ _ ⟨rfl, rfl⟩
 refine Am ?_
 have x26 : Ext w2 w6 := ((e3.trans e4).trans e5).trans e6
 have hsz : szs (ats e l) <= 65536 := by rw [Gy]; exact hc.2.2
 have B6 : Bt w2 w6 e p r (ats e l) 0 := ⟨⟨O, M, F, 0, Nat.le_refl _, tx, hA, ((hR.ext e4).ext e5).ext e6, λ k hk hO => by
  have := hR.own k hk; have := hnew k hO; have := e4.size; have := e5.size; omega, λ k hO => by
  have := hnew k hO; have := e3.size; have := e4.size; have := e5.size; omega, hF⟩, (Ay2 e _ l (Nat.le_refl _)).prs, hsz⟩
 have hb1 : b1 < w2.heap.size := lt_of_heap (S2.at_ 0 rfl)
 have hob : w2.heap[b1]? = some (lkO y) := S2.at_ 0 rfl
 have hw2 : Ext w w2 := S2.upd
 refine Af (λ _ W => ∃ A, Ext w2 W /\ Bt w2 W e p r A (65536 * L.length)) ?_ ?_
 ·refine Ba (λ x W => ∃ (i : Nat) (A : As), x = ((i : Int), ()) /\ i <= L.length /\ Ext w2 W /\ Bt w2 W e p r A (65536 * i)) (λ x _ => ((L.length : Int) - x.1).toNat) ⟨0, _, rfl, Nat.zero_le _, x26, B6⟩ ?_
  rintro _ W ⟨i, A, rfl, hi, xW, hB⟩
  dsimp only
  have hobW := xW.ext_get hob
  refine Cm (off := 2) (x := y.2.2.1) hobW rfl (Ac (λ hc2 => ?_) (λ hc2 => ?_))
  ·simp only [decide_eq_true_eq] at hc2
   have ew : W64 ((i : Int) + 1) = ((i + 1 : Nat) : Int) := by rw [wrap64 (by omega) (by omega)]; omega
   rw [ew]
   obtain ⟨q, hq⟩ : ∃ q, ys[i]? = some q := ⟨_, List.getElem?_eq_getElem (by omega)⟩
   obtain ⟨es, hes⟩ : ∃ es, L[i]? = some es := ⟨_, List.getElem?_eq_getElem (by omega)⟩
   have hqn : ys[((i : Int)).toNat]? = some q := by rw [Int.toNat_natCast]; exact hq
   refine Ed λ w7 e7 _ => ?_
   have x7 := xW.trans e7
   have ob7 := x7.ext_get hob
   refine Cm (off := 2) (x := y.2.2.1) ob7 rfl ?_
   refine Ah7 (c := .sl) (xs := ys) (hys.ext (hw2.trans x7)) (Int.natCast_nonneg i) hqn λ p1 => ?_
   refine Cm (off := 2) (x := y.2.2.1) ob7 rfl ?_
   refine Bx6 (c := .sl) (xs := ys) (hys.ext hw2) x7 (Int.natCast_nonneg i) hqn λ p2 k2 => ?_
   refine Bi4 x7 (hB.ext e7) ((hye i q es hq hes).ext hw2) (by omega) (λ w' x' => ⟨k2 w' x', cell_of (off := 2) (x'.ext_get hob) rfl⟩) λ v A' w8 x8 B8 => ?_
   rw [bne_self_eq_false]
   exact Am ⟨⟨i + 1, A', rfl, by omega, x8, by rw [Nat.mul_succ]; exact B8⟩, by omega⟩
  ·simp only [decide_eq_false_iff_not] at hc2
   obtain rfl : i = L.length := by omega
   exact ⟨A, xW, hB⟩
 rintro _ W ⟨A, xW, hB⟩
 obtain ⟨O', M', F', na', _, _, _, hR', _, _, _⟩ := hB.ex
 refine hR'.Pj λ sa hsa => Bp0 hsa hR'.len λ q w8 hq _ e8 => ?_
 exact hS p q e A w8 hc.2.2 hen ⟨w2, hw2, r, hB.ext e8⟩ hq ((hw2.trans xW).trans e8)
end
section
variable {w w' : World} {p : Nat} {A : List Int}
abbrev Bt5 (a : Tn) : Obj := .cells #[.int .i64 a.kind, .int .i64 a.at_, .int .i64 a.b, .int .i64 a.mkd, .int .i64 a.count, .int .i64 a.arg, .bool a.past] 50 (0, 0)
theorem Aq3 {W : World} {b : Nat} {a : Tn} {K : Cells.T c48 -> Wp} (hb : W.heap[b]? = some (Bt5 a)) (hK : K (mvM a.mkd a.count a.arg) W) : lds c48 ⟨b, 3, none⟩ K W :=
 Og (x := mvM a.mkd a.count a.arg) hb (λ j v hv => by
  match j with
  | 0 => exact hv
  | 1 => exact hv
  | 2 => exact hv
  | j + 3 => cases hv) hK
end
def Brk (w : World) : Prop := ∀ j, j < 6 -> w.cell? ⟨0, j, none⟩ = some (.int .i64 (Cl0.getD j 0))
section
variable {w w' : World} {p q : Nat} {A : List Int} {a : Tn}
theorem Brk.ext (h : Brk w) (x : Ext w w') : Brk w' := λ j hj => Ti (h j hj) x
def Cb8 (a : Tn) : Prop := ∀ (w : World) (p q : Nat) (A : List Int) (K : Bool -> Wp), Brk w -> TxA w p A -> Ip w q A -> (∀ w', Ext w w' -> K true w') -> Aa Tryz.prog 18 #[.pointer (some (at0 p)), .pointer (some (at0 q)), .agg (Cells.vals c50 (Aj3 a)).toArray] rB K w
theorem As8 {l : Ld} {K : Bool -> Wp} (hK : ∀ w', Ext w w' -> K true w') : Aa Tryz.prog 42 #[.agg (Cells.vals c83 (ldT l).1).toArray, .int .i64 l.2, .agg (Cells.vals c83 (ldT l).1).toArray, .int .i64 l.2] rB K w := by
 refine A42 (a0 := (ldT l).1) (a2 := (ldT l).1) ?_
 unfold F42
 refine (St.start w).Ae λ b1 w1 S1 e1 => S1.Ae λ b2 w2 S2 e2 => S2.ld (off := 0) 1 rfl (x := l.1.1) rfl (S2.ld (off := 0) 0 rfl (x := l.1.1) rfl ?_)
 rw [beq_self_eq_true]
 refine Df (S2.ld (off := 1) 1 rfl (x := l.1.2.1) rfl (S2.ld (off := 1) 0 rfl (x := l.1.2.1) rfl ?_))
 rw [beq_self_eq_true]
 refine Df (S2.ld (off := 2) 1 rfl (x := l.1.2.2) rfl (S2.ld (off := 2) 0 rfl (x := l.1.2.2) rfl ?_))
 rw [beq_self_eq_true, beq_self_eq_true]
 exact Df (hK w2 S2.upd)
section
variable {y : Cells.T c26} {c : Int} {l : List UInt8} {L : List (List LEd)} {al : List Tn}
theorem Rl.Cg4 {W : World} (h : Rl w y c l L al) (e : Ext w W) : Rl W y c l L al :=
 ⟨h.e, h.i64, h.bytes.ext e, h.blen, ⟨by obtain ⟨ys, g1, g2, g3⟩ := h.edits.ex; exact ⟨ys, g1.ext e, g2, λ i q es hq he => (g3 i q es hq he).ext e⟩, h.edits.few⟩, ⟨h.asks.row.ext e, h.asks.few, h.asks.i64⟩⟩
theorem Rl.Cm5 (h : Rl w y c l L al) {W : World} (x : Ext w W) {i : Nat} {a : Tn} (ha : al[i]? = some a) {K : Addr -> Cells.T c50 -> Wp} (hK : ∀ q, K q (Aj3 a) W) :
  ix y.2.2.2.1.a y.2.2.2.1.len (i : Int) (λ q => lds c50 (q.add (scaled (Int.toNat (i : Int)) 7)) (K q)) W :=
 Bb3 (cs := c50) (xs := al.map Aj3) (h.asks.row.ext x) (by decide) (Int.natCast_nonneg i) (by rw [Int.toNat_natCast, List.getElem?_map, ha]; rfl) hK
theorem Rl.Cg5 (h : Rl w y c l L al) : al.length = y.2.2.2.1.len := by
 have := SlX.Js (cs := c50) h.asks.row (by decide)
 rwa [List.length_map] at this
set_option maxHeartbeats 1000000 in
theorem Ar0 (h : Rl w y c l L al) (hg : Brk w) {lo hi : Int} (hask : ∀ a, lo <= a.kind -> a.kind <= hi -> Cb8 a) {K : Bool -> Wp} (hK : ∀ w', Ext w w' -> K true w') :
  Aa Tryz.prog 10 #[.agg (Cells.vals c26 y).toArray, .int .i64 lo, .int .i64 hi] rB K w := by
 refine A10 (a0 := y) ?_
 unfold F10
 have hal := h.Cg5
 have hfew := h.asks.few
 refine (St.start w).Ae λ b1 w1 S1 e1 => ?_
 have S1 : St (λ _ => False) w w1 [(b1, lkO y)] := S1
 refine S1.lds 0 y rfl (Aj7 (h.Cg4 e1) (λ w2 e2 => ?_) λ p q e A w2 _ _ hB pg e2 => ?_)
 ·refine Af (λ s W => s = (true, ()) /\ w2 = W) (Am ⟨rfl, rfl⟩) ?_
  rintro _ _ ⟨rfl, rfl⟩
  exact Df (hK w2 (S1.ext e2).upd)
 obtain ⟨w0, _, r, hB⟩ := hB
 have tx2 := hB.tx
 refine Af (λ s W => s = (false, ()) /\ w2 = W) (Am ⟨rfl, rfl⟩) ?_
 rintro _ _ ⟨rfl, rfl⟩
 refine Am ?_
 have S2 := S1.ext e2
 refine Af (λ _ W => Ext w W) ?_ (λ _ W hW => hK W hW)
 refine Ba (λ x W => ∃ i : Nat, x = ((i : Int), ()) /\ i <= al.length /\ TxA W p (atoms A) /\ Ip W q (atoms A) /\ St (λ _ => False) w W [(b1, lkO y)]) (λ x _ => ((al.length : Int) - x.1).toNat) ⟨0, rfl, Nat.zero_le _, tx2, pg, S2⟩ ?_
 rintro _ W ⟨i, rfl, hi, tx, pg, SW⟩
 dsimp only
 refine SW.ld (off := 3) 0 rfl (x := y.2.2.2.1) rfl (Ac (λ hc => ?_) (λ hc => SW.upd))
 simp only [decide_eq_true_eq] at hc
 obtain ⟨a, ha⟩ : ∃ a, al[i]? = some a := ⟨_, List.getElem?_eq_getElem (by omega)⟩
 have ewi : W64 ((i : Int) + 1) = ((i + 1 : Nat) : Int) := by rw [wrap64 (by omega) (by omega)]; omega
 rw [ewi]
 refine SW.ld (off := 3) 0 rfl (x := y.2.2.2.1) rfl (h.Cm5 SW.upd ha λ q1 => ?_)
 refine (St.start W).Lc rfl rfl rfl λ bA w4 T4 _ => ?_
 have T4 : St (λ _ => False) W w4 [(bA, Bt5 a)] := T4
 refine Af (λ x V => x = (false, ()) /\ Ext W V) ?_ ?_
 ·refine T4.ld (off := 0) 0 rfl (x := a.kind) rfl (Ac (λ h1 => T4.ld (off := 0) 0 rfl (x := a.kind) rfl (Ac (λ h2 => ?_) (λ _ => ⟨rfl, T4.upd⟩))) (λ _ => ⟨rfl, T4.upd⟩))
  simp only [decide_eq_true_eq, ge_iff_le] at h1 h2
  exact T4.lds 0 (Aj3 a) rfl (hask a h1 h2 w4 p q _ _ (hg.ext (SW.upd.trans T4.upd)) (tx.ext T4.upd) (pg.ext T4.upd) λ w5 e5 => ⟨rfl, (T4.ext e5).upd⟩)
 rintro _ V ⟨rfl, xV⟩
 exact Am ⟨⟨i + 1, rfl, by omega, tx.ext xV, pg.ext xV, SW.ext xV⟩, by omega⟩
end
end
end Go.Proofs.YtolhlldgnfbemaaGreatDoor
namespace Go.Proofs.YtolhlldgnfbemaaGreatDoor
open Go Go.Vx Go.ChangeShapes Go.WideShapes Go.RowKit Cdc Mot
theorem Cw4 : Tryz.prog.globalNamed "copyist/copyistref8.brackets" = some 0 := by kernel_rfl
theorem Cm8 : (Tryz.prog.globals[0]?).map (·.type) = some 202 := by kernel_rfl
theorem Cm6 : Tryz.prog.underlying 202 = some (.array 6 3) := by kernel_rfl
theorem Cx2 : Tryz.prog.cellsOf 3 = 1 := by kernel_rfl
abbrev laidB : List (String × DataW Unit) := [("copyist/copyistref8.brackets", Rows.laid_copyist_copyistref8_brackets)]
theorem Ap8 {W : World} (h : laidMetH Tryz.prog laidB W) : Brk W := by
 rw [MakeChecks.laidMetH_plain _ _ _ (by kernel_rfl)] at h
 obtain ⟨ps, ⟨g0, t0, cs0, f0, p0, q0, hg0, ht0, hv0, hd0, _, _⟩, _, _⟩ := h
 obtain rfl := Option.some.inj (Cw4.symm.trans hg0)
 obtain rfl := Option.some.inj (Cm8.symm.trans ht0)
 obtain ⟨xs, m1, rfl, hx1, hlen, hn6, hel⟩ := DataW.trod_array Cm6 hd0
 have hm : xs.map (·.1) = [.lit (.int .i64 40), .lit (.int .i64 91), .lit (.int .i64 123), .lit (.int .i64 41), .lit (.int .i64 93), .lit (.int .i64 125)] := by
  have := (Prod.mk.inj hx1).1
  unfold Rows.laid_copyist_copyistref8_brackets at this
  exact (DataW.agg.inj this).symm
 intro j hj
 have h0 := hel j hj
 rw [Cx2, Nat.mul_one] at h0
 obtain ⟨x, hx⟩ : ∃ x, xs[j]? = some x := ⟨_, List.getElem?_eq_getElem (by omega)⟩
 rw [hx] at h0
 obtain ⟨n, e1, e2, _⟩ := DataW.trod_int ui h0
 have hcs : cs0[j]? = some (.int .i64 n) := by
  have := congrArg (λ l : List Value => l[0]?) e1
  simp only [List.getElem?_take, List.getElem?_drop, Nat.add_zero] at this
  simpa using this
 have hx1 : (xs.map (·.1))[j]? = some (.lit (.int .i64 n)) := by rw [List.getElem?_map, hx, e2]; rfl
 rw [hm] at hx1
 rw [World.var?_cell hg0 hv0 j, hcs]
 have hn : n = Cl0.getD j 0 := by
  rcases (by omega : j = 0 \/ j = 1 \/ j = 2 \/ j = 3 \/ j = 4 \/ j = 5) with rfl | rfl | rfl | rfl | rfl | rfl
  all_goals
   have := Option.some.inj hx1
   have := Lit.int.inj (DataW.lit.inj this)
   exact this.2.symm
 rw [hn]
def laidWorld (os : Os) : World :=
 let w0 := World.holding Tryz.prog os ⟨#[], #[], []⟩
 { w0 with heap := w0.heap.modify 0 λ
  | .cells _ t frozen => .cells #[.int .i64 40, .int .i64 91, .int .i64 123, .int .i64 41, .int .i64 93, .int .i64 125] t frozen
  | o => o }
abbrev look0 : Value := .agg #[.int .i64 0, .slice none 0 0, .slice none 0 0, .slice none 0 0]
theorem laid_met (os : Os) (args : Array Value) : laidMetH Tryz.prog laidB ((laidWorld os).forCall (λ _ _ => 0) ⟨#[], args, []⟩).memory := by
 rw [MakeChecks.laidMetH_plain _ _ _ (by kernel_rfl)]
 exact (LaidIn.of_run [0] 8 (by kernel_rfl) (by kernel_rfl) (by kernel_rfl) (by kernel_rfl)).met
end Go.Proofs.YtolhlldgnfbemaaGreatDoor
namespace Go.Proofs.YtolhlldgnfbemaaGreatDoor
open Go Go.Vx Cdc Trx Gly Clu Lns Obx Mot
theorem Bx2 (c : Int) : 1 <= kOf c /\ kOf c <= 9999 := by unfold kOf; split <;> omega
section
variable {w w' : World} {p : Nat} {A : List Int}
end
section
variable {w w' : World} {q : Nat} {A : List Int} {i : Nat}
theorem Ca4 {kind a b : Int} {W : World} {B C : World -> Prop} (hB : kind = a \/ kind = b -> B W) (hC : ¬ (kind = a \/ kind = b) -> C W) : join (S := Bool × Unit) (λ J => sif (kind == a) (J ((kind == a), ())) (J ((kind == b), ()))) (λ s => sif s.1 B C) W := by
 refine Af (λ x V => x = (decide (kind = a \/ kind = b), ()) /\ W = V) (Ac (λ hc => ⟨Aw ?_, rfl⟩) (λ hc => ⟨Aw ?_, rfl⟩)) ?_
 ·rw [beq_iff_eq] at hc
  simp only [beq_iff_eq, decide_eq_true_eq]
  exact ⟨λ h => .inl h, λ _ => hc⟩
 ·rw [beq_eq_false_iff_ne] at hc
  simp only [beq_iff_eq, decide_eq_true_eq]
  exact ⟨λ h => .inr h, λ h => h.resolve_left hc⟩
 ·rintro _ _ ⟨rfl, rfl⟩
  exact Ac (λ hc => hB (of_decide_eq_true hc)) (λ hc => hC (of_decide_eq_false hc))
theorem I9 {l l' : Int} (h : Dp A l = Dp A l') (g : Int) : Nc A l g = Nc A l' g := by unfold Nc Yj; rw [h]
theorem Ht {l l' : Int} (h : Dp A l = Dp A l') : Ey A l = Ey A l' := by unfold Ey; rw [h]
theorem Bg8 {L : Nat} (h : L < lnN A) : Dp A (L : Int) = L := by unfold Dp; omega
set_option maxHeartbeats 2000000 in
theorem Au2 (h : Ip w q A) {x goal kind count arg : Int} {K : LdT -> Wp} (hK : ∀ w', Ext w w' -> K (ldT (Et A x goal kind count)) w') :
  Aa Tryz.prog 44 #[.pointer (some (at0 q)), .int .i64 x, .int .i64 goal, .agg (Cells.vals c48 (mvM kind count arg)).toArray] (.tup [(.agg c83), (.one (.int .i64))]) K w := by
 refine A44 (a3 := mvM kind count arg) ?_
 unfold F44
 have hA := h.len; have hbl := Ku A; have hb := Dh A
 refine (St.start w).Ae λ b1 w1 S1 e1 => S1.Ae λ b2 w2 S2 e2 => ?_
 have S2 : St (λ _ => False) w w2 [(b2, ldZ), (b1, D7 kind count arg)] := S2
 have h2 := h.ext S2.upd
 have hle := Br7 A x false
 have hro := Bn4 A x false
 have hcr := Em A x false
 have hlt := Bw2 A x
 obtain ⟨v, hv⟩ : ∃ v, Et A x goal kind count = v := ⟨_, rfl⟩
 rw [hv] at hK
 unfold Et at hv
 dsimp only at hv
 rw [hcr, ← hro] at hv
 rw [← hro] at hlt
 refine Al8 h2 (Xb h2 hle (h2.Zb ?_))
 obtain ⟨i, hi'⟩ : ∃ i, nb A (Bj A x false) = i := ⟨_, rfl⟩
 rw [hi'] at hv hlt
 rw [hi']
 obtain ⟨g, hg⟩ : ∃ g, max goal 0 = g := ⟨_, rfl⟩
 rw [hg] at hv
 refine Af (λ z W => z = (g, ()) /\ w2 = W) (Ac (λ hc => ⟨?_, rfl⟩) (λ hc => ⟨?_, rfl⟩)) ?_
 ·simp only [decide_eq_true_eq] at hc
  rw [show g = 0 by omega]
 ·simp only [decide_eq_false_iff_not] at hc
  rw [show g = goal by omega]
 rintro _ _ ⟨rfl, rfl⟩
 have hkr := Bx2 count
 refine S2.lds 1 (mvM kind count arg) rfl (Al4 λ w4 e4 => ?_)
 have S4 := S2.ext e4
 have h4 := h.ext S4.upd
 obtain ⟨k, hk⟩ : ∃ k, kOf count = k := ⟨_, rfl⟩
 rw [hk] at hv hkr
 rw [hk]
 have fno : ∀ {e : Int} {W : World}, St (λ _ => False) w W [(b2, ldZ), (b1, D7 kind count arg)] -> v = noP e -> Aa Tryz.prog 92 #[.int .i64 e] (.tup [(.agg c83), (.one (.int .i64))]) (λ z => Ad (at0 b2) (.agg (Cells.vals c83 z.1).toArray) 3 (lds c83 (at0 b2) λ y => K (y, z.2.1, ()))) W := λ S hk => Bm8 λ w5 e5 => V3 (S.ext e5) (by rw [← hk]; exact hK)
 have ew1 : W64 ((lnN A : Int) - 1) = ((lnN A - 1 : Nat) : Int) := by rw [wrap64 (by omega) (by omega)]; omega
 have ew2 : W64 ((i : Int) + (k : Int)) = (i : Int) + k := wrap64 (by omega) (by omega)
 have ew3 : W64 ((i : Int) - (k : Int)) = (i : Int) - k := wrap64 (by omega) (by omega)
 have ew4 : W64 ((i : Int) + k - 1) = (i : Int) + k - 1 := wrap64 (by omega) (by omega)
 have ew5 : W64 ((k : Int) - 1) = (k : Int) - 1 := wrap64 (by omega) (by omega)
 rw [ew1, ew2, ew3, ew4, ew5]
 refine Af (λ z W => ∃ L : Nat, z = ((L : Int), ()) /\ L < lnN A /\ v = (if kind = 11 \/ kind = 12 then Nc A (L : Int) g else Ey A (L : Int)) /\ w4 = W) ?_ ?_
 ·refine S4.ld (off := 0) 1 rfl (x := kind) rfl (Ca4 (λ hk1 => ?_) (λ hk1 => ?_))
  ·refine Ac (λ h0 => ?_) (λ h0 => ?_)
   ·rw [beq_iff_eq] at h0
    refine fno S4 ?_
    rw [← hv]
    rcases hk1 with hk1 | hk1
    ·rw [if_pos hk1, if_pos (by omega)]
    ·rw [if_neg (by omega), if_neg (by omega), if_pos hk1, if_pos (by omega)]
   ·rw [beq_eq_false_iff_ne] at h0
    have hl : Dp A ((i : Int) + k) = Dp A ((min (i + k) (lnN A - 1) : Nat) : Int) := by unfold Dp; omega
    refine ⟨min (i + k) (lnN A - 1), ?_, by omega, ?_, rfl⟩
    ·congr 1
     split <;> omega
    ·rw [← hv]
     rcases hk1 with hk1 | hk1
     ·rw [if_pos hk1, if_neg (by omega), if_pos (.inl hk1), I9 hl]
     ·rw [if_neg (by omega), if_neg (by omega), if_pos hk1, if_neg (by omega), if_neg (by omega), Ht hl]
  refine Ca4 (λ hk2 => ?_) (λ hk2 => ?_)
  ·refine Ac (λ h0 => ?_) (λ h0 => ?_)
   ·rw [beq_iff_eq] at h0
    refine fno S4 ?_
    rw [← hv]
    rcases hk2 with hk2 | hk2
    ·rw [if_neg (by omega), if_pos hk2, if_pos (by omega)]
    ·rw [if_neg (by omega), if_neg (by omega), if_neg (by omega), if_pos hk2, if_pos (by omega)]
   ·rw [beq_eq_false_iff_ne] at h0
    have hl : Dp A ((i : Int) - k) = Dp A ((i - k : Nat) : Int) := by unfold Dp; omega
    refine ⟨i - k, ?_, by omega, ?_, rfl⟩
    ·congr 1
     split <;> omega
    ·rw [← hv]
     rcases hk2 with hk2 | hk2
     ·rw [if_neg (by omega), if_pos hk2, if_neg (by omega), if_pos (.inr hk2), I9 hl]
     ·rw [if_neg (by omega), if_neg (by omega), if_neg (by omega), if_pos hk2, if_neg (by omega), if_neg (by omega), Ht hl]
  rw [if_neg (by omega), if_neg (by omega), if_neg (by omega), if_neg (by omega)] at hv
  refine Ac (λ hk3 => ?_) (λ hk3 => ?_)
  ·rw [beq_iff_eq] at hk3
   rw [if_pos hk3] at hv
   have hl : Dp A ((i : Int) + k - 1) = Dp A ((min (i + k - 1) (lnN A - 1) : Nat) : Int) := by unfold Dp; omega
   refine ⟨min (i + k - 1) (lnN A - 1), ?_, by omega, ?_, rfl⟩
   ·congr 1
    split <;> omega
   ·rw [if_neg (by omega), ← Ht hl]; exact hv.symm
  rw [beq_eq_false_iff_ne] at hk3
  rw [if_neg hk3] at hv
  refine Ac (λ hk4 => ?_) (λ hk4 => ?_)
  ·rw [beq_iff_eq] at hk4
   rw [if_pos hk4] at hv
   refine Ac (λ hct => ?_) (λ hct => ?_)
   ·have hct := of_decide_eq_true hct
    rw [if_pos hct] at hv
    have hl : Dp A ((k : Int) - 1) = Dp A ((min (k - 1) (lnN A - 1) : Nat) : Int) := by unfold Dp; omega
    refine ⟨min (k - 1) (lnN A - 1), ?_, by omega, ?_, rfl⟩
    ·congr 1
     split <;> omega
    ·rw [if_neg (by omega), ← Ht hl]; exact hv.symm
   ·have hct := of_decide_eq_false hct
    rw [if_neg hct] at hv
    have hl : Dp A (lnN A : Int) = Dp A ((lnN A - 1 : Nat) : Int) := by unfold Dp; omega
    refine ⟨lnN A - 1, rfl, by omega, ?_, rfl⟩
    rw [if_neg (by omega), ← Ht hl]; exact hv.symm
  rw [beq_eq_false_iff_ne] at hk4
  rw [if_neg hk4] at hv
  refine Ac (λ hk5 => ?_) (λ hk5 => ?_)
  ·rw [beq_iff_eq] at hk5
   rw [if_pos hk5] at hv
   have hl : Dp A ((k : Int) - 1) = Dp A ((min (k - 1) (lnN A - 1) : Nat) : Int) := by unfold Dp; omega
   refine ⟨min (k - 1) (lnN A - 1), ?_, by omega, ?_, rfl⟩
   ·congr 1
    split <;> omega
   ·rw [if_neg (by omega), ← Ht hl]; exact hv.symm
  rw [beq_eq_false_iff_ne] at hk5
  rw [if_neg hk5] at hv
  refine Ac (λ hk6 => ?_) (λ hk6 => ?_)
  ·rw [beq_iff_eq] at hk6
   rw [if_pos hk6] at hv
   refine Af (λ z W => z = (decide (count <= 0 \/ 100 < k), ()) /\ w4 = W) (Ac (λ hc => ⟨Aw ?_, rfl⟩) (λ hc => ⟨Aw ?_, rfl⟩)) ?_
   ·simp only [Bool.not_eq_true', decide_eq_false_iff_not] at hc
    simp only [true_iff, decide_eq_true_eq]; omega
   ·simp only [Bool.not_eq_false', decide_eq_true_eq] at hc
    simp only [decide_eq_true_eq, gt_iff_lt]; omega
   rintro _ _ ⟨rfl, rfl⟩
   refine Ac (λ hc => ?_) (λ hc => ?_)
   ·rw [if_pos (of_decide_eq_true hc)] at hv
    exact fno S4 hv.symm
   ·have hc := of_decide_eq_false hc
    rw [if_neg hc] at hv
    refine h4.Zb (Bo (by decide) ?_)
    have hk100 : k <= 100 := by omega
    have hm : k * lnN A <= 100 * lnN A := Nat.mul_le_mul_right _ hk100
    obtain ⟨m, hmm⟩ : ∃ m, k * lnN A = m := ⟨_, rfl⟩
    have hm1 : lnN A <= m := by rw [← hmm]; exact Nat.le_mul_of_pos_left _ (by omega)
    have hmi : (k : Int) * (lnN A : Int) = (m : Int) := by rw [← hmm]; exact (Int.natCast_mul _ _).symm
    rw [hmm] at hv hm
    have e1 : W64 ((k : Int) * (lnN A : Int)) = (m : Int) := by rw [hmi]; exact wrap64 (by omega) (by omega)
    have e2 : W64 ((m : Int) + 99) = ((m + 99 : Nat) : Int) := by rw [wrap64 (by omega) (by omega)]; omega
    have e3 : Int.tdiv ((m + 99 : Nat) : Int) 100 = (((m + 99) / 100 : Nat) : Int) := by rw [Int.tdiv_eq_ediv_of_nonneg (by omega)]; omega
    have e4 : W64 (((m + 99) / 100 : Nat) : Int) = (((m + 99) / 100 : Nat) : Int) := wrap64 (by omega) (by omega)
    have e5 : W64 ((((m + 99) / 100 : Nat) : Int) - 1) = (((m + 99) / 100 - 1 : Nat) : Int) := by rw [wrap64 (by omega) (by omega)]; omega
    dsimp only
    rw [e1, e2, e3, e4, e5]
    refine ⟨(m + 99) / 100 - 1, rfl, by omega, ?_, rfl⟩
    rw [if_neg (by omega), ← hv]
    refine Ht ?_
    congr 1; omega
  ·rw [beq_eq_false_iff_ne] at hk6
   rw [if_neg hk6] at hv
   exact fno S4 hv.symm
 rintro _ _ ⟨L, rfl, hL, hvv, rfl⟩
 refine Af (λ z W => z = (decide (kind = 11 \/ kind = 12), ()) /\ w4 = W) ?_ ?_
 ·refine S4.ld (off := 0) 1 rfl (x := kind) rfl (Ac (λ h1 => ⟨Aw ?_, rfl⟩) (λ h1 => S4.ld (off := 0) 1 rfl (x := kind) rfl ⟨Aw ?_, rfl⟩))
  ·rw [beq_iff_eq] at h1
   simp only [true_iff, decide_eq_true_eq]; omega
  ·rw [beq_eq_false_iff_ne] at h1
   simp only [beq_iff_eq, decide_eq_true_eq]; omega
 rintro _ _ ⟨rfl, rfl⟩
 refine Ac (λ hc => ?_) (λ hc => ?_)
 ·rw [if_pos (of_decide_eq_true hc)] at hvv
  rw [hvv] at hK
  exact Al5 h4 (V3 (l := Nc A (L : Int) g) S4 hK)
 ·rw [if_neg (of_decide_eq_false hc)] at hvv
  rw [hvv] at hK
  unfold Ey at hK
  rw [Bg8 hL] at hK
  exact At9 h4 (by omega) (Au4 h4 λ w5 e5 => V3 (S4.ext e5) hK)
end
abbrev ldX (l : Ld) : Obj := .cells #[.int .i64 l.1.1, .int .i64 l.1.2.1, .int .i64 l.1.2.2] 83 (0, 0)
section
variable {w w' : World} {p q : Nat} {A : List Int} {a : Tn}
theorem Bd0 (hk : a.kind = 5) : Cb8 a := by
 intro w p q A K hg tx pg hK
 refine A18 (a2 := Aj3 a) ?_
 unfold F18
 refine (St.start w).Ae λ b1 w1 S1 e1 => ?_
 have S1 : St (λ _ => False) w w1 [(b1, Bt5 a)] := S1
 refine S1.ld (off := 0) 0 rfl (x := a.kind) rfl ?_
 rw [hk]
 refine Am (Am (Am (Am (Df (S1.ld (off := 1) 0 rfl (x := a.at_) rfl (S1.ld (off := 2) 0 rfl (x := a.b) rfl (Aq3 (S1.at_ 0 rfl) (Au9 (tx.ext S1.upd) λ w2 e2 => ?_))))))))
 obtain ⟨l, hl⟩ : ∃ l, Et A a.at_ a.b a.mkd a.count = l := ⟨_, rfl⟩
 rw [hl]
 refine (S1.ext e2).Lc rfl rfl rfl λ b3 w3 S3 e3 => ?_
 have S3 : St (λ _ => False) w w3 [(b3, ldX l), (b1, Bt5 a)] := S3
 refine S3.ld (off := 1) 1 rfl (x := a.at_) rfl (S3.ld (off := 2) 1 rfl (x := a.b) rfl (Aq3 (S3.at_ 1 rfl) (Au2 (pg.ext S3.upd) λ w4 e4 => ?_)))
 rw [hl]
 refine (S3.ext e4).Lc rfl rfl rfl λ b5 w5 S5 e5 => ?_
 have S5 : St (λ _ => False) w w5 [(b5, ldX l), (b3, ldX l), (b1, Bt5 a)] := S5
 exact S5.lds 1 (ldT l).1 rfl (S5.lds 0 (ldT l).1 rfl (As8 λ w6 e6 => hK w6 (S5.ext e6).upd))
theorem Ar1 {y : Cells.T c26} {c : Int} {l : List UInt8} {L : List (List LEd)} {al : List Tn} (h : Rl w y c l L al) (hg : Brk w) {K : Bool -> Wp} (hK : ∀ w', Ext w w' -> K true w') : Aa Tryz.prog 5 #[.agg (Cells.vals c26 y).toArray] rB K w := by
 refine A5 (a0 := y) ?_
 unfold F5
 refine (St.start w).Ae λ b1 w1 S1 e1 => ?_
 have S1 : St (λ _ => False) w w1 [(b1, lkO y)] := S1
 refine S1.lds 0 y rfl (Ar0 (h.Cg4 e1) (hg.ext e1) (λ a h1 h2 => Bd0 (by omega)) λ w2 e2 => hK w2 (S1.ext e2).upd)
end
end Go.Proofs.YtolhlldgnfbemaaGreatDoor
namespace Go.Proofs.YtolhlldgnfbemaaGreatDoor
open Go Go.Vx Go.ChangeShapes Go.WideShapes Go.RowKit
theorem Vl (os : Os) {H : Type} (enc : TypeId × Value -> H) :
  (Rows.OpenSpec.upto Rows.motionRowsSpec).preRow enc Tryz.prog Tryz.f5 Rows.motionRowsUptoRow.domain false laidB ((laidWorld os).forCall (λ _ _ => 0) ⟨#[], #[look0], []⟩).memory #[look0] := by
 have hw : (DataW.whole enc Tryz.prog ((laidWorld os).forCall (λ _ _ => 0) ⟨#[], #[look0], []⟩).memory Tryz.f5.params.toList (Rows.OpenSpec.upto Rows.motionRowsSpec).vars false #[look0].toList 8).map (λ x => (x.1, x.2.1)) =
   some ([.agg [.lit (.int .i64 0), .nil, .nil, .nil]], []) := by kernel_rfl
 obtain ⟨⟨x1, x2, x3⟩, hx, hx1⟩ := Option.map_eq_some_iff.1 hw
 simp only [Prod.mk.injEq] at hx1
 obtain ⟨rfl, rfl⟩ := hx1
 exact OpenSpec.preRow_of_cond 8 hx (by kernel_rfl) (λ k hk => by cases hk; kernel_rfl) (by kernel_rfl) (laid_met os _)
set_option maxRecDepth 100000 in
set_option maxHeartbeats 2000000 in
theorem Xe (os : Os) (started : os.Started) (H : Type) (enc : TypeId × Value -> H) (F : Stop.Interp) :
  ReturnsInHanded {} Tryz.checked os 5 .any ((Rows.OpenSpec.upto Rows.motionRowsSpec).preRow enc Tryz.prog Tryz.f5 Rows.motionRowsUptoRow.domain false laidB) (((Rows.OpenSpec.upto Rows.motionRowsSpec).at F).post enc Tryz.prog Tryz.f5 false true false false) := by
 refine returnsInHanded_of_row (C := Tryz.checked) (s := Rows.OpenSpec.upto Rows.motionRowsSpec) Tryz.own started (by kernel_rfl) Tryz.func5
  (witness_row_atRef (enc := enc) (C := Tryz.checked) false (laidWorld os) #[look0] rfl (by kernel_rfl) (by kernel_rfl) (by kernel_rfl) (Vl os enc)) ?_
 intro W base args ds gs before hval0 hW _ hk hwt0 hL _ _
 have hval : ∀ (j : Nat) t v, Tryz.f5.params[j]? = some t -> args[j]? = some v -> Value.okWide Tryz.prog W .any base t v := hval0
 have hwt : (DataW.weightsEach Tryz.prog (Tryz.f5.params.toList ++ []) (ds ++ gs)).all (· <= reachBytes) = true := hwt0
 have hW' := hW
 obtain ⟨p, q, hA0, hV, rfl, hfz, hnd⟩ := hW
 have hA : DataW.TrodAll enc Tryz.prog W 0 (λ _ => true) true Tryz.f5.params.toList args.toList ds p := hA0
 clear hA0 hval0 hwt0
 rw [Tryz.params5] at hA hval hwt
 obtain ⟨rfl, rfl⟩ := trodVars_none hV
 obtain ⟨hn1, hn2, hT⟩ := Zj hA
 obtain ⟨v0, hv⟩ := Bo8 args.toList hn1
 obtain rfl : args = #[v0] := by cases args; simp_all
 obtain ⟨d0, rfl⟩ := Bo8 ds hn2
 have hbulk : bulk d0 <= 1048576 := by
  have h : Rows.uptoBulkAll ([d0] ++ []) <= 1048576 := of_decide_eq_true (hk _ rfl)
  simp only [List.append_nil, Rows.uptoBulkAll] at h
  show Rows.uptoBulk d0 <= _
  omega
 obtain ⟨p0, q0⟩ := hT 0 26 v0 d0 rfl rfl rfl
 obtain ⟨y, c, l, L, al, rfl, hLk⟩ := Bt7 (hval 0 26 v0 rfl rfl) q0 (weigh hwt 0 rfl rfl) hbulk
 have walk := Ar1 hLk (Ap8 hL) (K := λ r w' => r = true /\ Ext W w') λ w' e => ⟨rfl, e⟩
 refine walk.mono λ e W' ⟨x, he, hx, hext⟩ => ⟨.bool true, ?_, ?_⟩
 ·subst hx; exact he
 ·exact Bf4 (s := Rows.motionRowsSpec) hW' rfl rfl u4 rfl Tryz.laidOut (λ t ht => by
   rw [Tryz.params5] at ht
   have ht : t ∈ [26] := ht
   simp only [List.mem_cons, List.not_mem_nil, or_false] at ht
   exact recs ht) hext
theorem U4 : Rows.MotionRowsUptoSaid :=
 OpenClaim.holds_of_cond 5 Tryz.f5 rfl rfl rfl rfl rfl rfl rfl ⟨rfl, rfl, rfl, rfl, rfl⟩ rfl rfl rfl rfl rfl (by kernel_rfl) Tryz.func5 (by kernel_rfl)
  (of_decide_eq_true (by kernel_rfl)) (by unfold Func.isWrapper; rw [if_neg (by decide +kernel)]; exact ⟨rfl, rfl⟩)
  (λ os started H enc _ F => by rw [OpenClaim.pre_eq_preRow]; exact Xe os started H enc F)
theorem motionRows_holds : Rows.MotionRowsUptoCardSaid :=
 Claim7.holds_tied_plain_at .later [] [.data] true (true, "8f74c5824d2844387da4d3f60a6cadad0d89fd3d2452e68467ab9657e16e6046") false
  U4 (λ _ h => by cases h) (by kernel_rfl) (λ _ h => by cases h) motionRowsUpto_row_tie rfl ⟨rfl, rfl⟩ (by kernel_rfl) rfl
  (λ f fn hf hfn => by
   obtain rfl : f = 5 := Option.some.inj ((show Tryz.prog.funcNamed "copyist/copyistlaw8.MotionRows" = some 5 by kernel_rfl).symm.trans hf) |>.symm
   obtain rfl : fn = Tryz.f5 := (Option.some.inj (Tryz.func5.symm.trans hfn)).symm
   exact ⟨by kernel_rfl, λ j t ht => by
    rw [Tryz.params5] at ht
    have hm : t ∈ [26] := by simpa using Array.mem_of_getElem? ht
    have hall : ([26].all λ u => !Tryz.prog.wantsStandIn u) = true := by kernel_rfl
    exact (show Tryz.prog.wantsStandIn t = false by simpa using List.all_eq_true.1 hall t hm)⟩)
  (by kernel_rfl)
end Go.Proofs.YtolhlldgnfbemaaGreatDoor
