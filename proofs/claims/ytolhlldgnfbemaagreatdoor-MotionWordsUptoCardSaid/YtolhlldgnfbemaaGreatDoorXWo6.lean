/- YtolhlldgnfbemaaGreatDoorXWo6: parts of the proof, put together by program. -/
import Derived.Test.YtolhlldgnfbemaaGreatDoorXWo5
set_option linter.unusedVariables false
set_option linter.unusedSimpArgs false
set_option linter.unusedSectionVars false
noncomputable section
set_option maxRecDepth 100000
namespace Go.Proofs.YtolhlldgnfbemaaGreatDoor
open Go Go.Vx Cdc Trx Gly Clu Lns Obx
namespace Mot
variable {A : List Int} {i : Nat}
def Ad9 (A : List Int) (i : Nat) : List Int := (List.range ((Ag A i).length + 1)).map λ j => (Rf A i j : Int)
theorem Cm6 (h : i <= brs A) : nv (cuts (rowB A i)) = iv (Ad9 A i) := by
 rw [Bs3 h]
 unfold Ad9
 simp only [List.map_map]
 rfl
theorem Bz9 (A : List Int) (i : Nat) : (Ad9 A i).length = (Ag A i).length + 1 := by unfold Ad9; simp
theorem An5 {j : Nat} (h : j <= (Ag A i).length) : (Ad9 A i)[j]? = some (Rf A i j : Int) := by
 unfold Ad9
 rw [List.getElem?_map, List.getElem?_range (by omega)]; rfl
theorem Bl2 (h : i <= brs A) (c : Int) : Bf A i c = (Ba A i).from_ + Rf A i (min c.toNat (Ag A i).length) := by
 rw [Ai1 h]
 rcases Nat.lt_or_ge c.toNat (Ag A i).length with u | u
 ·rw [Nat.min_eq_left (by omega)]
  unfold Bf
  rw [Int.toNat_natCast]
 ·rw [Nat.min_eq_right u, Gq u, Gq (by omega)]
theorem Bz2 (h : i <= brs A) {j : Nat} {c : Cel} (hc : (Ag A i)[j]? = some c) : c.to_ = Bf A i ((j + 1 : Nat) : Int) := by
 have hl := (List.getElem?_eq_some_iff.1 hc).1
 rcases Nat.lt_or_ge (j + 1) (Ag A i).length with u | u
 ·obtain ⟨d, hd⟩ := Ea u
  rw [Fj u, Ir hd]
  exact (Hy A i).next j c d hc hd
 ·rw [Gq (by omega)]
  exact Af1 h hc (by omega)
theorem Y2 (h : i <= brs A) {c d : Nat} (hcd : c <= d) (hd : d <= (Ag A i).length) : Bf A i (c : Int) <= Bf A i (d : Int) := by
 rcases Nat.lt_or_ge c d with u | u
 ·exact Nat.le_of_lt (Ue h u hd)
 ·rw [show c = d by omega]; exact Nat.le_refl _
theorem Bf0 (h : i <= brs A) {j : Nat} {c : Cel} (hc : (Ag A i)[j]? = some c) : (rowB A i)[Rf A i j]? = some c.atom /\ c.kind = wrd c.atom := by
 have hl := (List.getElem?_eq_some_iff.1 hc).1
 obtain ⟨_, _, _, _, q⟩ := Yk (Dq h).ft (by have := (Dq h).tn; have := (Dq h).nl; omega) hc
 exact ⟨by rw [Bz8 h hl, hc]; rfl, q.kind⟩
end Mot
open Mot
abbrev RwT := Cells.T Bg
structure Gx (w : World) (A : List Int) (i : Nat) (r : RwT) : Prop where
 row : i <= brs A
 len : A.length <= 1048576
 f : r.1 = ((Ba A i).from_ : Int)
 t : r.2.1 = ((Ba A i).to_ : Int)
 n : r.2.2.1 = ((Ba A i).next : Int)
 num : r.2.2.2.2.1 = (i : Int)
 atoms : Bh w r.2.2.2.2.2.1 3 1 (iv (rowB A i))
 starts : Bh w r.2.2.2.2.2.2.1 3 1 (iv (Ad9 A i))
abbrev rwO (r : RwT) : Obj := .cells #[.int .i64 r.1, .int .i64 r.2.1, .int .i64 r.2.2.1, .int .i64 r.2.2.2.1, .int .i64 r.2.2.2.2.1, .slice r.2.2.2.2.2.1.a r.2.2.2.2.2.1.len r.2.2.2.2.2.1.cap, .slice r.2.2.2.2.2.2.1.a r.2.2.2.2.2.2.1.len r.2.2.2.2.2.2.1.cap] 135 (0, 0)
abbrev rwZ : Obj := .cells #[.int .i64 0, .int .i64 0, .int .i64 0, .int .i64 0, .int .i64 0, .slice none 0 0, .slice none 0 0] 135 (0, 0)
section
variable {w w' : World} {A : List Int} {i : Nat} {r : RwT}
theorem Gx.ext (h : Gx w A i r) (e : Ext w w') : Gx w' A i r := ⟨h.row, h.len, h.f, h.t, h.n, h.num, h.atoms.ext e, h.starts.ext e⟩
theorem Gx.slen (h : Gx w A i r) : r.2.2.2.2.2.2.1.len = (Ag A i).length + 1 := by
 have := h.starts.len1
 rw [List.length_map, Bz9] at this
 exact this.symm
theorem Gx.few (h : Gx w A i r) : (Ag A i).length <= 1048576 /\ (Ba A i).to_ <= 1048576 /\ (Ba A i).from_ <= 1048576 /\ (Ba A i).next <= 1048576 := by
 have h1 := Nz h.row
 have ok := Dq h.row
 have := ok.tn; have := ok.nl; have := ok.ft; have := h.len
 omega
theorem Ej (h : Gx w A i r) {K : Int -> Wp} (hK : ∀ w', Ext w w' -> K ((Ag A i).length : Int) w') :
  Aa Tryz.prog 80 #[.agg (Cells.vals Bg r).toArray] rI K w := by
 refine A80 (a0 := r) ?_
 unfold F80
 have hl := h.slen; have fw := h.few
 refine (St.start w).Af λ b1 w1 S1 e1 => S1.ld 0 rfl (x := r.2.2.2.2.2.2.1) rfl ?_
 rw [hl, wrap64 (by omega) (by omega)]
 have := hK w1 e1
 rw [show (((Ag A i).length + 1 : Nat) : Int) - 1 = ((Ag A i).length : Int) by omega]
 exact this
theorem Fb (h : Gx w A i r) {c : Int} {K : Int -> Wp} (hK : ∀ w', Ext w w' -> K (Bf A i c : Int) w') :
  Aa Tryz.prog 79 #[.agg (Cells.vals Bg r).toArray, .int .i64 c] rI K w := by
 refine A79 (a0 := r) ?_
 unfold F79
 have hl := h.slen; have fw := h.few
 refine (St.start w).Af λ b1 w1 S1 e1 => S1.drew λ w2 S2 e2 _ => S2.ld 0 rfl (x := r.1) rfl (S2.ld 0 rfl (x := r.2.2.2.2.2.2.1) rfl (S2.lds 0 r rfl ?_))
 refine Ej (h.ext S2.upd) λ w3 e3 => ?_
 have S3 := S2.ext e3
 refine S3.keep 0 rfl (v := .slice r.2.2.2.2.2.2.1.a r.2.2.2.2.2.2.1.len r.2.2.2.2.2.2.1.cap) rfl (S3.keep 0 rfl (v := .int .i64 r.1) rfl ?_)
 have em : (if (((Ag A i).length : Nat) : Int) < (if (0 : Int) > c then (0 : Int) else c) then (((Ag A i).length : Nat) : Int) else (if (0 : Int) > c then (0 : Int) else c)) = ((min c.toNat (Ag A i).length : Nat) : Int) := by
  split <;> split at * <;> omega
 rw [em]
 refine Fh (c := .int .i64) (xs := Ad9 A i) (h.ext S3.upd).starts (by omega) (x := (Rf A i (min c.toNat (Ag A i).length) : Int)) (by rw [Int.toNat_natCast]; exact An5 (by omega)) λ p => ?_
 have hp := Bl2 h.row c
 have hle := Ob h.row c
 have hA := h.len
 rw [h.f, wrap64 (by omega) (by omega)]
 have := hK w3 S3.upd
 rw [hp] at this
 rw [show (((Ba A i).from_ : Nat) : Int) + ((Rf A i (min c.toNat (Ag A i).length) : Nat) : Int) = (((Ba A i).from_ + Rf A i (min c.toNat (Ag A i).length) : Nat) : Int) by omega]
 exact this
theorem Vk (h : Gx w A i r) {n : Int} {K : Int -> Wp} (hK : ∀ w', Ext w w' -> K (Dw (Ag A i) n : Int) w') :
  Aa Tryz.prog 81 #[.agg (Cells.vals Bg r).toArray, .int .i64 n] rI K w := by
 refine A81 (a0 := r) ?_
 unfold F81
 have hl := h.slen; have fw := h.few; have hA := h.len
 refine (St.start w).Af λ b1 w1 S1 e1 => S1.lds 0 r rfl (Ej (h.ext e1) λ w2 e2 => ?_)
 have S2 := S1.ext e2
 have S2 : St (λ _ => False) w w2 [(b1, rwO r)] := S2
 refine Ae (λ x W => x = ((Dw (Ag A i) n : Int), ()) /\ Ext w W) ?_ (λ x W hx => by rw [hx.1]; exact hK W hx.2)
 refine Aw (λ x W => ∃ lo hi : Nat, x = ((lo : Int), (hi : Int), ()) /\ lo <= hi /\ hi <= (Ag A i).length /\ (lo = 0 \/ (Bf A i (lo : Int) : Int) <= n) /\ (∀ j : Nat, hi < j -> j <= (Ag A i).length -> n < (Bf A i (j : Int) : Int)) /\ St (λ _ => False) w W [(b1, rwO r)]) (λ x _ => (x.2.1 - x.1).toNat) ⟨0, (Ag A i).length, rfl, Nat.zero_le _, Nat.le_refl _, .inl rfl, λ j h1 h2 => by omega, S2⟩ ?_
 rintro _ W ⟨lo, hi, rfl, h1, h2, h3, h4, SW⟩
 dsimp only
 refine Ac (λ hc => ?_) (λ hc => ?_)
 ·simp only [decide_eq_true_eq] at hc
  obtain ⟨m, hm⟩ : ∃ m : Nat, m = (lo + hi + 1) / 2 := ⟨_, rfl⟩
  have ew1 : W64 ((lo : Int) + (hi : Int)) = (lo : Int) + hi := wrap64 (by omega) (by omega)
  have ew2 : W64 ((lo : Int) + (hi : Int) + 1) = (lo : Int) + hi + 1 := wrap64 (by omega) (by omega)
  have ed : Int.tdiv ((lo : Int) + (hi : Int) + 1) 2 = (m : Int) := by rw [Int.tdiv_eq_ediv_of_nonneg (by omega)]; omega
  have ew3 : W64 (m : Int) = (m : Int) := wrap64 (by omega) (by omega)
  have ew4 : W64 ((m : Int) - 1) = ((m - 1 : Nat) : Int) := by rw [wrap64 (by omega) (by omega)]; omega
  rw [ew1, ew2, ed, ew3, ew4]
  refine Cm (by decide) (SW.drew λ w3 S3 e3 _ => S3.ld 0 rfl (x := r.1) rfl (S3.ld 0 rfl (x := r.2.2.2.2.2.2.1) rfl ?_))
  refine Fh (c := .int .i64) (xs := Ad9 A i) (h.ext S3.upd).starts (by omega) (x := (Rf A i m : Int)) (by rw [Int.toNat_natCast]; exact An5 (by omega)) λ p => ?_
  have hp := Ai1 h.row m
  have hle := Ob h.row (m : Int)
  rw [h.f, wrap64 (by omega) (by omega), show (((Ba A i).from_ : Nat) : Int) + ((Rf A i m : Nat) : Int) = (Bf A i (m : Int) : Int) by omega]
  refine Ac (λ hg => ?_) (λ hg => ?_)
  ·simp only [decide_eq_true_eq] at hg
   exact ⟨⟨m, hi, rfl, by omega, h2, .inr hg, h4, S3⟩, by omega⟩
  ·simp only [decide_eq_false_iff_not] at hg
   refine ⟨⟨lo, m - 1, rfl, by omega, by omega, h3, λ j j1 j2 => ?_, S3⟩, by omega⟩
   have := Y2 h.row (c := m) (d := j) (by omega) j2
   omega
 ·simp only [decide_eq_false_iff_not] at hc
  obtain rfl : lo = hi := by omega
  refine ⟨?_, SW.upd⟩
  rw [D8 h2 (λ j c hj hc' => ?_) (λ c hc' => ?_)]
  ·rw [Bz2 h.row hc']
   have := Y2 h.row (c := j + 1) (d := lo) (by omega) h2
   rcases h3 with rfl | h3
   ·omega
   ·omega
  ·have hl2 := (List.getElem?_eq_some_iff.1 hc').1
   rw [Bz2 h.row hc']
   exact h4 (lo + 1) (by omega) (by omega)
theorem Um (h : Gx w A i r) {j : Nat} {c : Cel} (hc : (Ag A i)[j]? = some c) {K : Int -> Wp} (hK : ∀ w', Ext w w' -> K c.atom w') :
  Aa Tryz.prog 204 #[.agg (Cells.vals Bg r).toArray, .int .i64 (j : Int)] rI K w := by
 refine Dl8 (a0 := r) ?_
 unfold F204
 have hl := h.slen; have fw := h.few
 have hj := (List.getElem?_eq_some_iff.1 hc).1
 refine (St.start w).Af λ b1 w1 S1 e1 => S1.drew λ w2 S2 e2 _ => S2.ld 0 rfl (x := r.2.2.2.2.2.1) rfl (S2.ld 0 rfl (x := r.2.2.2.2.2.2.1) rfl ?_)
 have h2 := h.ext S2.upd
 refine Fh (c := .int .i64) (xs := Ad9 A i) h2.starts (by omega) (x := (Rf A i j : Int)) (by rw [Int.toNat_natCast]; exact An5 (by omega)) λ p => ?_
 exact Fh (c := .int .i64) (xs := rowB A i) h2.atoms (by omega) (x := c.atom) (by rw [Int.toNat_natCast]; exact (Bf0 h.row hc).1) λ q => hK w2 S2.upd
theorem Og (h : Gx w A i r) {j : Nat} (hj : j < (Ag A i).length) {big : Bool} {K : Int -> Wp} (hK : ∀ w', Ext w w' -> K (Fg (Ag A i) j big : Int) w') :
  Aa Tryz.prog 197 #[.agg (Cells.vals Bg r).toArray, .int .i64 (j : Int), .bool big] rI K w := by
 refine Dm3 (a0 := r) ?_
 unfold F197
 obtain ⟨c, hc⟩ := Ea hj
 refine (St.start w).Af λ b1 w1 S1 e1 => S1.lds 0 r rfl (Um (h.ext e1) hc λ w2 e2 => Bj0 λ w3 e3 => ?_)
 have e13 := (e1.trans e2).trans e3
 have hk := (Bf0 h.row hc).2
 unfold Fg at hK
 rw [hc] at hK
 refine Ac (λ hb => ?_) (λ hb => ?_)
 ·have := hK w3 e13
  rw [if_pos hb] at this
  have e : (if (1 : Int) < ((wrd c.atom : Nat) : Int) then (1 : Int) else ((wrd c.atom : Nat) : Int)) = ((min c.kind 1 : Nat) : Int) := by rw [hk]; split <;> omega
  rw [e]; exact this
 ·have := hK w3 e13
  rw [if_neg (by rw [hb]; decide)] at this
  rw [← hk]; exact this
theorem Az8 (h : Gx w A i r) {K : Int -> Wp} (hK : ∀ w', Ext w w' -> K (V6 A i : Int) w') :
  Aa Tryz.prog 182 #[.agg (Cells.vals Bg r).toArray] rI K w := by
 refine Dn2 (a0 := r) ?_
 unfold F182
 have fw := h.few
 refine (St.start w).Af λ b1 w1 S1 e1 => ?_
 have S1 : St (λ _ => False) w w1 [(b1, rwO r)] := S1
 refine Ae (λ _ W => (∀ (j : Nat) y, (Ag A i)[j]? = some y -> y.kind = 0) /\ St (λ _ => False) w W [(b1, rwO r)]) ?_ ?_
 ·refine S1.lds 0 r rfl (Ej (h.ext e1) λ w2 e2 => ?_)
  refine Aw (λ x W => ∃ c : Nat, x = ((c : Int), ()) /\ c <= (Ag A i).length /\ (∀ (j : Nat) y, j < c -> (Ag A i)[j]? = some y -> y.kind = 0) /\ St (λ _ => False) w W [(b1, rwO r)]) (λ x _ => (((Ag A i).length : Int) - x.1).toNat) ⟨0, rfl, Nat.zero_le _, λ j y hj => by omega, S1.ext e2⟩ ?_
  rintro _ W ⟨c, rfl, h1, h2, SW⟩
  dsimp only
  refine Ac (λ hc => ?_) (λ hc => ?_)
  ·simp only [decide_eq_true_eq] at hc
   have ew : W64 ((c : Int) + 1) = ((c + 1 : Nat) : Int) := by rw [wrap64 (by omega) (by omega)]; omega
   rw [ew]
   obtain ⟨x, hx⟩ := Ea (C := Ag A i) (j := c) (by omega)
   refine SW.lds 0 r rfl (Og (h.ext SW.upd) (j := c) (by omega) λ w3 e3 => ?_)
   have hkb : Fg (Ag A i) c true = min x.kind 1 := by unfold Fg; rw [if_pos rfl, hx]; rfl
   rw [hkb]
   refine Ac (λ hg => ?_) (λ hg => ?_)
   ·simp only [bne_iff_ne, ne_eq] at hg
    have := hK w3 (SW.ext e3).upd
    rw [Cd3 hx (by omega) h2] at this
    exact this
   ·simp only [bne_eq_false_iff_eq] at hg
    refine ⟨⟨c + 1, rfl, by omega, λ j y hj hy => ?_, SW.ext e3⟩, by omega⟩
    by_cases hjc : j = c
    ·subst hjc; rw [hx] at hy; cases hy; omega
    ·exact h2 j y (by omega) hy
  ·simp only [decide_eq_false_iff_not] at hc
   exact ⟨λ j y hy => h2 j y (by have := (List.getElem?_eq_some_iff.1 hy).1; omega) hy, SW⟩
 rintro _ W ⟨h0, SW⟩
 refine SW.lds 0 r rfl (Ej (h.ext SW.upd) λ w3 e3 => ?_)
 have := hK w3 (SW.ext e3).upd
 rw [Bj9 h0] at this
 rw [wrap64 (by omega) (by omega)]
 have e : (if (0 : Int) > (((Ag A i).length : Nat) : Int) - 1 then (0 : Int) else (((Ag A i).length : Nat) : Int) - 1) = (((Ag A i).length - 1 : Nat) : Int) := by split <;> omega
 rw [e]; exact this
end
end Go.Proofs.YtolhlldgnfbemaaGreatDoor
namespace Go.Proofs.YtolhlldgnfbemaaGreatDoor
open Go Go.Vx Cdc Trx Gly Clu Lns Obx Mot
section
variable {w w' : World} {p : Nat} {e : Enc} {lim na : Nat} {O : Nat -> Prop} {M : Parts} {A : List Int}
structure TxA (w : World) (p : Nat) (A : List Int) : Prop where
 ex : ∃ e lim na O M, Txt w p e lim na O M /\ atoms (aOf e M) = A
theorem TxA.ext (h : TxA w p A) (x : Ext w w') : TxA w' p A := by
 obtain ⟨e, lim, na, O, M, h1, h2⟩ := h.ex
 exact ⟨e, lim, na, O, M, h1.ext x, h2⟩
theorem TxA.len (h : TxA w p A) : A.length <= 1048576 := by
 obtain ⟨e, lim, na, O, M, h1, rfl⟩ := h.ex
 rw [hal]; exact h1.few
theorem TxA.at_ (h : TxA w p A) {i : Nat} (hi : i <= brs A) {K : Cells.T Jj × Int × Unit -> Wp} (hK : ∀ w', Ext w w' -> K (lnT (Ba A i), 0, ()) w') :
  Aa Tryz.prog 106 #[.pointer (some (at0 p)), .int .i64 (i : Int)] (.tup [(.agg Jj), (.one (.int .i64))]) K w := by
 have hA := h.len; have hb := Me A
 obtain ⟨e, lim, na, O, M, h1, rfl⟩ := h.ex
 refine Bw0 h1 (by omega) λ w' x => ?_
 have := hK w' x
 unfold lnI
 rw [if_neg (by omega), Int.toNat_natCast, Ve hi]
 exact this
theorem TxA.atoms (h : TxA w p A) {f t : Int} {K : Sl -> Wp} (hK : ∀ s w', Ap w' w.heap.size s 3 1 (iv (sub A f t)) -> Ext w w' -> K s w') :
  Aa Tryz.prog 25 #[.pointer (some (at0 p)), .int .i64 f, .int .i64 t] rS K w := by
 obtain ⟨e, lim, na, O, M, h1, rfl⟩ := h.ex
 exact Sv h1 hK
theorem TxA.of (h : TxA w p A) {x : Int} {K : Int -> Wp} (hK : ∀ w', Ext w w' -> K (ofI A x : Int) w') :
  Aa Tryz.prog 130 #[.pointer (some (at0 p)), .int .i64 x] rI K w := by
 obtain ⟨e, lim, na, O, M, h1, rfl⟩ := h.ex
 refine Bv4 h1 λ w' x' => ?_
 have := hK w' x'
 unfold ofI inT at this
 have e1 : nb (Trx.atoms (aOf e M)) x.toNat = nb (Trx.atoms (aOf e M)) (min (max x 0) ((Trx.atoms (aOf e M)).length : Int)).toNat := by
  rcases Nat.lt_or_ge x.toNat (Trx.atoms (aOf e M)).length with u | u
  ·congr 1; omega
  ·rw [Y8 _ _ u, show (min (max x 0) ((Trx.atoms (aOf e M)).length : Int)).toNat = (Trx.atoms (aOf e M)).length by omega, Jk]
 rw [e1]; exact this
theorem TxA.count (h : TxA w p A) {K : Int -> Wp} (hK : ∀ w', Ext w w' -> K (lnN A : Int) w') :
  Aa Tryz.prog 87 #[.pointer (some (at0 p))] rI K w := by
 obtain ⟨e, lim, na, O, M, h1, rfl⟩ := h.ex
 exact As4 h1 hK
theorem TxA.Cp0 (h : TxA w p A) {K : Int -> Wp} (hK : ∀ w', Ext w w' -> K (A.length : Int) w') :
  Aa Tryz.prog 23 #[.pointer (some (at0 p))] rI K w := by
 obtain ⟨e, lim, na, O, M, h1, rfl⟩ := h.ex
 refine Jc h1 λ w' x => ?_
 have := hK w' x
 rw [hal] at this; exact this
theorem Be4 (A : List Int) (i : Nat) : sub A ((Ba A i).from_ : Int) ((Ba A i).to_ : Int) = rowB A i := by unfold sub rowB; simp
theorem Qm (h : TxA w p A) {i : Nat} (hi : i <= brs A) {K : RwT -> Wp} (hK : ∀ r w', Gx w' A i r -> Ext w w' -> K r w') :
  Aa Tryz.prog 86 #[.pointer (some (at0 p)), .int .i64 (i : Int)] (.one (.agg Bg)) K w := by
 refine A86 ?_
 unfold F86
 have hA := h.len
 let rw1 (sa ss : Sl) : RwT := (((Ba A i).from_ : Int), ((Ba A i).to_ : Int), ((Ba A i).next : Int), ((Ba A i).kind : Int), (i : Int), sa, ss, ())
 let lnO : Obj := .cells #[.int .i64 ((Ba A i).from_ : Int), .int .i64 ((Ba A i).to_ : Int), .int .i64 ((Ba A i).next : Int), .int .i64 ((Ba A i).kind : Int)] 133 (0, 0)
 refine (St.start w).Af λ b1 w1 S1 e1 => h.ext e1 |>.at_ hi λ w2 e2 => (S1.ext e2).Af λ b3 w3 S3 e3 => S3.Ad 0 rfl rfl rfl rfl λ w4 S4 u4 => ?_
 have S4 : St (λ _ => False) w w4 [(b3, lnO), (b1, rwZ)] := S4
 refine Ae (λ x W => ∃ b sa, x = (at0 b, ()) /\ St (λ _ => False) w W [(b, rwO (rw1 sa ⟨none, 0, 0⟩)), (b3, lnO), (b1, rwZ)] /\ Ap W w.heap.size sa 3 1 (iv (rowB A i))) ?_ ?_
 ·refine S4.drew λ w5 S5 e5 _ => S5.lds 0 (lnT (Ba A i)) rfl (S5.ld 0 rfl (x := ((Ba A i).from_ : Int)) rfl (S5.ld 0 rfl (x := ((Ba A i).to_ : Int)) rfl ?_))
  refine ⟨?_, ?_⟩
  ·refine S5.Af λ b9 w6 S6 e6 => ?_
   refine S6.keep 1 rfl (v := .int .i64 ((Ba A i).to_ : Int)) rfl (S6.keep 1 rfl (v := .int .i64 ((Ba A i).from_ : Int)) rfl (S6.keeps 1 (x := lnT (Ba A i)) rfl ?_))
   refine (h.ext S6.upd).atoms λ sa w7 o7 e7 => ?_
   rw [Be4] at o7
   have S7 := S6.ext e7
   have o7 := o7.mono S6.upd.size
   refine S7.keeps 1 (x := lnT (Ba A i)) rfl (S7.Ad 0 rfl rfl rfl rfl λ w8 S8 u8 => ?_)
   exact ⟨b9, sa, rfl, S8, o7.box (S7.at_ 0 rfl) (by decide) u8⟩
  ·refine (h.ext S5.upd).atoms λ sa w6 o6 e6 => ?_
   rw [Be4] at o6
   have S6 := S5.ext e6
   have o6 := o6.mono S5.upd.size
   refine S6.keeps 0 (x := lnT (Ba A i)) rfl ⟨?_, trivial⟩
   refine S6.Af λ b12 w7 S7 e7 => ?_
   refine S7.keep 1 rfl (v := .int .i64 ((Ba A i).to_ : Int)) rfl (S7.keep 1 rfl (v := .int .i64 ((Ba A i).from_ : Int)) rfl (S7.keeps 1 (x := lnT (Ba A i)) rfl (S7.Ad 0 rfl rfl rfl rfl λ w8 S8 u8 => ?_)))
   exact ⟨b12, sa, rfl, S8, (o6.ext e7).box (S7.at_ 0 rfl) (by decide) u8⟩
 rintro _ W ⟨b, sa, rfl, SW, oa⟩
 refine SW.ld (off := 5) 0 rfl (x := sa) rfl ?_
 refine An2 oa.in (by rw [Ub hi]; have := (Dq hi).tn; have := (Dq hi).nl; omega) λ ss w2 o2 e2 => ?_
 rw [Cm6 hi] at o2
 have S2 := SW.ext e2
 have o2 := o2.mono SW.upd.size
 refine S2.stC (off := 6) 0 rfl (by show 6 < 7; decide) λ w3 S3 u3 => ?_
 have S3 : St (λ _ => False) w w3 [(b, rwO (rw1 sa ss)), (b3, lnO), (b1, rwZ)] := S3
 have oa3 := (oa.ext e2).box (S2.at_ 0 rfl) (by decide) u3
 have os3 := o2.box (S2.at_ 0 rfl) (by decide) u3
 refine S3.lds 0 (rw1 sa ss) rfl (S3.Ad 2 rfl rfl rfl rfl λ w4 S4 u4 => ?_)
 have oa4 := oa3.box (S3.at_ 2 rfl) (by decide) u4
 have os4 := os3.box (S3.at_ 2 rfl) (by decide) u4
 refine S4.lds 2 (rw1 sa ss) rfl (hK _ w4 ?_ S4.upd)
 exact ⟨hi, hA, rfl, rfl, rfl, rfl, oa4.in, os4.in⟩
theorem Rn (h : TxA w p A) {x : Int} {tail : Bool} {K : RwT -> Wp} (hK : ∀ r w', Gx w' A (Dk A x tail) r -> Ext w w' -> K r w') :
  Aa Tryz.prog 78 #[.pointer (some (at0 p)), .int .i64 x, .bool tail] (.one (.agg Bg)) K w := by
 refine A78 ?_
 unfold F78
 have hA := h.len; have hb := Bq A; have hbl := Me A; have hof := Zr A x
 refine (St.start w).Af λ b1 w1 S1 e1 => (h.ext e1).of λ w2 e2 => ?_
 have S2 := S1.ext e2
 have S2 : St (λ _ => False) w w2 [(b1, rwZ)] := S2
 refine Ae (λ y W => y = ((Dk A x tail : Int), ()) /\ St (λ _ => False) w W [(b1, rwZ)]) ?_ ?_
 ·refine Ac (λ hc => ?_) (λ hc => ?_)
  ·have ht : tail = false := by simpa using hc
   subst ht
   refine (h.ext S2.upd).count λ w3 e3 => ⟨?_, S2.ext e3⟩
   have ew : W64 ((lnN A : Int) - 1) = ((lnN A - 1 : Nat) : Int) := by rw [wrap64 (by omega) (by omega)]; omega
   rw [ew]
   show _ = (((min (ofI A x) (lnN A - 1) : Nat) : Int), ())
   congr 1
   split <;> omega
  ·have ht : tail = true := by simpa using hc
   subst ht
   exact ⟨by unfold Dk; rw [if_pos rfl], S2⟩
 rintro _ W ⟨rfl, SW⟩
 refine Qm (h.ext SW.upd) (Vf A x tail) λ r w3 hr e3 => (SW.ext e3).Ad 0 rfl rfl rfl rfl λ w4 S4 u4 => ?_
 have S4 : St (λ _ => False) w w4 [(b1, rwO r)] := S4
 refine S4.lds 0 r rfl (hK r w4 ⟨hr.row, hr.len, hr.f, hr.t, hr.n, hr.num, ?_, ?_⟩ S4.upd)
 ·exact hr.atoms.box ((SW.ext e3).at_ 0 rfl) (by decide) u4
 ·exact hr.starts.box ((SW.ext e3).at_ 0 rfl) (by decide) u4
theorem Gx.box {i b : Nat} {c : Array Value} {fr : Nat × Nat} {t : TypeId} {r : RwT} (h : Gx w A i r) (hb : w.heap[b]? = some (.cells c t fr)) (ht : 3 ≠ t) (u : Upd (λ k => k = b) w w') : Gx w' A i r :=
 ⟨h.row, h.len, h.f, h.t, h.n, h.num, h.atoms.box hb ht u, h.starts.box hb ht u⟩
theorem L9 (h : TxA w p A) {x : Int} {past : Bool} {K : Int -> Wp} (hK : ∀ w', Ext w w' -> K (Az A x past : Int) w') :
  Aa Tryz.prog 34 #[.pointer (some (at0 p)), .int .i64 x, .bool past] rI K w := by
 refine A34 ?_
 unfold F34
 have hA := h.len
 refine Rn h λ r w1 hr e1 => ?_
 refine (St.start w).ext e1 |>.Af λ b2 w2 S2 e2 => S2.Ad 0 rfl rfl rfl rfl λ w3 S3 u3 => ?_
 have S3 : St (λ _ => False) w w3 [(b2, rwO r)] := S3
 have hr := (hr.ext e2).box (S2.at_ 0 rfl) (by decide) u3
 have fw := hr.few
 refine (h.ext S3.upd).Cp0 λ w4 e4 => ?_
 have S4 := S3.ext e4
 have hr := hr.ext e4
 refine S4.ld (off := 1) 0 rfl (x := r.2.1) rfl ?_
 have ein : (if ((A.length : Nat) : Int) < (if (0 : Int) > x then (0 : Int) else x) then ((A.length : Nat) : Int) else (if (0 : Int) > x then (0 : Int) else x)) = (inT A x : Int) := by
  unfold inT
  split <;> split at * <;> omega
 rw [ein, hr.t]
 unfold Az at hK
 refine Ac (λ hc => ?_) (λ hc => ?_)
 ·simp only [decide_eq_true_eq, ge_iff_le] at hc
  rw [if_pos (by omega)] at hK
  refine Ac (λ hp => ?_) (λ hp => ?_)
  ·subst hp
   rw [if_pos rfl] at hK
   refine S4.ld (off := 1) 0 rfl (x := r.2.1) rfl ?_
   rw [hr.t]; exact hK w4 S4.upd
  ·subst hp
   rw [if_neg (by decide)] at hK
   refine S4.drew λ w5 S5 e5 _ => S5.lds 0 r rfl (S5.lds 0 r rfl (Ej (hr.ext e5) λ w6 e6 => ?_))
   have S6 := S5.ext e6
   rw [wrap64 (by omega) (by omega)]
   exact S6.keeps 0 (x := r) rfl (Fb ((hr.ext e5).ext e6) λ w7 e7 => hK w7 (S6.ext e7).upd)
 ·simp only [decide_eq_false_iff_not, ge_iff_le] at hc
  rw [if_neg (by omega)] at hK
  refine S4.drew λ w5 S5 e5 _ => S5.lds 0 r rfl (S5.lds 0 r rfl (Vk (hr.ext e5) λ w6 e6 => ?_))
  have S6 := S5.ext e6
  exact S6.keeps 0 (x := r) rfl (Fb ((hr.ext e5).ext e6) λ w7 e7 => hK w7 (S6.ext e7).upd)
theorem Yj (h : TxA w p A) {x : Int} {K : Int -> Wp} (hK : ∀ w', Ext w w' -> K (U3 A x : Int) w') :
  Aa Tryz.prog 38 #[.pointer (some (at0 p)), .int .i64 x] rI K w := by
 refine A38 ?_
 unfold F38
 refine Rn h λ r w1 hr e1 => ?_
 refine (St.start w).ext e1 |>.Af λ b2 w2 S2 e2 => S2.Ad 0 rfl rfl rfl rfl λ w3 S3 u3 => ?_
 have S3 : St (λ _ => False) w w3 [(b2, rwO r)] := S3
 have hr := (hr.ext e2).box (S2.at_ 0 rfl) (by decide) u3
 exact S3.lds 0 r rfl (Vk hr λ w4 e4 => hK w4 (S3.ext e4).upd)
end
abbrev LdT := Cells.T c83 × Int × Unit
abbrev ldT (l : Ld) : LdT := ((l.1.1, l.1.2.1, l.1.2.2, ()), l.2, ())
abbrev ldZ : Obj := .cells #[.int .i64 0, .int .i64 0, .int .i64 0] 83 (0, 0)
abbrev mvO (p : Nat) (s c k : Int) (counted : Bool) (arg goal : Int) (past big : Bool) (r : RwT) : Obj :=
 .cells #[.pointer (some (at0 p)), .int .i64 s, .int .i64 c, .int .i64 k, .bool counted, .int .i64 arg, .int .i64 goal, .bool past, .bool big, .int .i64 r.1, .int .i64 r.2.1, .int .i64 r.2.2.1, .int .i64 r.2.2.2.1, .int .i64 r.2.2.2.2.1, .slice r.2.2.2.2.2.1.a r.2.2.2.2.2.1.len r.2.2.2.2.2.1.cap, .slice r.2.2.2.2.2.2.1.a r.2.2.2.2.2.2.1.len r.2.2.2.2.2.2.1.cap] 176 (0, 0)
structure Ed (w : World) (b p : Nat) (A : List Int) (x count arg goal : Int) (past big : Bool) (r : RwT) : Prop where
 tx : TxA w p A
 obj : w.heap[b]? = some (mvO p (Az A x past : Int) ((Ar A x past).2 : Int) (kOf count : Int) (decide (0 < count)) arg goal past big r)
 row : Gx w A (Ar A x past).1 r
section
variable {w w' : World} {b p : Nat} {A : List Int} {x count arg goal : Int} {past big : Bool} {r : RwT}
theorem Ed.ext (h : Ed w b p A x count arg goal past big r) (e : Ext w w') : Ed w' b p A x count arg goal past big r := ⟨h.tx.ext e, e.ext_get h.obj, h.row.ext e⟩
theorem Ed.tK (h : Ed w b p A x count arg goal past big r) {K : Addr -> Option Addr -> Wp} (hK : K (at0 b) (some (at0 p)) w) : nn (some (at0 b)) (λ q => ld (.ptr) q (K q)) w := Aj (Ci (off := 0) h.obj rfl hK)
theorem Ed.cK (h : Ed w b p A x count arg goal past big r) {K : Addr -> Int -> Wp} (hK : K (at0 b) ((Ar A x past).2 : Int) w) : nn (some (at0 b)) (λ q => ld (.int .i64) (q.add 2) (K q)) w := Aj (Ci (off := 2) h.obj rfl hK)
theorem Ed.sK (h : Ed w b p A x count arg goal past big r) {K : Addr -> Int -> Wp} (hK : K (at0 b) (Az A x past : Int) w) : nn (some (at0 b)) (λ q => ld (.int .i64) (q.add 1) (K q)) w := Aj (Ci (off := 1) h.obj rfl hK)
theorem Ed.kK (h : Ed w b p A x count arg goal past big r) {K : Addr -> Int -> Wp} (hK : K (at0 b) (kOf count : Int) w) : nn (some (at0 b)) (λ q => ld (.int .i64) (q.add 3) (K q)) w := Aj (Ci (off := 3) h.obj rfl hK)
theorem Ed.Cs9 (h : Ed w b p A x count arg goal past big r) {K : Addr -> Int -> Wp} (hK : K (at0 b) arg w) : nn (some (at0 b)) (λ q => ld (.int .i64) (q.add 5) (K q)) w := Aj (Ci (off := 5) h.obj rfl hK)
theorem Ed.Bt8 (h : Ed w b p A x count arg goal past big r) {K : Addr -> Bool -> Wp} (hK : K (at0 b) past w) : nn (some (at0 b)) (λ q => ld (.bool) (q.add 7) (K q)) w := Aj (Ci (off := 7) h.obj rfl hK)
theorem Ed.Qd (h : Ed w b p A x count arg goal past big r) {K : Addr -> Bool -> Wp} (hK : K (at0 b) big w) : nn (some (at0 b)) (λ q => ld (.bool) (q.add 8) (K q)) w := Aj (Ci (off := 8) h.obj rfl hK)
theorem Ed.Ah0 (h : Ed w b p A x count arg goal past big r) {K : Addr -> Int -> Wp} (hK : K (at0 b) r.1 w) : nn (some (at0 b)) (λ q => ld (.int .i64) (q.add 9) (K q)) w := Aj (Ci (off := 9) h.obj rfl hK)
theorem Ul {o : Array Value} {off : Nat} {r : RwT} (h : (o.toList.drop off).take 7 = Cells.vals Bg r) : ∀ (j : Nat) v, (Cells.vals Bg r)[j]? = some v -> o[off + j]? = some v := by
 intro j v hv
 rw [← h, List.getElem?_take] at hv
 split at hv
 ·rw [List.getElem?_drop] at hv
  simpa using hv
 ·cases hv
theorem Ed.Nh (h : Ed w b p A x count arg goal past big r) {K : Addr -> RwT -> Wp} (hK : K (at0 b) r w) : nn (some (at0 b)) (λ q => lds Bg (q.add 9) (K q)) w :=
 Aj (Na (off := 9) h.obj (Ul (by rfl)) hK)
theorem Ed.keepRow (h : Ed w b p A x count arg goal past big r) {K : World -> Prop} (hK : K w) : keep (λ w => Ak w ((at0 b).add 9) 0 (Cells.vals Bg r)) K w :=
 Aq (Es (off := 9) _ 0 λ j v hv => by rw [Nat.zero_add]; exact cell_of h.obj (Ul (r := r) (by rfl) j v hv)) hK
theorem Ed.Ag7 (h : Ed w b p A x count arg goal past big r) {K : World -> Prop} (hK : K w) : keep (λ w => w.cell? ((at0 b).add 2) = some (Cell.val (.int .i64) ((Ar A x past).2 : Int))) K w := Aq (cell_of (off := 2) h.obj rfl) hK
theorem Ed.Cj9 (h : Ed w b p A x count arg goal past big r) {K : World -> Prop} (hK : K w) : keep (λ w => w.cell? ((at0 b).add 3) = some (Cell.val (.int .i64) (kOf count : Int))) K w := Aq (cell_of (off := 3) h.obj rfl) hK
theorem Ed.Bg9 (h : Ed w b p A x count arg goal past big r) {K : World -> Prop} (hK : K w) : keep (λ w => w.cell? ((at0 b).add 5) = some (Cell.val (.int .i64) arg)) K w := Aq (cell_of (off := 5) h.obj rfl) hK
theorem Ed.Cr3 (h : Ed w b p A x count arg goal past big r) {K : World -> Prop} (hK : K w) : keep (λ w => w.cell? (at0 b) = some (Cell.val (.ptr) (some (at0 p)))) K w := Aq (cell_of (off := 0) h.obj rfl) hK
theorem Ho {W w0 : World} {b1 : Nat} {l : Ld} {K : LdT -> Wp} (S : St (λ _ => False) w0 W [(b1, ldZ)]) (hK : ∀ w', Ext w0 w' -> K (ldT l) w') :
  Ad (at0 b1) (.agg (Cells.vals c83 (ldT l).1).toArray) 3 (lds c83 (at0 b1) λ y => K (y, (ldT l).2.1, ())) W :=
 S.Ad 0 rfl rfl rfl rfl λ w1 S1 _ => S1.lds 0 (ldT l).1 rfl (hK w1 S1.upd)
theorem Gi {K : LdT -> Wp} (hK : ∀ w', Ext w w' -> K (ldT (noP 80)) w') : Aa Tryz.prog 179 #[] (.tup [(.agg c83), (.one (.int .i64))]) K w := by
 refine Dn4 ?_
 unfold F179
 exact (St.start w).Af λ b1 w1 S1 e1 => S1.Ad 0 rfl rfl rfl rfl λ w2 S2 _ => S2.lds 0 (ldT (noP 80)).1 rfl (hK w2 S2.upd)
theorem Fp (h : Ed w b p A x count arg goal past big r) {n : Nat} {kind : Int} {K : LdT -> Wp} (hK : ∀ w', Ext w w' -> K (ldT (Dv A n kind)) w') :
  Aa Tryz.prog 180 #[.pointer (some (at0 b)), .int .i64 (n : Int), .int .i64 kind] (.tup [(.agg c83), (.one (.int .i64))]) K w := by
 refine Ct6 ?_
 unfold F180
 refine (St.start w).Af λ b1 w1 S1 e1 => (h.ext e1).tK (Yj (h.ext e1).tx λ w2 e2 => ?_)
 exact (S1.ext e2).Ad 0 rfl rfl rfl rfl λ w3 S3 _ => S3.lds 0 (ldT (Dv A n kind)).1 rfl (hK w3 S3.upd)
theorem Uj (h : Ed w b p A x count arg goal past big r) {K : Int -> Wp} (hK : ∀ w', Ext w w' -> K (Iz A (Ar A x past).1 past : Int) w') :
  Aa Tryz.prog 181 #[.pointer (some (at0 b))] rI K w := by
 refine Dn3 ?_
 unfold F181
 have fw := h.row.few
 unfold Iz at hK
 refine h.Bt8 (Ac (λ hp => ?_) (λ hp => ?_))
 ·refine h.Nh (Ej h.row λ w1 e1 => ?_)
  have := hK w1 e1
  rw [if_pos hp] at this; exact this
 ·refine h.Nh (Ej h.row λ w1 e1 => ?_)
  have := hK w1 e1
  rw [if_neg (by rw [hp]; decide)] at this
  rw [wrap64 (by omega) (by omega)]
  have e : (if (0 : Int) > (((Ag A (Ar A x past).1).length : Nat) : Int) - 1 then (0 : Int) else (((Ag A (Ar A x past).1).length : Nat) : Int) - 1) = (((Ag A (Ar A x past).1).length - 1 : Nat) : Int) := by split <;> omega
  rw [e]; exact this
theorem Ed.bounds (h : Ed w b p A x count arg goal past big r) : (Ar A x past).2 <= Iz A (Ar A x past).1 past /\ Iz A (Ar A x past).1 past <= (Ag A (Ar A x past).1).length /\ (Ag A (Ar A x past).1).length <= 1048576 /\ 1 <= kOf count /\ kOf count <= 9999 /\ (Ar A x past).1 <= brs A /\ (Ar A x past).1 <= 1048576 := by
 have h1 := Bt5 A x past
 have h2 := h.row.few
 have h3 := h.row.row
 have h4 := Me A
 have h5 := h.row.len
 exact ⟨h1.1, h1.2, h2.1, Ru count, Z5 count, h3, by omega⟩
theorem Bm8 (h : Ed w b p A x count arg goal past big r) {a' : Int} {K : LdT -> Wp} (hK : ∀ w', Ext w w' -> K (ldT (Df A x 1 count a' past)) w') :
  Aa Tryz.prog 134 #[.pointer (some (at0 b))] (.tup [(.agg c83), (.one (.int .i64))]) K w := by
 refine Dq2 ?_
 unfold F134
 obtain ⟨m1, m2, m3, m4, m5, m6, m7⟩ := h.bounds
 rw [Bo9] at hK
 refine (St.start w).Af λ b1 w1 S1 e1 => ?_
 have h1 := h.ext e1
 refine h1.cK (Ac (λ hc => ?_) (λ hc => ?_))
 ·simp only [beq_iff_eq] at hc
  rw [if_pos (by omega)] at hK
  exact Gi λ w2 e2 => Ho (S1.ext e2) hK
 ·simp only [beq_eq_false_iff_ne, ne_eq] at hc
  rw [if_neg (by omega)] at hK
  refine S1.drew λ w2 S2 e2 _ => ?_
  have h2 := h1.ext e2
  refine h2.Nh (h2.cK (h2.kK ?_))
  rw [wrap64 (by omega) (by omega)]
  refine Fb h2.row λ w3 e3 => Fp (h2.ext e3) λ w4 e4 => Ho ((S2.ext e3).ext e4) ?_
  have e : Bf A (Ar A x past).1 (((Ar A x past).2 : Int) - (kOf count : Int)) = Cb A ((Ar A x past).1, (Ar A x past).2 - kOf count) := by
   unfold Cb
   dsimp only
   rcases Nat.le_total (Ar A x past).2 (kOf count) with u | u
   ·rw [Jg (by omega), Jg (c := (((Ar A x past).2 - kOf count : Nat) : Int)) (by omega)]
   ·congr 1; omega
  rw [e]; exact hK
theorem Ay7 (h : Ed w b p A x count arg goal past big r) {a' : Int} {K : LdT -> Wp} (hK : ∀ w', Ext w w' -> K (ldT (Df A x 2 count a' past)) w') :
  Aa Tryz.prog 135 #[.pointer (some (at0 b))] (.tup [(.agg c83), (.one (.int .i64))]) K w := by
 refine Dq1 ?_
 unfold F135
 obtain ⟨m1, m2, m3, m4, m5, m6, m7⟩ := h.bounds
 rw [Ah7] at hK
 refine (St.start w).Af λ b1 w1 S1 e1 => S1.drew λ w2 S2 e2 _ => ?_
 have h2 := (h.ext e1).ext e2
 refine h2.cK (Uj h2 λ w3 e3 => (h2.ext e3).Ag7 (Ac (λ hc => ?_) (λ hc => ?_)))
 ·simp only [beq_iff_eq] at hc
  rw [if_pos (by omega)] at hK
  exact Gi λ w4 e4 => Ho ((S2.ext e3).ext e4) hK
 ·simp only [beq_eq_false_iff_ne, ne_eq] at hc
  rw [if_neg (by omega)] at hK
  refine (S2.ext e3).drew λ w4 S4 e4 _ => ?_
  have h4 := (h2.ext e3).ext e4
  refine h4.Nh (h4.cK (h4.kK (Uj h4 λ w5 e5 => ?_)))
  have h5 := h4.ext e5
  refine h5.Cj9 (h5.Ag7 (h5.keepRow ?_))
  rw [wrap64 (by omega) (by omega)]
  have em : (if ((Iz A (Ar A x past).1 past : Nat) : Int) < ((Ar A x past).2 : Int) + (kOf count : Int) then ((Iz A (Ar A x past).1 past : Nat) : Int) else ((Ar A x past).2 : Int) + (kOf count : Int)) = ((min ((Ar A x past).2 + kOf count) (Iz A (Ar A x past).1 past) : Nat) : Int) := by split <;> omega
  rw [em]
  exact Fb h5.row λ w6 e6 => Fp (h5.ext e6) λ w7 e7 => Ho (((S4.ext e5).ext e6).ext e7) hK
theorem Au5 (A : List Int) (x count arg : Int) (past : Bool) : Df A x 3 count arg past = Dv A (Ba A (Ar A x past).1).from_ 0 := by
 unfold Df Ar
 dsimp only
 rw [Jp, if_neg (by decide), if_neg (by decide), if_pos rfl]
theorem Bc5 (A : List Int) (x count arg : Int) (past : Bool) : Df A x 4 count arg past = Dv A (Bf A (Ar A x past).1 (V6 A (Ar A x past).1)) 0 := by
 unfold Df Ar
 dsimp only
 rw [Jp, if_neg (by decide), if_neg (by decide), if_neg (by decide), if_pos rfl]
theorem Bo8 (A : List Int) (x count arg : Int) (past : Bool) : Df A x 6 count arg past = Dv A (Bf A (Ar A x past).1 (min ((kOf count : Int) - 1) (Iz A (Ar A x past).1 past))) 0 := by
 unfold Df Ar Iz
 dsimp only
 rw [Jp, if_neg (by decide), if_neg (by decide), if_neg (by decide), if_neg (by decide), if_neg (by decide), if_pos rfl]
theorem Ax3 (h : Ed w b p A x count arg goal past big r) {a' : Int} {K : LdT -> Wp} (hK : ∀ w', Ext w w' -> K (ldT (Df A x 3 count a' past)) w') :
  Aa Tryz.prog 136 #[.pointer (some (at0 b))] (.tup [(.agg c83), (.one (.int .i64))]) K w := by
 refine Dq0 ?_
 unfold F136
 rw [Au5] at hK
 refine (St.start w).Af λ b1 w1 S1 e1 => (h.ext e1).Ah0 ?_
 rw [h.row.f]
 exact Fp (h.ext e1) λ w2 e2 => Ho (S1.ext e2) hK
theorem Bm5 (h : Ed w b p A x count arg goal past big r) {a' : Int} {K : LdT -> Wp} (hK : ∀ w', Ext w w' -> K (ldT (Df A x 4 count a' past)) w') :
  Aa Tryz.prog 137 #[.pointer (some (at0 b))] (.tup [(.agg c83), (.one (.int .i64))]) K w := by
 refine Dp9 ?_
 unfold F137
 rw [Bc5] at hK
 refine (St.start w).Af λ b1 w1 S1 e1 => S1.drew λ w2 S2 e2 _ => ?_
 have h2 := (h.ext e1).ext e2
 refine h2.Nh (h2.Nh (Az8 h2.row λ w3 e3 => ?_))
 have h3 := h2.ext e3
 exact h3.keepRow (Fb h3.row λ w4 e4 => Fp (h3.ext e4) λ w5 e5 => Ho (((S2.ext e3).ext e4).ext e5) hK)
theorem Ca5 (h : Ed w b p A x count arg goal past big r) {a' : Int} {K : LdT -> Wp} (hK : ∀ w', Ext w w' -> K (ldT (Df A x 6 count a' past)) w') :
  Aa Tryz.prog 139 #[.pointer (some (at0 b))] (.tup [(.agg c83), (.one (.int .i64))]) K w := by
 refine Dp7 ?_
 unfold F139
 obtain ⟨m1, m2, m3, m4, m5, m6, m7⟩ := h.bounds
 rw [Bo8] at hK
 refine (St.start w).Af λ b1 w1 S1 e1 => S1.drew λ w2 S2 e2 _ => ?_
 have h2 := (h.ext e1).ext e2
 refine h2.Nh (h2.kK (Uj h2 λ w3 e3 => ?_))
 have h3 := h2.ext e3
 refine h3.Cj9 (h3.keepRow ?_)
 rw [wrap64 (by omega) (by omega)]
 have em : (if ((Iz A (Ar A x past).1 past : Nat) : Int) < (kOf count : Int) - 1 then ((Iz A (Ar A x past).1 past : Nat) : Int) else (kOf count : Int) - 1) = min ((kOf count : Int) - 1) (Iz A (Ar A x past).1 past) := by split <;> omega
 rw [em]
 exact Fb h3.row λ w4 e4 => Fp (h3.ext e4) λ w5 e5 => Ho (((S2.ext e3).ext e4).ext e5) hK
end
section
variable {w w' : World} {b p : Nat} {A : List Int} {x count arg goal : Int} {past big : Bool} {r : RwT}
def Vy (A : List Int) (i : Nat) (a : Int) (j : Nat) : Bool := decide ((Ag A i)[j]?.map (·.atom) = some a)
theorem Cd5 (A : List Int) (i : Nat) (a : Int) (n c k : Nat) : Gv (Ag A i) a (upL n c) k = upF (Vy A i a) (c + 1) n k := rfl
theorem Cd7 (A : List Int) (i : Nat) (a : Int) (c k : Nat) : Gv (Ag A i) a (Qw c) k = dnF (Vy A i a) c k := rfl
theorem Am4 {i j : Nat} {a : Int} {c : Cel} (hc : (Ag A i)[j]? = some c) : Vy A i a j = decide (c.atom = a) := by
 unfold Vy
 rw [hc]
 simp
theorem Ar4 (h : Ed w b p A x count arg goal past big r) {K : Int -> Wp}
  (hK : ∀ w', Ext w w' -> K (match Gv (Ag A (Ar A x past).1) arg (upL (Ag A (Ar A x past).1).length (Ar A x past).2) (kOf count) with | some j => (j : Int) | none => -1) w') :
  Aa Tryz.prog 203 #[.pointer (some (at0 b)), .int .i64 1] rI K w := by
 refine Ct4 ?_
 unfold F203
 obtain ⟨m1, m2, m3, m4, m5, m6, m7⟩ := h.bounds
 rw [Cd5] at hK
 generalize hi : (Ar A x past).1 = i at *
 generalize hcc : (Ar A x past).2 = c at *
 refine h.kK (Ae (λ _ W => upF (Vy A i arg) (c + 1) (Ag A i).length (kOf count) = none /\ Ext w W) ?_ (λ _ W hW => by have := hK W hW.2; rw [hW.1] at this; exact this))
 refine h.cK ?_
 rw [hcc, wrap64 (by omega) (by omega)]
 refine Aw (λ s W => ∃ k j : Nat, s = ((k : Int), (j : Int), ()) /\ 1 <= k /\ k <= 9999 /\ j <= (Ag A i).length + 1 /\ upF (Vy A i arg) (c + 1) (Ag A i).length (kOf count) = upF (Vy A i arg) j (Ag A i).length k /\ Ext w W) (λ s _ => ((Ag A i).length + 1 - s.2.1).toNat) ⟨kOf count, c + 1, by simp, m4, m5, by omega, rfl, Ext.refl w⟩ ?_
 rintro _ W ⟨k, j, rfl, k1, k2, hj, hu, eW⟩
 dsimp only
 have hW := h.ext eW
 have hrow := hW.row
 rw [hi] at hrow
 refine Ae (λ y W' => y = (decide (j < (Ag A i).length), ()) /\ Ext w W') ?_ ?_
 ·refine Ac (λ _ => hW.Nh (Ej hrow λ w2 e2 => ⟨Au ?_, eW.trans e2⟩)) (λ hc => ?_)
  ·simp only [decide_eq_true_eq]; omega
  ·simp only [decide_eq_false_iff_not, ge_iff_le] at hc; omega
 rintro _ W2 ⟨rfl, eW2⟩
 have h2 := h.ext eW2
 refine Ac (λ hc => ?_) (λ hc => ?_)
 ·simp only [decide_eq_true_eq] at hc
  obtain ⟨cl, hcl⟩ := Ea hc
  have ew : W64 ((j : Int) + 1) = ((j + 1 : Nat) : Int) := by rw [wrap64 (by omega) (by omega)]; omega
  rw [ew]
  refine Ae (λ y W' => ∃ k' : Nat, y = ((k' : Int), ()) /\ 1 <= k' /\ k' <= 9999 /\ upF (Vy A i arg) j (Ag A i).length k = upF (Vy A i arg) (j + 1) (Ag A i).length k' /\ Ext w W') ?_ ?_
  ·refine Ce λ w3 e3 _ => ?_
   have h3 := h2.ext e3
   have hr3 := h3.row
   rw [hi] at hr3
   refine h3.Nh (h3.Cs9 (Um hr3 hcl λ w4 e4 => (h3.ext e4).Bg9 ?_))
   have e04 := (eW2.trans e3).trans e4
   refine Ac (λ hg => ?_) (λ hg => ?_)
   ·simp only [bne_iff_ne, ne_eq] at hg
    exact ⟨k, rfl, k1, k2, Ck6 hc (by rw [Am4 hcl, decide_eq_false hg]), e04⟩
   ·simp only [bne_eq_false_iff_eq] at hg
    have hf : Vy A i arg j = true := by rw [Am4 hcl, decide_eq_true hg]
    have ewk : W64 ((k : Int) - 1) = ((k - 1 : Nat) : Int) := by rw [wrap64 (by omega) (by omega)]; omega
    rw [ewk]
    refine Ac (λ hz => ?_) (λ hz => ?_)
    ·simp only [beq_iff_eq] at hz
     have : k = 1 := by omega
     subst this
     have := hK w4 e04
     rw [hu, Cc5 hc hf] at this
     exact this
    ·simp only [beq_eq_false_iff_ne, ne_eq] at hz
     refine ⟨k - 1, rfl, by omega, by omega, ?_, e04⟩
     conv => lhs; rw [show k = (k - 1) + 1 by omega]
     exact Br2 hc hf (by omega)
  rintro _ W3 ⟨k', rfl, k1', k2', hu', eW3⟩
  exact ⟨⟨k', j + 1, rfl, k1', k2', by omega, hu.trans hu', eW3⟩, by omega⟩
 ·simp only [decide_eq_false_iff_not] at hc
  exact ⟨hu.trans (Br1 (by omega)), eW2⟩
theorem Ay0 (h : Ed w b p A x count arg goal past big r) {K : Int -> Wp}
  (hK : ∀ w', Ext w w' -> K (match Gv (Ag A (Ar A x past).1) arg (Qw (Ar A x past).2) (kOf count) with | some j => (j : Int) | none => -1) w') :
  Aa Tryz.prog 203 #[.pointer (some (at0 b)), .int .i64 (-1)] rI K w := by
 refine Ct4 ?_
 unfold F203
 obtain ⟨m1, m2, m3, m4, m5, m6, m7⟩ := h.bounds
 rw [Cd7] at hK
 generalize hi : (Ar A x past).1 = i at *
 generalize hcc : (Ar A x past).2 = c at *
 refine h.kK (Ae (λ _ W => dnF (Vy A i arg) c (kOf count) = none /\ Ext w W) ?_ (λ _ W hW => by have := hK W hW.2; rw [hW.1] at this; exact this))
 refine h.cK ?_
 rw [hcc, wrap64 (by omega) (by omega)]
 refine Aw (λ s W => ∃ k j : Nat, s = ((k : Int), (j : Int) - 1, ()) /\ 1 <= k /\ k <= 9999 /\ j <= (Ag A i).length /\ dnF (Vy A i arg) c (kOf count) = dnF (Vy A i arg) j k /\ Ext w W) (λ s _ => (s.2.1 + 1).toNat) ⟨kOf count, c, rfl, m4, m5, by omega, rfl, Ext.refl w⟩ ?_
 rintro _ W ⟨k, j, rfl, k1, k2, hj, hu, eW⟩
 dsimp only
 have hW := h.ext eW
 have hrow := hW.row
 rw [hi] at hrow
 refine Ae (λ y W' => y = (decide (0 < j), ()) /\ Ext w W') ?_ ?_
 ·refine Ac (λ hc => hW.Nh (Ej hrow λ w2 e2 => ⟨Au ?_, eW.trans e2⟩)) (λ hc => ⟨Au ?_, eW⟩)
  ·simp only [decide_eq_true_eq, ge_iff_le] at hc ⊢; omega
  ·simp only [decide_eq_false_iff_not, ge_iff_le, decide_eq_true_eq, Bool.false_eq_true, false_iff] at hc ⊢; omega
 rintro _ W2 ⟨rfl, eW2⟩
 have h2 := h.ext eW2
 refine Ac (λ hc => ?_) (λ hc => ?_)
 ·simp only [decide_eq_true_eq] at hc
  obtain ⟨m, rfl⟩ : ∃ m, j = m + 1 := ⟨j - 1, by omega⟩
  have em : ((m + 1 : Nat) : Int) - 1 = (m : Int) := by omega
  rw [em]
  obtain ⟨cl, hcl⟩ := Ea (C := Ag A i) (j := m) (by omega)
  have ew : W64 ((m : Int) + -1) = (m : Int) - 1 := by rw [wrap64 (by omega) (by omega)]; omega
  rw [ew]
  refine Ae (λ y W' => ∃ k' : Nat, y = ((k' : Int), ()) /\ 1 <= k' /\ k' <= 9999 /\ dnF (Vy A i arg) (m + 1) k = dnF (Vy A i arg) m k' /\ Ext w W') ?_ ?_
  ·refine Ce λ w3 e3 _ => ?_
   have h3 := h2.ext e3
   have hr3 := h3.row
   rw [hi] at hr3
   refine h3.Nh (h3.Cs9 (Um hr3 hcl λ w4 e4 => (h3.ext e4).Bg9 ?_))
   have e04 := (eW2.trans e3).trans e4
   refine Ac (λ hg => ?_) (λ hg => ?_)
   ·simp only [bne_iff_ne, ne_eq] at hg
    exact ⟨k, rfl, k1, k2, Cn4 (by rw [Am4 hcl, decide_eq_false hg]), e04⟩
   ·simp only [bne_eq_false_iff_eq] at hg
    have hf : Vy A i arg m = true := by rw [Am4 hcl, decide_eq_true hg]
    have ewk : W64 ((k : Int) - 1) = ((k - 1 : Nat) : Int) := by rw [wrap64 (by omega) (by omega)]; omega
    rw [ewk]
    refine Ac (λ hz => ?_) (λ hz => ?_)
    ·simp only [beq_iff_eq] at hz
     have : k = 1 := by omega
     subst this
     have := hK w4 e04
     rw [hu, Ch0 hf] at this
     exact this
    ·simp only [beq_eq_false_iff_ne, ne_eq] at hz
     refine ⟨k - 1, rfl, by omega, by omega, ?_, e04⟩
     conv => lhs; rw [show k = (k - 1) + 1 by omega]
     exact By0 hf (by omega)
  rintro _ W3 ⟨k', rfl, k1', k2', hu', eW3⟩
  exact ⟨⟨k', m, rfl, k1', k2', by omega, hu.trans hu', eW3⟩, by omega⟩
 ·simp only [decide_eq_false_iff_not] at hc
  have : j = 0 := by omega
  subst this
  exact ⟨hu, eW2⟩
theorem Cd6 {C : List Cel} {a : Int} {n c k j : Nat} (h : Gv C a (upL n c) k = some j) : c + 1 <= j /\ j < n := by
 have := (Ae8 h).1
 unfold upL at this
 rw [List.mem_range'_1] at this
 omega
theorem Bs2 {C : List Cel} {a : Int} {c k j : Nat} (h : Gv C a (Qw c) k = some j) : j < c := by
 have := (Ae8 h).1
 unfold Qw at this
 rw [List.mem_reverse, List.mem_range] at this
 omega
theorem Aa1 (h : Ed w b p A x count arg goal past big r) {be kd : Int} (hb : -1 <= be /\ be <= 1) {K : LdT -> Wp}
  (hK : ∀ w', Ext w w' -> K (ldT (match Gv (Ag A (Ar A x past).1) arg (upL (Ag A (Ar A x past).1).length (Ar A x past).2) (kOf count) with | some j => Dv A (Bf A (Ar A x past).1 ((j : Int) + be)) kd | none => noP 80)) w') :
  Aa Tryz.prog 183 #[.pointer (some (at0 b)), .int .i64 1, .int .i64 be, .int .i64 kd] (.tup [(.agg c83), (.one (.int .i64))]) K w := by
 refine Ct5 ?_
 unfold F183
 obtain ⟨m1, m2, m3, m4, m5, m6, m7⟩ := h.bounds
 refine (St.start w).Af λ b1 w1 S1 e1 => Ar4 (h.ext e1) λ w2 e2 => ?_
 have S2 := S1.ext e2
 have h2 := (h.ext e1).ext e2
 cases hs : Gv (Ag A (Ar A x past).1) arg (upL (Ag A (Ar A x past).1).length (Ar A x past).2) (kOf count) with
 | none =>
  rw [hs] at hK
  refine Ac (λ _ => ?_) (λ hc => by simp at hc)
  exact Gi λ w4 e4 => Ho (S2.ext e4) hK
 | some j =>
  rw [hs] at hK
  have hlt := Cd6 hs
  refine Ac (λ hc => by simp at hc; omega) (λ _ => ?_)
  refine h2.Nh ?_
  dsimp only at hK ⊢
  rw [wrap64 (by omega) (by omega)]
  exact Fb h2.row λ w6 e6 => Fp (h2.ext e6) λ w7 e7 => Ho ((S2.ext e6).ext e7) hK
theorem N8 (h : Ed w b p A x count arg goal past big r) {be kd : Int} (hb : -1 <= be /\ be <= 1) {K : LdT -> Wp}
  (hK : ∀ w', Ext w w' -> K (ldT (match Gv (Ag A (Ar A x past).1) arg (Qw (Ar A x past).2) (kOf count) with | some j => Dv A (Bf A (Ar A x past).1 ((j : Int) + be)) kd | none => noP 80)) w') :
  Aa Tryz.prog 183 #[.pointer (some (at0 b)), .int .i64 (-1), .int .i64 be, .int .i64 kd] (.tup [(.agg c83), (.one (.int .i64))]) K w := by
 refine Ct5 ?_
 unfold F183
 obtain ⟨m1, m2, m3, m4, m5, m6, m7⟩ := h.bounds
 refine (St.start w).Af λ b1 w1 S1 e1 => Ay0 (h.ext e1) λ w2 e2 => ?_
 have S2 := S1.ext e2
 have h2 := (h.ext e1).ext e2
 cases hs : Gv (Ag A (Ar A x past).1) arg (Qw (Ar A x past).2) (kOf count) with
 | none =>
  rw [hs] at hK
  refine Ac (λ _ => ?_) (λ hc => by simp at hc)
  exact Gi λ w4 e4 => Ho (S2.ext e4) hK
 | some j =>
  rw [hs] at hK
  have hlt := Bs2 hs
  refine Ac (λ hc => by simp at hc; omega) (λ _ => ?_)
  refine h2.Nh ?_
  dsimp only at hK ⊢
  rw [wrap64 (by omega) (by omega)]
  exact Fb h2.row λ w6 e6 => Fp (h2.ext e6) λ w7 e7 => Ho ((S2.ext e6).ext e7) hK
theorem Bb8 (h : Ed w b p A x count arg goal past big r) {K : LdT -> Wp} (hK : ∀ w', Ext w w' -> K (ldT (Df A x 7 count arg past)) w') :
  Aa Tryz.prog 140 #[.pointer (some (at0 b))] (.tup [(.agg c83), (.one (.int .i64))]) K w := by
 refine Dp6 ?_
 unfold F140
 rw [(Rz A x count arg past).1] at hK
 refine (St.start w).Af λ b1 w1 S1 e1 => Aa1 (h.ext e1) (by decide) λ w2 e2 => Ho (S1.ext e2) λ w' e' => ?_
 have := hK w' e'
 cases hs : Gv (Ag A (Ar A x past).1) arg (upL (Ag A (Ar A x past).1).length (Ar A x past).2) (kOf count) with
 | none => rw [hs] at this; exact this
 | some j => rw [hs] at this; dsimp only at this ⊢; rw [Int.add_zero]; exact this
theorem Bj3 (h : Ed w b p A x count arg goal past big r) {K : LdT -> Wp} (hK : ∀ w', Ext w w' -> K (ldT (Df A x 9 count arg past)) w') :
  Aa Tryz.prog 142 #[.pointer (some (at0 b))] (.tup [(.agg c83), (.one (.int .i64))]) K w := by
 refine Dp4 ?_
 unfold F142
 rw [(Rz A x count arg past).2.1] at hK
 refine (St.start w).Af λ b1 w1 S1 e1 => Aa1 (h.ext e1) (by decide) λ w2 e2 => Ho (S1.ext e2) λ w' e' => ?_
 have := hK w' e'
 cases hs : Gv (Ag A (Ar A x past).1) arg (upL (Ag A (Ar A x past).1).length (Ar A x past).2) (kOf count) with
 | none => rw [hs] at this; exact this
 | some j => rw [hs] at this; exact this
theorem Bb7 (h : Ed w b p A x count arg goal past big r) {K : LdT -> Wp} (hK : ∀ w', Ext w w' -> K (ldT (Df A x 8 count arg past)) w') :
  Aa Tryz.prog 141 #[.pointer (some (at0 b))] (.tup [(.agg c83), (.one (.int .i64))]) K w := by
 refine Dp5 ?_
 unfold F141
 rw [(Rz A x count arg past).2.2.1] at hK
 refine (St.start w).Af λ b1 w1 S1 e1 => N8 (h.ext e1) (by decide) λ w2 e2 => Ho (S1.ext e2) λ w' e' => ?_
 have := hK w' e'
 cases hs : Gv (Ag A (Ar A x past).1) arg (Qw (Ar A x past).2) (kOf count) with
 | none => rw [hs] at this; exact this
 | some j => rw [hs] at this; dsimp only at this ⊢; rw [Int.add_zero]; exact this
theorem Aw9 (h : Ed w b p A x count arg goal past big r) {K : LdT -> Wp} (hK : ∀ w', Ext w w' -> K (ldT (Df A x 10 count arg past)) w') :
  Aa Tryz.prog 143 #[.pointer (some (at0 b))] (.tup [(.agg c83), (.one (.int .i64))]) K w := by
 refine Dp3 ?_
 unfold F143
 rw [(Rz A x count arg past).2.2.2] at hK
 refine (St.start w).Af λ b1 w1 S1 e1 => N8 (h.ext e1) (by decide) λ w2 e2 => Ho (S1.ext e2) λ w' e' => ?_
 have := hK w' e'
 cases hs : Gv (Ag A (Ar A x past).1) arg (Qw (Ar A x past).2) (kOf count) with
 | none => rw [hs] at this; exact this
 | some j => rw [hs] at this; exact this
theorem Bc6 (A : List Int) (x count arg : Int) (past : Bool) : Df A x 5 count arg past = ((((Bf A (if (Ar A x past).1 < lnN A - 1 /\ 1 < kOf count then min ((Ar A x past).1 + kOf count - 1) (lnN A - 1) else (Ar A x past).1) (((Ag A (if (Ar A x past).1 < lnN A - 1 /\ 1 < kOf count then min ((Ar A x past).1 + kOf count - 1) (lnN A - 1) else (Ar A x past).1)).length : Int) - 1) : Nat) : Int), 1, 100000), 0) := by
 unfold Df Ar
 dsimp only
 rw [Jp, if_neg (by decide), if_neg (by decide), if_neg (by decide), if_neg (by decide), if_pos rfl]
theorem Bx4 (h : Ed w b p A x count arg goal past big r) {a' : Int} {K : LdT -> Wp} (hK : ∀ w', Ext w w' -> K (ldT (Df A x 5 count a' past)) w') :
  Aa Tryz.prog 138 #[.pointer (some (at0 b))] (.tup [(.agg c83), (.one (.int .i64))]) K w := by
 refine Dp8 ?_
 unfold F138
 obtain ⟨m1, m2, m3, m4, m5, m6, m7⟩ := h.bounds
 have hb := Bq A; have hA := h.row.len; have hbl := Me A
 rw [Bc6] at hK
 refine (St.start w).Af λ b1 w1 S1 e1 => (h.ext e1).Nh (S1.Af λ b4 w2 S2 e2 => S2.Ad 0 rfl rfl rfl rfl λ w3 S3 u3 => ?_)
 have S3 : St (λ _ => False) w w3 [(b4, rwO r), (b1, ldZ)] := S3
 have h3 := h.ext S3.upd
 have ewl : W64 ((lnN A : Int) - 1) = (lnN A : Int) - 1 := wrap64 (by omega) (by omega)
 refine Ae (λ _ W => ∃ r', St (λ _ => False) w W [(b4, rwO r'), (b1, ldZ)] /\ Gx W A (if (Ar A x past).1 < lnN A - 1 /\ 1 < kOf count then min ((Ar A x past).1 + kOf count - 1) (lnN A - 1) else (Ar A x past).1) r') ?_ ?_
 ·refine h3.tK (h3.tx.count λ w4 e4 => ?_)
  have S4 := S3.ext e4
  have h4 := h3.ext e4
  rw [ewl]
  refine Ae (λ y W => y = (decide ((Ar A x past).1 < lnN A - 1 /\ 1 < kOf count), ()) /\ w4 = W) ?_ ?_
  ·refine S4.ld (off := 4) 0 rfl (x := r.2.2.2.2.1) rfl ?_
   rw [h.row.num]
   refine Ac (λ hc => h4.kK ⟨Au ?_, rfl⟩) (λ hc => ⟨Au ?_, rfl⟩)
   ·simp only [decide_eq_true_eq, gt_iff_lt] at hc ⊢; omega
   ·simp only [decide_eq_false_iff_not, decide_eq_true_eq, Bool.false_eq_true, false_iff] at hc ⊢; omega
  rintro _ _ ⟨rfl, rfl⟩
  refine Ac (λ hc => ?_) (λ hc => ?_)
  ·have hc := of_decide_eq_true hc
   rw [if_pos hc]
   refine S4.drew λ w5 S5 e5 _ => ?_
   have h5 := h4.ext e5
   refine h5.tK (S5.ld (off := 4) 0 rfl (x := r.2.2.2.2.1) rfl (h5.kK ?_))
   rw [h.row.num, wrap64 (a := ((Ar A x past).1 : Int) + (kOf count : Int)) (by omega) (by omega), wrap64 (by omega) (by omega)]
   have em : (if (lnN A : Int) - 1 < ((Ar A x past).1 : Int) + (kOf count : Int) - 1 then (lnN A : Int) - 1 else ((Ar A x past).1 : Int) + (kOf count : Int) - 1) = ((min ((Ar A x past).1 + kOf count - 1) (lnN A - 1) : Nat) : Int) := by split <;> omega
   rw [em]
   refine Qm h5.tx (by omega) λ r' w6 hr' e6 => (S5.ext e6).Ad 0 rfl rfl rfl rfl λ w7 S7 u7 => ⟨r', S7, hr'.box ((S5.ext e6).at_ 0 rfl) (by decide) u7⟩
  ·rw [if_neg (of_decide_eq_false hc)]
   exact ⟨r, S4, h4.row⟩
 rintro _ W ⟨r', SW, hr'⟩
 generalize (if (Ar A x past).1 < lnN A - 1 /\ 1 < kOf count then min ((Ar A x past).1 + kOf count - 1) (lnN A - 1) else (Ar A x past).1) = j at *
 have fw := hr'.few
 refine SW.drew λ w5 S5 e5 _ => S5.lds 0 r' rfl (S5.lds 0 r' rfl (Ej (hr'.ext e5) λ w6 e6 => ?_))
 have S6 := S5.ext e6
 rw [wrap64 (by omega) (by omega)]
 refine S6.keeps 0 (x := r') rfl (Fb ((hr'.ext e5).ext e6) λ w7 e7 => (S6.ext e7).Ad 1 rfl rfl rfl rfl λ w8 S8 _ => ?_)
 exact S8.lds 1 (((Bf A j (((Ag A j).length : Int) - 1) : Nat) : Int), 1, 100000, ()) rfl (hK w8 S8.upd)
end
end Go.Proofs.YtolhlldgnfbemaaGreatDoor
namespace Go.Vx
open Go
theorem least {P : Nat -> Prop} (h : ∃ n, P n) : ∃ n, P n /\ ∀ m, P m -> n <= m := by
 obtain ⟨n, hn⟩ := h
 induction n using Nat.strongRecOn with
 | ind n ih =>
  by_cases hc : ∃ k, k < n /\ P k
  ·obtain ⟨k, h1, h2⟩ := hc
   exact ih k h1 h2
  ·exact ⟨n, hn, λ m hm => Nat.le_of_not_lt λ hl => hc ⟨m, hl, hm⟩⟩
open Classical in
theorem Be7 {T G : Type} {body : T -> (T -> Wp) -> Wp} {s0 : T} {w : World} (J : G -> T -> Wp) (m : G -> Nat) (g0 : G) (h0 : J g0 s0 w)
  (hr : ∀ g s w' (R : T -> Wp), J g s w' -> (∀ g' s' w'', J g' s' w'' -> m g' < m g -> R s' w'') -> body s R w') : Iw body s0 w := by
 have hex : ∀ s w, (∃ g, J g s w) -> ∃ n, (∃ g, J g s w /\ m g = n) /\ ∀ g, J g s w -> n <= m g := λ s w ⟨g, h⟩ => by
  obtain ⟨n, h1, h2⟩ := least (P := λ n => ∃ g, J g s w /\ m g = n) ⟨m g, g, h, rfl⟩
  exact ⟨n, h1, λ g' h' => h2 _ ⟨g', h', rfl⟩⟩
 let μ : T -> World -> Nat := λ s w => if h : ∃ g, J g s w then Classical.choose (hex s w h) else 0
 have hμ : ∀ s w (h : ∃ g, J g s w), μ s w = Classical.choose (hex s w h) := λ s w h => dif_pos h
 have le : ∀ g s w, J g s w -> μ s w <= m g := λ g s w h => by
  rw [hμ s w ⟨g, h⟩]
  exact (Classical.choose_spec (hex s w ⟨g, h⟩)).2 g h
 have at_ : ∀ s w, (∃ g, J g s w) -> ∃ g, J g s w /\ m g = μ s w := λ s w h => by
  rw [hμ s w h]
  exact (Classical.choose_spec (hex s w h)).1
 refine Aw (λ s w => ∃ g, J g s w) μ ⟨g0, h0⟩ λ s w' hI => ?_
 obtain ⟨g, h1, h2⟩ := at_ s w' hI
 refine hr g s w' _ h1 λ g' s' w'' h3 h4 => ⟨⟨g', h3⟩, ?_⟩
 have := le g' s' w'' h3
 omega
end Go.Vx
namespace Go.Proofs.YtolhlldgnfbemaaGreatDoor
open Go Go.Vx Cdc Trx Gly Clu Lns Obx Mot
abbrev wkO (p : Nat) (r : RwT) (c last : Int) (big : Bool) : Obj :=
 .cells #[.pointer (some (at0 p)), .int .i64 r.1, .int .i64 r.2.1, .int .i64 r.2.2.1, .int .i64 r.2.2.2.1, .int .i64 r.2.2.2.2.1, .slice r.2.2.2.2.2.1.a r.2.2.2.2.2.1.len r.2.2.2.2.2.1.cap, .slice r.2.2.2.2.2.2.1.a r.2.2.2.2.2.2.1.len r.2.2.2.2.2.2.1.cap, .int .i64 c, .int .i64 last, .bool big] 201 (0, 0)
structure TxB (w : World) (p : Nat) (A : List Int) (b : Nat) : Prop where
 ex : ∃ e lim na O M, Txt w p e lim na O M /\ atoms (aOf e M) = A /\ ¬ O b
structure Gl (w : World) (b p : Nat) (A : List Int) (big : Bool) (q : Nat × Nat) (r : RwT) : Prop where
 tx : TxB w p A b
 obj : w.heap[b]? = some (wkO p r (q.2 : Int) ((lnN A - 1 : Nat) : Int) big)
 row : Gx w A q.1 r
 on : On A q
theorem Bk0 (v0 v1 v2 v3 v4 v5 v6 v7 v8 v9 v10 u1 u2 u3 u4 u5 u6 u7 : Value) : setRow #[v0, v1, v2, v3, v4, v5, v6, v7, v8, v9, v10] 1 [u1, u2, u3, u4, u5, u6, u7] = #[v0, u1, u2, u3, u4, u5, u6, u7, v8, v9, v10] := by kernel_rfl
section
variable {w w' : World} {b p : Nat} {A : List Int} {big : Bool} {q : Nat × Nat} {r : RwT}
theorem Bq8 {r' : RwT} {c l : Int} (h : w.heap[b]? = some (wkO p r c l big)) {K : World -> Prop} (hK : ∀ w1, Upd (λ k => k = b) w w1 -> w1.heap[b]? = some (wkO p r' c l big) -> K w1) :
  Ad ((at0 b).add 1) (.agg (Cells.vals Bg r').toArray) 7 K w :=
 Vs (off := 1) h rfl rfl (by show 1 + 7 <= 11; decide) λ w1 u n _ => hK w1 u (n.trans (congrArg (λ c => some (Obj.cells c 201 (0, 0))) (Bk0 ..)))
theorem Ai8 {c' c l : Int} (h : w.heap[b]? = some (wkO p r c l big)) {K : World -> Prop} (hK : ∀ w1, Upd (λ k => k = b) w w1 -> w1.heap[b]? = some (wkO p r c' l big) -> K w1) :
  stC ((at0 b).add 8) (.int .i64 c') K w :=
 Iu (off := 8) h (by show 8 < 11; decide) λ w1 u n _ => hK w1 u n
theorem TxB.ta (h : TxB w p A b) : TxA w p A := by
 obtain ⟨e, lim, na, O, M, h1, h2, _⟩ := h.ex
 exact ⟨e, lim, na, O, M, h1, h2⟩
theorem TxB.ext (h : TxB w p A b) (x : Ext w w') : TxB w' p A b := by
 obtain ⟨e, lim, na, O, M, h1, h2, h3⟩ := h.ex
 exact ⟨e, lim, na, O, M, h1.ext x, h2, h3⟩
theorem TxB.upd {c : Array Value} {fr : Nat × Nat} {t : TypeId} (h : TxB w p A b) (hb : w.heap[b]? = some (.cells c t fr)) (ht : 162 ≠ t) (u : Upd (λ k => k = b) w w') : TxB w' p A b := by
 obtain ⟨e, lim, na, O, M, h1, h2, h3⟩ := h.ex
 refine ⟨e, lim, na, O, M, h1.upd u (λ k hk hk2 => by subst hk2; exact h3 hk) (λ k hk c' fr' hn => ?_), h2, h3⟩
 subst hk
 rw [hb] at hn
 cases hn
 exact ht rfl
theorem TxA.toB (h : TxA w p A) (hb : w.heap.size <= b) : TxB w p A b := by
 obtain ⟨e, lim, na, O, M, h1, h2⟩ := h.ex
 exact ⟨e, lim, na, O, M, h1, h2, λ hO => by have := h1.own b hO; omega⟩
theorem Gl.ext (h : Gl w b p A big q r) (e : Ext w w') : Gl w' b p A big q r := ⟨h.tx.ext e, e.ext_get h.obj, h.row.ext e, h.on⟩
theorem Gl.tK (h : Gl w b p A big q r) {K : Addr -> Option Addr -> Wp} (hK : K (at0 b) (some (at0 p)) w) : nn (some (at0 b)) (λ q => ld (.ptr) q (K q)) w := Aj (Ci (off := 0) h.obj rfl hK)
theorem Gl.cK (h : Gl w b p A big q r) {K : Addr -> Int -> Wp} (hK : K (at0 b) (q.2 : Int) w) : nn (some (at0 b)) (λ q => ld (.int .i64) (q.add 8) (K q)) w := Aj (Ci (off := 8) h.obj rfl hK)
theorem Gl.Qr (h : Gl w b p A big q r) {K : Addr -> Int -> Wp} (hK : K (at0 b) ((lnN A - 1 : Nat) : Int) w) : nn (some (at0 b)) (λ q => ld (.int .i64) (q.add 9) (K q)) w := Aj (Ci (off := 9) h.obj rfl hK)
theorem Gl.Qd (h : Gl w b p A big q r) {K : Addr -> Bool -> Wp} (hK : K (at0 b) big w) : nn (some (at0 b)) (λ q => ld (.bool) (q.add 10) (K q)) w := Aj (Ci (off := 10) h.obj rfl hK)
theorem Gl.Bm0 (h : Gl w b p A big q r) {K : Addr -> Int -> Wp} (hK : K (at0 b) (q.1 : Int) w) : nn (some (at0 b)) (λ q => ld (.int .i64) ((q.add 1).add 4) (K q)) w := by
 rw [← h.row.num] at hK
 exact Aj (Ci (off := 5) h.obj rfl hK)
theorem Gl.Nh (h : Gl w b p A big q r) {K : Addr -> RwT -> Wp} (hK : K (at0 b) r w) : nn (some (at0 b)) (λ q => lds Bg (q.add 1) (K q)) w :=
 Aj (Na (off := 1) h.obj (Ul (by rfl)) hK)
theorem Gl.Ag7 (h : Gl w b p A big q r) {K : World -> Prop} (hK : K w) : keep (λ w => w.cell? ((at0 b).add 8) = some (Cell.val (.int .i64) (q.2 : Int))) K w := Aq (cell_of (off := 8) h.obj rfl) hK
theorem Gl.few (h : Gl w b p A big q r) : q.2 <= (Ag A q.1).length /\ (Ag A q.1).length <= 1048576 /\ q.1 <= 1048576 /\ lnN A <= 1048577 := by
 have h1 := h.row.few; have h2 := h.on.col; have h3 := h.on.row; have h4 := Me A; have h5 := h.row.len; have h6 := Bq A
 omega
theorem Al6 {x : Nat} {past : Bool} (h : TxA w p A) (hx : Az A (x : Int) past = x) {K : Option Addr -> Wp} (hK : ∀ b r w', Gl w' b p A big (Ar A (x : Int) past) r -> w.heap.size <= b -> Ext w w' -> K (some (at0 b)) w') :
  Aa Tryz.prog 161 #[.pointer (some (at0 p)), .int .i64 (x : Int), .bool past, .bool big] rP K w := by
 refine Do7 ?_
 unfold F161
 have hb := Bq A; have hA := h.len; have hbl := Me A
 refine Rn h λ r w1 hr e1 => ?_
 refine (St.start w).ext e1 |>.Af λ b2 w2 S2 e2 => S2.Ad 0 rfl rfl rfl rfl λ w3 S3 u3 => ?_
 have S3 : St (λ _ => False) w w3 [(b2, rwO r)] := S3
 have hr := (hr.ext e2).box (S2.at_ 0 rfl) (by decide) u3
 refine S3.drew λ w4 S4 e4 _ => S4.lds 0 r rfl (S4.lds 0 r rfl (Vk (hr.ext e4) λ w5 e5 => ?_))
 have S5 := S4.ext e5
 refine S5.keeps 0 (x := r) rfl ((h.ext S5.upd).count λ w6 e6 => ?_)
 have S6 := S5.ext e6
 refine S6.keeps 0 (x := r) rfl ?_
 have ewl : W64 ((lnN A : Int) - 1) = ((lnN A - 1 : Nat) : Int) := by rw [wrap64 (by omega) (by omega)]; omega
 rw [ewl]
 have ep : (Ar A (x : Int) past).2 = Dw (Ag A (Dk A (x : Int) past)) (x : Int) := by unfold Ar; rw [hx]
 refine S6.Af λ b7 w7 S7 e7 => hK b7 r w7 ⟨?_, by rw [ep]; exact S7.at_ 0 rfl, ?_, (Xf A (x : Int) past).1⟩ (S7.ge 0 rfl) S7.upd
 ·exact (h.toB (S7.ge 0 rfl)).ext S7.upd
 ·have := (((hr.ext e4).ext e5).ext e6).ext e7
  exact this
theorem Qg (h : Gl w b p A big q r) {K : Int -> Wp} (hK : ∀ w', Ext w w' -> K (Cb A q : Int) w') :
  Aa Tryz.prog 164 #[.pointer (some (at0 b))] rI K w := by
 refine Do4 ?_
 unfold F164
 refine Ce λ w1 e1 _ => ?_
 have h1 := h.ext e1
 exact h1.Nh (h1.cK (Fb h1.row λ w2 e2 => hK w2 (e1.trans e2)))
theorem Ri (h : Gl w b p A big q r) {K : Bool -> Wp} (hK : ∀ w', Ext w w' -> K ((Ag A q.1).length == 0) w') :
  Aa Tryz.prog 196 #[.pointer (some (at0 b))] rB K w := by
 refine Dm4 ?_
 unfold F196
 refine h.Nh (Ej h.row λ w2 e2 => ?_)
 have e : (((Ag A q.1).length : Int) == 0) = ((Ag A q.1).length == 0) := by rw [Bool.eq_iff_iff, beq_iff_eq, beq_iff_eq]; omega
 rw [e]; exact hK w2 e2
theorem Zn {p q : Nat × Nat} (h : On A p) (hq : Jz A p = some q) : Plc A q := by
 have hb := Bq A; have hg := Al8 A; have hr := h.row; have hc := h.col
 unfold Jz at hq
 split at hq
 ·rename_i h0
  cases hq
  refine ⟨?_, .inl (by dsimp only; omega)⟩
  dsimp only
  rcases Nat.lt_or_ge p.1 (lnN A) with u | u
  ·exact u
  ·have hp : p.1 = brs A /\ lnN A = brs A := by omega
   have := tail_nil hp.2
   rw [hp.1] at hc
   omega
 ·split at hq
  ·cases hq
  ·cases hq
   exact ⟨by dsimp only; omega, by dsimp only; omega⟩
theorem Bm4 {p q : Nat × Nat} (h : On A p) (hq : Jr A p = some q) : Plc A q := by
 obtain ⟨_, h2, h3, _⟩ := Yh h hq
 exact ⟨h2, h3⟩
theorem Ap0 (h : Gl w b p A big q r) {K : Bool -> Wp} (hN : Jr A q = none -> ∀ w', Ext w w' -> K false w')
  (hS : ∀ q' r' w', Jr A q = some q' -> Gl w' b p A big q' r' -> Upd (λ k => k = b) w w' -> K true w') :
  Aa Tryz.prog 162 #[.pointer (some (at0 b))] rB K w := by
 refine Do6 ?_
 unfold F162
 have fw := h.few; have hb := Bq A
 refine Ce λ w1 e1 _ => ?_
 have h1 := h.ext e1
 refine h1.cK (h1.Nh (Ej h1.row λ w2 e2 => ?_))
 have h2 := h1.ext e2
 refine h2.Ag7 ?_
 have ew : W64 ((q.2 : Int) + 1) = ((q.2 + 1 : Nat) : Int) := by rw [wrap64 (by omega) (by omega)]; omega
 rw [ew]
 refine Ac (λ hc => ?_) (λ hc => ?_)
 ·simp only [decide_eq_true_eq] at hc
  have hn : Jr A q = some (q.1, q.2 + 1) := by unfold Jr; rw [if_pos (by omega)]
  refine h2.cK (Aj ?_)
  rw [ew]
  refine Ai8 h2.obj λ w3 u3 n3 => ?_
  refine hS _ r w3 hn ⟨h2.tx.upd h2.obj (by decide) u3, n3, h2.row.box h2.obj (by decide) u3, (Yh h.on hn).1⟩ ?_
  exact (Upd.Ei (e1.trans e2)).trans u3
 ·simp only [decide_eq_false_iff_not] at hc
  refine Ce λ w3 e3 _ => ?_
  have h3 := h2.ext e3
  refine h3.Bm0 (h3.Qr ?_)
  refine Ac (λ hg => ?_) (λ hg => ?_)
  ·simp only [decide_eq_true_eq, ge_iff_le] at hg
   have hn : Jr A q = none := by unfold Jr; rw [if_neg (by omega), if_pos (by omega)]
   exact hN hn w3 ((e1.trans e2).trans e3)
  ·simp only [decide_eq_false_iff_not, ge_iff_le] at hg
   have hn : Jr A q = some (q.1 + 1, 0) := by unfold Jr; rw [if_neg (by omega), if_neg (by omega)]
   refine Ce λ w4 e4 _ => ?_
   have h4 := h3.ext e4
   refine h4.tK (h4.Bm0 ?_)
   have ewn : W64 ((q.1 : Int) + 1) = ((q.1 + 1 : Nat) : Int) := by rw [wrap64 (by omega) (by omega)]; omega
   rw [ewn]
   have hon := (Yh h.on hn).1
   refine Qm h4.tx.ta hon.row λ r' w5 hr' e5 => ?_
   have h5 := h4.ext e5
   refine Aj (Bq8 h5.obj λ w6 u6 n6 => Aj (Ai8 n6 λ w7 u7 n7 => ?_))
   refine hS _ r' w7 hn ⟨(h5.tx.upd h5.obj (by decide) u6).upd n6 (by decide) u7, n7, (hr'.box h5.obj (by decide) u6).box n6 (by decide) u7, hon⟩ ?_
   exact (Upd.Ei ((((e1.trans e2).trans e3).trans e4).trans e5)).trans (u6.trans u7)
theorem Ao9 (h : Gl w b p A big q r) {K : Bool -> Wp} (hN : Jz A q = none -> ∀ w', Ext w w' -> K false w')
  (hS : ∀ q' r' w', Jz A q = some q' -> Gl w' b p A big q' r' -> Upd (λ k => k = b) w w' -> K true w') :
  Aa Tryz.prog 195 #[.pointer (some (at0 b))] rB K w := by
 refine Dm5 ?_
 unfold F195
 have fw := h.few; have hb := Bq A
 refine h.cK (Ac (λ hc => ?_) (λ hc => ?_))
 ·simp only [decide_eq_true_eq, gt_iff_lt] at hc
  have hn : Jz A q = some (q.1, q.2 - 1) := by unfold Jz; rw [if_pos (by omega)]
  have ew : W64 ((q.2 : Int) - 1) = ((q.2 - 1 : Nat) : Int) := by rw [wrap64 (by omega) (by omega)]; omega
  refine h.cK (Aj ?_)
  rw [ew]
  refine Ai8 h.obj λ w3 u3 n3 => ?_
  exact hS _ r w3 hn ⟨h.tx.upd h.obj (by decide) u3, n3, h.row.box h.obj (by decide) u3, (Zn h.on hn).on⟩ u3
 ·simp only [decide_eq_false_iff_not, gt_iff_lt] at hc
  refine h.Bm0 (Ac (λ hg => ?_) (λ hg => ?_))
  ·simp only [beq_iff_eq] at hg
   have hn : Jz A q = none := by unfold Jz; rw [if_neg (by omega), if_pos (by omega)]
   exact hN hn w (Ext.refl w)
  ·simp only [beq_eq_false_iff_ne, ne_eq] at hg
   have hn : Jz A q = some (q.1 - 1, (Ag A (q.1 - 1)).length - 1) := by unfold Jz; rw [if_neg (by omega), if_neg (by omega)]
   refine Ce λ w4 e4 _ => ?_
   have h4 := h.ext e4
   refine h4.tK (h4.Bm0 ?_)
   have ewn : W64 ((q.1 : Int) - 1) = ((q.1 - 1 : Nat) : Int) := by rw [wrap64 (by omega) (by omega)]; omega
   rw [ewn]
   have hon := (Zn h.on hn).on
   refine Qm h4.tx.ta hon.row λ r' w5 hr' e5 => ?_
   have h5 := h4.ext e5
   refine Aj (Bq8 h5.obj λ w6 u6 n6' => ?_)
   have hr6 := hr'.box h5.obj (by decide) u6
   have fw6 := hr6.few
   refine Aj (Na (off := 1) (x := r') n6' (Ul (by rfl)) (Ej hr6 λ w7 e7 => ?_))
   have n7' := e7.ext_get n6'
   have hr7 := hr6.ext e7
   dsimp only at fw6
   rw [wrap64 (by dsimp only; omega) (by dsimp only; omega)]
   have em : (if (0 : Int) > (((Ag A (q.1 - 1)).length : Nat) : Int) - 1 then (0 : Int) else (((Ag A (q.1 - 1)).length : Nat) : Int) - 1) = (((Ag A (q.1 - 1)).length - 1 : Nat) : Int) := by split <;> omega
   rw [em]
   refine Aj (Ai8 n7' λ w8 u8 n8' => ?_)
   refine hS _ r' w8 hn ⟨((h5.tx.upd h5.obj (by decide) u6).ext e7).upd n7' (by decide) u8, n8', hr7.box n7' (by decide) u8, hon⟩ ?_
   exact (Upd.Ei (e4.trans e5)).trans ((u6.trans (Upd.Ei e7)).trans u8)
theorem Ck0 {C : List Cel} {i j : Nat} {b : Bool} : (((Fg C i b : Nat) : Int) != ((Fg C j b : Nat) : Int)) = (Fg C i b != Fg C j b) := by rw [Bool.eq_iff_iff, bne_iff_ne, bne_iff_ne]; omega
theorem Bh0 {C : List Cel} {i : Nat} {b : Bool} : (((Fg C i b : Nat) : Int) != 0) = (Fg C i b != 0) := by rw [Bool.eq_iff_iff, bne_iff_ne, bne_iff_ne]; omega
theorem Ac8 (h : Gl w b p A big q r) (hp : Plc A q) {K : Bool -> Wp} (hK : ∀ w', Ext w w' -> K (Ol A big q) w') :
  Aa Tryz.prog 163 #[.pointer (some (at0 b))] rB K w := by
 refine Do5 ?_
 unfold F163
 have fw := h.few; have hrow := hp.row
 unfold Ol at hK
 refine Ri h λ w1 e1 => ?_
 have h1 := h.ext e1
 refine Ac (λ hc => ?_) (λ hc => ?_)
 ·rw [hc] at hK
  refine Ce λ w2 e2 _ => ?_
  have h2 := h1.ext e2
  refine h2.Bm0 (h2.Qr ?_)
  rw [decide_eq_true (by omega)]
  exact hK w2 (e1.trans e2)
 ·rw [hc, Bool.false_or] at hK
  have hlen : (Ag A q.1).length ≠ 0 := by simpa using hc
  have hcol : q.2 < (Ag A q.1).length := by have := hp.col; omega
  refine Ce λ w2 e2 _ => ?_
  have h2 := h1.ext e2
  refine h2.Nh (h2.cK (h2.Qd (Og h2.row hcol λ w3 e3 => Ce λ w4 e4 _ => ?_)))
  have h4 := (h2.ext e3).ext e4
  have e04 := ((e1.trans e2).trans e3).trans e4
  rw [Bh0]
  refine Ac (λ hk => ?_) (λ hk => ?_)
  ·rw [hk, Bool.true_and] at hK
   refine h4.cK (Ac (λ hz => ?_) (λ hz => ?_))
   ·simp only [beq_iff_eq] at hz
    have := hK w4 e04
    rw [show (q.2 == 0) = true by rw [beq_iff_eq]; omega, Bool.true_or] at this
    exact this
   ·simp only [beq_eq_false_iff_ne, ne_eq] at hz
    have ew : W64 ((q.2 : Int) - 1) = ((q.2 - 1 : Nat) : Int) := by rw [wrap64 (by omega) (by omega)]; omega
    refine h4.Nh (h4.cK (h4.Qd ?_))
    rw [ew]
    refine Og h4.row (j := q.2 - 1) (by omega) λ w5 e5 => ?_
    have := hK w5 (e04.trans e5)
    rw [show (q.2 == 0) = false by rw [beq_eq_false_iff_ne]; omega, Bool.false_or, ← Ck0] at this
    exact this
  ·rw [hk, Bool.false_and] at hK
   exact hK w4 e04
theorem G9 (h : Gl w b p A big q r) (hp : (Ag A q.1).length = 0 -> q.1 < lnN A) {K : Bool -> Wp} (hK : ∀ w', Ext w w' -> K (Qv A big q) w') :
  Aa Tryz.prog 192 #[.pointer (some (at0 b))] rB K w := by
 refine Dm6 ?_
 unfold F192
 have fw := h.few
 unfold Qv at hK
 refine Ri h λ w1 e1 => ?_
 have h1 := h.ext e1
 refine Ac (λ hc => ?_) (λ hc => ?_)
 ·rw [hc] at hK
  have := hp (by simpa using hc)
  refine Ce λ w2 e2 _ => ?_
  have h2 := h1.ext e2
  refine h2.Bm0 (h2.Qr ?_)
  rw [decide_eq_true (by omega)]
  exact hK w2 (e1.trans e2)
 ·rw [hc, Bool.false_or] at hK
  refine Ce λ w2 e2 _ => ?_
  have h2 := h1.ext e2
  refine h2.cK (h2.Nh (Ej h2.row λ w3 e3 => (h2.ext e3).Ag7 ?_))
  have h3 := h2.ext e3
  have e03 := (e1.trans e2).trans e3
  refine Ac (λ hg => ?_) (λ hg => ?_)
  ·simp only [decide_eq_true_eq, ge_iff_le] at hg
   rw [decide_eq_false (show ¬ q.2 < (Ag A q.1).length by omega), Bool.false_and, Bool.false_and] at hK
   exact hK w3 e03
  ·simp only [decide_eq_false_iff_not, ge_iff_le] at hg
   have hcol : q.2 < (Ag A q.1).length := by omega
   rw [decide_eq_true hcol, Bool.true_and] at hK
   refine Ce λ w4 e4 _ => ?_
   have h4 := h3.ext e4
   refine h4.Nh (h4.cK (h4.Qd (Og h4.row hcol λ w5 e5 => Ce λ w6 e6 _ => ?_)))
   have h6 := (h4.ext e5).ext e6
   have e06 := ((e03.trans e4).trans e5).trans e6
   rw [Bh0]
   refine Ac (λ hk => ?_) (λ hk => ?_)
   ·rw [hk, Bool.true_and] at hK
    refine h6.cK (h6.Nh (Ej h6.row λ w7 e7 => (h6.ext e7).Ag7 ?_))
    have h7 := h6.ext e7
    have ew : W64 ((q.2 : Int) + 1) = ((q.2 + 1 : Nat) : Int) := by rw [wrap64 (by omega) (by omega)]; omega
    rw [ew]
    refine Ac (λ hz => ?_) (λ hz => ?_)
    ·simp only [beq_iff_eq] at hz
     have := hK w7 (e06.trans e7)
     rw [show (q.2 + 1 == (Ag A q.1).length) = true by rw [beq_iff_eq]; omega, Bool.true_or] at this
     exact this
    ·simp only [beq_eq_false_iff_ne, ne_eq] at hz
     refine h7.Nh (h7.cK (h7.Qd ?_))
     rw [ew]
     refine Og h7.row (j := q.2 + 1) (by omega) λ w8 e8 => ?_
     have := hK w8 ((e06.trans e7).trans e8)
     rw [show (q.2 + 1 == (Ag A q.1).length) = false by rw [beq_eq_false_iff_ne]; omega, Bool.false_or, ← Ck0] at this
     exact this
   ·rw [hk, Bool.false_and] at hK
    exact hK w6 e06
theorem O4 (h : Gl w b p A big q r) {K : Bool -> Wp} (hK : ∀ w', Ext w w' -> K (Md A big q) w') :
  Aa Tryz.prog 191 #[.pointer (some (at0 b))] rB K w := by
 refine Dm7 ?_
 unfold F191
 unfold Md at hK
 refine Ri h λ w1 e1 => Ac (λ hc => ?_) (λ hc => ?_)
 ·have hn : (Ag A q.1).length ≠ 0 := by simpa using hc
  rw [show ((Ag A q.1).length != 0) = true by rw [bne_iff_ne]; exact hn, Bool.true_and] at hK
  exact G9 (h.ext e1) (λ h0 => absurd h0 hn) λ w2 e2 => hK w2 (e1.trans e2)
 ·have hn : (Ag A q.1).length = 0 := by simpa using hc
  rw [show ((Ag A q.1).length != 0) = false by rw [bne_eq_false_iff_eq]; exact hn, Bool.false_and] at hK
  exact hK w1 e1
end
namespace Mot
def Cs6 : List Int := [40, 91, 123, 41, 93, 125]
end Mot
section
variable {w w' : World} {b p : Nat} {A : List Int} {big : Bool} {q : Nat × Nat} {r : RwT}
theorem Ry {f : Nat × Nat -> Bool} {met : Value} {bm kk : Nat} {s c arg goal : Int} {cd past bg : Bool} {r0 : RwT} (hm : w.heap[bm]? = some (mvO p s c (kk : Int) cd arg goal past bg r0)) (hk : kk <= 9999) (h : Gl w b p A big q r)
  (hmet : ∀ q' r' W (K : Bool -> Wp), Gl W b p A big q' r' -> Plc A q' -> (∀ W', Ext W W' -> K (f q') W') -> Bv Tryz.prog (do let d ← Deferred.ofValue met #[.pointer (some (at0 b))]; invoke d.target d.args : Sem Next) (.one (.one .bool)) K W)
  {K : Bool -> Wp} (hF : (if kk = 0 then some q else Ju A f q kk) = none -> ∀ w', Upd (λ k => k = b) w w' -> K false w')
  (hT : ∀ q' r' w', (if kk = 0 then some q else Ju A f q kk) = some q' -> Gl w' b p A big q' r' -> Upd (λ k => k = b) w w' -> K true w') :
  Aa Tryz.prog 188 #[.pointer (some (at0 bm)), .pointer (some (at0 b)), met] rB K w := by
 refine Dn0 ?_
 unfold F188
 generalize htg : (if kk = 0 then some q else Ju A f q kk) = tg at hF hT
 refine Ae (λ _ W => ∃ q' r', tg = some q' /\ Gl W b p A big q' r' /\ Upd (λ k => k = b) w W) ?_ (λ _ W ⟨q', r', h1, h2, h3⟩ => hT q' r' W h1 h2 h3)
 refine Aj (Ci (off := 3) (x := (kk : Int)) hm rfl ?_)
 refine Be7 (λ (g : Nat × (Nat × Nat) × RwT) x W => x = ((g.1 : Int), ()) /\ g.1 <= 9999 /\ Gl W b p A big g.2.1 g.2.2 /\ Upd (λ k => k = b) w W /\ (if g.1 = 0 then some g.2.1 else Ju A f g.2.1 g.1) = tg) (λ g => (aft A g.2.1).length) (kk, q, r) ⟨rfl, hk, h, Upd.refl _ _, htg⟩ ?_
 rintro ⟨k, q', r'⟩ _ W R ⟨rfl, hk', hW, uW, ht⟩ hR
 dsimp only at hW hk' ht hR ⊢
 refine Ac (λ hc => ?_) (λ hc => ?_)
 ·simp only [decide_eq_true_eq, gt_iff_lt] at hc
  rw [if_neg (by omega)] at ht
  refine Ap0 hW (λ hn W1 e1 => ?_) (λ q2 r2 W1 hn hW1 u1 => ?_)
  ·refine Bj (hF ?_ W1 (uW.trans (Upd.Ei e1)))
   rw [← ht]; exact Bb4 hn
  ·refine Am (hmet q2 r2 W1 _ hW1 (Bm4 hW.on hn) λ W2 e2 => ?_)
   have u2 := (uW.trans u1).trans (Upd.Ei e2)
   have hlen : (aft A q2).length < (aft A q').length := by rw [Ze hn]; simp
   refine Ac (λ hf => ?_) (λ hf => ?_)
   ·have ew : W64 ((k : Int) - 1) = ((k - 1 : Nat) : Int) := by rw [wrap64 (by omega) (by omega)]; omega
    rw [ew]
    refine hR (k - 1, q2, r2) _ W2 ⟨rfl, by dsimp only; omega, hW1.ext e2, u2, ?_⟩ hlen
    dsimp only
    rw [← ht]
    by_cases h1 : k = 1
    ·subst h1
     rw [if_pos rfl, Bn7 hn hf]
    ·rw [if_neg (by omega)]
     have := Bb5 (k := k - 1) hn hf (by omega)
     rw [show k - 1 + 1 = k by omega] at this
     exact this.symm
   ·refine hR (k, q2, r2) _ W2 ⟨rfl, hk', hW1.ext e2, u2, ?_⟩ hlen
    dsimp only
    rw [if_neg (by omega), ← ht]
    exact (Bw9 hn hf).symm
 ·simp only [decide_eq_false_iff_not, gt_iff_lt] at hc
  rw [if_pos (by omega)] at ht
  exact ⟨q', r', ht.symm, hW, uW⟩
theorem Wy {f : Nat × Nat -> Bool} {met : Value} {bm kk : Nat} {s c arg goal : Int} {cd past bg : Bool} {r0 : RwT} (hm : w.heap[bm]? = some (mvO p s c (kk : Int) cd arg goal past bg r0)) (hk : 1 <= kk /\ kk <= 9999) (h : Gl w b p A big q r)
  (hmet : ∀ q' r' W (K : Bool -> Wp), Gl W b p A big q' r' -> Plc A q' -> (∀ W', Ext W W' -> K (f q') W') -> Bv Tryz.prog (do let d ← Deferred.ofValue met #[.pointer (some (at0 b))]; invoke d.target d.args : Sem Next) (.one (.one .bool)) K W)
  {K : Bool -> Wp} (hF : Om A f q kk = none -> ∀ w', Upd (λ k => k = b) w w' -> K false w')
  (hT : ∀ q' r' w', Om A f q kk = some q' -> Gl w' b p A big q' r' -> Upd (λ k => k = b) w w' -> K true w') :
  Aa Tryz.prog 190 #[.pointer (some (at0 bm)), .pointer (some (at0 b)), met] rB K w := by
 refine Dm8 ?_
 unfold F190
 generalize htg : Om A f q kk = tg at hF hT
 refine Ae (λ _ W => ∃ q' r', tg = some q' /\ Gl W b p A big q' r' /\ Upd (λ k => k = b) w W) ?_ (λ _ W ⟨q', r', h1, h2, h3⟩ => hT q' r' W h1 h2 h3)
 refine Aj (Ci (off := 3) (x := (kk : Int)) hm rfl ?_)
 refine Be7 (λ (g : Nat × (Nat × Nat) × RwT) x W => x = ((g.1 : Int), ()) /\ g.1 <= 9999 /\ Gl W b p A big g.2.1 g.2.2 /\ Upd (λ k => k = b) w W /\ (if g.1 = 0 then some g.2.1 else Om A f g.2.1 g.1) = tg) (λ g => (bef A g.2.1).length) (kk, q, r) ⟨rfl, hk.2, h, Upd.refl _ _, by dsimp only; rw [if_neg (by omega)]; exact htg⟩ ?_
 rintro ⟨k, q', r'⟩ _ W R ⟨rfl, hk', hW, uW, ht⟩ hR
 dsimp only at hW hk' ht hR ⊢
 refine Ac (λ hc => ?_) (λ hc => ?_)
 ·simp only [decide_eq_true_eq, gt_iff_lt] at hc
  rw [if_neg (by omega)] at ht
  refine Ao9 hW (λ hn W1 e1 => ?_) (λ q2 r2 W1 hn hW1 u1 => ?_)
  ·refine Bj (hF ?_ W1 (uW.trans (Upd.Ei e1)))
   rw [← ht]; exact Bd5 hn
  ·refine Am (hmet q2 r2 W1 _ hW1 (Zn hW.on hn) λ W2 e2 => ?_)
   have u2 := (uW.trans u1).trans (Upd.Ei e2)
   have hlen : (bef A q2).length < (bef A q').length := by rw [Zd hn]; simp
   refine Ac (λ hf => ?_) (λ hf => ?_)
   ·have ew : W64 ((k : Int) - 1) = ((k - 1 : Nat) : Int) := by rw [wrap64 (by omega) (by omega)]; omega
    rw [ew]
    refine hR (k - 1, q2, r2) _ W2 ⟨rfl, by dsimp only; omega, hW1.ext e2, u2, ?_⟩ hlen
    dsimp only
    rw [← ht]
    by_cases h1 : k = 1
    ·subst h1
     rw [if_pos rfl, Bp7 hn hf]
    ·rw [if_neg (by omega)]
     have := Bd6 (k := k - 1) hn hf (by omega)
     rw [show k - 1 + 1 = k by omega] at this
     exact this.symm
   ·refine hR (k, q2, r2) _ W2 ⟨rfl, hk', hW1.ext e2, u2, ?_⟩ hlen
    dsimp only
    rw [if_neg (by omega), ← ht]
    exact (Ca6 hn hf).symm
 ·simp only [decide_eq_false_iff_not, gt_iff_lt] at hc
  rw [if_pos (by omega)] at ht
  exact ⟨q', r', ht.symm, hW, uW⟩
theorem Ac0 {W : World} {q' : Nat × Nat} {r' : RwT} {K : Bool -> Wp} (h : Gl W b p A big q' r') (hp : Plc A q') (hK : ∀ W', Ext W W' -> K (Ol A big q') W') : Bv Tryz.prog (do let d ← Deferred.ofValue (.func (.func 163) #[] #[]) #[.pointer (some (at0 b))]; invoke d.target d.args : Sem Next) (.one (.one .bool)) K W :=
 func_x (caps := #[]) (by kernel_rfl) (Ac8 h hp hK)
theorem Bx3 {W : World} {q' : Nat × Nat} {r' : RwT} {K : Bool -> Wp} (h : Gl W b p A big q' r') (hp : Plc A q') (hK : ∀ W', Ext W W' -> K (Qv A big q') W') : Bv Tryz.prog (do let d ← Deferred.ofValue (.func (.func 192) #[] #[]) #[.pointer (some (at0 b))]; invoke d.target d.args : Sem Next) (.one (.one .bool)) K W :=
 func_x (caps := #[]) (by kernel_rfl) (G9 h (λ _ => hp.row) hK)
theorem Aa7 {W : World} {q' : Nat × Nat} {r' : RwT} {K : Bool -> Wp} (h : Gl W b p A big q' r') (hp : Plc A q') (hK : ∀ W', Ext W W' -> K (Md A big q') W') : Bv Tryz.prog (do let d ← Deferred.ofValue (.func (.func 191) #[] #[]) #[.pointer (some (at0 b))]; invoke d.target d.args : Sem Next) (.one (.one .bool)) K W :=
 func_x (caps := #[]) (by kernel_rfl) (O4 h hK)
end
namespace Mot
variable {A : List Int}
theorem Bl1 (A : List Int) (x : Int) (past : Bool) : Ar A (Az A x past : Int) past = Ar A x past := by
 obtain ⟨h1, h2, h3⟩ := Xf A x past
 rw [← h2]; exact Bt4 h1 h3
theorem Bo7 (A : List Int) : Az A (A.length : Int) false = Gm A := by
 have hb := Bq A
 have hr : Dk A (A.length : Int) false = lnN A - 1 := by
  unfold Dk ofI
  rw [if_neg (by decide), Xj (Nat.le_refl _), ← Jk]; omega
 have ok := Dq (A := A) (i := lnN A - 1) (by omega)
 unfold Az
 rw [hr, Xj (Nat.le_refl _), if_pos (by have := ok.tn; have := ok.nl; omega), if_neg (by decide)]; rfl
def Bq7 (A : List Int) (x count : Int) (past big : Bool) : Ld :=
 if (Gn (Bo A (Ol A big)) (Az A x past + 1) (kOf count)).getD (if past then (Ba A (lnN A - 1)).to_ else Gm A) <= Az A x past then noP 80
 else Dv A ((Gn (Bo A (Ol A big)) (Az A x past + 1) (kOf count)).getD (if past then (Ba A (lnN A - 1)).to_ else Gm A)) 0
def Ca7 (A : List Int) (x count : Int) (past big : Bool) : Ld :=
 if Az A x past = 0 then noP 80 else Dv A ((beforeL (Bo A (Ol A big)) (Az A x past) (kOf count)).getD 0) 0
def Bq9 (A : List Int) (x count : Int) (past big : Bool) : Ld :=
 if (Gn (Bo A (Md A big)) (Az A x past + 1) (kOf count)).getD (Gm A) <= Az A x past then noP 80
 else Dv A ((Gn (Bo A (Md A big)) (Az A x past + 1) (kOf count)).getD (Gm A)) 1
def Ca2 (A : List Int) (x count : Int) (past big : Bool) : Ld :=
 if Az A x past = 0 then noP 80 else Dv A ((beforeL (Bo A (Qv A big)) (Az A x past) (kOf count)).getD 0) 1
def Bs7 (A : List Int) (x count : Int) (past big : Bool) : Ld :=
 Dv A ((Gn (Bo A (Md A big)) (Az A x past) (kOf count)).getD (max (Gm A) (Az A x past))) 1
theorem Cg5 {big : Bool} {p : Nat × Nat} (h : On A p) (he : Md A big p = true) : Plc A p := by
 have hb := Bq A; have hg := Al8 A; have hr := h.row
 unfold Md Qv at he
 rw [Bool.and_eq_true, bne_iff_ne] at he
 obtain ⟨h0, h1⟩ := he
 rw [show ((Ag A p.1).length == 0) = false by rw [beq_eq_false_iff_ne]; exact h0, Bool.false_or, Bool.and_eq_true, Bool.and_eq_true, decide_eq_true_eq] at h1
 refine ⟨?_, .inl h1.1.1⟩
 rcases Nat.lt_or_ge p.1 (lnN A) with u | u
 ·exact u
 ·have hp : p.1 = brs A /\ lnN A = brs A := by omega
  have := tail_nil hp.2
  rw [hp.1] at h0
  exact absurd this h0
end Mot
section
variable {w w' : World} {b p : Nat} {A : List Int} {x count arg goal : Int} {past big : Bool} {r : RwT}
structure TxN (w : World) (p : Nat) (A : List Int) (N : Nat) : Prop where
 ex : ∃ e lim na O M, Txt w p e lim na O M /\ atoms (aOf e M) = A /\ ∀ k, O k -> k < N
theorem TxA.n (h : TxA w p A) : TxN w p A w.heap.size := by
 obtain ⟨e, lim, na, O, M, h1, h2⟩ := h.ex
 exact ⟨e, lim, na, O, M, h1, h2, h1.own⟩
theorem TxN.ext {N : Nat} (h : TxN w p A N) (x : Ext w w') : TxN w' p A N := by
 obtain ⟨e, lim, na, O, M, h1, h2, h3⟩ := h.ex
 exact ⟨e, lim, na, O, M, h1.ext x, h2, h3⟩
theorem TxN.toB {N : Nat} (h : TxN w p A N) (hb : N <= b) : TxB w p A b := by
 obtain ⟨e, lim, na, O, M, h1, h2, h3⟩ := h.ex
 exact ⟨e, lim, na, O, M, h1, h2, λ hO => by have := h3 b hO; omega⟩
theorem TxN.upd {N : Nat} {c : Array Value} {fr : Nat × Nat} {t : TypeId} (h : TxN w p A N) (hN : N <= b) (hb : w.heap[b]? = some (.cells c t fr)) (ht : 162 ≠ t) (u : Upd (λ k => k = b) w w') : TxN w' p A N := by
 obtain ⟨e, lim, na, O, M, h1, h2, h3⟩ := h.ex
 refine ⟨e, lim, na, O, M, h1.upd u (λ k hk hk2 => by subst hk2; have := h3 k hk; omega) (λ k hk c' fr' hn => ?_), h2, h3⟩
 subst hk
 rw [hb] at hn
 cases hn
 exact ht rfl
theorem Ar5 {s c k arg goal : Int} {cd past bg : Bool} {r0 : RwT} (ht : TxA w p A) (hm : w.heap[b]? = some (mvO p s c k cd arg goal past bg r0)) {n : Nat} {kind : Int} {K : LdT -> Wp} (hK : ∀ w', Ext w w' -> K (ldT (Dv A n kind)) w') :
  Aa Tryz.prog 180 #[.pointer (some (at0 b)), .int .i64 (n : Int), .int .i64 kind] (.tup [(.agg c83), (.one (.int .i64))]) K w := by
 refine Ct6 ?_
 unfold F180
 refine (St.start w).Af λ b1 w1 S1 e1 => Aj (Ci (off := 0) (x := some (at0 p)) (e1.ext_get hm) rfl (Yj (ht.ext e1) λ w2 e2 => ?_))
 exact (S1.ext e2).Ad 0 rfl rfl rfl rfl λ w3 S3 _ => S3.lds 0 (ldT (Dv A n kind)).1 rfl (hK w3 S3.upd)
theorem Uk {s c k arg goal : Int} {cd past bg : Bool} {r0 : RwT} (ht : TxA w p A) (hm : w.heap[b]? = some (mvO p s c k cd arg goal past bg r0)) {K : Int -> Wp} (hK : ∀ w', Ext w w' -> K (Gm A : Int) w') :
  Aa Tryz.prog 189 #[.pointer (some (at0 b))] rI K w := by
 refine Dm9 ?_
 unfold F189
 refine Ce λ w1 e1 _ => ?_
 have m1 := e1.ext_get hm
 refine Aj (Ci (off := 0) (x := some (at0 p)) m1 rfl (Aj (Ci (off := 0) (x := some (at0 p)) m1 rfl ((ht.ext e1).Cp0 λ w2 e2 => ?_))))
 refine Aq (cell_of (off := 0) (e2.ext_get m1) rfl) (L9 ((ht.ext e1).ext e2) λ w3 e3 => ?_)
 rw [Bo7]
 exact hK w3 ((e1.trans e2).trans e3)
theorem Lm (h : Ed w b p A x count arg goal past big r) {K : Option Addr -> Wp} (hK : ∀ bw r' w', Gl w' bw p A big (Ar A x past) r' -> w.heap.size <= bw -> Ext w w' -> K (some (at0 bw)) w') :
  Aa Tryz.prog 187 #[.pointer (some (at0 b))] rP K w := by
 refine Dn1 ?_
 unfold F187
 refine Ce λ w1 e1 _ => ?_
 have h1 := h.ext e1
 refine h1.tK (h1.sK (h1.Bt8 (h1.Qd (Al6 h1.tx (Ap9 A x past).clamp λ bw r' w2 hw hge e2 => ?_))))
 rw [Bl1] at hw
 exact hK bw r' w2 hw (Nat.le_trans e1.size hge) (e1.trans e2)
theorem walked {w2 w3 : World} {bw : Nat} (e : Ext w w2) (hge : w.heap.size <= bw) (u : Upd (λ k => k = bw) w2 w3) : Ext w w3 := e.step u λ k hk => by subst hk; exact hge
theorem Ai4 (f : Nat × Nat -> Bool) (A : List Int) (x : Int) (past : Bool) (k : Nat) : Gn (Bo A f) (Az A x past + 1) k = (Ju A f (Ar A x past) k).map (Cb A) := by
 obtain ⟨h1, h2, _⟩ := Xf A x past
 rw [← h2]; exact Bp8 f h1 k
theorem Ai2 (f : Nat × Nat -> Bool) (A : List Int) (x : Int) (past : Bool) (k : Nat) : beforeL (Bo A f) (Az A x past) k = (Om A f (Ar A x past) k).map (Cb A) := by
 obtain ⟨h1, h2, _⟩ := Xf A x past
 rw [← h2]; exact Bd3 f h1 k
theorem Aw6 (h : Ed w b p A x count arg goal past big r) {K : LdT -> Wp} (hK : ∀ w', Ext w w' -> K (ldT (Bq7 A x count past big)) w') :
  Aa Tryz.prog 152 #[.pointer (some (at0 b))] (.tup [(.agg c83), (.one (.int .i64))]) K w := by
 refine Dp2 ?_
 unfold F152
 have hb := Bq A; have hA := h.row.len; have hbl := Me A
 unfold Bq7 at hK
 rw [Ai4] at hK
 refine (St.start w).Af λ b1 w1 S1 e1 => Lm (h.ext e1) λ bw r' w2 hw hge e2 => ?_
 have h2 := (h.ext e1).ext e2
 generalize hto : ((Ju A (Ol A big) (Ar A x past) (kOf count)).map (Cb A)).getD (if past then (Ba A (lnN A - 1)).to_ else Gm A) = to at hK
 refine Ae (λ y W => y = ((to : Int), ()) /\ Ext w1 W) ?_ ?_
 ·refine Ry (f := Ol A big) (kk := kOf count) h2.obj (Z5 count) hw (λ q' r' W K => Ac0) (λ hF w3 u3 => ?_) (λ q' r3 w3 hT hw3 u3 => ?_)
  ·have hk := Ru count
   rw [if_neg (by omega)] at hF
   rw [hF] at hto
   have e3 := walked e2 hge u3
   have h3 := (h.ext e1).ext e3
   refine Am (Uk h3.tx h3.obj λ w4 e4 => ?_)
   have h4 := h3.ext e4
   refine h4.Bt8 (Ac (λ hp => ?_) (λ hp => ?_))
   ·rw [if_pos hp] at hto
    refine Ce λ w5 e5 _ => ?_
    have h5 := h4.ext e5
    refine h5.tK (h5.tK (h5.tx.count λ w6 e6 => (h5.ext e6).Cr3 ?_))
    have ewl : W64 ((lnN A : Int) - 1) = ((lnN A - 1 : Nat) : Int) := by rw [wrap64 (by omega) (by omega)]; omega
    rw [ewl]
    refine Qm (h5.ext e6).tx (by omega) λ r6 w7 hr7 e7 => ⟨?_, (((e3.trans e4).trans e5).trans e6).trans e7⟩
    rw [hr7.t, ← hto]; rfl
   ·rw [if_neg (by rw [hp]; decide)] at hto
    exact ⟨by rw [← hto]; rfl, e3.trans e4⟩
  ·have hk := Ru count
   rw [if_neg (by omega)] at hT
   rw [hT] at hto
   refine Bj (Qg hw3 λ w4 e4 => ⟨?_, (walked e2 hge u3).trans e4⟩)
   rw [← hto]; rfl
 rintro _ W ⟨rfl, eW⟩
 have hW := (h.ext e1).ext eW
 have SW := S1.ext eW
 refine hW.sK (Ac (λ hc => ?_) (λ hc => ?_))
 ·simp only [decide_eq_true_eq] at hc
  rw [if_pos (by omega)] at hK
  exact Gi λ w3 e3 => Ho (SW.ext e3) hK
 ·simp only [decide_eq_false_iff_not] at hc
  rw [if_neg (by omega)] at hK
  exact Fp hW λ w3 e3 => Ho (SW.ext e3) hK
theorem Bj1 (h : Ed w b p A x count arg goal past big r) {K : LdT -> Wp} (hK : ∀ w', Ext w w' -> K (ldT (Bq9 A x count past big)) w') :
  Aa Tryz.prog 154 #[.pointer (some (at0 b))] (.tup [(.agg c83), (.one (.int .i64))]) K w := by
 refine Dp0 ?_
 unfold F154
 unfold Bq9 at hK
 rw [Ai4] at hK
 refine (St.start w).Af λ b1 w1 S1 e1 => Lm (h.ext e1) λ bw r' w2 hw hge e2 => ?_
 have h2 := (h.ext e1).ext e2
 generalize hto : ((Ju A (Md A big) (Ar A x past) (kOf count)).map (Cb A)).getD (Gm A) = to at hK
 refine Ae (λ y W => y = ((to : Int), ()) /\ Ext w1 W) ?_ ?_
 ·refine Ry (f := Md A big) (kk := kOf count) h2.obj (Z5 count) hw (λ q' r' W K => Aa7) (λ hF w3 u3 => ?_) (λ q' r3 w3 hT hw3 u3 => ?_)
  ·have hk := Ru count
   rw [if_neg (by omega)] at hF
   rw [hF] at hto
   have e3 := walked e2 hge u3
   have h3 := (h.ext e1).ext e3
   refine Am (Uk h3.tx h3.obj λ w4 e4 => ⟨?_, e3.trans e4⟩)
   rw [← hto]; rfl
  ·have hk := Ru count
   rw [if_neg (by omega)] at hT
   rw [hT] at hto
   refine Bj (Qg hw3 λ w4 e4 => ⟨?_, (walked e2 hge u3).trans e4⟩)
   rw [← hto]; rfl
 rintro _ W ⟨rfl, eW⟩
 have hW := (h.ext e1).ext eW
 have SW := S1.ext eW
 refine hW.sK (Ac (λ hc => ?_) (λ hc => ?_))
 ·simp only [decide_eq_true_eq] at hc
  rw [if_pos (by omega)] at hK
  exact Gi λ w3 e3 => Ho (SW.ext e3) hK
 ·simp only [decide_eq_false_iff_not] at hc
  rw [if_neg (by omega)] at hK
  exact Fp hW λ w3 e3 => Ho (SW.ext e3) hK
theorem Bp6 (h : Ed w b p A x count arg goal past big r) {K : LdT -> Wp} (hK : ∀ w', Ext w w' -> K (ldT (Ca7 A x count past big)) w') :
  Aa Tryz.prog 153 #[.pointer (some (at0 b))] (.tup [(.agg c83), (.one (.int .i64))]) K w := by
 refine Dp1 ?_
 unfold F153
 unfold Ca7 at hK
 rw [Ai2] at hK
 refine (St.start w).Af λ b1 w1 S1 e1 => Lm (h.ext e1) λ bw r' w2 hw hge e2 => ?_
 have h2 := (h.ext e1).ext e2
 refine h2.sK (Ac (λ hc => ?_) (λ hc => ?_))
 ·simp only [beq_iff_eq] at hc
  rw [if_pos (by omega)] at hK
  exact Gi λ w3 e3 => Ho ((S1.ext e2).ext e3) hK
 ·simp only [beq_eq_false_iff_ne, ne_eq] at hc
  rw [if_neg (by omega)] at hK
  refine Wy (f := Ol A big) (kk := kOf count) h2.obj ⟨Ru count, Z5 count⟩ hw (λ q' r' W K => Ac0) (λ hF w3 u3 => ?_) (λ q' r3 w3 hT hw3 u3 => ?_)
  ·rw [hF] at hK
   have e3 := walked e2 hge u3
   exact Bj (Fp (n := 0) ((h.ext e1).ext e3) λ w4 e4 => Ho ((S1.ext e3).ext e4) hK)
  ·rw [hT] at hK
   have e3 := walked e2 hge u3
   exact Am (Qg hw3 λ w4 e4 => Fp (((h.ext e1).ext e3).ext e4) λ w5 e5 => Ho (((S1.ext e3).ext e4).ext e5) hK)
theorem Bp5 (h : Ed w b p A x count arg goal past big r) {K : LdT -> Wp} (hK : ∀ w', Ext w w' -> K (ldT (Ca2 A x count past big)) w') :
  Aa Tryz.prog 155 #[.pointer (some (at0 b))] (.tup [(.agg c83), (.one (.int .i64))]) K w := by
 refine Do9 ?_
 unfold F155
 unfold Ca2 at hK
 rw [Ai2] at hK
 refine (St.start w).Af λ b1 w1 S1 e1 => Lm (h.ext e1) λ bw r' w2 hw hge e2 => ?_
 have h2 := (h.ext e1).ext e2
 refine h2.sK (Ac (λ hc => ?_) (λ hc => ?_))
 ·simp only [beq_iff_eq] at hc
  rw [if_pos (by omega)] at hK
  exact Gi λ w3 e3 => Ho ((S1.ext e2).ext e3) hK
 ·simp only [beq_eq_false_iff_ne, ne_eq] at hc
  rw [if_neg (by omega)] at hK
  refine Wy (f := Qv A big) (kk := kOf count) h2.obj ⟨Ru count, Z5 count⟩ hw (λ q' r' W K => Bx3) (λ hF w3 u3 => ?_) (λ q' r3 w3 hT hw3 u3 => ?_)
  ·rw [hF] at hK
   have e3 := walked e2 hge u3
   exact Bj (Fp (n := 0) ((h.ext e1).ext e3) λ w4 e4 => Ho ((S1.ext e3).ext e4) hK)
  ·rw [hT] at hK
   have e3 := walked e2 hge u3
   exact Am (Qg hw3 λ w4 e4 => Fp (((h.ext e1).ext e3).ext e4) λ w5 e5 => Ho (((S1.ext e3).ext e4).ext e5) hK)
theorem Cd9 (A : List Int) (x : Int) (past big : Bool) {k kk : Nat} (hk : 1 <= k) (hkk : kk = if Md A big (Ar A x past) then k - 1 else k) : Gn (Bo A (Md A big)) (Az A x past) k = (if kk = 0 then some (Ar A x past) else Ju A (Md A big) (Ar A x past) kk).map (Cb A) := by
 obtain ⟨h1, h2, _⟩ := Xf A x past
 unfold Gn
 rw [← h2, Ba2 _ h1 (λ he => Cg5 h1 he), List.getElem?_map]
 congr 1
 unfold Ju
 cases he : Md A big (Ar A x past) with
 | true =>
  rw [he, if_pos rfl] at hkk
  rw [if_pos rfl]
  by_cases h0 : kk = 0
  ·rw [if_pos h0, show k - 1 = 0 by omega]; rfl
  ·rw [if_neg h0]
   obtain ⟨m, hm⟩ : ∃ m, k - 1 = m + 1 := ⟨k - 2, by omega⟩
   rw [hm, show kk - 1 = m by omega]; rfl
 | false =>
  rw [he, if_neg (by decide)] at hkk
  rw [if_neg (by decide), if_neg (by omega), hkk]; rfl
theorem Bk5 {N : Nat} (h : Ed w b p A x count arg goal past big r) (hB : TxN w p A N) (hN : N <= b) {K : LdT -> Wp} (hK : ∀ w', Upd (λ k => k = b) w w' -> K (ldT (Bs7 A x count past big)) w') :
  Aa Tryz.prog 156 #[.pointer (some (at0 b))] (.tup [(.agg c83), (.one (.int .i64))]) K w := by
 refine Do8 ?_
 unfold F156
 obtain ⟨m1, m2, m3, m4, m5, m6, m7⟩ := h.bounds
 unfold Bs7 at hK
 obtain ⟨kk, hkk⟩ : ∃ kk, kk = if Md A big (Ar A x past) then kOf count - 1 else kOf count := ⟨_, rfl⟩
 rw [Cd9 A x past big m4 hkk] at hK
 have hbs : b < w.heap.size := lt_of_heap h.obj
 refine (St.Br7 (λ k => k = b) w (λ k hk => by subst hk; exact hbs)).Af λ b1 w1 S1 e1 => Lm (h.ext e1) λ bw r' w2 hw hge e2 => ?_
 have S1 : St (λ k => k = b) w w1 [(b1, ldZ)] := S1
 have h2 := (h.ext e1).ext e2
 have hB2 := (hB.ext e1).ext e2
 have hbw : b ≠ bw := by have := e1.size; omega
 refine Ae (λ _ W => ∃ rw', W.heap[b]? = some (mvO p (Az A x past : Int) ((Ar A x past).2 : Int) (kk : Int) (decide (0 < count)) arg goal past big r) /\ Gl W bw p A big (Ar A x past) rw' /\ St (λ k => k = b) w W [(b1, ldZ)] /\ w1.heap.size <= W.heap.size) ?_ ?_
 ·refine O4 hw λ w3 e3 => ?_
  have h3 := h2.ext e3
  have S3 := (S1.ext e2).ext e3
  have hsz : w1.heap.size <= w3.heap.size := Nat.le_trans e2.size e3.size
  refine Ac (λ hc => ?_) (λ hc => ?_)
  ·rw [hc, if_pos rfl] at hkk
   refine h3.kK (Aj ?_)
   have ew : W64 ((kOf count : Int) - 1) = (kk : Int) := by rw [wrap64 (by omega) (by omega)]; omega
   rw [ew]
   refine Iu (off := 3) h3.obj (by show 3 < 16; decide) λ w4 u4 n4 hsz4 => ?_
   have hw3 := hw.ext e3
   have hB3 := hB2.ext e3
   refine ⟨_, n4, ⟨?_, u4.get hw3.obj (λ hh => hbw hh.symm), hw3.row.box h3.obj (by decide) u4, hw3.on⟩, S3.step u4 λ k hk => hk, by omega⟩
   exact (hB3.upd hN h3.obj (by decide) u4).toB (by have := e1.size; omega)
  ·rw [hc, if_neg (by decide)] at hkk
   subst hkk
   exact ⟨_, h3.obj, hw.ext e3, S3, hsz⟩
 rintro _ W ⟨rw', hm, hwW, SW, hszW⟩
 refine Ry (f := Md A big) (kk := kk) hm (by rw [hkk]; split <;> omega) hwW (λ q' r' W K => Aa7) (λ hF w3 u3 => ?_) (λ q' r3 w3 hT hw3 u3 => ?_)
 ·rw [hF] at hK
  have S3 := SW.fresh u3 (λ k hk => .inr (by subst hk; exact Nat.le_trans e1.size hge)) (λ y hy hk => by
   rw [List.mem_singleton.1 hy] at hk
   have := lt_of_heap (S1.at_ 0 rfl)
   dsimp only at hk
   omega)
  have hm3 := u3.get hm hbw
  have t3 : TxA w3 p A := (hwW.tx.upd hwW.obj (by decide) u3).ta
  refine Am (Ce λ w4 e4 _ => ?_)
  have hm4 := e4.ext_get hm3
  refine Aj (Ci (off := 1) (x := (Az A x past : Int)) hm4 rfl (Uk (t3.ext e4) hm4 λ w5 e5 => ?_))
  have hm5 := e5.ext_get hm4
  refine Aq (cell_of (off := 1) hm5 rfl) ?_
  have em : (if (Az A x past : Int) > (Gm A : Int) then (Az A x past : Int) else (Gm A : Int)) = ((max (Gm A) (Az A x past) : Nat) : Int) := by split <;> omega
  rw [em]
  refine Ar5 ((t3.ext e4).ext e5) hm5 λ w6 e6 => ?_
  have S6 := ((S3.ext e4).ext e5).ext e6
  exact S6.Ad 0 rfl rfl rfl rfl λ w7 S7 _ => S7.lds 0 (ldT (Dv A (max (Gm A) (Az A x past)) 1)).1 rfl (hK w7 S7.upd)
 ·rw [hT] at hK
  have S3 := SW.fresh u3 (λ k hk => .inr (by subst hk; exact Nat.le_trans e1.size hge)) (λ y hy hk => by
   rw [List.mem_singleton.1 hy] at hk
   have := lt_of_heap (S1.at_ 0 rfl)
   dsimp only at hk
   omega)
  have hm3 := u3.get hm hbw
  refine Bj (Qg hw3 λ w4 e4 => Ar5 (hw3.tx.ta.ext e4) (e4.ext_get hm3) λ w5 e5 => ?_)
  have S5 := (S3.ext e4).ext e5
  exact S5.Ad 0 rfl rfl rfl rfl λ w7 S7 _ => S7.lds 0 (ldT (Dv A (Cb A q') 1)).1 rfl (hK w7 S7.upd)
end
abbrev mvM (kind count arg : Int) : Cells.T c48 := (kind, count, arg, ())
abbrev Yi (kind count arg : Int) : Obj := .cells #[.int .i64 kind, .int .i64 count, .int .i64 arg] 48 (0, 0)
def vF : Option FuncId -> Value
 | none => .nilFunc
 | some g => .func (.func g) #[] #[]
def Qd (kind : Int) : Bool := decide ((25 <= kind /\ kind <= 28) \/ kind = 30)
section
variable {w w' : World} {b p : Nat} {A : List Int} {x goal kind count arg : Int} {past big : Bool}
theorem Bk6 {t : TypeId} {ps rs : Array TypeId} {vr : Bool} (hu : Tryz.prog.underlying t = some (.func ps rs vr)) {o1 : Operand} {v : Option FuncId} {K : Bool -> Wp} (h : K v.isNone w) : rdB Tryz.prog (do eqGuard .eql t o1 (.const .nilFunc) (vF v) .nilFunc; binOp .eql t (vF v) .nilFunc : Sem Value) K w := by
 refine ⟨v.isNone, ?_, h⟩
 cases v with
 | none =>
  have e : (Op.equal t .nilFunc .nilFunc).run Tryz.prog w = .ok true w := At6 hu 9999
  simp [eqGuard, binOp, vF, e]
 | some g =>
  have e : (Op.equal t (.func (.func g) #[] #[]) .nilFunc).run Tryz.prog w = .ok false w := Bc1 hu _ _ _ 9999
  simp [eqGuard, binOp, vF, e]
theorem Ck7 : Tryz.prog.underlying 173 = some (.func #[174] #[83, 37] false) := by kernel_rfl
theorem Ag2 {tab : Value} {v : Option FuncId} {ans : Ld} (h : TxA w p A)
  (htab : ∀ W (K : Value -> Wp), K (vF v) W -> Bv Tryz.prog (do let d ← Deferred.ofValue tab #[.int .i64 kind]; invoke d.target d.args : Sem Next) (.one (.one .any)) K W)
  (hnil : v = none -> ans = noP 1)
  (hdo : ∀ g, v = some g -> ((Tryz.prog.funcs[g]?).map λ fn => (fn.body.isNone, fn.name == "runtime.NumGoroutine")) = some (false, false) /\ ∀ W b r N (K : LdT -> Wp), Ed W b p A x count arg (max goal 0) past (Qd kind) r -> TxN W p A N -> N <= b -> (∀ W', Upd (λ k => k = b) W W' -> K (ldT ans) W') -> Aa Tryz.prog g #[.pointer (some (at0 b))] (.tup [(.agg c83), (.one (.int .i64))]) K W)
  {K : LdT -> Wp} (hK : ∀ w', Ext w w' -> K (ldT ans) w') :
  Aa Tryz.prog 89 #[tab, .pointer (some (at0 p)), .int .i64 x, .int .i64 goal, .agg (Cells.vals c48 (mvM kind count arg)).toArray, .bool past] (.tup [(.agg c83), (.one (.int .i64))]) K w := by
 refine A89 (a4 := mvM kind count arg) ?_
 unfold F89
 refine (St.start w).Af λ b1 w1 S1 e1 => S1.Af λ b2 w2 S2 e2 => ?_
 have S2 : St (λ _ => False) w w2 [(b2, ldZ), (b1, Yi kind count arg)] := S2
 refine S2.ld (off := 0) 1 rfl (x := kind) rfl (htab w2 _ ?_)
 refine Bk6 Ck7 ?_
 cases v with
 | none =>
  have ha := hnil rfl
  subst ha
  refine Bj (S2.Ad 0 rfl rfl rfl rfl λ w3 S3 _ => S3.lds 0 (ldT (noP 1)).1 rfl (hK w3 S3.upd))
 | some g =>
  obtain ⟨hg, hdo⟩ := hdo g rfl
  refine Am (L9 (h.ext S2.upd) λ w3 e3 => ?_)
  have S3 := S2.ext e3
  refine S3.drew λ w4 S4 e4 _ => S4.ld (off := 2) 1 rfl (x := arg) rfl (Rn (h.ext S4.upd) λ r w5 hr e5 => ?_)
  have S5 := S4.ext e5
  rw [Jp] at hr
  have hr : Gx w5 A (Ar A x past).1 r := hr
  refine S5.keep (off := 2) 1 rfl (v := .int .i64 arg) rfl (S5.Y5 λ b10 w6 S6 e6 hb10 => ?_)
  have em : (if (0 : Int) > goal then (0 : Int) else goal) = max goal 0 := by split <;> omega
  rw [em] at S6
  have S6 : St (λ _ => False) w w6 [(b10, mvO p (Az A x past : Int) 0 1 false arg (max goal 0) past false r), (b2, ldZ), (b1, Yi kind count arg)] := S6
  have hr6 := hr.ext e6
  refine Aj (Na (off := 9) (x := r) (S6.at_ 0 rfl) (Ul (by rfl)) (Vk (hr.ext e6) λ w7 e7 => Aj ?_))
  have S7 := S6.ext e7
  refine S7.stC (off := 2) 0 rfl (by show 2 < 16; decide) λ w8 S8 u8 => ?_
  have hr8 : Gx w8 A (Ar A x past).1 r := (hr6.ext e7).box (S7.at_ 0 rfl) (by decide) u8
  have S8 : St (λ _ => False) w w8 [(b10, mvO p (Az A x past : Int) ((Ar A x past).2 : Int) 1 false arg (max goal 0) past false r), (b2, ldZ), (b1, Yi kind count arg)] := S8
  refine Ae (λ _ W => Gx W A (Ar A x past).1 r /\ St (λ _ => False) w W [(b10, mvO p (Az A x past : Int) ((Ar A x past).2 : Int) 1 false arg (max goal 0) past (Qd kind) r), (b2, ldZ), (b1, Yi kind count arg)]) ?_ ?_
  ·have hset : ∀ (bb : Bool), bb = Qd kind -> stC ((at0 b10).add 8) (.bool bb) (λ W => Gx W A (Ar A x past).1 r /\ St (λ _ => False) w W [(b10, mvO p (Az A x past : Int) ((Ar A x past).2 : Int) 1 false arg (max goal 0) past (Qd kind) r), (b2, ldZ), (b1, Yi kind count arg)]) w8 := λ bb hbb => by
    subst hbb
    exact S8.stC (off := 8) 0 rfl (by show 8 < 16; decide) λ w9 S9 u9 => ⟨hr8.box (S8.at_ 0 rfl) (by decide) u9, S9⟩
   refine S8.ld (off := 0) 2 rfl (x := kind) rfl (Ac (λ hc => ?_) (λ hc => ?_))
   ·simp only [decide_eq_true_eq, ge_iff_le] at hc
    refine S8.ld (off := 0) 2 rfl (x := kind) rfl (Ac (λ hc2 => ?_) (λ hc2 => ?_))
    ·simp only [decide_eq_true_eq] at hc2
     exact Aj (hset true (by unfold Qd; rw [decide_eq_true]; exact .inl ⟨hc, hc2⟩))
    ·simp only [decide_eq_false_iff_not] at hc2
     refine S8.ld (off := 0) 2 rfl (x := kind) rfl (Aj (hset _ ?_))
     unfold Qd
     rw [Bool.eq_iff_iff, beq_iff_eq, decide_eq_true_eq]; omega
   ·simp only [decide_eq_false_iff_not, ge_iff_le] at hc
    refine S8.ld (off := 0) 2 rfl (x := kind) rfl (Aj (hset _ ?_))
    unfold Qd
    rw [Bool.eq_iff_iff, beq_iff_eq, decide_eq_true_eq]; omega
  rintro _ w9 ⟨hr9, S9⟩
  refine Ae (λ _ W => Gx W A (Ar A x past).1 r /\ St (λ _ => False) w W [(b10, mvO p (Az A x past : Int) ((Ar A x past).2 : Int) (kOf count : Int) (decide (0 < count)) arg (max goal 0) past (Qd kind) r), (b2, ldZ), (b1, Yi kind count arg)]) ?_ ?_
  ·refine S9.ld (off := 1) 2 rfl (x := count) rfl (Ac (λ hc => ?_) (λ hc => ?_))
   ·simp only [decide_eq_true_eq, gt_iff_lt] at hc
    refine S9.ld (off := 1) 2 rfl (x := count) rfl (Aj ?_)
    have ek : (if (9999 : Int) < count then (9999 : Int) else count) = (kOf count : Int) := by unfold kOf; rw [if_pos hc]; split <;> omega
    rw [ek, decide_eq_true hc]
    refine S9.stC (off := 3) 0 rfl (by show 3 < 16; decide) λ w10 S10 u10 => Aj (S10.stC (off := 4) 0 rfl (by show 4 < 16; decide) λ w11 S11 u11 => ⟨(hr9.box (S9.at_ 0 rfl) (by decide) u10).box (S10.at_ 0 rfl) (by decide) u11, S11⟩)
   ·simp only [decide_eq_false_iff_not, gt_iff_lt] at hc
    have ek : kOf count = 1 := by unfold kOf; rw [if_neg hc]
    rw [ek, decide_eq_false hc]
    exact ⟨hr9, S9⟩
  rintro _ w10 ⟨hrow, S10⟩
  have hge : w5.heap.size <= b10 := Nat.le_of_eq hb10.symm
  have hmv : Ed w10 b10 p A x count arg (max goal 0) past (Qd kind) r := ⟨h.ext S10.upd, S10.at_ 0 rfl, hrow⟩
  refine func_x (caps := #[]) hg (hdo w10 b10 r w.heap.size _ hmv (h.n.ext S10.upd) (S10.ge 0 rfl) λ w11 u11 => ?_)
  have S11 : St (λ _ => False) w w11 [(b2, ldZ), (b1, Yi kind count arg)] := S10.tail.fresh u11 (λ k hk => .inr (by subst hk; exact S10.ge 0 rfl)) (λ y hy hk => by
   have hnd := S10.nd
   simp only [List.map_cons, List.map_nil, List.nodup_cons, List.mem_cons, List.not_mem_nil, or_false, not_or] at hnd
   rcases List.mem_cons.1 hy with rfl | hy
   ·exact hnd.1.1 hk.symm
   ·rw [List.mem_singleton.1 hy] at hk
    exact hnd.1.2 hk.symm)
  exact S11.Ad 0 rfl rfl rfl rfl λ w12 S12 _ => S12.lds 0 (ldT ans).1 rfl (hK w12 S12.upd)
theorem Am5 {W w0 : World} {b2 : Nat} {o : Obj} {b1 : Nat} {l : Ld} {K : LdT -> Wp} (S : St (λ _ => False) w0 W [(b2, ldZ), (b1, o)]) (hK : ∀ w', Ext w0 w' -> K (ldT l) w') :
  Ad (at0 b2) (.agg (Cells.vals c83 (ldT l).1).toArray) 3 (lds c83 (at0 b2) λ y => K (y, (ldT l).2.1, ())) W :=
 S.Ad 0 rfl rfl rfl rfl λ w1 S1 _ => S1.lds 0 (ldT l).1 rfl (hK w1 S1.upd)
def Bz0 (k : Int) : Option FuncId := if k = 1 then some 134 else if k = 2 then some 135 else if k = 3 then some 136 else if k = 4 then some 137 else if k = 5 then some 138 else if k = 6 then some 139 else if k = 7 then some 140 else if k = 8 then some 141 else if k = 9 then some 142 else if k = 10 then some 143 else none
def Bq6 (k : Int) : Option FuncId := if k = 21 \/ k = 25 then some 152 else if k = 22 \/ k = 26 then some 153 else if k = 23 \/ k = 27 then some 154 else if k = 24 \/ k = 28 then some 155 else if k = 29 \/ k = 30 then some 156 else none
theorem Wj {n : Int} {k : Int} {g : FuncId} {o : Option FuncId} {K : Value -> Wp} {B : World -> Prop} (hK : K (vF (if k = n then some g else o)) w) (h2 : K (vF o) w -> B w) : sif (k == n) (K (.func (.func g) #[] #[])) B w := by
 refine Ac (λ hc => ?_) (λ hc => ?_)
 ·simp only [beq_iff_eq] at hc
  rw [if_pos hc] at hK; exact hK
 ·simp only [beq_eq_false_iff_ne, ne_eq] at hc
  rw [if_neg hc] at hK; exact h2 hK
theorem Ad7 {K : Value -> Wp} (hK : K (vF (Bz0 kind)) w) : Aa Tryz.prog 90 #[.int .i64 kind] (.one (.one .any)) K w := by
 refine A90 ?_
 unfold F90
 exact Wj hK λ hK => Wj hK λ hK => Wj hK λ hK => Wj hK λ hK => Wj hK λ hK => Wj hK λ hK => Wj hK λ hK => Wj hK λ hK => Wj hK λ hK => Wj hK λ hK => hK
theorem V7 {m n : Int} {k : Int} {g : FuncId} {o : Option FuncId} {K : Value -> Wp} {B : World -> Prop} (hK : K (vF (if k = m \/ k = n then some g else o)) w) (h2 : K (vF o) w -> B w) :
  join (S := Bool × Unit) (λ J => sif (k == m) (J ((k == m), ())) (J ((k == n), ()))) (λ s => sif s.1 (K (.func (.func g) #[] #[])) B) w := by
 refine Ae (λ y W => y = (decide (k = m \/ k = n), ()) /\ w = W) ?_ ?_
 ·refine Ac (λ hc => ⟨Au ?_, rfl⟩) (λ hc => ⟨Au ?_, rfl⟩)
  ·simp only [beq_iff_eq] at hc
   simp [hc]
  ·simp only [beq_eq_false_iff_ne, ne_eq] at hc
   simp [hc]
 rintro _ _ ⟨rfl, rfl⟩
 refine Ac (λ hc => ?_) (λ hc => ?_)
 ·rw [if_pos (of_decide_eq_true hc)] at hK; exact hK
 ·rw [if_neg (of_decide_eq_false hc)] at hK; exact h2 hK
theorem Ac7 {K : Value -> Wp} (hK : K (vF (Bq6 kind)) w) : Aa Tryz.prog 97 #[.int .i64 kind] (.one (.one .any)) K w := by
 refine A97 ?_
 unfold F97
 exact V7 hK λ hK => V7 hK λ hK => V7 hK λ hK => V7 hK λ hK => V7 hK λ hK => hK
theorem Ar8 (h : TxA w p A) {K : LdT -> Wp} (hK : ∀ w', Ext w w' -> K (ldT (Df A x kind count arg past)) w') :
  Aa Tryz.prog 40 #[.pointer (some (at0 p)), .int .i64 x, .agg (Cells.vals c48 (mvM kind count arg)).toArray, .bool past] (.tup [(.agg c83), (.one (.int .i64))]) K w := by
 refine A40 (a2 := mvM kind count arg) ?_
 unfold F40
 refine (St.start w).Af λ b1 w1 S1 e1 => S1.Af λ b2 w2 S2 e2 => ?_
 have S2 : St (λ _ => False) w w2 [(b2, ldZ), (b1, Yi kind count arg)] := S2
 refine S2.lds 1 (mvM kind count arg) rfl (Ag2 (v := Bz0 kind) (ans := Df A x kind count arg past) (h.ext S2.upd) (λ W K hk => func_x (caps := #[]) (by kernel_rfl) (Ad7 hk)) (λ hn => ?_) (λ g hg => ?_) λ w3 e3 => Am5 (S2.ext e3) hK)
 ·have n1 : ¬ kind = 1 := λ h => absurd (h ▸ hn) (by decide)
  have n2 : ¬ kind = 2 := λ h => absurd (h ▸ hn) (by decide)
  have n3 : ¬ kind = 3 := λ h => absurd (h ▸ hn) (by decide)
  have n4 : ¬ kind = 4 := λ h => absurd (h ▸ hn) (by decide)
  have n5 : ¬ kind = 5 := λ h => absurd (h ▸ hn) (by decide)
  have n6 : ¬ kind = 6 := λ h => absurd (h ▸ hn) (by decide)
  have n7 : ¬ kind = 7 := λ h => absurd (h ▸ hn) (by decide)
  have n8 : ¬ kind = 8 := λ h => absurd (h ▸ hn) (by decide)
  have n9 : ¬ kind = 9 := λ h => absurd (h ▸ hn) (by decide)
  have n10 : ¬ kind = 10 := λ h => absurd (h ▸ hn) (by decide)
  unfold Df
  dsimp only
  rw [if_neg n1, if_neg n2, if_neg n3, if_neg n4, if_neg n5, if_neg n6, if_neg (by omega), if_neg (by omega)]
 ·have up : ∀ {W : World} {b : Nat} {K : LdT -> Wp}, (∀ W', Upd (λ k => k = b) W W' -> K (ldT (Df A x kind count arg past)) W') -> ∀ W', Ext W W' -> K (ldT (Df A x kind count arg past)) W' := λ hk W' e => hk W' (Upd.Ei e)
  unfold Bz0 at hg
  split at hg
  ·cases hg; subst kind; exact ⟨by kernel_rfl, λ W b r N K hm _ _ hk => Bm8 hm (up hk)⟩
  split at hg
  ·cases hg; subst kind; exact ⟨by kernel_rfl, λ W b r N K hm _ _ hk => Ay7 hm (up hk)⟩
  split at hg
  ·cases hg; subst kind; exact ⟨by kernel_rfl, λ W b r N K hm _ _ hk => Ax3 hm (up hk)⟩
  split at hg
  ·cases hg; subst kind; exact ⟨by kernel_rfl, λ W b r N K hm _ _ hk => Bm5 hm (up hk)⟩
  split at hg
  ·cases hg; subst kind; exact ⟨by kernel_rfl, λ W b r N K hm _ _ hk => Bx4 hm (up hk)⟩
  split at hg
  ·cases hg; subst kind; exact ⟨by kernel_rfl, λ W b r N K hm _ _ hk => Ca5 hm (up hk)⟩
  split at hg
  ·cases hg; subst kind; exact ⟨by kernel_rfl, λ W b r N K hm _ _ hk => Bb8 hm (up hk)⟩
  split at hg
  ·cases hg; subst kind; exact ⟨by kernel_rfl, λ W b r N K hm _ _ hk => Bb7 hm (up hk)⟩
  split at hg
  ·cases hg; subst kind; exact ⟨by kernel_rfl, λ W b r N K hm _ _ hk => Bj3 hm (up hk)⟩
  split at hg
  ·cases hg; subst kind; exact ⟨by kernel_rfl, λ W b r N K hm _ _ hk => Aw9 hm (up hk)⟩
  ·cases hg
theorem Ao7 (A : List Int) (x kind count : Int) (past : Bool) : Xa A x kind count past = if kind = 21 \/ kind = 25 then Bq7 A x count past (Qd kind) else if kind = 22 \/ kind = 26 then Ca7 A x count past (Qd kind) else if kind = 23 \/ kind = 27 then Bq9 A x count past (Qd kind) else if kind = 24 \/ kind = 28 then Ca2 A x count past (Qd kind) else if kind = 29 \/ kind = 30 then Bs7 A x count past (Qd kind) else noP 1 := rfl
theorem Ar3 (h : TxA w p A) {K : LdT -> Wp} (hK : ∀ w', Ext w w' -> K (ldT (Xa A x kind count past)) w') :
  Aa Tryz.prog 45 #[.pointer (some (at0 p)), .int .i64 x, .agg (Cells.vals c48 (mvM kind count arg)).toArray, .bool past] (.tup [(.agg c83), (.one (.int .i64))]) K w := by
 refine A45 (a2 := mvM kind count arg) ?_
 unfold F45
 refine (St.start w).Af λ b1 w1 S1 e1 => S1.Af λ b2 w2 S2 e2 => ?_
 have S2 : St (λ _ => False) w w2 [(b2, ldZ), (b1, Yi kind count arg)] := S2
 refine S2.lds 1 (mvM kind count arg) rfl (Ag2 (v := Bq6 kind) (ans := Xa A x kind count past) (h.ext S2.upd) (λ W K hk => func_x (caps := #[]) (by kernel_rfl) (Ac7 hk)) (λ hn => ?_) (λ g hg => ?_) λ w3 e3 => Am5 (S2.ext e3) hK)
 ·have n21 : ¬ kind = 21 := λ h => absurd (h ▸ hn) (by decide)
  have n22 : ¬ kind = 22 := λ h => absurd (h ▸ hn) (by decide)
  have n23 : ¬ kind = 23 := λ h => absurd (h ▸ hn) (by decide)
  have n24 : ¬ kind = 24 := λ h => absurd (h ▸ hn) (by decide)
  have n25 : ¬ kind = 25 := λ h => absurd (h ▸ hn) (by decide)
  have n26 : ¬ kind = 26 := λ h => absurd (h ▸ hn) (by decide)
  have n27 : ¬ kind = 27 := λ h => absurd (h ▸ hn) (by decide)
  have n28 : ¬ kind = 28 := λ h => absurd (h ▸ hn) (by decide)
  have n29 : ¬ kind = 29 := λ h => absurd (h ▸ hn) (by decide)
  have n30 : ¬ kind = 30 := λ h => absurd (h ▸ hn) (by decide)
  rw [Ao7, if_neg (by omega), if_neg (by omega), if_neg (by omega), if_neg (by omega), if_neg (by omega)]
 ·rw [Ao7]
  unfold Bq6 at hg
  split at hg
  ·rename_i hk; cases hg; rw [if_pos hk]; exact ⟨by kernel_rfl, λ W b r N K hm _ _ hk => Aw6 hm λ W' e => hk W' (Upd.Ei e)⟩
  rename_i hk; rw [if_neg hk]
  split at hg
  ·rename_i hk; cases hg; rw [if_pos hk]; exact ⟨by kernel_rfl, λ W b r N K hm _ _ hk => Bp6 hm λ W' e => hk W' (Upd.Ei e)⟩
  rename_i hk; rw [if_neg hk]
  split at hg
  ·rename_i hk; cases hg; rw [if_pos hk]; exact ⟨by kernel_rfl, λ W b r N K hm _ _ hk => Bj1 hm λ W' e => hk W' (Upd.Ei e)⟩
  rename_i hk; rw [if_neg hk]
  split at hg
  ·rename_i hk; cases hg; rw [if_pos hk]; exact ⟨by kernel_rfl, λ W b r N K hm _ _ hk => Bp5 hm λ W' e => hk W' (Upd.Ei e)⟩
  rename_i hk; rw [if_neg hk]
  split at hg
  ·rename_i hk; cases hg; rw [if_pos hk]; exact ⟨by kernel_rfl, λ W b r N K hm hN hle hk => Bk5 hm hN hle hk⟩
  ·cases hg
end
end Go.Proofs.YtolhlldgnfbemaaGreatDoor
namespace Go.Proofs.YtolhlldgnfbemaaGreatDoor
open Cdc Gly Clu Lns Obx
namespace Obx
def Ab5 (n : Nat) : Nat := if n = 13 then 1 else if n = 10 then 2 else if n < 32 \/ n = 127 then 3 else 0
def Cc3 (n : Nat) : Nat := if (9 <= n /\ n <= 13) \/ n = 32 then 0 else if (48 <= n /\ n <= 57) \/ (65 <= n /\ n <= 90) \/ n = 95 \/ (97 <= n /\ n <= 122) then 2 else 1
theorem Cl0 : ((List.range 128).all λ n => cls (n : Int) == Ab5 n && cnj (n : Int) == 0 && wrd (n : Int) == Cc3 n) = true := by kernel_rfl
theorem An9 {v : Int} (h : 0 <= v /\ v < 128) : cls v = Ab5 v.toNat /\ cnj v = 0 /\ wrd v = Cc3 v.toNat := by
 have h1 := List.all_eq_true.1 Cl0 v.toNat (List.mem_range.2 (by omega))
 have e : ((v.toNat : Nat) : Int) = v := by omega
 rw [e] at h1
 simp only [Bool.and_eq_true, beq_iff_eq] at h1
 exact ⟨h1.1.1, h1.1.2, h1.2⟩
theorem Bh9 (n : Nat) : Ab5 n <= 3 := by unfold Ab5; split <;> (try split) <;> (try split) <;> omega
def Be0 (l : List Int) : Prop := ∀ v ∈ l, 0 <= v /\ v < 128
theorem Cn0 {s : Sc} {a : Int} (ha : 0 <= a /\ a < 128) (hs : s.last <= 3) : joins s (cls a) (cnj a) = decide (s.last = 1 /\ a = 10) := by
 obtain ⟨h1, h2, _⟩ := An9 ha
 have h3 := Bh9 a.toNat
 rw [h1, h2]
 have h10 : Ab5 a.toNat = 2 ↔ a = 10 := by unfold Ab5; split <;> (try split) <;> (try split) <;> omega
 unfold joins
 by_cases hc : s.last = 1 /\ Ab5 a.toNat = 2
 ·rw [if_pos hc, decide_eq_true ⟨hc.1, h10.1 hc.2⟩]
 ·rw [if_neg hc, decide_eq_false (λ h => hc ⟨h.1, h10.2 h.2⟩)]
  split
  ·rfl
  ·rename_i hap
   simp only [not_or, apart, decide_eq_true_eq] at hap
   have e0 : s.last = 0 := by omega
   have e1 : Ab5 a.toNat = 0 := by omega
   rw [e0, e1]
   rfl
theorem Cj8 {A : List Int} (h : Be0 A) : ∀ k, (sc (A.take k)).last <= 3
 | 0 => by simp [sc, Sc.zero]
 | k + 1 => by
  by_cases hk : k < A.length
  ·rw [List.take_add_one, List.getElem?_eq_getElem hk]
   show (sc (A.take k ++ [A[k]])).last <= 3
   rw [Xr, As5, (An9 (h _ (List.getElem_mem hk))).1]
   exact Bh9 _
  ·have := Cj8 h k
   rwa [List.take_of_length_le (by omega)] at this ⊢
theorem bk7 {A : List Int} (h : Be0 A) {k : Nat} (hk : k <= A.length) : bk A k = !(decide (0 < k) && (A[k - 1]? == some 13) && (A[k]? == some 10)) := by
 cases k with
 | zero => rw [Zc]; rfl
 | succ k =>
  by_cases he : k + 1 = A.length
  ·rw [he, An6, List.getElem?_eq_none (Nat.le_refl A.length)]
   simp
  ·have ha : A[k + 1]? = some A[k + 1] := List.getElem?_eq_getElem (by omega)
   have hb : A[k]? = some A[k] := List.getElem?_eq_getElem (by omega)
   rw [Bi3 ha (by omega), Cn0 (h _ (List.getElem_mem _)) (Cj8 h _)]
   have hl : (sc (A.take (k + 1))).last = Ab5 (A[k]).toNat := by
    rw [List.take_add_one, hb]
    show (sc (A.take k ++ [A[k]])).last = _
    rw [Xr, As5, (An9 (h _ (List.getElem_mem _))).1]
   have h13 : Ab5 (A[k]).toNat = 1 ↔ A[k] = 13 := by
    have := h A[k] (List.getElem_mem _)
    unfold Ab5; split <;> (try split) <;> (try split) <;> omega
   rw [hl, ha, Nat.add_sub_cancel, hb]
   rw [Bool.eq_iff_iff]
   simp [h13]
def Cb7 (A : List Int) : Prop := ∀ k : Nat, A[k]? = some 13 -> A[k + 1]? ≠ some 10
theorem Ci3 {A : List Int} (h : Be0 A) (hn : Cb7 A) {k : Nat} (hk : k <= A.length) : bk A k = true := by
 rw [bk7 h hk]
 cases k with
 | zero => rfl
 | succ k =>
  rw [Nat.add_sub_cancel]
  cases h1 : (A[k]? == some 13) with
  | false => simp
  | true =>
   have := hn k (by simpa using h1)
   simp [this]
theorem By1 {A : List Int} (h : Be0 A) (hn : Cb7 A) : cuts A = List.range (A.length + 1) := by
 unfold cuts Jv
 rw [List.filter_eq_self]
 intro k hk
 exact Ci3 h hn (by have := List.mem_range.1 hk; omega)
theorem Cs1 {A : List Int} (h : Be0 A) (hn : Cb7 A) (off : Nat) {k : Nat} {a : Int} (ha : A[k]? = some a) : (Si A off)[k]? = some ⟨off + k, off + k + 1, Cc3 a.toNat, true, a⟩ := by
 have hk := (List.getElem?_eq_some_iff.1 ha).1
 have hlen : (Si A off).length = A.length := by rw [Qx, By1 h hn, List.length_range, Nat.add_sub_cancel]
 obtain ⟨c, hc⟩ : ∃ c, (Si A off)[k]? = some c := ⟨_, List.getElem?_eq_getElem (by omega)⟩
 obtain ⟨i, j, h1, h2, h3, h4, h5, h6, _, _, h7, h8, h9⟩ := (Ph hc).ex
 rw [By1 h hn] at h1 h2
 rw [List.getElem?_range (by omega)] at h1
 rw [List.getElem?_range (by omega)] at h2
 cases h1; cases h2
 rw [ha] at h7
 cases h7
 obtain ⟨_, _, hw⟩ := An9 (h _ (List.mem_of_getElem? ha))
 rw [hc]
 obtain ⟨cf, ct, ck, ca, cat⟩ := c
 dsimp only at *
 have : ca = true := h9.2 rfl
 subst h5 h6 this
 rw [h8, hw]
 rfl
theorem Bp2 {A : List Int} (h : Be0 A) (hn : Cb7 A) (off : Nat) : (Si A off).length = A.length := by rw [Qx, By1 h hn, List.length_range, Nat.add_sub_cancel]
end Obx
end Go.Proofs.YtolhlldgnfbemaaGreatDoor
namespace Go.Proofs.YtolhlldgnfbemaaGreatDoor
open Trx Gly Clu Lns Obx
namespace Obx
structure Good (A : List Int) (s : Int × Int × Int) : Prop where
 lo : 0 <= s.1
 le : s.1 <= s.2.1
 hi : s.2.1 <= A.length
 b1 : bk A s.1.toNat = true
 b2 : bk A s.2.1.toNat = true
structure LcOk (A : List Int) (l : Ln) (c : Cel) : Prop where
 lo : l.from_ <= c.from_
 lt : c.from_ < c.to_
 hi : c.to_ <= l.to_
 b1 : bk A c.from_ = true
 b2 : bk A c.to_ = true
end Obx
namespace Obx
def Uu (L : List Int) : Prop := ∀ v ∈ L, v ≠ 10 /\ v ≠ 13
theorem Uu.cl {L : List Int} (h : Uu L) : Cb7 L := λ k hk => absurd rfl (h 13 (List.mem_of_getElem? hk)).2
theorem Ax6 {A : List Int} {i : Nat} (h : isb A i = true) : sk A (nb A i + 1) = some (i + 1) /\ nb A (i + 1) = nb A i + 1 := by
 have hi := Cn1 h
 have hn : nb A (i + 1) = nb A i + 1 := by rw [Oy, h]; rfl
 have hle : nb A i + 1 <= brs A := by rw [← hn, Jk]; exact Js A _ _ (by omega)
 obtain ⟨m, hm⟩ := Ae7 hle
 obtain ⟨_, _, h3, h4⟩ := Nw hm
 rw [hm]
 have h1 : ¬ i + 1 < m := λ hc => by have := h4 _ hc; omega
 have h2 : ¬ m < i + 1 := λ hc => by have := Js A m i (by omega); omega
 exact ⟨by congr 1; omega, hn⟩
end Obx
namespace Obx
def file : List (List Int) -> List Int -> List Int
 | [], R => R
 | l :: Ls, R => l ++ 10 :: file Ls R
def Vu : List (List Int) -> Nat -> Nat
 | _, 0 => 0
 | [], _ + 1 => 0
 | l :: Ls, k + 1 => l.length + 1 + Vu Ls k
theorem Af6 (Ls : List (List Int)) : Vu Ls 0 = 0 := by cases Ls <;> rfl
theorem Au8 {X : List Int} : ∀ {l : List Int}, Uu l -> brs (l ++ 10 :: X) = 1 + brs X
 | [], _ => by rw [List.nil_append, brs]; rfl
 | a :: l, h => by
  have ha := h a List.mem_cons_self
  rw [List.cons_append, brs, Au8 (l := l) λ v hv => h v (List.mem_cons_of_mem _ hv)]
  have : isE a (l ++ 10 :: X) = false := by
   unfold isE
   simp [ha.1, ha.2]
  rw [this]; simp
theorem Za : ∀ {l : List Int}, Uu l -> brs l = 0
 | [], _ => rfl
 | a :: l, h => by
  have ha := h a List.mem_cons_self
  rw [brs, Za (l := l) λ v hv => h v (List.mem_cons_of_mem _ hv)]
  have : isE a l = false := by unfold isE; simp [ha.1, ha.2]
  rw [this]; simp
theorem Be8 {X : List Int} {k : Nat} : ∀ {l : List Int}, Uu l -> sk (l ++ 10 :: X) (k + 1) = (sk X k).map (· + (l.length + 1))
 | [], _ => by
  rw [List.nil_append, sk]
  have : isE 10 X = true := rfl
  rw [this]; rfl
 | a :: l, h => by
  have ha := h a List.mem_cons_self
  rw [List.cons_append, sk]
  have : isE a (l ++ 10 :: X) = false := by unfold isE; simp [ha.1, ha.2]
  rw [this]
  simp only [Bool.false_eq_true, if_false]
  rw [Be8 (l := l) λ v hv => h v (List.mem_cons_of_mem _ hv), Option.map_map]
  congr 1
def Lines (Ls : List (List Int)) : Prop := ∀ l ∈ Ls, Uu l
theorem P9 {R : List Int} (hR : Uu R) : ∀ {Ls : List (List Int)} (k : Nat), Lines Ls -> sk (file Ls R) k = if k <= Ls.length then some (Vu Ls k) else none
 | Ls, 0, _ => by rw [Aj7, Af6]; simp
 | [], k + 1, _ => by
  show sk R (k + 1) = _
  rw [Vb R _ (by rw [Za hR]; omega), if_neg (by simp)]
 | l :: Ls, k + 1, h => by
  rw [file, Be8 (h l List.mem_cons_self), P9 hR k λ x hx => h x (List.mem_cons_of_mem _ hx)]
  by_cases hk : k <= Ls.length
  ·rw [if_pos hk, if_pos (by simpa using hk), Option.map_some, Vu]
   congr 1; omega
  ·rw [if_neg hk, if_neg (by simpa using hk)]; rfl
theorem Au9 {R : List Int} (hR : Uu R) : ∀ {Ls : List (List Int)}, Lines Ls -> brs (file Ls R) = Ls.length
 | [], _ => Za hR
 | l :: Ls, h => by rw [file, Au8 (h l List.mem_cons_self), Au9 hR λ x hx => h x (List.mem_cons_of_mem _ hx), List.length_cons]; omega
theorem Aa6 (R : List Int) : ∀ Ls : List (List Int), (file Ls R).length = Vu Ls Ls.length + R.length
 | [] => by simp [file, Af6]
 | l :: Ls => by rw [file, List.length_append, List.length_cons, Aa6 R Ls, List.length_cons, Vu]; omega
variable {Ls : List (List Int)} {R : List Int}
theorem Ce9 (hL : Lines Ls) (hR : Uu R) : Kw (file Ls R) Ls.length = some ⟨Vu Ls Ls.length, Vu Ls Ls.length + R.length, Vu Ls Ls.length + R.length, 0⟩ := by
 unfold Kw
 rw [P9 hR _ hL, if_pos (Nat.le_refl _), P9 hR _ hL, if_neg (by omega)]
 simp only
 rw [Aa6]
theorem Bv6 (hL : Lines Ls) (hR : Uu R) : lnN (file Ls R) = Ls.length + (if Ls ≠ [] /\ R = [] then 0 else 1) := by
 unfold lnN ended
 rw [Au9 hR hL, P9 hR _ hL, if_pos (Nat.le_refl _), Aa6]
 congr 1
 by_cases hr : R = []
 ·subst hr
  cases Ls with
  | nil => simp [Vu]
  | cons l Ls =>
   have h1 : Vu (l :: Ls) (Ls.length + 1) ≠ 0 := by rw [Vu]; omega
   have h2 : 0 < Vu (l :: Ls) (Ls.length + 1) := by omega
   simp [h1, h2]
 ·have : 0 < R.length := List.length_pos_iff.2 hr
  have hb : (some (Vu Ls Ls.length) == some (Vu Ls Ls.length + R.length)) = false := by
   rw [beq_eq_false_iff_ne]
   intro h
   have := Option.some.inj h
   omega
  rw [hb, Bool.and_false, if_neg (by decide), if_neg (λ h => hr h.2)]
end Obx
namespace Mot
structure Tiny (A : List Int) : Prop where
 no : Uu A
 asc : Be0 A
 pos : 0 < A.length
variable {A : List Int}
theorem Tiny.row (h : Tiny A) : brs A = 0 /\ lnN A = 1 /\ Ba A 0 = ⟨0, A.length, A.length, 0⟩ := by
 have hL : Lines [] := λ l hl => by cases hl
 have h1 := Ce9 (Ls := []) (R := A) hL h.no
 have h2 := Bv6 (Ls := []) (R := A) hL h.no
 have e : file [] A = A := rfl
 have o : Vu [] ([] : List (List Int)).length = 0 := rfl
 rw [e, o, Nat.zero_add] at h1
 rw [e] at h2
 refine ⟨Za h.no, ?_, ?_⟩
 ·rw [h2]; simp
 ·unfold Ba
  have h1 : Kw A 0 = some ⟨0, A.length, A.length, 0⟩ := h1
  rw [h1]; rfl
theorem Tiny.Si (h : Tiny A) {k : Nat} {a : Int} (ha : A[k]? = some a) : (Ag A 0)[k]? = some ⟨k, k + 1, Cc3 a.toNat, true, a⟩ := by
 have e : Ag A 0 = Obx.Si A 0 := by
  unfold Ag Bg8
  rw [h.row.2.2]
  dsimp only
  rw [List.drop_zero, Nat.sub_zero, List.take_length]
 have := Cs1 h.asc h.no.cl 0 ha
 rw [e, this]
 simp
theorem Tiny.len (h : Tiny A) : (Ag A 0).length = A.length := by
 have e : Ag A 0 = Obx.Si A 0 := by
  unfold Ag Bg8
  rw [h.row.2.2]
  dsimp only
  rw [List.drop_zero, Nat.sub_zero, List.take_length]
 rw [e, Bp2 h.asc h.no.cl]
theorem Tiny.place (h : Tiny A) {k : Nat} (hk : k <= A.length) : Bf A 0 (k : Int) = k := by
 by_cases hlt : k < A.length
 ·obtain ⟨a, ha⟩ : ∃ a, A[k]? = some a := ⟨_, List.getElem?_eq_getElem hlt⟩
  rw [Fj (by rw [h.len]; exact hlt), Ir (h.Si ha)]
 ·rw [Gq (by rw [h.len]; omega), h.row.2.2]
  show A.length = k
  omega
theorem Tiny.plc (h : Tiny A) {k : Nat} (hk : k < A.length) : Plc A (0, k) := ⟨by have := h.row.2.1; dsimp only; omega, .inl (by rw [h.len]; exact hk)⟩
theorem Tiny.off (h : Tiny A) {k : Nat} (hk : k <= A.length) : Cb A (0, k) = k := h.place hk
theorem Tiny.Cu6 (h : Tiny A) : Ar A 0 false = (0, 0) := by
 have hp := h.plc h.pos
 have := Bt4 (past := false) hp.on (λ _ => hp)
 rw [h.off (Nat.zero_le _)] at this
 exact this
theorem Cb1 {A : List Int} (h : A.all (λ v => decide (32 <= v /\ v < 128)) = true) (h0 : 0 < A.length) : Tiny A := by
 rw [List.all_eq_true] at h
 refine ⟨λ v hv => ?_, λ v hv => ?_, h0⟩
 ·have := of_decide_eq_true (h v hv); omega
 ·have := of_decide_eq_true (h v hv); omega
theorem Ci8 : Df [97, 98, 99] 0 2 0 0 false = Dv [97, 98, 99] 1 0 := by
 have h : Tiny [97, 98, 99] := Cb1 (by decide) (by decide)
 rw [Ah7, h.Cu6]
 have hm : Iz [97, 98, 99] 0 false = 2 := by unfold Iz; rw [h.len]; rfl
 rw [hm, if_neg (by decide)]
 have e : (min ((0 : Nat) + kOf 0) 2) = 1 := by decide
 dsimp only
 rw [e, h.off (by decide)]
end Mot
end Go.Proofs.YtolhlldgnfbemaaGreatDoor
namespace Go.Proofs.YtolhlldgnfbemaaGreatDoor
open Go Go.Vx
def F6 (a0 : (Int × Sl × Sl × Sl × Unit)) (K : Bool -> Wp) : Wp := Af (.cells #[(vI a0.1), a0.2.1.v, a0.2.2.1.v, a0.2.2.2.1.v] 26) λ b1 => lds c26 (at0 b1) λ (x2 : (Int × Sl × Sl × Sl × Unit)) => cB 10 #[(vA c26 x2), (vI 6), (vI 6)] λ x3 => K x3
def h6 : Hint := (hS (hR 2) (hS (hR 3) hL))
theorem A6 {a0 : (Int × Sl × Sl × Sl × Unit)} {K : Bool -> Wp} {w : World} (h : F6 a0 K w) : Aa Tryz.prog 6 #[(vA c26 a0)] rB K w := tied Ai Tryz.func6 h6 _ h
def F10 (a0 : (Int × Sl × Sl × Sl × Unit)) (a1 : Int) (a2 : Int) (K : Bool -> Wp) : Wp := Af (.cells #[(vI a0.1), a0.2.1.v, a0.2.2.1.v, a0.2.2.2.1.v] 26) λ b1 => lds c26 (at0 b1) λ (x2 : (Int × Sl × Sl × Sl × Unit)) => Aa Tryz.prog 11 #[(vA c26 x2)] (.tup [(.one .ptr), (.one .ptr), (.one .bool)]) λ (x3 : (Option Addr × Option Addr × Bool × Unit)) => jB (λ J4 => sif (!x3.2.2.1) ( J4 (true, ())) ( J4 ((Option.isNone x3.1), ()))) λ s5 => sif s5.1 ( K x3.2.2.1) ( jU (λ J6 => sI (λ s8 again9 => ld (.sl) (ad b1 3) λ (x10 : Sl) => sif (decide (s8.1 < ((x10.len : Nat) : Int))) ( ld (.sl) (ad b1 3) λ (x11 : Sl) => ixs c50 x11 s8.1 7 λ (x13 : (Int × Int × Int × Int × Int × Int × Bool × Unit)) => Af (.cells #[(vI 0), (vI 0), (vI 0), (vI 0), (vI 0), (vI 0), (.bool false)] 50) λ b14 => Ad (at0 b14) (vA c50 x13) 7 <| jB (λ J15 => lI (at0 b14) λ x17 => sif (decide (x17 >= a1)) ( lI (at0 b14) λ x18 => sif (decide (x18 <= a2)) ( lds c50 (at0 b14) λ (x19 : (Int × Int × Int × Int × Int × Int × Bool × Unit)) => cB 18 #[(.pointer x3.1), (.pointer x3.2.1), (vA c50 x19)] λ x20 => J15 ((!x20), ())) ( J15 (false, ()))) ( J15 (false, ()))) λ s16 => sif s16.1 ( K false) ( again9 ((W64 (s8.1 + 1)), ()))) ( J6 ())) (0, ())) λ s7 => K true)
def h10 : Hint := (hS (hR 2) (hS (hR 9) (hS (hJ (0xfc0000, [(23, tB)]) (.region [] (.ops 3 (.split 20 (.skips 2 (hO 1)) (hO 3)))) (hC (hS (hR 2) hL) hL)) (hJ (0x3ffffffe000c40, []) (hS (hR 1) (.block (.loop 0x3ffffffe000c40 [(10, tI)] (hS (hS (hR 5) (hC hL hL)) (hS (.block (hS (hR 7) (hJ ((mR [(37, 54)]), [(53, tB)]) (.region [] (.ops 5 (.split 41 (.ops 6 (.split 47 (hO 6) (.skips 5 (hO 1)))) (.skips 4 (.ops 2 (.skips 5 (hO 1))))))) (hC (hS (hR 1) hL) hL)))) (hR 3)))))) (hS (hR 1) hL)))))
theorem A10 {a0 : (Int × Sl × Sl × Sl × Unit)} {a1 : Int} {a2 : Int} {K : Bool -> Wp} {w : World} (h : F10 a0 a1 a2 K w) : Aa Tryz.prog 10 #[(vA c26 a0), (vI a1), (vI a2)] rB K w := tied Ai Tryz.func10 h10 _ h
def F11 (a0 : (Int × Sl × Sl × Sl × Unit)) (K : (Option Addr × Option Addr × Bool × Unit) -> Wp) : Wp := Af (.cells #[(vI a0.1), a0.2.1.v, a0.2.2.1.v, a0.2.2.2.1.v] 26) λ b1 => cB 19 #[] λ x2 => sif (!x2) ( K (none, none, false, ())) ( lI (at0 b1) λ x3 => ld (.sl) (ad b1 1) λ (x4 : Sl) => Aa Tryz.prog 12 #[(vI x3), x4.v, (vI 65536)] (.tup [(.one .ptr), (.one cI)]) λ (x5 : (Option Addr × Int × Unit)) => sif (x5.2.1 != 0) ( K (none, none, true, ())) ( drew <| lI (at0 b1) λ x6 => ld (.sl) (ad b1 1) λ (x7 : Sl) => Dt Tryz.prog rS (Builtin.append_ #[22, 22] 22 #[(.slice none 0 0), x7.v]) λ (x8 : Sl) => keep (λ w => w.cell? (at0 b1) = some (Cell.val cI x6)) <| Aa Tryz.prog 20 #[(vI x6), x8.v, (vI 65536)] (.tup [(.one .ptr), (.one cI)]) λ (x9 : (Option Addr × Int × Unit)) => jB (λ J10 => sif (Option.isNone x9.1) ( J10 (true, ())) ( J10 ((x9.2.1 != 0), ()))) λ s11 => sif s11.1 ( K (none, none, false, ())) ( jU (λ J12 => sI (λ s14 again15 => ld (.sl) (ad b1 2) λ (x16 : Sl) => sif (decide (s14.1 < ((x16.len : Nat) : Int))) ( drew <| ld (.sl) (ad b1 2) λ (x17 : Sl) => ixl (.sl) x17 s14.1 1 λ (x19 : Sl) => ld (.sl) (ad b1 2) λ (x20 : Sl) => ix x20.a x20.len s14.1 λ p21 => ld (.sl) (p21.add (scaled (Int.toNat s14.1) 1)) λ (x22 : Sl) => cS 15 #[x19.v] λ x23 => keep (λ w => w.cell? (p21.add (scaled (Int.toNat s14.1) 1)) = some (Cell.val (.sl) x22)) <| keep (λ w => w.cell? (ad b1 2) = some (Cell.val (.sl) x20)) <| cN 14 #[(.pointer x9.1), x23.v] λ x24 => keep (λ w => w.cell? (p21.add (scaled (Int.toNat s14.1) 1)) = some (Cell.val (.sl) x22)) <| keep (λ w => w.cell? (ad b1 2) = some (Cell.val (.sl) x20)) <| cN 16 #[(.pointer x5.1), x22.v] λ x25 => sif (x24 != x25) ( K (none, none, false, ())) ( again15 ((W64 (s14.1 + 1)), ()))) ( J12 ())) (0, ())) λ s13 => nn x5.1 λ p26 => ld (.sl) (p26.add 2) λ (x27 : Sl) => Aa Tryz.prog 17 #[x27.v] rP λ (x28 : Option Addr) => K (x9.1, x28, true, ()))))
def h11 : Hint := (hS (hR 4) (hS (hS (hR 2) (hC (hS (hR 3) hL) hL)) (hS (hR 10) (hS (hS (hR 2) (hC (hS (hR 3) hL) hL)) (hS (.region (lR 11) (hO 11)) (hS (hJ (0x1f80000000, [(36, tB)]) (.region [] (.ops 3 (.split 33 (.skips 2 (hO 1)) (hO 3)))) (hC (hS (hR 3) hL) hL)) (hJ (0xfffffe00000021c, []) (hS (hR 1) (.block (.loop 0xfffffe00000021c [(9, tI)] (hS (hS (hR 5) (hC hL hL)) (hS (.block (hS (.region [0, 1, 2, 3, 4, 5, 8, 9, 10, 11, 12, 13, 6, 7, 14, 15] (hO 16)) (hC (hS (hR 3) hL) hL))) (hR 3)))))) (hS (hR 9) hL))))))))
theorem A11 {a0 : (Int × Sl × Sl × Sl × Unit)} {K : (Option Addr × Option Addr × Bool × Unit) -> Wp} {w : World} (h : F11 a0 K w) : Aa Tryz.prog 11 #[(vA c26 a0)] (.tup [(.one .ptr), (.one .ptr), (.one .bool)]) K w := tied Ai Tryz.func11 h11 _ h
def F15 (a0 : Sl) (K : Sl -> Wp) : Wp := jS (λ J1 => Iw (S := Sl × Int × Unit) (λ s3 again4 => sif (decide (s3.2.1 < ((a0.len : Nat) : Int))) ( drew <| ix a0.a a0.len s3.2.1 λ p5 => ld cI (p5.add (scaled (Int.toNat s3.2.1) 3)) λ (x6 : Int) => ix a0.a a0.len s3.2.1 λ p7 => ld cI ((p7.add (scaled (Int.toNat s3.2.1) 3)).add 1) λ (x8 : Int) => ixf (.sl) a0 s3.2.1 3 2 λ (x10 : Sl) => Dt Tryz.prog rS (Builtin.append_ #[43, 43] 43 #[(.slice none 0 0), x10.v]) λ (x11 : Sl) => keep (λ w => w.cell? ((p7.add (scaled (Int.toNat s3.2.1) 3)).add 1) = some (Cell.val cI x8)) <| keep (λ w => w.cell? (p5.add (scaled (Int.toNat s3.2.1) 3)) = some (Cell.val cI x6)) <| Af (.cells #[(vI x6), (vI x8), x11.v] 65) λ b12 => Dt Tryz.prog rS (Builtin.append_ #[39, 39] 39 #[s3.1.v, (.slice (some (at0 b12)) 1 1)]) λ (x13 : Sl) => again4 (x13, (W64 (s3.2.1 + 1)), ())) ( J1 (s3.1, ()))) (⟨none, 0, 0⟩, 0, ())) λ s2 => K s2.1
def h15 : Hint := (hS (hR 1) (hS (hR 1) (hJ (0x7ffffff8, [(3, tS)]) (hS (hR 1) (.block (.loop 0x7ffffff8 [(3, tS), (4, tI)] (hS (hS (hR 4) (hC hL hL)) (hS (.block (.region (lR 21) (hO 21))) (hR 3)))))) (hS (hR 2) hL))))
theorem A15 {a0 : Sl} {K : Sl -> Wp} {w : World} (h : F15 a0 K w) : Aa Tryz.prog 15 #[a0.v] rS K w := tied Ai Tryz.func15 h15 _ h
def F18 (a0 : Option Addr) (a1 : Option Addr) (a2 : (Int × Int × Int × Int × Int × Int × Bool × Unit)) (K : Bool -> Wp) : Wp := Af (.cells #[(vI a2.1), (vI a2.2.1), (vI a2.2.2.1), (vI a2.2.2.2.1), (vI a2.2.2.2.2.1), (vI a2.2.2.2.2.2.1), (.bool a2.2.2.2.2.2.2.1)] 50) λ b1 => lI (at0 b1) λ x2 => sif (x2 == 1) ( drew <| lI (ad b1 1) λ x3 => ld (.bool) (ad b1 6) λ (x4 : Bool) => lI (ad b1 1) λ x5 => ld (.bool) (ad b1 6) λ (x6 : Bool) => cN 34 #[(.pointer a0), (vI x3), (.bool x4)] λ x7 => keep (λ w => w.cell? (ad b1 6) = some (Cell.val (.bool) x6)) <| keep (λ w => w.cell? (ad b1 1) = some (Cell.val cI x5)) <| cN 35 #[(.pointer a1), (vI x5), (.bool x6)] λ x8 => K (x7 == x8)) ( sif (x2 == 2) ( drew <| lI (ad b1 1) λ x9 => lI (ad b1 2) λ x10 => ld (.bool) (ad b1 6) λ (x11 : Bool) => lI (ad b1 1) λ x12 => lI (ad b1 2) λ x13 => ld (.bool) (ad b1 6) λ (x14 : Bool) => cN 36 #[(.pointer a0), (vI x9), (vI x10), (.bool x11)] λ x15 => keep (λ w => w.cell? (ad b1 6) = some (Cell.val (.bool) x14)) <| keep (λ w => w.cell? (ad b1 2) = some (Cell.val cI x13)) <| keep (λ w => w.cell? (ad b1 1) = some (Cell.val cI x12)) <| cN 37 #[(.pointer a1), (vI x12), (vI x13), (.bool x14)] λ x16 => K (x15 == x16)) ( sif (x2 == 3) ( drew <| lI (ad b1 1) λ x17 => lI (ad b1 1) λ x18 => cN 38 #[(.pointer a0), (vI x17)] λ x19 => keep (λ w => w.cell? (ad b1 1) = some (Cell.val cI x18)) <| cN 39 #[(.pointer a1), (vI x18)] λ x20 => K (x19 == x20)) ( sif (x2 == 4) ( lI (ad b1 1) λ x21 => lds c48 (ad b1 3) λ (x22 : I3) => ld (.bool) (ad b1 6) λ (x23 : Bool) => Aa Tryz.prog 40 #[(.pointer a0), (vI x21), (vA c48 x22), (.bool x23)] (.tup [(.agg c83), (.one cI)]) λ (x24 : (I3 × Int × Unit)) => Af (.cells #[(vI 0), (vI 0), (vI 0)] 83) λ b25 => Ad (at0 b25) (vA c83 x24.1) 3 <| lI (ad b1 1) λ x26 => lds c48 (ad b1 3) λ (x27 : I3) => ld (.bool) (ad b1 6) λ (x28 : Bool) => Aa Tryz.prog 41 #[(.pointer a1), (vI x26), (vA c48 x27), (.bool x28)] (.tup [(.agg c83), (.one cI)]) λ (x29 : (I3 × Int × Unit)) => Af (.cells #[(vI 0), (vI 0), (vI 0)] 83) λ b30 => Ad (at0 b30) (vA c83 x29.1) 3 <| lds c83 (at0 b25) λ (x31 : I3) => lds c83 (at0 b30) λ (x32 : I3) => cB 42 #[(vA c83 x31), (vI x24.2.1), (vA c83 x32), (vI x29.2.1)] λ x33 => K x33) ( sif (x2 == 5) ( lI (ad b1 1) λ x34 => lI (ad b1 2) λ x35 => lds c48 (ad b1 3) λ (x36 : I3) => Aa Tryz.prog 43 #[(.pointer a0), (vI x34), (vI x35), (vA c48 x36)] (.tup [(.agg c83), (.one cI)]) λ (x37 : (I3 × Int × Unit)) => Af (.cells #[(vI 0), (vI 0), (vI 0)] 83) λ b38 => Ad (at0 b38) (vA c83 x37.1) 3 <| lI (ad b1 1) λ x39 => lI (ad b1 2) λ x40 => lds c48 (ad b1 3) λ (x41 : I3) => Aa Tryz.prog 44 #[(.pointer a1), (vI x39), (vI x40), (vA c48 x41)] (.tup [(.agg c83), (.one cI)]) λ (x42 : (I3 × Int × Unit)) => Af (.cells #[(vI 0), (vI 0), (vI 0)] 83) λ b43 => Ad (at0 b43) (vA c83 x42.1) 3 <| lds c83 (at0 b38) λ (x44 : I3) => lds c83 (at0 b43) λ (x45 : I3) => cB 42 #[(vA c83 x44), (vI x37.2.1), (vA c83 x45), (vI x42.2.1)] λ x46 => K x46) ( sif (x2 == 6) ( lI (ad b1 1) λ x47 => lds c48 (ad b1 3) λ (x48 : I3) => ld (.bool) (ad b1 6) λ (x49 : Bool) => Aa Tryz.prog 45 #[(.pointer a0), (vI x47), (vA c48 x48), (.bool x49)] (.tup [(.agg c83), (.one cI)]) λ (x50 : (I3 × Int × Unit)) => Af (.cells #[(vI 0), (vI 0), (vI 0)] 83) λ b51 => Ad (at0 b51) (vA c83 x50.1) 3 <| lI (ad b1 1) λ x52 => lds c48 (ad b1 3) λ (x53 : I3) => ld (.bool) (ad b1 6) λ (x54 : Bool) => Aa Tryz.prog 46 #[(.pointer a1), (vI x52), (vA c48 x53), (.bool x54)] (.tup [(.agg c83), (.one cI)]) λ (x55 : (I3 × Int × Unit)) => Af (.cells #[(vI 0), (vI 0), (vI 0)] 83) λ b56 => Ad (at0 b56) (vA c83 x55.1) 3 <| lds c83 (at0 b51) λ (x57 : I3) => lds c83 (at0 b56) λ (x58 : I3) => cB 42 #[(vA c83 x57), (vI x50.2.1), (vA c83 x58), (vI x55.2.1)] λ x59 => K x59) ( sif (x2 == 7) ( lI (ad b1 1) λ x60 => lds c48 (ad b1 3) λ (x61 : I3) => Aa Tryz.prog 47 #[(.pointer a0), (vI x60), (vA c48 x61)] (.tup [(.agg c83), (.one cI)]) λ (x62 : (I3 × Int × Unit)) => Af (.cells #[(vI 0), (vI 0), (vI 0)] 83) λ b63 => Ad (at0 b63) (vA c83 x62.1) 3 <| lI (ad b1 1) λ x64 => lds c48 (ad b1 3) λ (x65 : I3) => Aa Tryz.prog 48 #[(.pointer a1), (vI x64), (vA c48 x65)] (.tup [(.agg c83), (.one cI)]) λ (x66 : (I3 × Int × Unit)) => Af (.cells #[(vI 0), (vI 0), (vI 0)] 83) λ b67 => Ad (at0 b67) (vA c83 x66.1) 3 <| lds c83 (at0 b63) λ (x68 : I3) => lds c83 (at0 b67) λ (x69 : I3) => cB 42 #[(vA c83 x68), (vI x62.2.1), (vA c83 x69), (vI x66.2.1)] λ x70 => K x70) ( sif (x2 == 8) ( lI (ad b1 1) λ x71 => lds c48 (ad b1 3) λ (x72 : I3) => Aa Tryz.prog 49 #[(.pointer a0), (vI x71), (vA c48 x72)] (.tup [(.agg c94), (.one cI)]) λ (x73 : (I3 × Int × Unit)) => Af (.cells #[(vI 0), (vI 0), (vI 0)] 94) λ b74 => Ad (at0 b74) (vA c94 x73.1) 3 <| lI (ad b1 1) λ x75 => lds c48 (ad b1 3) λ (x76 : I3) => Aa Tryz.prog 50 #[(.pointer a1), (vI x75), (vA c48 x76)] (.tup [(.agg c94), (.one cI)]) λ (x77 : (I3 × Int × Unit)) => Af (.cells #[(vI 0), (vI 0), (vI 0)] 94) λ b78 => Ad (at0 b78) (vA c94 x77.1) 3 <| lds c94 (at0 b74) λ (x79 : I3) => lds c94 (at0 b78) λ (x80 : I3) => cB 51 #[(vA c94 x79), (vI x73.2.1), (vA c94 x80), (vI x77.2.1)] λ x81 => K x81) ( sif (x2 == 9) ( lI (ad b1 1) λ x82 => lI (ad b1 2) λ x83 => lI (ad b1 3) λ x84 => Aa Tryz.prog 52 #[(.pointer a0), (vI x82), (vI x83), (vI x84)] (.tup [(.agg c94), (.one cI)]) λ (x85 : (I3 × Int × Unit)) => Af (.cells #[(vI 0), (vI 0), (vI 0)] 94) λ b86 => Ad (at0 b86) (vA c94 x85.1) 3 <| lI (ad b1 1) λ x87 => lI (ad b1 2) λ x88 => lI (ad b1 3) λ x89 => Aa Tryz.prog 53 #[(.pointer a1), (vI x87), (vI x88), (vI x89)] (.tup [(.agg c94), (.one cI)]) λ (x90 : (I3 × Int × Unit)) => Af (.cells #[(vI 0), (vI 0), (vI 0)] 94) λ b91 => Ad (at0 b91) (vA c94 x90.1) 3 <| lds c94 (at0 b86) λ (x92 : I3) => lds c94 (at0 b91) λ (x93 : I3) => cB 51 #[(vA c94 x92), (vI x85.2.1), (vA c94 x93), (vI x90.2.1)] λ x94 => K x94) ( K true)))))))))
def h18 : Hint := (hS (hR 2) (hS (hS (hR 2) (.block (hS (hR 2) (hC (hS (.region [0, 1, 2, 3, 4, 6, 7, 8, 9, 10, 5, 11, 12, 13] (hO 14)) hL) (hS (hR 2) (hC (hS (.region [0, 1, 2, 3, 4, 5, 6, 8, 9, 10, 11, 12, 13, 14, 7, 15, 16, 17] (hO 18)) hL) (hS (hR 2) (hC (hS (.region [0, 1, 2, 4, 5, 6, 3, 7, 8, 9] (hO 10)) hL) (hS (hR 2) (hC (hS (hR 14) (hS (hR 14) (hS (hR 6) hL))) (hS (hR 2) (hC (hS (hR 14) (hS (hR 14) (hS (hR 6) hL))) (hS (hR 2) (hC (hS (hR 14) (hS (hR 14) (hS (hR 6) hL))) (hS (hR 2) (hC (hS (hR 12) (hS (hR 12) (hS (hR 6) hL))) (hS (hR 2) (hC (hS (hR 12) (hS (hR 12) (hS (hR 6) hL))) (hS (hR 2) (hC (hS (hR 15) (hS (hR 15) (hS (hR 6) hL))) hL)))))))))))))))))))) (hS (hR 1) hL)))
theorem A18 {a0 : Option Addr} {a1 : Option Addr} {a2 : (Int × Int × Int × Int × Int × Int × Bool × Unit)} {K : Bool -> Wp} {w : World} (h : F18 a0 a1 a2 K w) : Aa Tryz.prog 18 #[(.pointer a0), (.pointer a1), (vA c50 a2)] rB K w := tied Ai Tryz.func18 h18 _ h
def F19  (K : Bool -> Wp) : Wp := Af (.cells #[(.int .u8 97), (.int .u8 98), (.int .u8 99)] 5) λ b1 => Aa Tryz.prog 20 #[(vI 1), (.slice (some (at0 b1)) 3 3), (vI 9)] (.tup [(.one .ptr), (.one cI)]) λ (x2 : (Option Addr × Int × Unit)) => jB (λ J3 => sif (Option.isNone x2.1) ( J3 (true, ())) ( J3 ((x2.2.1 != 0), ()))) λ s4 => sif s4.1 ( K false) ( Aa Tryz.prog 40 #[(.pointer x2.1), (vI 0), (.agg #[(vI 2), (vI 0), (vI 0)]), (.bool false)] (.tup [(.agg c83), (.one cI)]) λ (x5 : (I3 × Int × Unit)) => Af (.cells #[(vI 0), (vI 0), (vI 0)] 83) λ b6 => Ad (at0 b6) (vA c83 x5.1) 3 <| sif (x5.2.1 == 0) ( lI (at0 b6) λ x7 => K (x7 == 1)) ( K false))
def h19 : Hint := (hS (hR 1) (hS (hR 7) (hS (hJ (64512, [(15, tB)]) (.region [] (.ops 3 (.split 12 (.skips 2 (hO 1)) (hO 3)))) (hC (hS (hR 1) hL) hL)) (hS (hR 9) (hS (.region [] (.ops 3 (.split 24 (hO 5) (.skips 3 (hO 2))))) hL)))))
theorem A19 {K : Bool -> Wp} {w : World} (h : F19  K w) : Aa Tryz.prog 19 #[] rB K w := tied Ai Tryz.func19 h19 _ h
def F42 (a0 : I3) (a1 : Int) (a2 : I3) (a3 : Int) (K : Bool -> Wp) : Wp := Af (.cells #[(vI a0.1), (vI a0.2.1), (vI a0.2.2.1)] 83) λ b1 => Af (.cells #[(vI a2.1), (vI a2.2.1), (vI a2.2.2.1)] 83) λ b2 => lI (at0 b1) λ x3 => lI (at0 b2) λ x4 => sif (x3 == x4) ( lI (ad b1 1) λ x5 => lI (ad b2 1) λ x6 => sif (x5 == x6) ( lI (ad b1 2) λ x7 => lI (ad b2 2) λ x8 => sif (x7 == x8) ( K (a1 == a3)) ( K false)) ( K false)) ( K false)
def h42 : Hint := (hS (hR 3) (hS (.region [] (.ops 6 (.split 14 (.ops 7 (.split 21 (.ops 7 (.split 28 (hO 5) (.skips 3 (hO 2)))) (.skips 5 (.ops 2 (.skips 3 (hO 2)))))) (.skips 5 (.ops 2 (.skips 5 (.ops 2 (.skips 3 (hO 2))))))))) hL))
theorem A42 {a0 : I3} {a1 : Int} {a2 : I3} {a3 : Int} {K : Bool -> Wp} {w : World} (h : F42 a0 a1 a2 a3 K w) : Aa Tryz.prog 42 #[(vA c83 a0), (vI a1), (vA c83 a2), (vI a3)] rB K w := tied Ai Tryz.func42 h42 _ h
end Go.Proofs.YtolhlldgnfbemaaGreatDoor
namespace Go.Proofs.YtolhlldgnfbemaaGreatDoor
open Go Go.Vx Cdc Trx Gly Clu Lns Obx Mot
theorem Bx9 : Hr Tryz.prog 39 65 3 40 := Hr.of (z := .agg #[.int .i64 0, .int .i64 0, .slice none 0 0]) C39 C65 rfl rfl rfl (by decide)
section
variable {w w' : World}
theorem Bp9 {K : Bool -> Wp} (hK : ∀ w', Ext w w' -> K true w') : Aa Tryz.prog 19 #[] rB K w := by
 refine A19 ?_
 unfold F19
 refine (St.start w).Af λ b1 w1 S1 e1 => ?_
 have hB : By w1 ⟨some (at0 b1), 3, 3⟩ [97, 98, 99] := Bh.Iq (S1.at_ 0 rfl) (n := 3) (sz := 1) rfl
 refine Af5 (e := .u8) (lim := 9) hB (by decide) (by decide) λ p O M w2 tx hA _ e2 _ => ?_
 have hA : atoms (aOf .u8 M) = [97, 98, 99] := by rw [hA]; kernel_rfl
 have ta : TxA w2 p [97, 98, 99] := ⟨_, _, _, _, _, tx, hA⟩
 refine Ae (λ x W => x = (false, ()) /\ w2 = W) (Am ⟨rfl, rfl⟩) ?_
 rintro _ _ ⟨rfl, rfl⟩
 refine Am (Ar8 (kind := 2) (count := 0) (arg := 0) (x := 0) ta λ w3 e3 => ?_)
 rw [Ci8]
 refine ((S1.ext e2).ext e3).Af λ b6 w4 S4 e4 => S4.Ad 0 rfl rfl rfl rfl λ w5 S5 _ => ?_
 exact Bj (S5.ld (off := 0) 0 rfl (x := 1) rfl (hK w5 S5.upd))
theorem Yn {c : Cell} {cs : List Cell} {s : Sl} {xs : List (Cells.T cs)} {n : Int} {j : Nat} {K : Addr -> c.T -> Wp} (h : SlX w s cs.length (flat cs xs)) (h0 : 0 <= n) {x : Cells.T cs} {y : c.T} (hx : xs[n.toNat]? = some x) (hy : (Cells.vals cs x)[j]? = some (c.val y))
  (hK : ∀ p, (∀ w', Ext w w' -> w'.cell? ((p.add (scaled (Int.toNat n) cs.length)).add j) = some (c.val y)) -> K p y w) :
  ix s.a s.len n (λ p => ld c ((p.add (scaled (Int.toNat n) cs.length)).add j) (K p)) w := by
 have hlt := (List.getElem?_eq_some_iff.1 hx).1
 have hjl : j < cs.length := by
  have := (List.getElem?_eq_some_iff.1 hy).1
  rwa [Eu] at this
 have hl := h.Jt (by omega)
 obtain ⟨t, h⟩ := h.Ag8 (by omega)
 refine h.ix h0 (by omega) (by omega) λ b off ha hv => ?_
 have hc : w.cell? (((⟨b, off, none⟩ : Addr).add (scaled (Int.toNat n) cs.length)).add j) = some (c.val y) := by
  rw [addr_add, addr_add]
  have := hv j (c.val y) (by rw [flat_get cs xs _ j x hx hjl]; exact hy)
  simpa [Eb] using this
 exact Ym (x := y) hc (hK _ λ w' x' => Us hc x')
theorem Bw2 {c : Cell} {cs : List Cell} {s : Sl} {xs : List (Cells.T cs)} {n : Int} {K : Addr -> c.T -> Wp} (h : SlX w s cs.length (flat cs xs)) (h0 : 0 <= n) {x : Cells.T cs} {y : c.T} (hx : xs[n.toNat]? = some x) (hy : (Cells.vals cs x)[0]? = some (c.val y))
  (hK : ∀ p, (∀ w', Ext w w' -> w'.cell? (p.add (scaled (Int.toNat n) cs.length)) = some (c.val y)) -> K p y w) :
  ix s.a s.len n (λ p => ld c (p.add (scaled (Int.toNat n) cs.length)) (K p)) w := by
 have hlt := (List.getElem?_eq_some_iff.1 hx).1
 have hjl : 0 < cs.length := by
  have := (List.getElem?_eq_some_iff.1 hy).1
  rwa [Eu] at this
 have hl := h.Jt (by omega)
 obtain ⟨t, h⟩ := h.Ag8 (by omega)
 refine h.ix h0 (by omega) (by omega) λ b off ha hv => ?_
 have hc : w.cell? ((⟨b, off, none⟩ : Addr).add (scaled (Int.toNat n) cs.length)) = some (c.val y) := by
  rw [addr_add]
  have := hv 0 (c.val y) (by rw [flat_get cs xs _ 0 x hx hjl]; exact hy)
  simpa [Eb] using this
 exact Ym (x := y) hc (hK _ λ w' x' => Us hc x')
set_option maxHeartbeats 400000 in
theorem Bu1 {s : Sl} {es : List LEd} (h : EdX w s es) {K : Sl -> Wp} (hK : ∀ r ys w', Co4 w' r 65 ys es -> (∀ k, r.blk k -> w.heap.size <= k) -> (∀ (i : Nat) y, ys[i]? = some y -> ∀ k, y.2.2.1.blk k -> w.heap.size <= k) -> Ext w w' -> K r w') :
  Aa Tryz.prog 15 #[s.v] rS K w := by
 refine A15 ?_
 unfold F15
 obtain ⟨ys0, hs, hyl, hy0⟩ := h.ex
 have few := h.few
 have hsl : ys0.length = s.len := SlX.Jt (cs := c65) hs (by decide)
 refine Ae (λ x W => ∃ ys, Ap W w.heap.size x.1 65 3 (flat c65 ys) /\ ys.length = es.length /\ (∀ (i : Nat) y z, ys[i]? = some y -> es[i]? = some z -> y.1 = z.f /\ y.2.1 = z.t /\ Ap W w.heap.size y.2.2.1 3 1 (iv z.put) /\ z.put.length <= 1048576) /\ Ext w W) ?_ ?_
 ·refine Aw (λ x W => ∃ (i : Nat) (ys : List (Cells.T c65)), i <= es.length /\ x.2 = ((i : Int), ()) /\ Ap W w.heap.size x.1 65 3 (flat c65 ys) /\ ys.length = i /\ (∀ (j : Nat) y z, ys[j]? = some y -> es[j]? = some z -> y.1 = z.f /\ y.2.1 = z.t /\ Ap W w.heap.size y.2.2.1 3 1 (iv z.put) /\ z.put.length <= 1048576) /\ Ext w W) (λ x _ => ((es.length : Int) - x.2.1).toNat) ⟨0, [], Nat.zero_le _, rfl, Ap.nil _ _ _ _, rfl, λ j y z hy => by simp at hy, Ext.refl w⟩ ?_
  rintro ⟨r, _⟩ W ⟨i, ys, hi, rfl, hr, hl, hys, eW⟩
  dsimp only at hr ⊢
  have hrl : ys.length = r.len := Ap.Jt (cs := c65) hr (by decide)
  refine Ac (λ hc => ?_) (λ hc => ?_)
  ·simp only [decide_eq_true_eq] at hc
   obtain ⟨y, hy⟩ : ∃ y, ys0[i]? = some y := ⟨_, List.getElem?_eq_getElem (by omega)⟩
   obtain ⟨z, hz⟩ : ∃ z, es[i]? = some z := ⟨_, List.getElem?_eq_getElem (by omega)⟩
   obtain ⟨y1, y2, y3, y4⟩ := hy0 i y z hy hz
   have ew : W64 ((i : Int) + 1) = ((i + 1 : Nat) : Int) := by rw [wrap64 (by omega) (by omega)]; omega
   rw [ew]
   refine Ce λ w2 e2 _ => ?_
   have x2 := eW.trans e2
   have hyn : ys0[((i : Int)).toNat]? = some y := by rw [Int.toNat_natCast]; exact hy
   have hs2 := hs.ext x2
   refine Bw2 (c := .int .i64) (cs := c65) (xs := ys0) (y := y.1) hs2 (Int.natCast_nonneg i) hyn rfl λ q1 k1 => ?_
   refine Yn (c := .int .i64) (cs := c65) (xs := ys0) (j := 1) (y := y.2.1) hs2 (Int.natCast_nonneg i) hyn rfl λ q2 k2 => ?_
   refine Yn (c := .sl) (cs := c65) (xs := ys0) (j := 2) (y := y.2.2.1) hs2 (Int.natCast_nonneg i) hyn rfl λ q3 k3 => ?_
   have hpl : z.put.length = y.2.2.1.len := by have := y3.len1; rwa [List.length_map] at this
   refine Ec Tc Tc.ts_ (B := w.heap.size) (s := ⟨none, 0, 0⟩) (x := y.2.2.1) (vs := []) (us := iv z.put) (Ap.nil w2 w.heap.size 3 1) (y3.ext x2) (λ v hv => by obtain ⟨n, _, rfl⟩ := List.mem_map.1 hv; rfl) (by
    show (0 + y.2.2.1.len + (0 + y.2.2.1.len) / 4 + 512) * 8 <= 2 ^ 48
    omega) (by have := x2.size; omega) λ s3 w3 o3 l3 u3 b3 => ?_
   have e3 : Ext w2 w3 := (Ext.refl w2).step u3 λ k hk => by obtain ⟨_, hp, _⟩ := hk; cases hp
   have x3 := x2.trans e3
   rw [List.nil_append] at o3
   refine Aq (k2 w3 e3) (Aq (k1 w3 e3) (Cc λ b12 w4 e4 n4 hb4 _ => ?_))
   have x4 := x3.trans e4
   have hbox : SlX w4 ⟨some (at0 b12), 1, 1⟩ 3 (flat c65 [(y.1, y.2.1, s3, ())]) := (Bh.Iq n4 (n := 1) (sz := 3) rfl).x
   refine Ec Bx9 Bx9.ts_ (x := ⟨some (at0 b12), 1, 1⟩) (hr.ext ((e2.trans e3).trans e4)) hbox (λ v hv => by
    have hv : v ∈ [Value.int .i64 y.1, .int .i64 y.2.1, .slice s3.a s3.len s3.cap] := hv
    simp only [List.mem_cons, List.not_mem_nil, or_false] at hv
    rcases hv with rfl | rfl | rfl <;> rfl) (by
    show (r.len + 1 + (r.len + 1) / 4 + 512) * 40 <= 2 ^ 48
    omega) (by have := x4.size; omega) λ r' w5 o5 l5 u5 b5 => ?_
   have x5 : Ext w w5 := x4.step u5 λ k hk => hr.Et hk
   have ef : flat c65 ys ++ flat c65 [(y.1, y.2.1, s3, ())] = flat c65 (ys ++ [(y.1, y.2.1, s3, ())]) := by simp [flat]
   rw [ef] at o5
   have ne : ∀ {sl : Sl} {v : List Int} {V : World}, Ap V w.heap.size sl 3 1 (iv v) -> Ext V w4 -> Ap w5 w.heap.size sl 3 1 (iv v) := λ ho e => (ho.ext e).ty (t := 3) u5 (λ k hk c fr hn => by
    obtain ⟨c', fr', hc'⟩ := (hr.ext ((e2.trans e3).trans e4)).in.Eo hk
    rw [hn] at hc'
    cases hc')
   refine ⟨⟨i + 1, ys ++ [(y.1, y.2.1, s3, ())], by omega, rfl, o5, by simp [hl], λ j y' z' hy' hz' => ?_, x5⟩, by (try dsimp only); omega⟩
   by_cases hj : j < ys.length
   ·rw [List.getElem?_append_left hj] at hy'
    obtain ⟨g1, g2, g3, g4⟩ := hys j y' z' hy' hz'
    exact ⟨g1, g2, ne g3 ((e2.trans e3).trans e4), g4⟩
   ·have hje : j = i := by
     have := (List.getElem?_eq_some_iff.1 hy').1
     simp at this; omega
    subst hje
    rw [← hl, List.getElem?_concat_length] at hy'
    cases hy'
    rw [hz] at hz'; cases hz'
    exact ⟨y1, y2, ne o3 e4, y4⟩
  ·simp only [decide_eq_false_iff_not] at hc
   obtain rfl : i = es.length := by omega
   exact ⟨ys, hr, hl, hys, eW⟩
 rintro ⟨r, _⟩ W ⟨ys, hr, hl, hys, eW⟩
 refine hK r ys W ⟨hr.in, hl, λ i y z hy hz => ?_⟩ (λ k hk => hr.Et hk) (λ i y hy k hk => ?_) eW
 ·obtain ⟨g1, g2, g3, g4⟩ := hys i y z hy hz
  exact ⟨g1, g2, ⟨_, g3.in⟩, by omega⟩
 ·obtain ⟨z, hz⟩ : ∃ z, es[i]? = some z := ⟨_, List.getElem?_eq_getElem (by have := (List.getElem?_eq_some_iff.1 hy).1; omega)⟩
  exact (hys i y z hy hz).2.2.1.Et hk
abbrev lkO (y : Cells.T c26) : Obj := .cells #[.int .i64 y.1, .slice y.2.1.a y.2.1.len y.2.1.cap, .slice y.2.2.1.a y.2.2.1.len y.2.2.1.cap, .slice y.2.2.2.1.a y.2.2.2.1.len y.2.2.2.1.cap] 26 (0, 0)
theorem EdX.ext {s : Sl} {es : List LEd} (h : EdX w s es) (e : Ext w w') : EdX w' s es := by
 obtain ⟨ys, h1, h2, h3⟩ := h.ex
 exact ⟨⟨ys, h1.ext e, h2, λ i y x hy hx => by obtain ⟨a, b, c, d⟩ := h3 i y x hy hx; exact ⟨a, b, c.ext e, d⟩⟩, h.few⟩
theorem Ay9 {e : Enc} {lim : Nat} {A : As} {es : List LEd} (h : Ig e lim A es = 0) : Cj e es <= lim := by
 unfold Ig at h
 split at h
 ·cases h
 split at h
 ·cases h
 rename_i hr
 split at h
 ·cases h
 split at h
 ·cases h
 have gl := Yp (A := A) (es := es) (a := 0) (Int.le_refl _) (by simpa using hr)
 omega
theorem Cg8 {c : Int} (h : 1 <= c /\ c <= 4) : ∃ e : Enc, e.num = c := by
 rcases (by omega : c = 1 \/ c = 2 \/ c = 3 \/ c = 4) with rfl | rfl | rfl | rfl
 ·exact ⟨.u8, rfl⟩
 ·exact ⟨.le, rfl⟩
 ·exact ⟨.be, rfl⟩
 ·exact ⟨.l1, rfl⟩
end
end Go.Proofs.YtolhlldgnfbemaaGreatDoor
namespace Go.Proofs.YtolhlldgnfbemaaGreatDoor
open Go Go.Vx Cdc Trx
namespace Cdc
def Tv (B : List Int) : Nat -> List LEd -> List Int
 | a, [] => B.drop a
 | a, x :: r => (B.drop a).take (x.f.toNat - a) ++ x.put ++ Tv B x.t.toNat r
theorem apply_seq {e : Enc} {A : As} : ∀ {es : List LEd} {a : Int}, 0 <= a -> a <= A.length -> Hl A.length a es = true -> atoms (Dh e A es) = (atoms A).take a.toNat ++ Tv (atoms A) a.toNat es
 | [], a, _, _, _ => by
  show atoms A = _
  rw [Tv, List.take_append_drop]
 | x :: r, a, h0, ha, hr => by
  rw [Hl, Bool.and_eq_true, decide_eq_true_eq] at hr
  obtain ⟨⟨h1, h2, h3⟩, h4⟩ := hr
  have ih := apply_seq (e := e) (es := r) (a := x.t) (by omega) h3 h4
  have hl : (atoms A).length = A.length := List.length_map ..
  have hp : atoms (prs e x.put) = x.put := by unfold prs atoms; rw [List.map_map]; exact List.map_id x.put
  rw [Dh]
  show List.map _ _ = _
  rw [List.map_append, List.map_append, List.map_take, List.map_drop]
  show (atoms (Dh e A r)).take _ ++ atoms (prs e x.put) ++ (atoms (Dh e A r)).drop _ = _
  rw [ih, hp, Tv, List.take_append_of_le_length (by rw [List.length_take]; omega), List.drop_append_of_le_length (by rw [List.length_take]; omega), List.take_take, Nat.min_eq_left (by omega), List.drop_eq_nil_of_le (by rw [List.length_take]; omega), List.nil_append]
  have e1 : (atoms A).take x.f.toNat = (atoms A).take a.toNat ++ ((atoms A).drop a.toNat).take (x.f.toNat - a.toNat) := by
   conv => lhs; rw [show x.f.toNat = a.toNat + (x.f.toNat - a.toNat) by omega]
   rw [List.take_add]
  rw [e1]; simp [List.append_assoc]
theorem Cl5 {B : List Int} {i : Nat} {es : List LEd} {v : Int} (hv : B[i]? = some v) (hf : ∀ x, es.head? = some x -> (i : Int) < x.f) : Tv B i es = v :: Tv B (i + 1) es := by
 have hlt := (List.getElem?_eq_some_iff.1 hv).1
 have hd : B.drop i = v :: B.drop (i + 1) := by rw [List.drop_eq_getElem_cons hlt, (List.getElem?_eq_some_iff.1 hv).2]
 cases es with
 | nil => exact hd
 | cons x r =>
  have := hf x rfl
  obtain ⟨m, hm⟩ : ∃ m, x.f.toNat - i = m + 1 := ⟨x.f.toNat - i - 1, by omega⟩
  rw [Tv, Tv, hd, hm, List.take_succ_cons, show x.f.toNat - (i + 1) = m by omega]; rfl
theorem Ai3 {e : Enc} {A : As} (h : ∀ a ∈ atoms A, sz e a ≠ 0) : ∀ {es : List LEd}, Ht e es = true -> ∀ a ∈ atoms (Dh e A es), sz e a ≠ 0
 | [], _ => h
 | x :: r, hf => by
  unfold Ht at hf
  rw [List.all_cons, Bool.and_eq_true] at hf
  have ih := Ai3 h (es := r) hf.2
  intro a ha
  rw [Dh] at ha
  obtain ⟨y, hy, rfl⟩ := List.mem_map.1 ha
  rw [List.mem_append, List.mem_append] at hy
  rcases hy with (hy | hy) | hy
  ·exact ih _ (List.mem_map.2 ⟨y, List.mem_of_mem_take hy, rfl⟩)
  ·obtain ⟨b, hb, rfl⟩ := List.mem_map.1 hy
   have := List.all_eq_true.1 hf.1 b hb
   rw [bne_iff_ne] at this
   exact this
  ·exact ih _ (List.mem_map.2 ⟨y, List.mem_of_mem_drop hy, rfl⟩)
theorem Cg3 {e : Enc} {B : List Int} (h : ∀ a ∈ B, sz e a ≠ 0) : B.length <= szs (prs e B) := by
 have := Rk (l := prs e B) λ y hy => by
  obtain ⟨a, ha, rfl⟩ := List.mem_map.1 hy
  have := h a ha
  show 1 <= sz e a
  omega
 unfold prs at this
 rwa [List.length_map] at this
def Nj (e : Enc) (n : Nat) (es : List LEd) : Int := if 70000 < es.length then 3 else if Hl n 0 es = false then 2 else if Ht e es = false then 11 else 0
theorem Ak4 {e : Enc} {lim : Nat} {A : As} {es : List LEd} : Ig e lim A es = if Nj e A.length es ≠ 0 then Nj e A.length es else if lim + Ib A es < szs A + Cj e es then 50 else 0 := by
 unfold Ig Nj
 by_cases h1 : 70000 < es.length
 ·rw [if_pos h1, if_pos h1, if_pos (by decide)]
 ·rw [if_neg h1, if_neg h1]
  by_cases h2 : Hl A.length 0 es = false
  ·rw [if_pos h2, if_pos h2, if_pos (by decide)]
  ·rw [if_neg h2, if_neg h2]
   by_cases h3 : Ht e es = false
   ·rw [if_pos h3, if_pos h3, if_pos (by decide)]
   ·rw [if_neg h3, if_neg h3, if_neg (show ¬ (0 : Int) ≠ 0 from λ hh => hh rfl)]
end Cdc
section
variable {w w' : World} {r : Nat} {e : Enc} {B : List Int} {F : Nat -> Prop} {s : Sl} {es : List LEd}
structure EdR (w : World) (s : Sl) (ys : List (Cells.T c65)) (es : List LEd) : Prop where
 row : SlX w s 3 (flat c65 ys)
 len : ys.length = es.length
 slen : ys.length = s.len
 each : ∀ (i : Nat) y x, ys[i]? = some y -> es[i]? = some x -> y.1 = x.f /\ y.2.1 = x.t /\ SlX w y.2.2.1 1 (iv x.put) /\ x.put.length <= 1048576
 few : es.length <= 1048576
theorem EdX.toR (h : EdX w s es) : ∃ ys, EdR w s ys es := by
 obtain ⟨ys, h1, h2, h3⟩ := h.ex
 exact ⟨ys, h1, h2, SlX.Jt (cs := c65) h1 (by decide), h3, h.few⟩
theorem EdR.ext {ys : List (Cells.T c65)} (h : EdR w s ys es) (x : Ext w w') : EdR w' s ys es := ⟨h.row.ext x, h.len, h.slen, λ i y z hy hz => by obtain ⟨a, b, c, d⟩ := h.each i y z hy hz; exact ⟨a, b, c.ext x, d⟩, h.few⟩
theorem EdR.get {ys : List (Cells.T c65)} (h : EdR w s ys es) {i : Nat} (hi : i < es.length) : ∃ y x, ys[((i : Int)).toNat]? = some y /\ es[i]? = some x /\ y.1 = x.f /\ y.2.1 = x.t /\ SlX w y.2.2.1 1 (iv x.put) /\ x.put.length <= 1048576 /\ y.2.2.1.len = x.put.length := by
 have := h.len
 obtain ⟨y, hy⟩ : ∃ y, ys[i]? = some y := ⟨_, List.getElem?_eq_getElem (by omega)⟩
 obtain ⟨x, hx⟩ : ∃ x, es[i]? = some x := ⟨_, List.getElem?_eq_getElem hi⟩
 obtain ⟨a, b, c, d⟩ := h.each i y x hy hx
 have hl := c.len1
 rw [List.length_map] at hl
 exact ⟨y, x, by rw [Int.toNat_natCast]; exact hy, hx, a, b, c, d, hl.symm⟩
theorem wn (n : Nat) (h : n <= 2 ^ 40) : W64 ((n : Int) + 1) = ((n + 1 : Nat) : Int) := by rw [wrap64 (by omega) (by omega)]; omega
theorem Qi {n : Nat} {a : Int} {es : List LEd} {i : Nat} {x : LEd} (hx : es[i]? = some x) : Hl n a (es.drop i) = (decide (a <= x.f /\ x.f <= x.t /\ x.t <= n) && Hl n x.t (es.drop (i + 1))) := by
 have hlt := (List.getElem?_eq_some_iff.1 hx).1
 rw [List.drop_eq_getElem_cons hlt, (List.getElem?_eq_some_iff.1 hx).2, Hl]
set_option maxHeartbeats 1000000 in
theorem Ad1 {ys : List (Cells.T c65)} (h : Oo w r e B F) (hE : EdR w s ys es) {K : Int -> Wp} (hK : ∀ w', Ext w w' -> K (Nj e B.length es) w') :
  Aa Tryz.prog 28 #[.pointer (some (at0 r)), s.v] rI K w := by
 refine A28 ?_
 unfold F28
 have hel := hE.len; have hsl := hE.slen; have few := hE.few
 refine Ac (λ hc => ?_) (λ hc => ?_)
 ·simp only [decide_eq_true_eq, gt_iff_lt] at hc
  have := hK w (Ext.refl w)
  unfold Nj at this
  rw [if_pos (by omega)] at this; exact this
 simp only [decide_eq_false_iff_not, gt_iff_lt] at hc
 have hK : ∀ w', Ext w w' -> K (if Hl B.length 0 es = false then 2 else if Ht e es = false then 11 else 0) w' := λ w' x => by
  have := hK w' x
  unfold Nj at this
  rwa [if_neg (by omega)] at this
 refine Ae (λ _ W => Ext w W /\ Hl B.length 0 es = true) ?_ ?_
 ·refine Aw (λ x W => ∃ (a : Int) (i : Nat), x = (a, (i : Int), ()) /\ i <= es.length /\ Ext w W /\ Hl B.length 0 es = Hl B.length a (es.drop i)) (λ x _ => ((es.length : Int) - x.2.1).toNat) ⟨0, 0, rfl, Nat.zero_le _, Ext.refl _, rfl⟩ ?_
  rintro _ W ⟨a, i, rfl, hi, eW, hr⟩
  dsimp only
  refine Ac (λ hc2 => ?_) (λ hc2 => ?_)
  ·simp only [decide_eq_true_eq] at hc2
   obtain ⟨y, x, g1, g2, g3, g4, _, _, _⟩ := (hE.ext eW).get (i := i) (by omega)
   have g3 : @Eq Int y.1 x.f := g3
   have g4 : @Eq Int y.2.1 x.t := g4
   rw [Qi g2] at hr
   refine Bh1 (cs := c65) (xs := ys) (hE.ext eW).row (by decide) (Int.natCast_nonneg i) g1 λ p5 => ?_
   refine (St.start W).Mc rfl rfl rfl λ b7 w2 S2 e2 => ?_
   have S2 : St (λ _ => False) W w2 [(b7, .cells #[.int .i64 y.1, .int .i64 y.2.1, .slice y.2.2.1.a y.2.2.1.len y.2.2.1.cap] 65 (0, 0))] := S2
   refine Ae (λ z V => z = (decide (¬ (a <= x.f /\ x.f <= x.t /\ x.t <= B.length)), ()) /\ St (λ _ => False) W V [(b7, .cells #[.int .i64 y.1, .int .i64 y.2.1, .slice y.2.2.1.a y.2.2.1.len y.2.2.1.cap] 65 (0, 0))]) ?_ ?_
   ·refine S2.drew λ w3 S3 e3 _ => S3.ld (off := 0) 0 rfl (x := y.1) rfl (Ac (λ h1 => ⟨Au ?_, S3⟩) (λ h1 => S3.ld (off := 1) 0 rfl (x := y.2.1) rfl (S3.ld (off := 0) 0 rfl (x := y.1) rfl (Ac (λ h2 => ⟨Au ?_, S3⟩) (λ h2 => S3.ld (off := 1) 0 rfl (x := y.2.1) rfl ((h.ext (eW.trans S3.upd)).Qe λ sa hsa => ⟨Au ?_, S3⟩))))))
    ·simp only [decide_eq_true_eq, true_iff] at h1 ⊢; omega
    ·simp only [decide_eq_true_eq, decide_eq_false_iff_not, true_iff] at h1 h2 ⊢; omega
    ·have hl := hsa.len1
     rw [List.length_map] at hl
     simp only [decide_eq_true_eq, decide_eq_false_iff_not, gt_iff_lt] at h1 h2 ⊢; omega
   rintro _ V ⟨rfl, SV⟩
   refine Ac (λ hb => ?_) (λ hb => ?_)
   ·have hb := of_decide_eq_true hb
    rw [decide_eq_false hb, Bool.false_and] at hr
    have := hK V (eW.trans SV.upd)
    rw [if_pos hr] at this; exact this
   ·have hb := Classical.byContradiction λ hn => (of_decide_eq_false hb) hn
    rw [decide_eq_true hb, Bool.true_and] at hr
    rw [wn i (by omega)]
    refine SV.ld (off := 1) 0 rfl (x := y.2.1) rfl ⟨⟨y.2.1, i + 1, rfl, by omega, eW.trans SV.upd, by rw [g4]; exact hr⟩, by omega⟩
  ·simp only [decide_eq_false_iff_not] at hc2
   obtain rfl : i = es.length := by omega
   rw [List.drop_length, Hl] at hr
   exact ⟨eW, hr⟩
 rintro _ w1 ⟨e1, hr⟩
 have hK : ∀ w', Ext w w' -> K (if Ht e es = false then 11 else 0) w' := λ w' x => by
  have := hK w' x
  rwa [if_neg (by rw [hr]; decide)] at this
 refine Ae (λ _ W => Ext w W /\ Ht e es = true) ?_ ?_
 ·refine Aw (λ x W => ∃ i : Nat, x = ((i : Int), ()) /\ i <= es.length /\ Ext w W /\ Ht e (es.take i) = true) (λ x _ => ((es.length : Int) - x.1).toNat) ⟨0, rfl, Nat.zero_le _, e1, rfl⟩ ?_
  rintro _ W ⟨i, rfl, hi, eW, hf⟩
  dsimp only
  refine Ac (λ hc2 => ?_) (λ hc2 => ?_)
  ·simp only [decide_eq_true_eq] at hc2
   obtain ⟨y, x, g1, g2, g3, g4, _, g6, g7⟩ := (hE.ext eW).get (i := i) (by omega)
   have ht : es.take (i + 1) = es.take i ++ [x] := by rw [List.take_add_one, g2]; rfl
   refine Ae (λ _ V => Ext w V /\ (x.put.all λ a => sz e a != 0) = true) ?_ ?_
   ·refine Aw (λ z V => ∃ j : Nat, z = ((j : Int), ()) /\ j <= x.put.length /\ Ext w V /\ ((x.put.take j).all λ a => sz e a != 0) = true) (λ z _ => ((x.put.length : Int) - z.1).toNat) ⟨0, rfl, Nat.zero_le _, eW, rfl⟩ ?_
    rintro _ V ⟨j, rfl, hj, eV, hp⟩
    dsimp only
    have hEV := hE.ext eV
    obtain ⟨y', x', k1, k2, _, _, k5, _, _⟩ := hEV.get (i := i) (by omega)
    rw [g1] at k1; cases k1
    rw [g2] at k2; cases k2
    refine Yn (c := .sl) (cs := c65) (xs := ys) (j := 2) (y := y.2.2.1) hEV.row (Int.natCast_nonneg i) g1 rfl λ p25 _ => ?_
    refine Ac (λ hc3 => ?_) (λ hc3 => ?_)
    ·simp only [decide_eq_true_eq] at hc3
     obtain ⟨v, hv⟩ : ∃ v, x.put[j]? = some v := ⟨_, List.getElem?_eq_getElem (by omega)⟩
     refine Ce λ w2 e2 _ => (h.ext (eV.trans e2)).Cg9 ?_
     have hE2 := hEV.ext e2
     refine Yn (c := .sl) (cs := c65) (xs := ys) (j := 2) (y := y.2.2.1) hE2.row (Int.natCast_nonneg i) g1 rfl λ p29 _ => ?_
     refine Am2 (c := .int .i64) (xs := x.put) (k5.ext e2) (Int.natCast_nonneg j) (x := v) (by rw [Int.toNat_natCast]; exact hv) λ p31 => ?_
     refine X4 ?_
     refine Ac (λ hb => ?_) (λ hb => ?_)
     ·have hb : (sz e v != 0) = false := by simpa using hb
      have hall : Ht e es = false := by
       unfold Ht
       rw [List.all_eq_false]
       refine ⟨x, List.mem_of_getElem? g2, ?_⟩
       rw [Bool.not_eq_true, List.all_eq_false]
       exact ⟨v, List.mem_of_getElem? hv, by rw [hb]; decide⟩
      have := hK w2 (eV.trans e2)
      rw [if_pos hall] at this; exact this
     ·have hb : (sz e v != 0) = true := by simpa using hb
      rw [wn j (by omega)]
      refine ⟨⟨j + 1, rfl, by omega, eV.trans e2, ?_⟩, by omega⟩
      rw [List.take_add_one, hv, List.all_append, hp]
      simp only [Option.toList_some, List.all_cons, List.all_nil, hb, Bool.true_and]
    ·simp only [decide_eq_false_iff_not] at hc3
     obtain rfl : j = x.put.length := by omega
     rw [List.take_length] at hp
     exact ⟨eV, hp⟩
   rintro _ V ⟨eV, hp⟩
   rw [wn i (by omega)]
   refine ⟨⟨i + 1, rfl, by omega, eV, ?_⟩, by omega⟩
   rw [ht, Ah3, hf]
   show (true && ((x.put.all λ a => sz e a != 0) && true)) = true
   rw [hp]; rfl
  ·simp only [decide_eq_false_iff_not] at hc2
   obtain rfl : i = es.length := by omega
   rw [List.take_length] at hf
   exact ⟨eW, hf⟩
 rintro _ w2 ⟨e2, hf⟩
 have := hK w2 e2
 rw [if_neg (by rw [hf]; decide)] at this; exact this
theorem U9 {l : List Int} {j : Nat} {v : Int} (hv : l[j]? = some v) : szs (prs e (l.take (j + 1))) = szs (prs e (l.take j)) + sz e v := by
 rw [List.take_add_one, hv]
 show szs (List.map _ (_ ++ [v])) = _
 rw [List.map_append, Bl]
 show szs (prs e (l.take j)) + szs [(v, sz e v)] = _
 simp [szs]
theorem Ax2 (l : List Int) : szs (prs e l) <= 4 * l.length := by
 induction l with
 | nil => exact Nat.le_refl _
 | cons a m ih =>
  show Cdc.szs ((a, sz e a) :: prs e m) <= _
  rw [Hw, List.length_cons]
  have := Ap8 e a
  show sz e a + _ <= _
  omega
theorem Aq3 (h : Oo w r e B F) {K : Int -> Wp} (hK : ∀ w', Ext w w' -> K (szs (prs e B) : Int) w') :
  Aa Tryz.prog 30 #[.pointer (some (at0 r))] rI K w := by
 refine A30 ?_
 unfold F30
 have hB := h.len
 refine Ae (λ x W => x = ((szs (prs e B) : Int), ()) /\ Ext w W) ?_ (by rintro _ W ⟨rfl, x⟩; exact hK W x)
 refine Aw (λ x W => ∃ j : Nat, x = ((szs (prs e (B.take j)) : Int), (j : Int), ()) /\ j <= B.length /\ Ext w W) (λ x _ => ((B.length : Int) - x.2.1).toNat) ⟨0, rfl, Nat.zero_le _, Ext.refl _⟩ ?_
 rintro _ W ⟨j, rfl, hj, eW⟩
 dsimp only
 refine (h.ext eW).Qe λ sa hsa => ?_
 have hl := hsa.len1
 rw [List.length_map] at hl
 refine Ac (λ hc => ?_) (λ hc => ?_)
 ·simp only [decide_eq_true_eq] at hc
  obtain ⟨v, hv⟩ : ∃ v, B[j]? = some v := ⟨_, List.getElem?_eq_getElem (by omega)⟩
  refine Ce λ w2 e2 _ => (h.ext (eW.trans e2)).Cg9 ((h.ext (eW.trans e2)).Qe λ sa2 hsa2 => ?_)
  refine Fh (c := .int .i64) (xs := B) hsa2 (Int.natCast_nonneg j) (x := v) (by rw [Int.toNat_natCast]; exact hv) λ p => V9 λ w3 e3 => ?_
  have h1 := U9 (e := e) hv
  have h2 := Ax2 (e := e) (B.take j)
  have h3 := Ap8 e v
  rw [List.length_take] at h2
  have ew : W64 ((szs (prs e (B.take j)) : Int) + (sz e v : Int)) = (szs (prs e (B.take (j + 1))) : Int) := by rw [wrap64 (by omega) (by omega)]; omega
  rw [ew, wn j (by omega)]
  exact ⟨⟨j + 1, rfl, by omega, (eW.trans e2).trans e3⟩, by omega⟩
 ·simp only [decide_eq_false_iff_not] at hc
  obtain rfl : j = B.length := by omega
  exact ⟨by rw [List.take_length], eW⟩
section
variable {w0 W : World} {N b bx : Nat} {sa st : Sl} {L T : List Int} {v : Int}
theorem Bt1 {R : World -> Prop} (S : St (λ _ => False) w0 W [(bx, .cells #[.int .i64 v] 3 (0, 0)), (b, r5O e sa st)]) (tw : Jy W N sa st L T) (hl : L.length < 2 ^ 40) (hN : N <= W.heap.size) (h0 : w0.heap.size <= N) (hb : b < N)
  (hK : ∀ sa' W', St (λ _ => False) w0 W' [(b, r5O e sa' st)] -> Jy W' N sa' st (L ++ [v]) T -> W.heap.size <= W'.heap.size -> R W') :
  Dt Tryz.prog (.one (.one .sl)) (Builtin.append_ #[43, 43] 43 #[.slice sa.a sa.len sa.cap, .slice (some (at0 bx)) 1 1]) (λ x => nn (some (at0 b)) λ p => stC (p.add 2) (.slice x.a x.len x.cap) R) W := by
 refine Bf3 tw (S.at_ 0 rfl) hl hN λ sa' w4 t4 g4 u4 => ?_
 have S4 : St (λ _ => False) w0 w4 [(b, r5O e sa st)] := S.tail.fresh u4 (λ k hk => .inr (by have := g4 k hk; omega)) (λ z hz hk => by
  rw [List.mem_singleton.1 hz] at hk
  have := g4 _ hk
  dsimp only at this; omega)
 refine Aj (S4.stC (off := 2) 0 rfl (by show 2 < 5; decide) λ w5 S5 u5 => ?_)
 exact hK sa' w5 S5 (t4.box (S4.at_ 0 rfl) (by decide) u5) (by have := u4.size; have := u5.size; omega)
theorem Bt0 {R : World -> Prop} (S : St (λ _ => False) w0 W [(bx, .cells #[.int .i64 v] 3 (0, 0)), (b, r5O e sa st)]) (tw : Jy W N sa st L T) (hl : T.length < 2 ^ 40) (hN : N <= W.heap.size) (h0 : w0.heap.size <= N) (hb : b < N)
  (hK : ∀ st' W', St (λ _ => False) w0 W' [(b, r5O e sa st')] -> Jy W' N sa st' L (T ++ [v]) -> W.heap.size <= W'.heap.size -> R W') :
  Dt Tryz.prog (.one (.one .sl)) (Builtin.append_ #[43, 43] 43 #[.slice st.a st.len st.cap, .slice (some (at0 bx)) 1 1]) (λ x => nn (some (at0 b)) λ p => stC (p.add 3) (.slice x.a x.len x.cap) R) W := by
 refine Bf3 tw.swap (S.at_ 0 rfl) hl hN λ st' w4 t4 g4 u4 => ?_
 have S4 : St (λ _ => False) w0 w4 [(b, r5O e sa st)] := S.tail.fresh u4 (λ k hk => .inr (by have := g4 k hk; omega)) (λ z hz hk => by
  rw [List.mem_singleton.1 hz] at hk
  have := g4 _ hk
  dsimp only at this; omega)
 refine Aj (S4.stC (off := 3) 0 rfl (by show 3 < 5; decide) λ w5 S5 u5 => ?_)
 exact hK st' w5 S5 (t4.swap.box (S4.at_ 0 rfl) (by decide) u5) (by have := u4.size; have := u5.size; omega)
end
set_option maxHeartbeats 4000000 in
theorem Yb {ys : List (Cells.T c65)} {A : As} (h : Oo w r e B F) (hA : A = prs e B) (hE : EdR w s ys es) (hs1 : szs A <= 65536) {K : Int -> Wp}
  (hno : Ig e 65536 A es ≠ 0 -> ∀ w', Ext w w' -> K (Ig e 65536 A es) w')
  (hyes : Ig e 65536 A es = 0 -> ∀ F' w', Oo w' r e (atoms (Dh e A es)) F' -> Upd (λ k => k = r) w w' -> (∀ k, F' k -> F k \/ w.heap.size <= k) -> K 0 w') :
  Aa Tryz.prog 16 #[.pointer (some (at0 r)), s.v] rI K w := by
 refine A16 ?_
 unfold F16
 have hel := hE.len; have hsl := hE.slen; have few := hE.few
 have hBA : B = atoms A := by rw [hA]; unfold prs atoms; rw [List.map_map]; exact (List.map_id B).symm
 have hlen : A.length = B.length := by rw [hBA, List.length_map]
 have hB := h.len
 have h3 := Ak4 (e := e) (lim := 65536) (A := A) (es := es)
 rw [hlen] at h3
 refine Ad1 h hE λ w1 e1 => ?_
 refine Ac (λ hc => ?_) (λ hc => ?_)
 ·have hc : Nj e B.length es ≠ 0 := by simpa using hc
  rw [if_pos hc] at h3
  rw [h3] at hno
  exact hno hc w1 e1
 have hc : Nj e B.length es = 0 := by simpa using hc
 rw [if_neg (by omega)] at h3
 have hrf : es.length <= 70000 /\ Hl B.length 0 es = true /\ Ht e es = true := by
  unfold Nj at hc
  split at hc
  ·cases hc
  split at hc
  ·cases hc
  split at hc
  ·cases hc
  exact ⟨by omega, by simpa using ‹¬ Hl B.length 0 es = false›, by simpa using ‹¬ Ht e es = false›⟩
 obtain ⟨hfew, hrng, hfit⟩ := hrf
 have hrngA : Hl A.length 0 es = true := by rw [hlen]; exact hrng
 have hgone := Yp (A := A) (es := es) (a := 0) (Int.le_refl _) hrngA
 refine Ae (λ _ W => Ext w W /\ Cj e es <= 65536) ?_ ?_
 ·refine Aw (λ x W => ∃ i : Nat, x = ((Cj e (es.take i) : Int), (i : Int), ()) /\ i <= es.length /\ Ext w W /\ Cj e (es.take i) <= 65536) (λ x _ => ((es.length : Int) - x.2.1).toNat) ⟨0, rfl, Nat.zero_le _, e1, Nat.zero_le _⟩ ?_
  rintro _ W ⟨i, rfl, hi, eW, hsz⟩
  dsimp only
  refine Ac (λ hc2 => ?_) (λ hc2 => ?_)
  ·simp only [decide_eq_true_eq] at hc2
   obtain ⟨y, x, g1, g2, _, _, _, g6, g7⟩ := (hE.ext eW).get (i := i) (by omega)
   have ht : es.take (i + 1) = es.take i ++ [x] := by rw [List.take_add_one, g2]; rfl
   have hps : Cj e (es.take (i + 1)) = Cj e (es.take i) + szs (prs e x.put) := by rw [ht, Qj]; rfl
   have hall : Cj e es = Cj e (es.take (i + 1)) + Cj e (es.drop (i + 1)) := by
    conv => lhs; rw [← List.take_append_drop (i + 1) es]
    rw [Qj]
   refine Ae (λ z V => z = ((Cj e (es.take (i + 1)) : Int), ()) /\ Ext w V /\ Cj e (es.take (i + 1)) <= 65536) ?_ ?_
   ·refine Aw (λ z V => ∃ j : Nat, z = (((Cj e (es.take i) + szs (prs e (x.put.take j)) : Nat) : Int), (j : Int), ()) /\ j <= x.put.length /\ Ext w V /\ Cj e (es.take i) + szs (prs e (x.put.take j)) <= 65536) (λ z _ => ((x.put.length : Int) - z.2.1).toNat) ⟨0, rfl, Nat.zero_le _, eW, hsz⟩ ?_
    rintro _ V ⟨j, rfl, hj, eV, hp⟩
    dsimp only
    have hEV := hE.ext eV
    obtain ⟨y', x', k1, k2, _, _, k5, _, _⟩ := hEV.get (i := i) (by omega)
    rw [g1] at k1; cases k1
    rw [g2] at k2; cases k2
    refine Yn (c := .sl) (cs := c65) (xs := ys) (j := 2) (y := y.2.2.1) hEV.row (Int.natCast_nonneg i) g1 rfl λ p25 _ => ?_
    refine Ac (λ hc3 => ?_) (λ hc3 => ?_)
    ·simp only [decide_eq_true_eq] at hc3
     obtain ⟨v, hv⟩ : ∃ v, x.put[j]? = some v := ⟨_, List.getElem?_eq_getElem (by omega)⟩
     refine Ce λ w2 e2 _ => (h.ext (eV.trans e2)).Cg9 ?_
     have hE2 := hEV.ext e2
     refine Yn (c := .sl) (cs := c65) (xs := ys) (j := 2) (y := y.2.2.1) hE2.row (Int.natCast_nonneg i) g1 rfl λ p29 _ => ?_
     refine Am2 (c := .int .i64) (xs := x.put) (k5.ext e2) (Int.natCast_nonneg j) (x := v) (by rw [Int.toNat_natCast]; exact hv) λ p31 => ?_
     refine V9 λ w3 e3 => (h.ext ((eV.trans e2).trans e3)).Cm9 λ _ => ?_
     have h1 := U9 (e := e) hv
     have h3' := Ap8 e v
     have ew : W64 (((Cj e (es.take i) + szs (prs e (x.put.take j)) : Nat) : Int) + (sz e v : Int)) = ((Cj e (es.take i) + szs (prs e (x.put.take (j + 1))) : Nat) : Int) := by rw [wrap64 (by omega) (by omega)]; omega
     rw [ew]
     refine Ac (λ hb => ?_) (λ hb => ?_)
     ·simp only [decide_eq_true_eq, gt_iff_lt] at hb
      have hle : szs (prs e (x.put.take (j + 1))) <= szs (prs e x.put) := by
       have : prs e (x.put.take (j + 1)) = (prs e x.put).take (j + 1) := by unfold prs; rw [List.map_take]
       rw [this]; exact Rl _ _
      have h0 := Rl A (0 : Int).toNat
      rw [if_pos (by omega)] at h3
      have := hno (by rw [h3]; decide) w3 ((eV.trans e2).trans e3)
      rw [h3] at this; exact this
     ·simp only [decide_eq_false_iff_not, gt_iff_lt] at hb
      rw [wn j (by omega)]
      exact ⟨⟨j + 1, rfl, by omega, (eV.trans e2).trans e3, by omega⟩, by omega⟩
    ·simp only [decide_eq_false_iff_not] at hc3
     obtain rfl : j = x.put.length := by omega
     rw [List.take_length] at hp ⊢
     rw [← hps] at hp ⊢
     exact ⟨rfl, eV, hp⟩
   rintro _ V ⟨rfl, eV, hp⟩
   rw [wn i (by omega)]
   exact ⟨⟨i + 1, rfl, by omega, eV, hp⟩, by omega⟩
  ·simp only [decide_eq_false_iff_not] at hc2
   obtain rfl : i = es.length := by omega
   rw [List.take_length] at hsz
   exact ⟨eW, hsz⟩
 rintro _ w2 ⟨e2, hput⟩
 refine Ce λ w3 e3 _ => ?_
 have x3 := e2.trans e3
 have h3' := h.ext x3
 refine h3'.Cg9 (h3'.Cm9 λ _ => ?_)
 refine (St.start w3).Y5 λ b25 w4 S4 e4 hb25 => ?_
 have S4 : St (λ _ => False) w3 w4 [(b25, r5O e ⟨none, 0, 0⟩ ⟨none, 0, 0⟩)] := S4
 have hb4 : b25 < w4.heap.size := lt_of_heap (S4.at_ 0 rfl)
 have h34 : w3.heap.size <= w4.heap.size := e4.size
 obtain ⟨tgt, htg⟩ : ∃ tgt, Tv B 0 es = tgt := ⟨_, rfl⟩
 have happ : atoms (Dh e A es) = tgt := by
  have := apply_seq (e := e) (A := A) (es := es) (a := 0) (Int.le_refl _) (by omega) hrngA
  rw [this, ← hBA, ← htg]; rfl
 have hap := Vr (e := e) (A := A) (es := es) (a := 0) (Int.le_refl _) (by omega) hrngA
 have hszt : szs (prs e tgt) = szs (Dh e A es) := by
  have hok := Ac2 (e := e) (A := A) (by rw [hA]; exact Az2 e B) es
  rw [hok.prs, happ]
 have hfitt : ∀ a ∈ tgt, sz e a ≠ 0 := by
  rw [← happ]
  exact Ai3 (A := A) (by rw [← hBA]; exact h.fit) hfit
 have hnum : tgt.length <= 200000 := by
  have := Cg3 hfitt
  omega
 refine Ae (λ _ W => ∃ sa st T, St (λ _ => False) w3 W [(b25, r5O e sa st)] /\ Jy W w4.heap.size sa st tgt T /\ T.length = tgt.length) ?_ ?_
 ·refine Aw (λ x W => ∃ (k i : Nat) (g : Int) (sa st : Sl) (L T : List Int), x = ((k : Int), g, (i : Int), ()) /\ i <= B.length + 1 /\ k <= es.length /\ 0 <= g /\ g <= B.length /\ St (λ _ => False) w3 W [(b25, r5O e sa st)] /\ Jy W w4.heap.size sa st L T /\ T.length = L.length /\ L ++ Tv B (max i g.toNat) (es.drop k) = tgt /\ Hl B.length g (es.drop k) = true /\ (∀ x, es[k]? = some x -> (i : Int) <= x.f) /\ w4.heap.size <= W.heap.size) (λ x _ => ((B.length : Int) + 1 - x.2.2.1).toNat)
   ⟨0, 0, 0, ⟨none, 0, 0⟩, ⟨none, 0, 0⟩, [], [], rfl, Nat.zero_le _, Nat.zero_le _, Int.le_refl _, by omega, S4, Jy.nil _ _, rfl, by rw [← htg]; rfl, hrng, λ x hx => by
    obtain ⟨g1, _⟩ := Ya (i := 0) hrng hx
    simpa using g1, Nat.le_refl _⟩ ?_
  rintro _ W ⟨k, i, g, sa, st, L, T, rfl, hi, hk, hg0, hg1, SW, tw, hT, hL, hr, hf, hWs⟩
  dsimp only
  have xW : Ext w W := x3.trans SW.upd
  refine (h.ext xW).Qe λ s0 hs0 => ?_
  have hl0 := hs0.len1
  rw [List.length_map] at hl0
  refine Ac (λ hc2 => ?_) (λ hc2 => ?_)
  ·simp only [decide_eq_true_eq] at hc2
   have hin : i <= B.length := by omega
   refine Ae (λ z V => ∃ (k' : Nat) (g' : Int) (sa' st' : Sl) (L' T' : List Int), z = ((k' : Int), g', ()) /\ k' <= es.length /\ 0 <= g' /\ g' <= B.length /\ St (λ _ => False) w3 V [(b25, r5O e sa' st')] /\ Jy V w4.heap.size sa' st' L' T' /\ T'.length = L'.length /\ L' ++ Tv B (max (i + 1) g'.toNat) (es.drop k') = tgt /\ Hl B.length g' (es.drop k') = true /\ (∀ x, es[k']? = some x -> (i : Int) < x.f) /\ w4.heap.size <= V.heap.size) ?_ ?_
   ·refine Ae (λ z V => ∃ (k' : Nat) (g' : Int) (sa' st' : Sl) (L' T' : List Int), z = ((k' : Int), g', ()) /\ k' <= es.length /\ 0 <= g' /\ g' <= B.length /\ St (λ _ => False) w3 V [(b25, r5O e sa' st')] /\ Jy V w4.heap.size sa' st' L' T' /\ T'.length = L'.length /\ L' ++ Tv B (max i g'.toNat) (es.drop k') = tgt /\ Hl B.length g' (es.drop k') = true /\ (∀ x, es[k']? = some x -> (i : Int) < x.f) /\ w4.heap.size <= V.heap.size) ?_ ?_
    ·refine Aw (λ z V => ∃ (k' : Nat) (g' : Int) (sa' st' : Sl) (L' T' : List Int), z = ((k' : Int), g', ()) /\ k' <= es.length /\ 0 <= g' /\ g' <= B.length /\ St (λ _ => False) w3 V [(b25, r5O e sa' st')] /\ Jy V w4.heap.size sa' st' L' T' /\ T'.length = L'.length /\ L' ++ Tv B (max i g'.toNat) (es.drop k') = tgt /\ Hl B.length g' (es.drop k') = true /\ (∀ x, es[k']? = some x -> (i : Int) <= x.f) /\ w4.heap.size <= V.heap.size) (λ z _ => ((es.length : Int) - z.1).toNat) ⟨k, g, sa, st, L, T, rfl, hk, hg0, hg1, SW, tw, hT, hL, hr, hf, hWs⟩ ?_
     rintro _ V ⟨k, g, sa, st, L, T, rfl, hk, hg0, hg1, SV, tw, hT, hL, hr, hf, hVs⟩
     dsimp only
     have xV : Ext w V := x3.trans SV.upd
     have hEV := hE.ext xV
     refine Ae (λ z U => z = (decide (∃ x, es[k]? = some x /\ x.f = (i : Int)), ()) /\ V = U) ?_ ?_
     ·refine Ac (λ hc3 => ?_) (λ hc3 => ⟨Au ?_, rfl⟩)
      ·simp only [decide_eq_true_eq] at hc3
       obtain ⟨y, x, g1, g2, g3, _, _, _, _⟩ := hEV.get (i := k) (by omega)
       refine Bw2 (c := .int .i64) (cs := c65) (xs := ys) (y := y.1) hEV.row (Int.natCast_nonneg k) g1 rfl λ p _ => ⟨Au ?_, rfl⟩
       rw [g3, beq_iff_eq, decide_eq_true_eq]
       exact ⟨λ hh => ⟨x, g2, hh⟩, λ ⟨x', h1, h2⟩ => by rw [g2] at h1; cases h1; exact h2⟩
      ·simp only [decide_eq_false_iff_not] at hc3
       simp only [Bool.false_eq_true, decide_eq_true_eq, false_iff]
       rintro ⟨x, hx, _⟩
       have := (List.getElem?_eq_some_iff.1 hx).1
       omega
     rintro _ _ ⟨rfl, rfl⟩
     refine Ac (λ hb => ?_) (λ hb => ?_)
     ·obtain ⟨x, hx, hxf⟩ := of_decide_eq_true hb
      have hkl := (List.getElem?_eq_some_iff.1 hx).1
      rw [Qi hx, Bool.and_eq_true, decide_eq_true_eq] at hr
      obtain ⟨⟨r1, r2, r3⟩, r4⟩ := hr
      have hd : es.drop k = x :: es.drop (k + 1) := by rw [List.drop_eq_getElem_cons hkl, (List.getElem?_eq_some_iff.1 hx).2]
      have hL2 : L ++ x.put ++ Tv B (max i x.t.toNat) (es.drop (k + 1)) = tgt := by
       rw [← hL, hd, Tv, show max i g.toNat = i by omega, show x.f.toNat - i = 0 by omega, List.take_zero, List.nil_append, show max i x.t.toNat = x.t.toNat by omega, List.append_assoc]
      obtain ⟨y, x', g1, g2, g3, g4, _, g6, g7⟩ := hEV.get (i := k) (by omega)
      rw [hx] at g2; cases g2
      have hLl : L.length + x.put.length <= 200000 := by
       have := congrArg List.length hL2
       rw [List.length_append, List.length_append] at this
       omega
      refine Ae (λ _ U => ∃ (sa' st' : Sl) (T' : List Int), St (λ _ => False) w3 U [(b25, r5O e sa' st')] /\ Jy U w4.heap.size sa' st' (L ++ x.put) T' /\ T'.length = (L ++ x.put).length /\ w4.heap.size <= U.heap.size) ?_ ?_
      ·refine Aw (λ z U => ∃ (j : Nat) (sa' st' : Sl) (T' : List Int), z = ((j : Int), ()) /\ j <= x.put.length /\ St (λ _ => False) w3 U [(b25, r5O e sa' st')] /\ Jy U w4.heap.size sa' st' (L ++ x.put.take j) T' /\ T'.length = (L ++ x.put.take j).length /\ w4.heap.size <= U.heap.size) (λ z _ => ((x.put.length : Int) - z.1).toNat) ⟨0, sa, st, T, rfl, Nat.zero_le _, SV, by rw [List.take_zero, List.append_nil]; exact tw, by rw [List.take_zero, List.append_nil]; exact hT, hVs⟩ ?_
       rintro _ U ⟨j, sa, st, T, rfl, hj, SU, tw, hT, hUs⟩
       dsimp only
       have xU : Ext w U := x3.trans SU.upd
       have hEU := hE.ext xU
       obtain ⟨y', x', k1, k2, _, _, k5, _, _⟩ := hEU.get (i := k) (by omega)
       rw [g1] at k1; cases k1
       rw [hx] at k2; cases k2
       refine Yn (c := .sl) (cs := c65) (xs := ys) (j := 2) (y := y.2.2.1) hEU.row (Int.natCast_nonneg k) g1 rfl λ p46 _ => ?_
       refine Ac (λ hc3 => ?_) (λ hc3 => ?_)
       ·simp only [decide_eq_true_eq] at hc3
        obtain ⟨v, hv⟩ : ∃ v, x.put[j]? = some v := ⟨_, List.getElem?_eq_getElem (by omega)⟩
        refine SU.drew λ w5 S5 e5 _ => Aj (S5.ld (off := 2) 0 rfl (x := sa) rfl ?_)
        refine Yn (c := .sl) (cs := c65) (xs := ys) (j := 2) (y := y.2.2.1) (hEU.ext e5).row (Int.natCast_nonneg k) g1 rfl λ p50 _ => ?_
        refine Am2 (c := .int .i64) (xs := x.put) (k5.ext e5) (Int.natCast_nonneg j) (x := v) (by rw [Int.toNat_natCast]; exact hv) λ p52 => ?_
        have hlt : (L ++ x.put.take j).length < 2 ^ 40 := by rw [List.length_append, List.length_take]; omega
        refine S5.Af λ b54 w6 S6 e6 => S6.keep (off := 2) 1 rfl (v := .slice sa.a sa.len sa.cap) rfl (Bt1 S6 ((tw.ext e5).ext e6) hlt (by have := e5.size; have := e6.size; omega) h34 hb4 λ sa' w7 S7 t7 z7 => ?_)
        refine Aj (S7.ld (off := 3) 0 rfl (x := st) rfl (S7.Af λ b59 w8 S8 e8 => Bt0 S8 (t7.ext e8) (by omega) (by have := e5.size; have := e6.size; have := e8.size; omega) h34 hb4 λ st' w9 S9 t9 z9 => ?_))
        rw [wn j (by omega)]
        have et : x.put.take (j + 1) = x.put.take j ++ [v] := by rw [List.take_add_one, hv]; rfl
        refine ⟨⟨j + 1, sa', st', T ++ [-1], rfl, by omega, S9, by rw [et, ← List.append_assoc]; exact t9, by rw [et, ← List.append_assoc, List.length_append, List.length_append, hT]; rfl, by have := e5.size; have := e6.size; have := e8.size; omega⟩, by omega⟩
       ·simp only [decide_eq_false_iff_not] at hc3
        obtain rfl : j = x.put.length := by omega
        rw [List.take_length] at tw hT
        exact ⟨sa, st, T, SU, tw, hT, hUs⟩
      rintro _ U ⟨sa', st', T', SU, tw', hT', hUs⟩
      have hEU := hE.ext (x3.trans SU.upd)
      refine Yn (c := .int .i64) (cs := c65) (xs := ys) (j := 1) (y := y.2.1) hEU.row (Int.natCast_nonneg k) g1 rfl λ p62 _ => ?_
      rw [wn k (by omega), g4]
      refine ⟨⟨k + 1, x.t, sa', st', L ++ x.put, T', rfl, by omega, by omega, r3, SU, tw', hT', hL2, r4, λ x2 hx2 => ?_, hUs⟩, by omega⟩
      have hr5 := r4
      rw [Qi hx2, Bool.and_eq_true, decide_eq_true_eq] at hr5
      omega
     ·have hb := of_decide_eq_false hb
      refine ⟨k, g, sa, st, L, T, rfl, hk, hg0, hg1, SV, tw, hT, hL, hr, λ x hx => ?_, hVs⟩
      have h1 := hf x hx
      have h2 : ¬ x.f = (i : Int) := λ hh => hb ⟨x, hx, hh⟩
      omega
    rintro _ V ⟨k, g, sa, st, L, T, rfl, hk, hg0, hg1, SV, tw, hT, hL, hr, hf, hVs⟩
    have xV : Ext w V := x3.trans SV.upd
    dsimp only
    refine Ae (λ z U => z = (decide (i < B.length /\ g <= (i : Int)), ()) /\ V = U) ((h.ext xV).Qe λ s1 hs1 => ?_) ?_
    ·have hl1 := hs1.len1
     rw [List.length_map] at hl1
     refine Ac (λ hc3 => ⟨Au ?_, rfl⟩) (λ hc3 => ⟨Au ?_, rfl⟩)
     ·simp only [decide_eq_true_eq, ge_iff_le] at hc3 ⊢; omega
     ·simp only [decide_eq_false_iff_not] at hc3
      simp only [Bool.false_eq_true, decide_eq_true_eq, false_iff]; omega
    rintro _ _ ⟨rfl, rfl⟩
    refine Ac (λ hb => ?_) (λ hb => ?_)
    ·obtain ⟨b1, b2⟩ := of_decide_eq_true hb
     obtain ⟨v, hv⟩ : ∃ v, B[i]? = some v := ⟨_, List.getElem?_eq_getElem b1⟩
     rw [show max i g.toNat = i by omega, Cl5 hv (λ x hx => hf x (by rw [List.head?_drop] at hx; exact hx))] at hL
     have hLl : L.length + 1 <= 200000 := by
      have := congrArg List.length hL
      rw [List.length_append, List.length_cons] at this
      omega
     refine SV.drew λ w5 S5 e5 _ => Aj (S5.ld (off := 2) 0 rfl (x := sa) rfl ((h.ext (xV.trans e5)).Qe λ s2 hs2 => ?_))
     refine Fh (c := .int .i64) (xs := B) hs2 (Int.natCast_nonneg i) (x := v) (by rw [Int.toNat_natCast]; exact hv) λ p72 => ?_
     refine S5.Af λ b74 w6 S6 e6 => S6.keep (off := 2) 1 rfl (v := .slice sa.a sa.len sa.cap) rfl (Bt1 S6 ((tw.ext e5).ext e6) (by omega) (by have := e5.size; have := e6.size; omega) h34 hb4 λ sa' w7 S7 t7 z7 => ?_)
     refine S7.drew λ w8 S8 e8 _ => Aj (S8.ld (off := 3) 0 rfl (x := st) rfl ((h.ext (x3.trans S8.upd)).Cp1 λ s3 T0 hs3 hT0 => ?_))
     obtain ⟨u, hu⟩ : ∃ u, T0[i]? = some u := ⟨_, List.getElem?_eq_getElem (by omega)⟩
     refine Fh (c := .int .i64) (xs := T0) hs3 (Int.natCast_nonneg i) (x := u) (by rw [Int.toNat_natCast]; exact hu) λ p81 => ?_
     refine S8.Af λ b83 w9 S9 e9 => S9.keep (off := 3) 1 rfl (v := .slice st.a st.len st.cap) rfl (Bt0 S9 ((t7.ext e8).ext e9) (by omega) (by have := e5.size; have := e6.size; have := e8.size; have := e9.size; omega) h34 hb4 λ st' w10 S10 t10 z10 => ?_)
     exact ⟨k, g, sa', st', L ++ [v], T ++ [u], rfl, hk, hg0, hg1, S10, t10, by rw [List.length_append, List.length_append, hT]; rfl, by rw [show max (i + 1) g.toNat = i + 1 by omega, List.append_assoc]; exact hL, hr, hf, by have := e5.size; have := e6.size; have := e8.size; have := e9.size; omega⟩
    ·have hb := of_decide_eq_false hb
     refine ⟨k, g, sa, st, L, T, rfl, hk, hg0, hg1, SV, tw, hT, ?_, hr, hf, hVs⟩
     by_cases hg : (i : Int) < g
     ·rw [show max (i + 1) g.toNat = max i g.toNat by omega]; exact hL
     ·have hn : i = B.length := by
       rcases Nat.lt_or_ge i B.length with u | u
       ·exact absurd ⟨u, by omega⟩ hb
       ·omega
      have hnil : es.drop k = [] := by
       cases hd : es[k]? with
       | none =>
        rw [List.getElem?_eq_none_iff] at hd
        exact List.drop_eq_nil_of_le hd
       | some x =>
        have h1 := hf x hd
        rw [Qi hd, Bool.and_eq_true, decide_eq_true_eq] at hr
        omega
      rw [hnil] at hL ⊢
      rw [show max i g.toNat = i by omega] at hL
      rw [show max (i + 1) g.toNat = i + 1 by omega]
      rw [Tv, List.drop_eq_nil_of_le (by omega)] at hL ⊢
      exact hL
   rintro _ V ⟨k, g, sa, st, L, T, rfl, hk, hg0, hg1, SV, tw, hT, hL, hr, hf, hVs⟩
   rw [wn i (by omega)]
   exact ⟨⟨k, i + 1, g, sa, st, L, T, rfl, by omega, hk, hg0, hg1, SV, tw, hT, hL, hr, λ x hx => by have := hf x hx; omega, hVs⟩, by omega⟩
  ·simp only [decide_eq_false_iff_not] at hc2
   have hi' : i = B.length + 1 := by omega
   have hnil : es.drop k = [] := by
    cases hd : es[k]? with
    | none =>
     rw [List.getElem?_eq_none_iff] at hd
     exact List.drop_eq_nil_of_le hd
    | some x =>
     have h1 := hf x hd
     rw [Qi hd, Bool.and_eq_true, decide_eq_true_eq] at hr
     omega
   rw [hnil, Tv, List.drop_eq_nil_of_le (by omega), List.append_nil] at hL
   subst hL
   exact ⟨sa, st, T, SW, tw, hT⟩
 rintro _ w5 ⟨sa, st, T, S5, tw, hT⟩
 have x5 : Ext w w5 := x3.trans S5.upd
 have hnew : Oo w5 b25 e tgt (λ k => w3.heap.size <= k /\ k < w5.heap.size) := ⟨⟨sa, st, T, S5.at_ 0 rfl, tw.one.in, tw.two.in, hT, λ k hk => ⟨by have := tw.one.Et hk; omega, tw.one.in.Kz hk⟩, λ k hk => ⟨by have := tw.two.Et hk; omega, tw.two.in.Kz hk⟩⟩, ⟨S5.ge 0 rfl, lt_of_heap (S5.at_ 0 rfl)⟩, hfitt, λ k hk => hk.2, by omega⟩
 refine Ce λ w6 e6 _ => ?_
 have S6 := S5.ext e6
 refine (h.ext (x5.trans e6)).Cm9 λ kl => Aq3 (hnew.ext e6) λ w7 e7 => Aq (kl w7 e7) ?_
 have S7 := S6.ext e7
 have x7 : Ext w w7 := (x5.trans e6).trans e7
 rw [hszt]
 refine Ac (λ hb => ?_) (λ hb => ?_)
 ·simp only [decide_eq_true_eq, gt_iff_lt] at hb
  rw [if_pos (by omega)] at h3
  have := hno (by rw [h3]; decide) w7 x7
  rw [h3] at this; exact this
 ·simp only [decide_eq_false_iff_not, gt_iff_lt] at hb
  rw [if_neg (by omega)] at h3
  obtain ⟨sa0, st0, T0, h1, _, _, _, _, _⟩ := (h.ext x7).ex
  have hrb : r < w.heap.size := h.own r h.root
  have hwr : w.heap.size <= w3.heap.size := x3.size
  have hbr : b25 ≠ r := by have := S7.ge 0 rfl; omega
  refine Aj (S7.ld (off := 2) 0 rfl (x := sa) rfl (Aj (Iu (off := 2) h1 (by show 2 < 5; decide) λ w8 u8 n8 _ => ?_)))
  have hb8 : w8.heap[b25]? = some (r5O e sa st) := u8.get (S7.at_ 0 rfl) λ hh => hbr hh
  refine Aj (Ci (off := 3) (x := st) hb8 rfl (Aj (Iu (off := 3) n8 (by show 3 < 5; decide) λ w9 u9 n9 _ => ?_)))
  rw [← happ] at tw hT
  have tw7 := (tw.ext e6).ext e7
  have tw9 := (tw7.box h1 (by decide) u8).box n8 (by decide) u9
  have hlen9 : (atoms (Dh e A es)).length <= 1048576 := by rw [happ]; omega
  refine hyes h3 (λ k => k = r \/ (w3.heap.size <= k /\ k < w9.heap.size)) w9 ⟨⟨sa, st, T, n9, tw9.one.in, tw9.two.in, hT, λ k hk => .inr ⟨by have := tw9.one.Et hk; omega, tw9.one.in.Kz hk⟩, λ k hk => .inr ⟨by have := tw9.two.Et hk; omega, tw9.two.in.Kz hk⟩⟩, .inl rfl, by rw [happ]; exact hfitt, λ k hk => ?_, hlen9⟩ (((Upd.Ei x7).trans u8).trans u9) (λ k hk => ?_)
  ·rcases hk with rfl | hk
   ·have := x7.size; have := u8.size; have := u9.size; omega
   ·exact hk.2
  ·rcases hk with rfl | hk
   ·exact .inl h.root
   ·exact .inr (by omega)
end
end Go.Proofs.YtolhlldgnfbemaaGreatDoor
namespace Go.Proofs.YtolhlldgnfbemaaGreatDoor
open Go Go.Vx
def F33 (a0 : Int) (K : Int -> Wp) : Wp := cB 76 #[(vI a0)] λ x1 => sif x1 ( K 0) ( cB 77 #[(vI a0)] λ x2 => sif x2 ( K 2) ( K 1))
def h33 : Hint := (hS (hR 1) (hS (hS (hR 2) (hC (hS (hR 1) hL) hL)) (hS (hS (hR 2) (hC (hS (hR 1) hL) hL)) (hS (hR 1) hL))))
theorem A33 {a0 : Int} {K : Int -> Wp} {w : World} (h : F33 a0 K w) : Aa Tryz.prog 33 #[(vI a0)] rI K w := tied Ai Tryz.func33 h33 _ h
def F125 (a0 : Int) (K : Int -> Wp) : Wp := cB 172 #[(vI a0)] λ x1 => sif (!x1) ( K 3) ( jB (λ J2 => sif (decide (a0 >= 44032)) ( J2 ((decide (a0 <= 55203)), ())) ( J2 (false, ()))) λ s3 => sif s3.1 ( chk ((28 : Int) ≠ 0) <| sif ((Int.tmod (W64 (a0 - 44032)) 28) == 0) ( K 12) ( K 13)) ( sif (decide (a0 < 3076)) ( cN 173 #[(vI a0)] λ x4 => K x4) ( sif (decide (a0 < 8505)) ( cN 174 #[(vI a0)] λ x5 => K x5) ( cN 175 #[(vI a0)] λ x6 => K x6))))
def Dd0 : Hint := (hS (hR 1) (hS (hS (hR 3) (hC (hS (hR 1) hL) hL)) (hS (hJ (4032, [(11, tB)]) (.region [] (.ops 3 (.split 8 (hO 3) (.skips 2 (hO 1))))) (hC (hS (hS (hR 4) (hC (hS (hR 1) hL) hL)) (hS (hR 1) hL)) hL)) (hS (.block (hS (hR 3) (hC (hS (hR 3) hL) (hS (hR 3) (hC (hS (hR 3) hL) hL))))) (hS (hR 3) hL)))))
theorem Dr1 {a0 : Int} {K : Int -> Wp} {w : World} (h : F125 a0 K w) : Aa Tryz.prog 125 #[(vI a0)] rI K w := tied Ai Tryz.func125 Dd0 _ h
def F172 (a0 : Int) (K : Bool -> Wp) : Wp := sif (decide (a0 >= 0)) ( sif (decide (a0 <= 1114111)) ( sif (decide (a0 < 55296)) ( K true) ( K (decide (a0 > 57343)))) ( K false)) ( K false)
def Cz7 : Hint := (hS (hR 1) (hS (.region [] (.ops 3 (.split 5 (.ops 4 (.split 9 (.ops 3 (.split 12 (.skips 2 (hO 3)) (hO 5))) (.skips 6 (hO 2)))) (.skips 2 (.ops 2 (.skips 6 (hO 2))))))) hL))
theorem Dn8 {a0 : Int} {K : Bool -> Wp} {w : World} (h : F172 a0 K w) : Aa Tryz.prog 172 #[(vI a0)] rB K w := tied Ai Tryz.func172 Cz7 _ h
def F176 (a0 : Int) (K : Int -> Wp) : Wp := jB (λ J1 => sif (a0 == 2381) ( J1 (true, ())) ( sif (a0 == 2509) ( J1 (true, ())) ( sif (a0 == 2765) ( J1 (true, ())) ( sif (a0 == 2893) ( J1 (true, ())) ( sif (a0 == 3149) ( J1 (true, ())) ( J1 ((a0 == 3405), ()))))))) λ s2 => sif s2.1 ( K 3) ( cN 125 #[(vI a0)] λ x3 => jB (λ J4 => sif (x3 == 4) ( J4 ((a0 != 8204), ())) ( sif (x3 == 5) ( J4 ((a0 != 8204), ())) ( J4 (false, ())))) λ s5 => sif s5.1 ( K 2) ( cB 200 #[(vI a0)] λ x6 => sif x6 ( K 1) ( K 0)))
def Cz6 : Hint := (hS (hR 1) (hS (hJ (67108848, [(25, tB)]) (.region [] (.ops 3 (.split 6 (.skips 2 (.ops 2 (.skips 2 (.ops 2 (.skips 2 (.ops 2 (.skips 2 (.ops 2 (.skips 2 (hO 1)))))))))) (.ops 4 (.split 10 (.skips 2 (.ops 2 (.skips 2 (.ops 2 (.skips 2 (.ops 2 (.skips 2 (hO 1)))))))) (.ops 4 (.split 14 (.skips 2 (.ops 2 (.skips 2 (.ops 2 (.skips 2 (hO 1)))))) (.ops 4 (.split 18 (.skips 2 (.ops 2 (.skips 2 (hO 1)))) (.ops 4 (.split 22 (.skips 2 (hO 1)) (hO 3)))))))))))) (hC (hS (hR 1) hL) hL)) (hS (hR 3) (hS (hJ (0x3ff0000000, [(37, tB)]) (.region [] (.ops 3 (.split 30 (.skips 2 (hO 5)) (.ops 4 (.split 34 (hO 3) (.skips 2 (hO 1))))))) (hC (hS (hR 1) hL) hL)) (hS (hS (hR 2) (hC (hS (hR 1) hL) hL)) (hS (hR 1) hL))))))
theorem Dn7 {a0 : Int} {K : Int -> Wp} {w : World} (h : F176 a0 K w) : Aa Tryz.prog 176 #[(vI a0)] rI K w := tied Ai Tryz.func176 Cz6 _ h
end Go.Proofs.YtolhlldgnfbemaaGreatDoor
namespace Go.Proofs.YtolhlldgnfbemaaGreatDoor
open Go Go.Vx Cdc Gly
namespace Rgl
def Qc (a : Int) (J : Bool × Unit -> Wp) : List (Bool × Int × Int) -> World -> Prop
 | [] => J (false, ())
 | [(true, v, _)] => J ((a == v), ())
 | [(false, l, h)] => sif (decide (a >= l)) (J ((decide (a <= h)), ())) (J (false, ()))
 | (true, v, _) :: x :: r => sif (a == v) (J ((a == v), ())) (Qc a J (x :: r))
 | (false, l, h) :: x :: r => join (S := Bool × Unit) (λ J3 => sif (decide (a >= l)) (J3 ((decide (a <= h)), ())) (J3 (false, ()))) λ s => sif s.1 (J (s.1, ())) (Qc a J (x :: r))
def Ad6 (a : Int) (K : Int -> Wp) (d : Int) : List (List (Bool × Int × Int) × Int) -> World -> Prop
 | [] => K d
 | ([(true, v, _)], n) :: r => sif (a == v) (K n) (Ad6 a K d r)
 | (ch, n) :: r => join (S := Bool × Unit) (λ J => Qc a J ch) λ s => sif s.1 (K n) (Ad6 a K d r)
def inR (a : Int) (x : Bool × Int × Int) : Bool := if x.1 then a == x.2.1 else decide (x.2.1 <= a) && decide (a <= x.2.2)
def Gt (a : Int) (ch : List (Bool × Int × Int)) : Bool := ch.any (inR a)
def Yy (a d : Int) : List (List (Bool × Int × Int) × Int) -> Int
 | [] => d
 | (ch, n) :: r => if Gt a ch then n else Yy a d r
variable {w : World}
theorem U4 {a : Int} {J : Bool × Unit -> Wp} : ∀ {ch : List (Bool × Int × Int)}, J (Gt a ch, ()) w -> Qc a J ch w
 | [], h => h
 | [(true, v, _)], h => by
  have e : Gt a [(true, v, ‹Int›)] = (a == v) := by simp [Gt, inR]
  rw [e] at h; exact h
 | [(false, l, u)], h => by
  have e : Gt a [(false, l, u)] = (decide (l <= a) && decide (a <= u)) := by simp [Gt, inR]
  rw [e] at h
  refine Ac (λ h1 => ?_) (λ h1 => ?_)
  ·simp only [decide_eq_true_eq, ge_iff_le] at h1
   rw [decide_eq_true h1, Bool.true_and] at h; exact h
  ·simp only [decide_eq_false_iff_not, ge_iff_le] at h1
   rw [decide_eq_false h1, Bool.false_and] at h; exact h
 | (true, v, u) :: x :: r, h => by
  have e : Gt a ((true, v, u) :: x :: r) = ((a == v) || Gt a (x :: r)) := by simp [Gt, inR]
  rw [e] at h
  refine Ac (λ h1 => ?_) (λ h1 => ?_)
  ·have h1 : (a == v) = true := h1
   rw [h1, Bool.true_or] at h
   rw [h1]; exact h
  ·have h1 : (a == v) = false := h1
   rw [h1, Bool.false_or] at h
   exact U4 h
 | (false, l, u) :: x :: r, h => by
  have e : Gt a ((false, l, u) :: x :: r) = ((decide (l <= a) && decide (a <= u)) || Gt a (x :: r)) := by simp [Gt, inR]
  rw [e] at h
  refine Ae (λ y W => y = ((decide (l <= a) && decide (a <= u)), ()) /\ w = W) (Ac (λ h1 => ?_) (λ h1 => ?_)) ?_
  ·simp only [decide_eq_true_eq, ge_iff_le] at h1
   rw [decide_eq_true h1, Bool.true_and]; exact ⟨rfl, rfl⟩
  ·simp only [decide_eq_false_iff_not, ge_iff_le] at h1
   rw [decide_eq_false h1, Bool.false_and]; exact ⟨rfl, rfl⟩
  rintro _ _ ⟨rfl, rfl⟩
  refine Ac (λ h1 => ?_) (λ h1 => ?_)
  ·have h1 : (decide (l <= a) && decide (a <= u)) = true := h1
   rw [h1, Bool.true_or] at h
   show J ((decide (l <= a) && decide (a <= u)), ()) w
   rw [h1]; exact h
  ·have h1 : (decide (l <= a) && decide (a <= u)) = false := h1
   rw [h1, Bool.false_or] at h
   exact U4 h
theorem Ab4 {a d n : Int} {K : Int -> Wp} {ch : List (Bool × Int × Int)} {r : List (List (Bool × Int × Int) × Int)} (ih : K (Yy a d r) w -> Ad6 a K d r w) (h : K (Yy a d ((ch, n) :: r)) w) :
  join (S := Bool × Unit) (λ J => Qc a J ch) (λ s => sif s.1 (K n) (Ad6 a K d r)) w := by
 refine Ae (λ x W => x = (Gt a ch, ()) /\ w = W) (U4 ⟨rfl, rfl⟩) ?_
 rintro _ _ ⟨rfl, rfl⟩
 rw [Yy] at h
 refine Ac (λ h1 => ?_) (λ h1 => ?_)
 ·have h1 : Gt a ch = true := h1
  rw [if_pos h1] at h; exact h
 ·have h1 : Gt a ch = false := h1
  rw [if_neg (by rw [h1]; decide)] at h; exact ih h
theorem Ab3 {a d : Int} {K : Int -> Wp} : ∀ {T : List (List (Bool × Int × Int) × Int)}, K (Yy a d T) w -> Ad6 a K d T w
 | [], h => h
 | ([(true, v, u)], n) :: r, h => by
  rw [Yy] at h
  have e : Gt a [(true, v, u)] = (a == v) := by simp [Gt, inR]
  rw [e] at h
  refine Ac (λ h1 => ?_) (λ h1 => ?_)
  ·have h1 : (a == v) = true := h1
   rw [if_pos h1] at h; exact h
  ·have h1 : (a == v) = false := h1
   rw [if_neg (by rw [h1]; decide)] at h; exact Ab3 h
 | ([], n) :: r, h => Ab4 Ab3 h
 | ([(false, l, u)], n) :: r, h => Ab4 Ab3 h
 | (x :: y :: z, n) :: r, h => by
  have : Ad6 a K d ((x :: y :: z, n) :: r) = join (S := Bool × Unit) (λ J => Qc a J (x :: y :: z)) λ s => sif s.1 (K n) (Ad6 a K d r) := by
   obtain ⟨b, l, u⟩ := x
   cases b <;> rfl
  rw [this]
  exact Ab4 Ab3 h
def rr2 : List Nat -> List (Bool × Int × Int)
  | a :: b :: r => (Nat.beq a b, a, b) :: rr2 r
  | _ => []
def rC1 : List (List (Bool × Int × Int) × Int) := [(rr2 [13,13], 1), (rr2 [10,10], 2), (rr2 [0,9,11,12,14,31,127,159,173,173,1564,1564], 3), (rr2 [768,879,1155,1161,1425,1469,1471,1471,1473,1474,1476,1477,1479,1479,1552,1562,1611,1631,1648,1648,1750,1756,1759,1764,1767,1768,1770,1773,1809,1809,1840,1866,1958,1968,2027,2035,2045,2045,2070,2073,2075,2083,2085,2087,2089,2093,2137,2139,2200,2207,2250,2273,2275,2306,2362,2362,2364,2364,2369,2376,2381,2381,2385,2391,2402,2403,2433,2433,2492,2492,2494,2494,2497,2500,2509,2509,2519,2519,2530,2531,2558,2558,2561,2562,2620,2620,2625,2626,2631,2632,2635,2637,2641,2641,2672,2673,2677,2677,2689,2690,2748,2748,2753,2757,2759,2760,2765,2765,2786,2787,2810,2815,2817,2817,2876,2876,2878,2879,2881,2884,2893,2893,2901,2903,2914,2915,2946,2946,3006,3006,3008,3008,3021,3021,3031,3031,3072,3072], 4), (rr2 [1536,1541,1757,1757,1807,1807,2192,2193,2274,2274], 7), (rr2 [2307,2307,2363,2363,2366,2368,2377,2380,2382,2383,2434,2435,2495,2496,2503,2504,2507,2508,2563,2563,2622,2624,2691,2691,2750,2752,2761,2761,2763,2764,2818,2819,2880,2880,2887,2888,2891,2892,3007,3007,3009,3010,3014,3016,3018,3020,3073,3075], 8), (rr2 [169,169,174,174], 14)]
def rC2 : List (List (Bool × Int × Int) × Int) := [(rr2 [6158,6158,8203,8203,8206,8207,8232,8238,8288,8303], 3), (rr2 [3076,3076,3132,3132,3134,3136,3142,3144,3146,3149,3157,3158,3170,3171,3201,3201,3260,3260,3263,3263,3266,3266,3270,3270,3276,3277,3285,3286,3298,3299,3328,3329,3387,3388,3390,3390,3393,3396,3405,3405,3415,3415,3426,3427,3457,3457,3530,3530,3535,3535,3538,3540,3542,3542,3551,3551,3633,3633,3636,3642,3655,3662,3761,3761,3764,3772,3784,3790,3864,3865,3893,3893,3895,3895,3897,3897,3953,3966,3968,3972,3974,3975,3981,3991,3993,4028,4038,4038,4141,4144,4146,4151,4153,4154,4157,4158,4184,4185,4190,4192,4209,4212,4226,4226,4229,4230,4237,4237,4253,4253,4957,4959,6068,6069,6071,6077,6086,6086,6089,6099,6109,6109,6155,6157,6159,6159,6313,6313,6832,6862,7616,7679,8204,8204,8400,8432], 4), (rr2 [8205,8205], 5), (rr2 [3406,3406], 7), (rr2 [3137,3140,3202,3203,3262,3262,3264,3265,3267,3268,3271,3272,3274,3275,3315,3315,3330,3331,3391,3392,3398,3400,3402,3404,3458,3459,3536,3537,3544,3550,3570,3571,3635,3635,3763,3763,3902,3903,3967,3967,4145,4145,4155,4156,4182,4183,4228,4228,6070,6070,6078,6085,6087,6088], 8), (rr2 [4352,4447], 9), (rr2 [4448,4519], 10), (rr2 [4520,4607], 11), (rr2 [8252,8252,8265,8265,8482,8482], 14)]
def rC3 : List (List (Bool × Int × Int) × Int) := [(rr2 [65279,65279,65520,65531,78896,78911,113824,113827,119155,119162,917504,917535,917632,917759,918000,921599], 3), (rr2 [12330,12335,12441,12442,42607,42610,42612,42621,42654,42655,42736,42737,64286,64286,65024,65039,65056,65071,65438,65439,66045,66045,119141,119141,119143,119145,119150,119154,119163,119170,119173,119179,119210,119213,127995,127999,917536,917631,917760,917999], 4), (rr2 [127462,127487], 6), (rr2 [69821,69821,69837,69837,70082,70083], 7), (rr2 [43360,43388], 9), (rr2 [55216,55238], 10), (rr2 [55243,55291], 11), (rr2 [8505,8505,8596,8601,8617,8618,8986,8987,9000,9000,9096,9096,9167,9167,9193,9203,9208,9210,9410,9410,9642,9643,9654,9654,9664,9664,9723,9726,9728,9733,9735,9746,9748,9861,9872,9989,9992,10002,10004,10004,10006,10006,10013,10013,10017,10017,10024,10024,10035,10036,10052,10052,10055,10055,10060,10060,10062,10062,10067,10069,10071,10071,10083,10087,10133,10135,10145,10145,10160,10160,10175,10175,10548,10549,11013,11015,11035,11036,11088,11088,11093,11093,12336,12336,12349,12349,12951,12951,12953,12953,126976,127231,127245,127247,127279,127279,127340,127345,127358,127359,127374,127374,127377,127386,127405,127461,127489,127503,127514,127514,127535,127535,127538,127546,127548,127551,127561,127994,128000,128317,128326,128591,128640,128767,128884,128895,128981,129023,129036,129039,129096,129103,129114,129119,129160,129167,129198,129279,129292,129338,129340,129349,129351,129791,130048,131069], 14)]
def Zl : List (Bool × Int × Int) := rr2 [2325,2361,2392,2399,2424,2431,2453,2472,2474,2480,2482,2482,2486,2489,2524,2525,2527,2527,2544,2545,2709,2728,2730,2736,2738,2739,2741,2745,2809,2809,2837,2856,2858,2864,2866,2867,2869,2873,2908,2909,2911,2911,2929,2929,3093,3112,3114,3129,3160,3162,3349,3386]
def O8 : List (Bool × Int × Int) := [(false, 9, 13), (true, 32, 32), (true, 133, 133), (true, 160, 160), (true, 5760, 5760), (false, 8192, 8202), (false, 8232, 8233), (true, 8239, 8239), (true, 8287, 8287), (true, 12288, 12288)]
def Zk : List (Bool × Int × Int) := rr2 [48,57,65,90,95,95,97,122,170,170,181,181,186,186,192,214,216,246,248,705,768,884,886,893,895,895,902,902,904,1013,1015,1153,1155,1327,1329,1366,1376,1416,1425,1469,1488,1514,1552,1562,1568,1641,1646,1747,1749,1756,1759,1768,1770,1788,1808,1866,2304,2403,2406,2415,2417,3571,3585,3642,3648,3662,3664,3673,3713,3807,3864,3897,3904,3972,3984,4028,4096,4169,4176,4253,4256,4346,4348,4607,4608,4959,6016,6099,7680,8188,8486,8486,8490,8491,8544,8584,12293,12295,12321,12335,12353,12438,12441,12442,12445,12447,12449,12538,12540,12543,12549,12591,12593,12686,13312,19903,19968,40959,43360,43388,44032,55203,55216,55291,63744,64255,64285,64335,65296,65305,65313,65338,65345,65370,65382,65500,66560,66639,131072,195103,196608,205743]
def slN : List (Bool × Int × Int) -> Nat
 | [] => 0
 | x :: r => (if x.1 then 2 else 6) + slN r
def rgH (b : Nat) : Hint := .region [] (.ops 3 (.split (b + 2) (.ops 4 .done) (.skips 2 (.ops 2 .done))))
def sgH : Hint := .region [] (.ops 3 .done)
def chH (o : Nat) : List (Bool × Int × Int) -> Nat -> Hint
 | [], _ => .leaf
 | [x], b => if x.1 then sgH else rgH b
 | x :: y :: r, b => if x.1 then .seq none sgH (.cond none .leaf (chH o (y :: r) (b + 2))) else .seq (some (2 ^ (b + 6) - 2 ^ b + 2 ^ o, [(o, .one .bool)])) (rgH b) (.cond none .leaf (chH o (y :: r) (b + 6)))
def rtH : Hint := .seq none (.region [] (.ops 1 .done)) .leaf
def csH : List (List (Bool × Int × Int) × Int) -> Nat -> Hint
 | [], _ => .leaf
 | ([(true, _)], _) :: r, o => .seq none sgH (.cond none rtH (csH r (o + 3)))
 | (ch, _) :: r, o => .seq (some (2 ^ (o + 1 + slN ch) - 2 ^ o, [(o, .one .bool)])) (chH o ch (o + 1)) (.cond none rtH (csH r (o + 1 + slN ch)))
def tbH (T : List (List (Bool × Int × Int) × Int)) : Hint := .seq none (.region [] (.ops 1 .done)) (.seq none (.block (csH T 3)) rtH)
theorem Cg2 {a : Int} {K : Int -> Wp} (h : K (Yy a 0 rC1) w) : Aa Tryz.prog 173 #[.int .i64 a] rI K w := by
 have e : Aj0 tab Tryz.prog Tryz.f173 (tbH rC1) [.int .i64 a] (.one (.one (.int .i64))) K = Ad6 a K 0 rC1 := by kernel_rfl
 exact Hu Ai Tryz.func173 (tbH rC1) [.int .i64 a] (.one (.one (.int .i64))) K w (by rw [e]; exact Ab3 h)
theorem Cg1 {a : Int} {K : Int -> Wp} (h : K (Yy a 0 rC2) w) : Aa Tryz.prog 174 #[.int .i64 a] rI K w := by
 have e : Aj0 tab Tryz.prog Tryz.f174 (tbH rC2) [.int .i64 a] (.one (.one (.int .i64))) K = Ad6 a K 0 rC2 := by kernel_rfl
 exact Hu Ai Tryz.func174 (tbH rC2) [.int .i64 a] (.one (.one (.int .i64))) K w (by rw [e]; exact Ab3 h)
theorem Cg0 {a : Int} {K : Int -> Wp} (h : K (Yy a 0 rC3) w) : Aa Tryz.prog 175 #[.int .i64 a] rI K w := by
 have e : Aj0 tab Tryz.prog Tryz.f175 (tbH rC3) [.int .i64 a] (.one (.one (.int .i64))) K = Ad6 a K 0 rC3 := by kernel_rfl
 exact Hu Ai Tryz.func175 (tbH rC3) [.int .i64 a] (.one (.one (.int .i64))) K w (by rw [e]; exact Ab3 h)
theorem Bd1 {a : Int} {K : Bool -> Wp} {ch : List (Bool × Int × Int)} (h : K (Gt a ch) w) : join (S := Bool × Unit) (λ J => Qc a J ch) (λ s => sif s.1 (K true) (K false)) w := by
 refine Ae (λ x W => x = (Gt a ch, ()) /\ w = W) (U4 ⟨rfl, rfl⟩) ?_
 rintro _ _ ⟨rfl, rfl⟩
 refine Ac (λ h1 => ?_) (λ h1 => ?_)
 ·have h1 : Gt a ch = true := h1
  rw [h1] at h; exact h
 ·have h1 : Gt a ch = false := h1
  rw [h1] at h; exact h
theorem Bn4 {a : Int} {K : Bool -> Wp} (h : K (Gt a Zl) w) : Aa Tryz.prog 200 #[.int .i64 a] rB K w := by
 have e : Aj0 tab Tryz.prog Tryz.f200 (tbH [(Zl, 1)]) [.int .i64 a] (.one (.one .bool)) K = join (S := Bool × Unit) (λ J => Qc a J Zl) λ s => sif s.1 (K true) (K false) := by kernel_rfl
 exact Hu Ai Tryz.func200 (tbH [(Zl, 1)]) [.int .i64 a] (.one (.one .bool)) K w (by rw [e]; exact Bd1 h)
theorem Bn5 {a : Int} {K : Bool -> Wp} (h : K (Gt a O8) w) : Aa Tryz.prog 76 #[.int .i64 a] rB K w := by
 have e : Aj0 tab Tryz.prog Tryz.f76 (tbH [(O8, 1)]) [.int .i64 a] (.one (.one .bool)) K = join (S := Bool × Unit) (λ J => Qc a J O8) λ s => sif s.1 (K true) (K false) := by kernel_rfl
 exact Hu Ai Tryz.func76 (tbH [(O8, 1)]) [.int .i64 a] (.one (.one .bool)) K w (by rw [e]; exact Bd1 h)
theorem Bn3 {a : Int} {K : Bool -> Wp} (h : K (Gt a Zk) w) : Aa Tryz.prog 77 #[.int .i64 a] rB K w := by
 have e : Aj0 tab Tryz.prog Tryz.f77 (tbH [(Zk, 1)]) [.int .i64 a] (.one (.one .bool)) K = join (S := Bool × Unit) (λ J => Qc a J Zk) λ s => sif s.1 (K true) (K false) := by kernel_rfl
 exact Hu Ai Tryz.func77 (tbH [(Zk, 1)]) [.int .i64 a] (.one (.one .bool)) K w (by rw [e]; exact Bd1 h)
end Rgl
end Go.Proofs.YtolhlldgnfbemaaGreatDoor
namespace Go.Proofs.YtolhlldgnfbemaaGreatDoor
open Cdc Gly
namespace Rgl
def rl3 : List Nat -> List Row
  | a :: b :: c :: r => ⟨a, b, c⟩ :: rl3 r
  | _ => []
def Ad5 : List Row := rl3 [0,9,3,10,10,2,11,12,3,13,13,1,14,31,3,127,159,3,169,169,14,173,173,3,174,174,14,768,879,4,1155,1161,4,1425,1469,4,1471,1471,4,1473,1474,4,1476,1477,4,1479,1479,4,1536,1541,7,1552,1562,4,1564,1564,3,1611,1631,4,1648,1648,4,1750,1756,4,1757,1757,7,1759,1764,4,1767,1768,4,1770,1773,4,1807,1807,7,1809,1809,4,1840,1866,4,1958,1968,4,2027,2035,4,2045,2045,4,2070,2073,4,2075,2083,4,2085,2087,4,2089,2093,4,2137,2139,4,2192,2193,7,2200,2207,4,2250,2273,4,2274,2274,7,2275,2306,4,2307,2307,8,2362,2362,4,2363,2363,8,2364,2364,4,2366,2368,8,2369,2376,4,2377,2380,8,2381,2381,4,2382,2383,8,2385,2391,4,2402,2403,4,2433,2433,4,2434,2435,8,2492,2492,4,2494,2494,4,2495,2496,8,2497,2500,4,2503,2504,8,2507,2508,8,2509,2509,4,2519,2519,4,2530,2531,4,2558,2558,4,2561,2562,4,2563,2563,8,2620,2620,4,2622,2624,8,2625,2626,4,2631,2632,4,2635,2637,4,2641,2641,4,2672,2673,4,2677,2677,4,2689,2690,4,2691,2691,8,2748,2748,4,2750,2752,8,2753,2757,4,2759,2760,4,2761,2761,8,2763,2764,8,2765,2765,4,2786,2787,4,2810,2815,4,2817,2817,4,2818,2819,8,2876,2876,4,2878,2879,4,2880,2880,8,2881,2884,4,2887,2888,8,2891,2892,8,2893,2893,4,2901,2903,4,2914,2915,4,2946,2946,4,3006,3006,4,3007,3007,8,3008,3008,4,3009,3010,8,3014,3016,8,3018,3020,8,3021,3021,4,3031,3031,4,3072,3072,4,3073,3075,8,3076,3076,4,3132,3132,4,3134,3136,4,3137,3140,8,3142,3144,4,3146,3149,4,3157,3158,4,3170,3171,4,3201,3201,4,3202,3203,8,3260,3260,4,3262,3262,8,3263,3263,4,3264,3265,8,3266,3266,4,3267,3268,8,3270,3270,4,3271,3272,8,3274,3275,8,3276,3277,4,3285,3286,4,3298,3299,4,3315,3315,8,3328,3329,4,3330,3331,8,3387,3388,4,3390,3390,4,3391,3392,8,3393,3396,4,3398,3400,8,3402,3404,8,3405,3405,4,3406,3406,7,3415,3415,4,3426,3427,4,3457,3457,4,3458,3459,8,3530,3530,4,3535,3535,4,3536,3537,8,3538,3540,4,3542,3542,4,3544,3550,8,3551,3551,4,3570,3571,8,3633,3633,4,3635,3635,8,3636,3642,4,3655,3662,4,3761,3761,4,3763,3763,8,3764,3772,4,3784,3790,4,3864,3865,4,3893,3893,4,3895,3895,4,3897,3897,4,3902,3903,8,3953,3966,4,3967,3967,8,3968,3972,4,3974,3975,4,3981,3991,4,3993,4028,4,4038,4038,4,4141,4144,4,4145,4145,8,4146,4151,4,4153,4154,4,4155,4156,8,4157,4158,4,4182,4183,8,4184,4185,4,4190,4192,4,4209,4212,4,4226,4226,4,4228,4228,8,4229,4230,4,4237,4237,4,4253,4253,4,4352,4447,9,4448,4519,10,4520,4607,11,4957,4959,4,6068,6069,4,6070,6070,8,6071,6077,4,6078,6085,8,6086,6086,4,6087,6088,8,6089,6099,4,6109,6109,4,6155,6157,4,6158,6158,3,6159,6159,4,6313,6313,4,6832,6862,4,7616,7679,4,8203,8203,3,8204,8204,4,8205,8205,5,8206,8207,3,8232,8238,3,8252,8252,14,8265,8265,14,8288,8303,3,8400,8432,4,8482,8482,14,8505,8505,14,8596,8601,14,8617,8618,14,8986,8987,14,9000,9000,14,9096,9096,14,9167,9167,14,9193,9203,14,9208,9210,14,9410,9410,14,9642,9643,14,9654,9654,14,9664,9664,14,9723,9726,14,9728,9733,14,9735,9746,14,9748,9861,14,9872,9989,14,9992,10002,14,10004,10004,14,10006,10006,14,10013,10013,14,10017,10017,14,10024,10024,14,10035,10036,14,10052,10052,14,10055,10055,14,10060,10060,14,10062,10062,14,10067,10069,14,10071,10071,14,10083,10087,14,10133,10135,14,10145,10145,14,10160,10160,14,10175,10175,14,10548,10549,14,11013,11015,14,11035,11036,14,11088,11088,14,11093,11093,14,12330,12335,4,12336,12336,14,12349,12349,14,12441,12442,4,12951,12951,14,12953,12953,14,42607,42610,4,42612,42621,4,42654,42655,4,42736,42737,4,43360,43388,9,55216,55238,10,55243,55291,11,64286,64286,4,65024,65039,4,65056,65071,4,65279,65279,3,65438,65439,4,65520,65531,3,66045,66045,4,69821,69821,7,69837,69837,7,70082,70083,7,78896,78911,3,113824,113827,3,119141,119141,4,119143,119145,4,119150,119154,4,119155,119162,3,119163,119170,4,119173,119179,4,119210,119213,4,126976,127231,14,127245,127247,14,127279,127279,14,127340,127345,14,127358,127359,14,127374,127374,14,127377,127386,14,127405,127461,14,127462,127487,6,127489,127503,14,127514,127514,14,127535,127535,14,127538,127546,14,127548,127551,14,127561,127994,14,127995,127999,4,128000,128317,14,128326,128591,14,128640,128767,14,128884,128895,14,128981,129023,14,129036,129039,14,129096,129103,14,129114,129119,14,129160,129167,14,129198,129279,14,129292,129338,14,129340,129349,14,129351,129791,14,130048,131069,14,917504,917535,3,917536,917631,4,917632,917759,3,917760,917999,4,918000,921599,3]
def Ba5 : List Row := rl3 [2325,2361,1,2392,2399,1,2424,2431,1,2453,2472,1,2474,2480,1,2482,2482,1,2486,2489,1,2524,2525,1,2527,2527,1,2544,2545,1,2709,2728,1,2730,2736,1,2738,2739,1,2741,2745,1,2809,2809,1,2837,2856,1,2858,2864,1,2866,2867,1,2869,2873,1,2908,2909,1,2911,2911,1,2929,2929,1,3093,3112,1,3114,3129,1,3160,3162,1,3349,3386,1]
def Cr1 : List Row := rl3 [9,13,1,32,32,1,48,57,2,65,90,2,95,95,2,97,122,2,133,133,1,160,160,1,170,170,2,181,181,2,186,186,2,192,214,2,216,246,2,248,705,2,768,884,2,886,893,2,895,895,2,902,902,2,904,1013,2,1015,1153,2,1155,1327,2,1329,1366,2,1376,1416,2,1425,1469,2,1488,1514,2,1552,1562,2,1568,1641,2,1646,1747,2,1749,1756,2,1759,1768,2,1770,1788,2,1808,1866,2,2304,2403,2,2406,2415,2,2417,3571,2,3585,3642,2,3648,3662,2,3664,3673,2,3713,3807,2,3864,3897,2,3904,3972,2,3984,4028,2,4096,4169,2,4176,4253,2,4256,4346,2,4348,4607,2,4608,4959,2,5760,5760,1,6016,6099,2,7680,8188,2,8192,8202,1,8232,8233,1,8239,8239,1,8287,8287,1,8486,8486,2,8490,8491,2,8544,8584,2,12288,12288,1,12293,12295,2,12321,12335,2,12353,12438,2,12441,12442,2,12445,12447,2,12449,12538,2,12540,12543,2,12549,12591,2,12593,12686,2,13312,19903,2,19968,40959,2,43360,43388,2,44032,55203,2,55216,55291,2,63744,64255,2,64285,64335,2,65296,65305,2,65313,65338,2,65345,65370,2,65382,65500,2,66560,66639,2,131072,195103,2,196608,205743,2]
theorem Bh8 : Cn7 = Ad5 := by kernel_rfl
theorem Bh7 : Ci0 = Ba5 := by kernel_rfl
theorem Cc2 : Bi7 = Cr1 := by kernel_rfl
theorem greatest : ∀ (L : List Nat) (s n : Nat), s <= n -> ∃ b, (b = s \/ b ∈ L) /\ s <= b /\ b <= n /\ ∀ c ∈ L, c <= n -> c <= b
 | [], s, n, h => ⟨s, .inl rfl, Nat.le_refl _, h, λ c hc => by cases hc⟩
 | x :: L, s, n, h => by
  obtain ⟨b, h1, h2, h3, h4⟩ := greatest L s n h
  by_cases hx : x <= n /\ b < x
  ·exact ⟨x, .inr List.mem_cons_self, by omega, hx.1, λ c hc hcn => by
    rcases List.mem_cons.1 hc with rfl | hc
    ·exact Nat.le_refl _
    ·have := h4 c hc hcn; omega⟩
  ·exact ⟨b, h1.imp id (List.mem_cons_of_mem _), h2, h3, λ c hc hcn => by
    rcases List.mem_cons.1 hc with rfl | hc
    ·omega
    ·exact h4 c hc hcn⟩
def ends (T : List Row) : List Nat := T.flatMap λ r => [r.lo, r.hi + 1]
theorem Qq : ∀ {T : List Row} {b n : Nat}, b <= n -> (∀ c ∈ ends T, c <= n -> c <= b) -> Ja T n = Ja T b
 | [], _, _, _, _ => rfl
 | r :: T, b, n, hb, h => by
  have h1 : r.lo <= n -> r.lo <= b := h r.lo (by simp [ends])
  have h2 : r.hi + 1 <= n -> r.hi + 1 <= b := h (r.hi + 1) (by simp [ends])
  have ih := Qq (T := T) hb λ c hc => h c (by
   unfold ends at hc ⊢
   rw [List.flatMap_cons]
   exact List.mem_append_right _ hc)
  have e : (Nat.ble r.lo n && Nat.ble n r.hi) = (Nat.ble r.lo b && Nat.ble b r.hi) := by
   rw [Bool.eq_iff_iff]
   simp only [Bool.and_eq_true, Nat.ble_eq]
   omega
  rw [Ja, Ja, e, ih]
def chk (A B : List Row) (s e : Nat) : Bool := (s :: (ends A ++ ends B)).all λ b => !(Nat.ble s b && Nat.ble (b + 1) e) || Nat.beq (Ja A b) (Ja B b)
theorem Xt {A B : List Row} {s e : Nat} (h : chk A B s e = true) {n : Nat} (h1 : s <= n) (h2 : n < e) : Ja A n = Ja B n := by
 obtain ⟨b, hb, g1, g2, g3⟩ := greatest (ends A ++ ends B) s n h1
 have hm : b ∈ s :: (ends A ++ ends B) := by
  rcases hb with rfl | hb
  ·exact List.mem_cons_self
  ·exact List.mem_cons_of_mem _ hb
 have := List.all_eq_true.1 h b hm
 simp only [Bool.or_eq_true, Bool.not_eq_true', Bool.and_eq_false_iff, Nat.beq_eq_true_eq] at this
 rw [Qq g2 λ c hc => g3 c (List.mem_append_left _ hc), Qq g2 λ c hc => g3 c (List.mem_append_right _ hc)]
 rcases this with (h | h) | h
 ·have : Nat.ble s b = true := by rw [Nat.ble_eq]; exact g1
  rw [this] at h; cases h
 ·have : Nat.ble (b + 1) e = true := by rw [Nat.ble_eq]; omega
  rw [this] at h; cases h
 ·exact Nat.eq_of_beq_eq_true h
def Xv (ch : List (Bool × Int × Int)) (n : Nat) : List Row := ch.map λ x => ⟨x.2.1.toNat, x.2.2.toNat, n⟩
def W9 (T : List (List (Bool × Int × Int) × Int)) : List Row := T.flatMap λ p => Xv p.1 p.2.toNat
def Bl9 (ch : List (Bool × Int × Int)) : Bool := ch.all λ x => decide (0 <= x.2.1) && decide (0 <= x.2.2) && (!x.1 || x.2.1 == x.2.2)
def Bu3 (T : List (List (Bool × Int × Int) × Int)) : Bool := T.all λ p => decide (0 <= p.2) && Bl9 p.1
theorem Cf6 {a : Int} (ha : 0 <= a) {x : Bool × Int × Int} (h : (decide (0 <= x.2.1) && decide (0 <= x.2.2) && (!x.1 || x.2.1 == x.2.2)) = true) : inR a x = (Nat.ble x.2.1.toNat a.toNat && Nat.ble a.toNat x.2.2.toNat) := by
 obtain ⟨b, l, u⟩ := x
 simp only [Bool.and_eq_true, decide_eq_true_eq, Bool.or_eq_true, Bool.not_eq_true', beq_iff_eq] at h
 unfold inR
 rw [Bool.eq_iff_iff]
 cases b with
 | true =>
  simp only [if_true, beq_iff_eq, Bool.and_eq_true, Nat.ble_eq]
  have : l = u := by rcases h.2 with h | h; cases h; exact h
  omega
 | false =>
  simp only [Bool.false_eq_true, if_false, Bool.and_eq_true, decide_eq_true_eq, Nat.ble_eq]
  omega
theorem Oh {a : Int} (ha : 0 <= a) (n : Nat) (R : List Row) : ∀ {ch : List (Bool × Int × Int)}, Bl9 ch = true -> Ja (Xv ch n ++ R) a.toNat = if Gt a ch then n else Ja R a.toNat
 | [], _ => rfl
 | x :: ch, h => by
  unfold Bl9 at h
  rw [List.all_cons, Bool.and_eq_true] at h
  have e := Cf6 ha h.1
  have ih := Oh ha n R (ch := ch) h.2
  have e2 : Xv (x :: ch) n ++ R = ⟨x.2.1.toNat, x.2.2.toNat, n⟩ :: (Xv ch n ++ R) := rfl
  have e3 : Gt a (x :: ch) = (inR a x || Gt a ch) := rfl
  rw [e2, Ja, ih, e3, ← e]
  cases inR a x <;> simp
theorem Yx {a : Int} (ha : 0 <= a) : ∀ {T : List (List (Bool × Int × Int) × Int)}, Bu3 T = true -> Yy a 0 T = (Ja (W9 T) a.toNat : Nat)
 | [], _ => rfl
 | (ch, n) :: T, h => by
  unfold Bu3 at h
  rw [List.all_cons, Bool.and_eq_true, Bool.and_eq_true, decide_eq_true_eq] at h
  have ih := Yx ha (T := T) h.2
  have e2 : W9 ((ch, n) :: T) = Xv ch n.toNat ++ W9 T := rfl
  rw [Yy, e2, Oh ha n.toNat (W9 T) h.1.2, ih]
  split
  ·have := h.1.1; dsimp only at this; omega
  ·rfl
theorem ok1 : Bu3 rC1 = true := by kernel_rfl
theorem ok2 : Bu3 rC2 = true := by kernel_rfl
theorem ok3 : Bu3 rC3 = true := by kernel_rfl
theorem Cq1 : Bl9 Zl = true := by kernel_rfl
theorem Cq2 : Bl9 O8 = true := by kernel_rfl
theorem Cq0 : Bl9 Zk = true := by kernel_rfl
theorem Df1 : chk Ad5 (W9 rC1) 0 3076 = true := by kernel_rfl
theorem Df0 : chk Ad5 (W9 rC2) 3076 8505 = true := by kernel_rfl
theorem De9 : chk Ad5 (W9 rC3) 8505 1114112 = true := by kernel_rfl
theorem Cn9 : chk Ba5 (Xv Zl 1) 0 1114112 = true := by kernel_rfl
theorem Cn8 : chk Cr1 (Xv O8 1 ++ Xv Zk 2) 0 1114112 = true := by kernel_rfl
end Rgl
end Go.Proofs.YtolhlldgnfbemaaGreatDoor
namespace Go.Proofs.YtolhlldgnfbemaaGreatDoor
open Go Go.Vx Cdc Gly Rgl
namespace Rgl
theorem Ci1 {a : Int} (hs : Scalar a) (hh : ¬ (44032 <= a /\ a < 55204)) : (cls a : Int) = if a < 3076 then Yy a 0 rC1 else if a < 8505 then Yy a 0 rC2 else Yy a 0 rC3 := by
 have ha : 0 <= a := by rcases hs with h | h <;> omega
 have hb : a.toNat < 1114112 := by rcases hs with h | h <;> omega
 have e : cls a = Ja Ad5 a.toNat := by unfold cls; rw [if_pos hs, if_neg hh, Bh8]
 rw [e]
 split
 ·rw [Yx ha ok1, Xt Df1 (Nat.zero_le _) (by omega)]
 ·split
  ·rw [Yx ha ok2, Xt Df0 (by omega) (by omega)]
  ·rw [Yx ha ok3, Xt De9 (by omega) (by omega)]
theorem An0 {a : Int} (hs : Scalar a) : Ja Ci0 a.toNat = if Gt a Zl then 1 else 0 := by
 have ha : 0 <= a := by rcases hs with h | h <;> omega
 have hb : a.toNat < 1114112 := by rcases hs with h | h <;> omega
 rw [Bh7, Xt Cn9 (Nat.zero_le _) hb]
 have := Oh ha 1 [] Cq1
 rw [List.append_nil] at this
 exact this
theorem Ch9 : (Zl.all λ x => decide (0 <= x.2.1) && decide (x.2.2 < 44032) && (!x.1 || x.2.1 == x.2.2)) = true := by kernel_rfl
theorem Cn6 {a : Int} (h : Gt a Zl = true) : 0 <= a /\ a < 44032 := by
 obtain ⟨x, hx, h⟩ := List.any_eq_true.1 h
 have := List.all_eq_true.1 Ch9 x hx
 obtain ⟨b, l, u⟩ := x
 simp only [Bool.and_eq_true, decide_eq_true_eq, Bool.or_eq_true, Bool.not_eq_true', beq_iff_eq] at this
 unfold inR at h
 cases b with
 | true => simp at h this; omega
 | false => simp at h; omega
def Cs0 : Bool := (0 :: (ends Ba5 ++ ends Ad5)).all λ b => Nat.beq (Ja Ba5 b) 0 || Nat.beq (Ja Ad5 b) 0
theorem By9 : Cs0 = true := by kernel_rfl
theorem Bo6 {n : Nat} (h : Ja Ba5 n ≠ 0) : Ja Ad5 n = 0 := by
 obtain ⟨b, hb, g1, g2, g3⟩ := greatest (ends Ba5 ++ ends Ad5) 0 n (Nat.zero_le _)
 have hm : b ∈ 0 :: (ends Ba5 ++ ends Ad5) := by
  rcases hb with rfl | hb
  ·exact List.mem_cons_self
  ·exact List.mem_cons_of_mem _ hb
 have := List.all_eq_true.1 By9 b hm
 simp only [Bool.or_eq_true] at this
 rw [Qq g2 λ c hc => g3 c (List.mem_append_left _ hc)] at h
 rw [Qq g2 λ c hc => g3 c (List.mem_append_right _ hc)]
 rcases this with q | q
 ·exact absurd (Nat.eq_of_beq_eq_true q) h
 ·exact Nat.eq_of_beq_eq_true q
theorem Bh6 {a : Int} (h : Gt a Zl = true) : Scalar a /\ cls a = 0 := by
 obtain ⟨h1, h2⟩ := Cn6 h
 have hs : Scalar a := .inl ⟨h1, by omega⟩
 refine ⟨hs, ?_⟩
 have := An0 hs
 rw [h, if_pos rfl, Bh7] at this
 unfold cls
 rw [if_pos hs, if_neg (by omega), Bh8]
 exact Bo6 (by omega)
theorem By3 : Gt 8204 Zl = false := by kernel_rfl
theorem Yw (a : Int) : cnj a = if a = 2381 \/ a = 2509 \/ a = 2765 \/ a = 2893 \/ a = 3149 \/ a = 3405 then 3 else if (cls a = 4 \/ cls a = 5) /\ a ≠ 8204 then 2 else if Gt a Zl then 1 else 0 := by
 unfold cnj
 split
 ·rfl
 by_cases h2 : a = 8204
 ·subst h2
  rw [if_pos rfl, if_neg (λ h => h.2 rfl), By3]; rfl
 ·rw [if_neg h2]
  by_cases h3 : cls a = 4 \/ cls a = 5
  ·rw [if_pos h3, if_pos ⟨h3, h2⟩]
  ·rw [if_neg h3, if_neg (show ¬ ((cls a = 4 \/ cls a = 5) /\ a ≠ 8204) from λ h => h3 h.1)]
   cases h4 : Gt a Zl with
   | true =>
    obtain ⟨g1, g2⟩ := Bh6 h4
    rw [if_pos ⟨g2, g1⟩, An0 g1, h4]
   | false =>
    split
    ·rename_i h5
     rw [An0 h5.2, h4]
    ·rfl
theorem Cc1 : ((O8 ++ Zk).all λ x => decide (0 <= x.2.1) && (decide (x.2.2 < 55296) || (decide (57343 < x.2.1) && decide (x.2.2 < 1114112))) && (!x.1 || x.2.1 == x.2.2)) = true := by kernel_rfl
theorem Bq1 {a : Int} (h : Gt a O8 = true \/ Gt a Zk = true) : Scalar a := by
 obtain ⟨x, hx, h⟩ : ∃ x ∈ O8 ++ Zk, inR a x = true := by
  rcases h with h | h
  ·obtain ⟨x, hx, h⟩ := List.any_eq_true.1 h; exact ⟨x, List.mem_append_left _ hx, h⟩
  ·obtain ⟨x, hx, h⟩ := List.any_eq_true.1 h; exact ⟨x, List.mem_append_right _ hx, h⟩
 have := List.all_eq_true.1 Cc1 x hx
 obtain ⟨b, l, u⟩ := x
 simp only [Bool.and_eq_true, decide_eq_true_eq, Bool.or_eq_true, Bool.not_eq_true', beq_iff_eq] at this
 unfold inR at h
 unfold Scalar
 cases b with
 | true => simp at h this; omega
 | false => simp at h; omega
theorem Cc0 (a : Int) : wrd a = if Gt a O8 then 0 else if Gt a Zk then 2 else 1 := by
 by_cases hs : Scalar a
 ·have ha : 0 <= a := by rcases hs with h | h <;> omega
  have hb : a.toNat < 1114112 := by rcases hs with h | h <;> omega
  have e1 := Oh ha 1 (Xv Zk 2) Cq2
  have e2 := Oh ha 2 [] Cq0
  rw [List.append_nil] at e2
  rw [e2] at e1
  unfold wrd
  rw [if_pos hs, Cc2, Xt Cn8 (Nat.zero_le _) hb, e1]
  cases Gt a O8 <;> cases Gt a Zk <;> rfl
 ·unfold wrd
  rw [if_neg hs]
  cases h1 : Gt a O8 with
  | true => exact absurd (Bq1 (.inl h1)) hs
  | false =>
   cases h2 : Gt a Zk with
   | true => exact absurd (Bq1 (.inr h2)) hs
   | false => rfl
end Rgl
section
variable {w : World}
theorem Ad3 {a : Int} {K : Bool -> Wp} (h : K (decide (Scalar a)) w) : Aa Tryz.prog 172 #[.int .i64 a] rB K w := by
 refine Dn8 ?_
 unfold F172
 have g : ∀ {b : Bool}, (b = true ↔ Scalar a) -> K b w := λ {b} hb => by
  have e : decide (Scalar a) = b := by
   rw [Bool.eq_iff_iff, decide_eq_true_eq]; exact hb.symm
  rw [e] at h; exact h
 refine Ac (λ h1 => Ac (λ h2 => Ac (λ h3 => g ?_) (λ h3 => g ?_)) (λ h2 => g ?_)) (λ h1 => g ?_)
 all_goals simp only [decide_eq_true_eq, decide_eq_false_iff_not, ge_iff_le, gt_iff_lt, Bool.false_eq_true, true_iff, false_iff] at *
 all_goals unfold Scalar
 all_goals omega
theorem Gw {a : Int} {K : Int -> Wp} (h : K ((cls a : Nat) : Int) w) : Aa Tryz.prog 125 #[.int .i64 a] rI K w := by
 refine Dr1 ?_
 unfold F125
 refine Ad3 ?_
 refine Ac (λ hn => ?_) (λ hn => ?_)
 ·simp only [Bool.not_eq_true', decide_eq_false_iff_not] at hn
  have : cls a = 3 := by unfold cls; rw [if_neg hn]
  rw [this] at h; exact h
 ·simp only [Bool.not_eq_false', decide_eq_true_eq] at hn
  have h0 : 0 <= a := by rcases hn with q | q <;> omega
  refine Ae (λ x W => x = (decide (44032 <= a /\ a < 55204), ()) /\ w = W) (Ac (λ h1 => ⟨Au ?_, rfl⟩) (λ h1 => ⟨Au ?_, rfl⟩)) ?_
  ·simp only [decide_eq_true_eq, ge_iff_le] at *; omega
  ·simp only [decide_eq_true_eq, decide_eq_false_iff_not, ge_iff_le, Bool.false_eq_true, false_iff] at *; omega
  rintro _ _ ⟨rfl, rfl⟩
  refine Ac (λ hh => ?_) (λ hh => ?_)
  ·simp only [decide_eq_true_eq] at hh
   refine Cm (by decide) ?_
   have e : cls a = if (a.toNat - 44032) % 28 = 0 then 12 else 13 := by unfold cls; rw [if_pos hn, if_pos hh]
   rw [e] at h
   rw [wrap64 (by omega) (by omega), Int.tmod_eq_emod_of_nonneg (by omega)]
   refine Ac (λ h1 => ?_) (λ h1 => ?_)
   ·simp only [beq_iff_eq] at h1
    rw [if_pos (by omega)] at h; exact h
   ·simp only [beq_eq_false_iff_ne, ne_eq] at h1
    rw [if_neg (by omega)] at h; exact h
  ·simp only [decide_eq_false_iff_not] at hh
   rw [Ci1 hn hh] at h
   refine Ac (λ h1 => ?_) (λ h1 => ?_)
   ·simp only [decide_eq_true_eq] at h1
    rw [if_pos h1] at h; exact Cg2 h
   ·simp only [decide_eq_false_iff_not] at h1
    rw [if_neg h1] at h
    refine Ac (λ h2 => ?_) (λ h2 => ?_)
    ·simp only [decide_eq_true_eq] at h2
     rw [if_pos h2] at h; exact Cg1 h
    ·simp only [decide_eq_false_iff_not] at h2
     rw [if_neg h2] at h; exact Cg0 h
theorem X6 {a : Int} {K : Int -> Wp} (h : K ((cnj a : Nat) : Int) w) : Aa Tryz.prog 176 #[.int .i64 a] rI K w := by
 refine Dn7 ?_
 unfold F176
 rw [Yw] at h
 refine Ae (λ x W => x = (decide (a = 2381 \/ a = 2509 \/ a = 2765 \/ a = 2893 \/ a = 3149 \/ a = 3405), ()) /\ w = W) ?_ ?_
 ·refine Ac (λ h1 => ⟨Au ?_, rfl⟩) λ h1 => Ac (λ h2 => ⟨Au ?_, rfl⟩) λ h2 => Ac (λ h3 => ⟨Au ?_, rfl⟩) λ h3 => Ac (λ h4 => ⟨Au ?_, rfl⟩) λ h4 => Ac (λ h5 => ⟨Au ?_, rfl⟩) λ h5 => ⟨Au ?_, rfl⟩
  all_goals simp only [beq_iff_eq, beq_eq_false_iff_ne, ne_eq, decide_eq_true_eq, true_iff] at *
  all_goals omega
 rintro _ _ ⟨rfl, rfl⟩
 refine Ac (λ h1 => ?_) (λ h1 => ?_)
 ·simp only [decide_eq_true_eq] at h1
  rw [if_pos h1] at h; exact h
 simp only [decide_eq_false_iff_not] at h1
 rw [if_neg h1] at h
 refine Gw ?_
 refine Ae (λ x W => x = (decide ((cls a = 4 \/ cls a = 5) /\ a ≠ 8204), ()) /\ w = W) ?_ ?_
 ·refine Ac (λ h1 => ⟨Au ?_, rfl⟩) λ h1 => Ac (λ h2 => ⟨Au ?_, rfl⟩) λ h2 => ⟨Au ?_, rfl⟩
  all_goals simp only [beq_iff_eq, beq_eq_false_iff_ne, bne_iff_ne, ne_eq, decide_eq_true_eq, Bool.false_eq_true, false_iff] at *
  all_goals omega
 rintro _ _ ⟨rfl, rfl⟩
 refine Ac (λ h1 => ?_) (λ h1 => ?_)
 ·simp only [decide_eq_true_eq] at h1
  rw [if_pos h1] at h; exact h
 simp only [decide_eq_false_iff_not] at h1
 rw [if_neg h1] at h
 refine Bn4 (Ac (λ h2 => ?_) (λ h2 => ?_))
 ·rw [h2] at h; exact h
 ·rw [h2] at h; exact h
theorem Ay3 {a : Int} {K : Int -> Wp} (h : K ((wrd a : Nat) : Int) w) : Aa Tryz.prog 33 #[.int .i64 a] rI K w := by
 refine A33 ?_
 unfold F33
 rw [Cc0] at h
 refine Bn5 (Ac (λ h1 => ?_) (λ h1 => Bn3 (Ac (λ h2 => ?_) (λ h2 => ?_))))
 ·rw [h1] at h; exact h
 ·rw [h1, h2] at h; exact h
 ·rw [h1, h2] at h; exact h
end
end Go.Proofs.YtolhlldgnfbemaaGreatDoor
namespace Go.Proofs.YtolhlldgnfbemaaGreatDoor
open Gly Clu Rgl
namespace Clu
def sN (l : List Int) : Sc := l.foldl (λ s a => s.note (cls a) (cnj a)) Sc.zero
theorem Nc (l : List Int) (a : Int) : sN (l ++ [a]) = (sN l).note (cls a) (cnj a) := by simp [sN]
theorem Cf0 : (([2381, 2509, 2765, 2893, 3149, 3405] : List Int).all λ a => cls a == 4) = true := by kernel_rfl
theorem Cr7 {a : Int} (h : cnj a = 3) : cls a = 4 := by
 rw [Yw] at h
 split at h
 ·rename_i hl
  have := List.all_eq_true.1 Cf0 a (by simp; omega)
  simpa using this
 ·split at h
  ·omega
  ·split at h <;> omega
theorem Cr8 {a : Int} (h : cnj a = 2) : cls a = 4 \/ cls a = 5 := by
 rw [Yw] at h
 split at h
 ·omega
 ·split at h
  ·rename_i hx; exact hx.1
  ·split at h <;> omega
theorem De8 {a : Int} (h : cnj a = 1) : cls a = 0 := by
 rw [Yw] at h
 split at h
 ·omega
 ·split at h
  ·omega
  ·split at h
   ·rename_i hx; exact (Bh6 hx).2
   ·omega
theorem By5 (a : Int) : cnj a <= 3 := by
 rw [Yw]
 split
 ·omega
 ·split
  ·omega
  ·split <;> omega
structure NOk (s : Sc) : Prop where
 fl : 0 < s.flags -> s.last = 6
 pi : 0 < s.pict -> s.last = 14 \/ s.last = 4 \/ s.last = 5
 co : 0 < s.conj -> s.last = 0 \/ s.last = 4 \/ s.last = 5
theorem Bu9 {s : Sc} (a : Int) : NOk (s.note (cls a) (cnj a)) := by
 refine ⟨λ h => ?_, λ h => ?_, λ h => ?_⟩
 ·simp only [Sc.note] at h ⊢
  split at h
  ·assumption
  ·omega
 ·simp only [Sc.note] at h ⊢
  split at h
  ·omega
  ·split at h
   ·omega
   ·split at h <;> omega
 ·simp only [Sc.note] at h ⊢
  split at h
  ·exact .inl (De8 ‹_›)
  ·split at h
   ·exact .inr (.inl (Cr7 (by omega)))
   ·split at h
    ·exact .inr (Cr8 (by omega))
    ·omega
theorem nok (l : List Int) : NOk (sN l) := by
 rcases List.eq_nil_or_concat l with rfl | ⟨m, a, rfl⟩
 ·exact ⟨λ h => by simp [sN, Sc.zero] at h, λ h => by simp [sN, Sc.zero] at h, λ h => by simp [sN, Sc.zero] at h⟩
 ·rw [List.concat_eq_append, Nc]; exact Bu9 a
structure Alike (s t : Sc) : Prop where
 la : s.last = t.last
 fl : s.flags % 2 = t.flags % 2
 pi : s.pict = t.pict
 co : s.conj = t.conj
theorem Bd9 {s t : Sc} (h : Alike s t) (c p : Nat) : Alike (s.note c p) (t.note c p) := by
 obtain ⟨h1, h2, h3, h4⟩ := h
 refine ⟨rfl, ?_, ?_, ?_⟩
 ·simp only [Sc.note]; split <;> omega
 ·simp only [Sc.note, h3]
 ·simp only [Sc.note, h4]
theorem O7 {s t : Sc} (h : Alike s t) (c p : Nat) : joins s c p = joins t c p := by
 obtain ⟨h1, h2, h3, h4⟩ := h
 unfold joins
 rw [h1, h2, h3, h4]
theorem Bm2 (s : Sc) (c p : Nat) : (s.note c p).conj = (if p = 1 then 1 else if 0 < s.conj /\ p = 3 then 2 else if 0 < s.conj /\ p = 2 then s.conj else 0) := rfl
theorem Af9 (s : Sc) (c p : Nat) : (s.note c p).pict = (if c = 14 then 1 else if s.pict = 1 /\ c = 5 then 2 else if s.pict = 1 /\ c = 4 then s.pict else 0) := rfl
theorem Bm1 (c p : Nat) : (Sc.zero.note c p).flags = (if c = 6 then 1 else 0) /\ (Sc.zero.note c p).pict = (if c = 14 then 1 else 0) /\ (Sc.zero.note c p).conj = (if p = 1 then 1 else 0) := by simp [Sc.note, Sc.zero]
theorem alike (l : List Int) : Alike (sc l) (sN l) := by
 have key : ∀ n (l : List Int), l.length = n -> Alike (sc l) (sN l) := by
  intro n
  induction n with
  | zero =>
   intro l hl
   obtain rfl := List.length_eq_zero_iff.1 hl
   exact ⟨rfl, rfl, rfl, rfl⟩
  | succ n ih =>
   intro l hl
   rcases List.eq_nil_or_concat l with rfl | ⟨m, a, rfl⟩
   ·simp at hl
   rw [List.concat_eq_append] at hl ⊢
   have ih := ih m (by rw [List.length_append] at hl; simpa using hl)
   rw [Xr, Nc]
   cases hj : joins (sc m) (cls a) (cnj a) with
   | true => rw [Ae5 hj]; exact Bd9 ih _ _
   | false =>
    rw [Be5 hj, V3]
    have hN := nok m
    rw [O7 ih] at hj
    obtain ⟨n1, n2, n3⟩ := hN
    generalize sN m = t at *
    have c3 := Cr7 (a := a)
    have c2 := Cr8 (a := a)
    have hle := By5 a
    generalize cls a = c at *
    generalize cnj a = p at *
    have hap : c = 4 \/ c = 5 -> apart t.last = true := by
     intro hc
     unfold joins at hj
     split at hj
     ·cases hj
     ·split at hj
      ·rename_i hap
       rcases hap with h | h
       ·exact h
       ·simp only [apart, decide_eq_true_eq] at h; omega
      ·rw [if_pos (by omega)] at hj; cases hj
    have hap2 : apart t.last = true -> t.flags = 0 /\ t.pict = 0 /\ t.conj = 0 := by
     intro h
     simp only [apart, decide_eq_true_eq] at h
     refine ⟨?_, ?_, ?_⟩
     ·rcases Nat.eq_zero_or_pos t.flags with q | q
      ·exact q
      ·have := n1 q; omega
     ·rcases Nat.eq_zero_or_pos t.pict with q | q
      ·exact q
      ·have := n2 q; omega
     ·rcases Nat.eq_zero_or_pos t.conj with q | q
      ·exact q
      ·have := n3 q; omega
    obtain ⟨z1, z2, z3⟩ := Bm1 c p
    refine ⟨rfl, ?_, ?_, ?_⟩
    ·rw [z1]
     simp only [Sc.note]
     by_cases hc : c = 6
     ·have : t.flags % 2 = 0 := by
       subst hc
       unfold joins at hj
       split at hj
       ·cases hj
       ·split at hj
        ·rename_i hap'
         rcases hap' with h | h
         ·rw [(hap2 h).1]
         ·simp [apart] at h
        ·split at hj
         ·cases hj
         ·split at hj
          ·cases hj
          ·split at hj
           ·cases hj
           ·simp at hj; omega
      rw [if_pos hc, if_pos hc]; omega
     ·rw [if_neg hc, if_neg hc]
    ·rw [z2]
     simp only [Sc.note]
     by_cases h14 : c = 14
     ·rw [if_pos h14, if_pos h14]
     ·rw [if_neg h14, if_neg h14]
      by_cases hc : c = 4 \/ c = 5
      ·have := (hap2 (hap hc)).2.1
       rw [if_neg (λ q => by have := q.1; omega), if_neg (λ q => by have := q.1; omega)]
      ·rw [if_neg (λ q => by have := q.2; omega), if_neg (λ q => by have := q.2; omega)]
    ·rw [z3]
     simp only [Sc.note]
     by_cases h1 : p = 1
     ·rw [if_pos h1, if_pos h1]
     ·rw [if_neg h1, if_neg h1]
      by_cases hp : p = 3 \/ p = 2
      ·have h45 : c = 4 \/ c = 5 := by
        rcases hp with h | h
        ·exact .inl (c3 h)
        ·exact c2 h
       have := (hap2 (hap h45)).2.2
       rw [if_neg (λ q => by have := q.1; omega), if_neg (λ q => by have := q.1; omega)]
      ·rw [if_neg (λ q => by have := q.2; omega), if_neg (λ q => by have := q.2; omega)]
 exact key _ l rfl
def Tf : List Int -> Nat -> Bool
 | [], _ => false
 | a :: r, n => if cnj a ≠ 3 /\ cnj a ≠ 2 then decide (0 < n) && (cnj a == 1) else Tf r (if cnj a = 3 then n + 1 else n)
def Qk : List Int -> Bool
 | [] => false
 | a :: r => if cls a ≠ 4 then cls a == 14 else Qk r
def Qu : List Int -> Nat
 | [] => 0
 | a :: r => if cls a ≠ 6 then 0 else Qu r + 1
theorem Au3 : ∀ (r : List Int) (n : Nat), Tf r n = ((sN r.reverse).conj == 2 || ((sN r.reverse).conj == 1 && decide (0 < n)))
 | [], n => by simp [Tf, sN, Sc.zero]
 | a :: r, n => by
  rw [List.reverse_cons, Nc, Tf]
  have hle := By5 a
  rw [Bm2]
  by_cases h : cnj a ≠ 3 /\ cnj a ≠ 2
  ·rw [if_pos h]
   by_cases h1 : cnj a = 1
   ·rw [h1]; simp
   ·have h0 : cnj a = 0 := by omega
    rw [h0]; simp
  ·rw [if_neg h, Au3 r]
   have c2 : (sN r.reverse).conj <= 2 := by
    have key : ∀ l : List Int, (sN l).conj <= 2 := by
     intro l
     have : ∀ n (l : List Int), l.length = n -> (sN l).conj <= 2 := by
      intro n
      induction n with
      | zero => intro l hl; rw [List.length_eq_zero_iff.1 hl]; simp [sN, Sc.zero]
      | succ n ih =>
       intro l hl
       rcases List.eq_nil_or_concat l with rfl | ⟨m, b, rfl⟩
       ·simp at hl
       rw [List.concat_eq_append] at hl ⊢
       have := ih m (by rw [List.length_append] at hl; simpa using hl)
       rw [Nc]
       simp only [Sc.note]
       split
       ·omega
       ·split
        ·omega
        ·split <;> omega
     exact this _ l rfl
    exact key _
   generalize (sN r.reverse).conj = t at *
   by_cases h3 : cnj a = 3
   ·rw [h3]
    match t, c2 with
    | 0, _ => simp
    | 1, _ => simp
    | 2, _ => simp
   ·have h2 : cnj a = 2 := by omega
    rw [h2]
    match t, c2 with
    | 0, _ => simp
    | 1, _ => simp
    | 2, _ => simp
theorem Aq7 : ∀ (r : List Int), Qk r = ((sN r.reverse).pict == 1)
 | [] => by simp [Qk, sN, Sc.zero]
 | a :: r => by
  rw [List.reverse_cons, Nc, Qk, Af9]
  by_cases h : cls a ≠ 4
  ·rw [if_pos h]
   by_cases h14 : cls a = 14
   ·rw [h14]; simp
   ·have : (cls a == 14) = false := by rw [beq_eq_false_iff_ne]; exact h14
    rw [this, if_neg h14]
    split
    ·rfl
    ·rw [if_neg (λ q => h q.2)]; rfl
  ·rw [if_neg h, Aq7 r]
   have h4 : cls a = 4 := by omega
   rw [h4, if_neg (by decide), if_neg (by omega)]
   by_cases hp : (sN r.reverse).pict = 1
   ·rw [if_pos ⟨hp, rfl⟩]
   ·rw [if_neg (λ q => hp q.1)]; simp [hp]
theorem As8 : ∀ (r : List Int), Qu r = (sN r.reverse).flags
 | [] => rfl
 | a :: r => by
  rw [List.reverse_cons, Nc, Qu, As8 r]
  simp only [Sc.note]
  by_cases h : cls a = 6
  ·rw [if_neg (by omega), if_pos h]
  ·rw [if_pos h, if_neg h]
def Al9 (r : List Int) (l : Nat) (c p : Nat) : Bool :=
 if l = 1 /\ c = 2 then true else if apart l = true \/ apart c = true then false else
  Jh l c || decide (c = 4 \/ c = 5 \/ c = 8 \/ l = 7) || (decide (p = 1) && Tf r 0) || (decide (c = 14 /\ l = 5) && Qk r.tail) || (decide (c = 6) && Qu r % 2 == 1)
theorem Ba7 {b : Int} (r : List Int) (c p : Nat) : joins (sc (r.reverse ++ [b])) c p = Al9 (b :: r) (cls b) c p := by
 have ha := alike (r.reverse ++ [b])
 rw [O7 ha]
 have hl : (sN (r.reverse ++ [b])).last = cls b := by rw [Nc]; rfl
 have hc : Tf (b :: r) 0 = ((sN (r.reverse ++ [b])).conj == 2) := by
  rw [Au3, List.reverse_cons]; simp
 have hf : Qu (b :: r) = (sN (r.reverse ++ [b])).flags := by rw [As8, List.reverse_cons]
 have hp : (decide (cls b = 5) && Qk r) = ((sN (r.reverse ++ [b])).pict == 2) := by
  rw [Aq7, Nc, Af9]
  have p2 : (sN r.reverse).pict <= 2 := by
   rcases List.eq_nil_or_concat r.reverse with h | ⟨m, x, h⟩
   ·rw [h]; simp [sN, Sc.zero]
   ·rw [h, List.concat_eq_append, Nc]
    simp only [Sc.note]
    split
    ·omega
    ·split
     ·omega
     ·split <;> omega
  by_cases h5 : cls b = 5
  ·rw [h5]
   by_cases h1 : (sN r.reverse).pict = 1
   ·simp [h1]
   ·simp [h1]
  ·by_cases h14 : cls b = 14
   ·simp [h5, h14]
   ·rw [if_neg h14, if_neg (λ h => h5 h.2)]
    by_cases h4 : (sN r.reverse).pict = 1 /\ cls b = 4
    ·rw [if_pos h4]; simp [h5, h4.1]
    ·rw [if_neg h4]; simp [h5]
 unfold joins Al9
 rw [hl]
 have : (b :: r).tail = r := rfl
 rw [this, hc, hf]
 split
 ·rfl
 ·split
  ·rfl
  ·have e2 : (decide (c = 14 /\ cls b = 5) && Qk r) = (decide (c = 14) && ((sN (r.reverse ++ [b])).pict == 2)) := by
    rw [← hp, ← Bool.and_assoc]
    congr 1
    simp
   rw [e2]
   generalize sN (r.reverse ++ [b]) = t at *
   by_cases g1 : c = 4 \/ c = 5 \/ c = 8 \/ cls b = 7
   ·rw [if_pos g1]; simp [g1]
   ·rw [if_neg g1]
    cases g2 : Jh (cls b) c with
    | true => simp
    | false =>
     simp only [Bool.false_eq_true, if_false, g1, decide_false, Bool.false_or]
     by_cases g3 : p = 1 /\ t.conj = 2
     ·rw [if_pos g3]; simp [g3.1, g3.2]
     ·rw [if_neg g3]
      have e3 : (decide (p = 1) && (t.conj == 2)) = false := by
       rw [Bool.eq_false_iff]; intro q; simp at q; exact g3 q
      rw [e3, Bool.false_or]
      by_cases g4 : c = 14
      ·rw [if_pos g4, g4]; simp
      ·rw [if_neg g4]
       by_cases g5 : c = 6
       ·rw [if_pos g5, g5]; simp
       ·rw [if_neg g5]; simp [g4, g5]
end Clu
end Go.Proofs.YtolhlldgnfbemaaGreatDoor
