/- YtolhlldgnfbemaaGreatDoorXPa6: parts of the proof, put together by program. -/
import Derived.Test.YtolhlldgnfbemaaGreatDoorXPa5
set_option linter.unusedVariables false
set_option linter.unusedSimpArgs false
set_option linter.unusedSectionVars false
noncomputable section
set_option maxRecDepth 100000
namespace Go.Proofs.YtolhlldgnfbemaaGreatDoor
open Go Go.Vx Cdc Trx Lns
section
variable {w w' : World} {S : Nat -> Prop} {p : Nat} {e : Enc} {lim na : Nat} {O : Nat -> Prop} {M : Parts}
abbrev lnT (l : Ln) : Cells.T Jl := ((l.from_ : Int), (l.to_ : Int), (l.next : Int), (l.kind : Int), ())
theorem hal (e : Enc) (M : Parts) : (atoms (aOf e M)).length = (aOf e M).length := List.length_map _
theorem Ak1 (A : List Int) (k : Nat) : skI A (k : Int) = match sk A k with | some m => (m : Int) | none => -1 := by
 unfold skI
 rw [if_neg (by omega), Int.toNat_natCast]
 all_goals (cases sk A k <;> rfl)
theorem Av5 (h : Txt w p e lim na O M) {f x : Nat} (hfx : f < x) (hx : x <= (atoms (aOf e M)).length) {K : Cells.T Jl -> Wp} (hK : ∀ w', Ext w w' -> K (lnT (lnC (atoms (aOf e M)) f x)) w') :
  Aa Tryz.prog 166 #[.pointer (some (at0 p)), .int .i64 (f : Int), .int .i64 (x : Int)] (.one (.agg Jl)) K w := by
 refine Do6 ?_
 unfold F166
 have few := h.few; have lims := h.lims
 generalize hA : atoms (aOf e M) = A at *
 have hAl : A.length = (aOf e M).length := by rw [← hA]; exact hal e M
 refine (St.start w).Af λ b1 w1 S1 e1 => ?_
 have ew : W64 ((x : Int) - 2) = (x : Int) - 2 := wrap64 (by omega) (by omega)
 rw [ew]
 obtain ⟨g, hg⟩ : ∃ g : Nat, g = max f (x - 2) := ⟨_, rfl⟩
 have eg : (if (x : Int) - 2 > (f : Int) then (x : Int) - 2 else (f : Int)) = (g : Int) := by split <;> omega
 rw [eg]
 refine Tj (h.ext e1) λ s w2 o2 e2 => ?_
 rw [hA] at o2
 have hsub : sub A (g : Int) (x : Int) = (A.drop g).take (x - g) := by unfold sub; simp
 rw [hsub] at o2
 have hl := o2.len1
 rw [List.length_map, List.length_take, List.length_drop] at hl
 have hsl : s.len = x - g := by omega
 have get : ∀ i, i < x - g -> ((A.drop g).take (x - g))[i]? = A[g + i]? := λ i hi => by rw [List.getElem?_take, if_pos hi, List.getElem?_drop]
 have ew1 : W64 (((s.len : Nat) : Int) - 1) = ((x - g - 1 : Nat) : Int) := by rw [wrap64 (by omega) (by omega)]; omega
 rw [ew1]
 have S2 := S1.ext e2
 obtain ⟨a, ha⟩ : ∃ a, A[x - 1]? = some a := ⟨_, List.getElem?_eq_getElem (by omega)⟩
 have ex1 : W64 ((x : Int) - 1) = ((x - 1 : Nat) : Int) := by rw [wrap64 (by omega) (by omega)]; omega
 have fin : ∀ {l : Ln} {W : World}, St (λ _ => False) w W [(b1, .cells #[.int .i64 0, .int .i64 0, .int .i64 0, .int .i64 0] 133 (0, 0))] -> lnC A f x = l ->
   Ae (at0 b1) (.agg (Cells.vals Jl (lnT l)).toArray) 4 (lds Jl (at0 b1) λ x => K x) W := by
  intro l W SW el
  exact SW.Ae 0 rfl rfl rfl rfl λ w3 S3 _ => S3.lds 0 (lnT l) rfl (by subst el; exact hK w3 S3.upd)
 refine Gl (c := .int .i64) (xs := (A.drop g).take (x - g)) o2.in (by omega) (x := a) (by rw [Int.toNat_natCast, get _ (by omega), ← ha]; congr 1; omega) λ q => Ac (λ hc => ?_) (λ hc => ?_)
 ·simp only [beq_iff_eq] at hc
  rw [ex1]
  exact fin (l := ⟨f, x - 1, x, 3⟩) S2 (by unfold lnC; rw [if_pos (by rw [ha, hc])])
 ·simp only [beq_eq_false_iff_ne] at hc
  have h13 : ¬ A[x - 1]? = some 13 := by rw [ha]; exact λ h => hc (Option.some.inj h)
  refine Ad (λ y W => y = (decide (f + 1 < x /\ A[x - 2]? = some 13), ()) /\ w2 = W) ?_ ?_
  ·refine Ac (λ hd => ?_) (λ hd => ?_)
   ·simp only [decide_eq_true_eq, gt_iff_lt] at hd
    have ew2 : W64 (((x - g - 1 : Nat) : Int) - 1) = ((x - g - 2 : Nat) : Int) := by rw [wrap64 (by omega) (by omega)]; omega
    rw [ew2]
    obtain ⟨b, hb⟩ : ∃ b, A[x - 2]? = some b := ⟨_, List.getElem?_eq_getElem (by omega)⟩
    refine Gl (c := .int .i64) (xs := (A.drop g).take (x - g)) o2.in (by omega) (x := b) (by rw [Int.toNat_natCast, get _ (by omega), ← hb]; congr 1; omega) λ q2 => ⟨Az ?_, rfl⟩
    simp only [beq_iff_eq, decide_eq_true_eq, hb, Option.some.injEq]
    omega
   ·simp only [decide_eq_false_iff_not, gt_iff_lt] at hd
    refine ⟨Az ?_, rfl⟩
    simp only [Bool.false_eq_true, decide_eq_true_eq, false_iff]
    omega
  rintro _ _ ⟨rfl, rfl⟩
  refine Ac (λ hd => ?_) (λ hd => ?_)
  ·simp only [decide_eq_true_eq] at hd
   have ew3 : (x : Int) - 2 = ((x - 2 : Nat) : Int) := by omega
   rw [ew3]
   exact fin (l := ⟨f, x - 2, x, 2⟩) S2 (by unfold lnC; rw [if_neg h13, if_pos hd])
  ·simp only [decide_eq_false_iff_not] at hd
   rw [ex1]
   exact fin (l := ⟨f, x - 1, x, 1⟩) S2 (by unfold lnC; rw [if_neg h13, if_neg hd])
def Ct6 (r : Option Ln) : Cells.T Jl × Int × Unit := match r with
 | some l => (lnT l, 0, ())
 | none => (lnT ⟨0, 0, 0, 0⟩, 2, ())
theorem Bw8 {i : Int} (h : Txt w p e lim na O M) (hi : i < 2 ^ 62) {K : Cells.T Jl × Int × Unit -> Wp} (hK : ∀ w', Ext w w' -> K (Ct6 (lnI (atoms (aOf e M)) i)) w') :
  Aa Tryz.prog 106 #[.pointer (some (at0 p)), .int .i64 i] (.tup [(.agg Jl), (.one (.int .i64))]) K w := by
 refine Ds9 ?_
 unfold F106
 have few := h.few; have lims := h.lims
 have hal := hal e M
 refine (St.start w).Af λ b1 w1 S1 e1 => ?_
 refine Ac (λ hc => ?_) (λ hc => ?_)
 ·simp only [decide_eq_true_eq] at hc
  refine S1.Ae 0 rfl rfl rfl rfl λ w2 S2 _ => S2.lds 0 (lnT ⟨0, 0, 0, 0⟩) rfl ?_
  have := hK w2 S2.upd
  unfold lnI at this
  rw [if_pos hc] at this
  exact this
 simp only [decide_eq_false_iff_not] at hc
 obtain ⟨n, rfl⟩ : ∃ n : Nat, i = (n : Int) := ⟨i.toNat, by omega⟩
 unfold lnI at hK
 rw [if_neg hc, Int.toNat_natCast] at hK
 refine Ze (h.ext e1) λ w2 e2 => ?_
 have S2 := S1.ext e2
 rw [Ak1]
 cases hf : sk (atoms (aOf e M)) n with
 | none =>
  refine Ac (λ _ => ?_) (λ h => by simp at h)
  refine S2.Ae 0 rfl rfl rfl rfl λ w3 S3 _ => S3.lds 0 (lnT ⟨0, 0, 0, 0⟩) rfl ?_
  have := hK w3 S3.upd
  unfold Ky at this
  rw [hf] at this
  exact this
 | some f =>
  refine Ac (λ h => by simp at h; omega) (λ _ => ?_)
  obtain ⟨hnb, hfl, hnf, _⟩ := Ny hf
  refine Je (h.ext S2.upd) λ w3 e3 => Pz (h.ext (S2.ext e3).upd) λ w4 e4 => ?_
  have S4 := (S2.ext e3).ext e4
  rw [Int.toNat_natCast, ← hal, ← Jm]
  refine Ac (λ hlt => ?_) (λ hlt => ?_)
  ·simp only [decide_eq_true_eq] at hlt
   have ew : W64 ((n : Int) + 1) = ((n + 1 : Nat) : Int) := by rw [wrap64 (by omega) (by omega)]; omega
   rw [ew]
   refine Ze (h.ext S4.upd) λ w5 e5 => ?_
   have S5 := S4.ext e5
   rw [Ak1]
   obtain ⟨x, hx⟩ := Af0 (A := atoms (aOf e M)) (k := n + 1) (by omega)
   obtain ⟨_, hxl, _, _⟩ := Ny hx
   rw [hx]
   refine Av5 (h.ext S5.upd) (Cj7 hf hx (by omega)) hxl λ w6 e6 => (S5.ext e6).Ae 0 rfl rfl rfl rfl λ w7 S7 _ => S7.lds 0 (lnT _) rfl ?_
   have := hK w7 S7.upd
   unfold Ky at this
   rw [hf] at this
   simp only [hx] at this
   exact this
  ·simp only [decide_eq_false_iff_not] at hlt
   refine Je (h.ext S4.upd) λ w5 e5 => Je (h.ext (S4.ext e5).upd) λ w6 e6 => ((S4.ext e5).ext e6).Ae 0 rfl rfl rfl rfl λ w7 S7 _ => S7.lds 0 (lnT ⟨f, (aOf e M).length, (aOf e M).length, 0⟩) rfl ?_
   have := hK w7 S7.upd
   unfold Ky at this
   rw [hf] at this
   simp only [Ve (atoms (aOf e M)) (n + 1) (by omega)] at this
   rw [hal] at this
   exact this
theorem Bw0 {at_ : Int} (h : Txt w p e lim na O M) {K : Int -> Wp} (hK : ∀ w', Ext w w' -> K ((nb (atoms (aOf e M)) at_.toNat : Nat) : Int) w') :
  Aa Tryz.prog 130 #[.pointer (some (at0 p)), .int .i64 at_] rI K w := by
 refine Dq8 ?_
 unfold F130
 have hal := hal e M
 refine Je h λ w1 e1 => Pz (h.ext e1) λ w2 e2 => ?_
 have := hK w2 (e1.trans e2)
 have e : nb (atoms (aOf e M)) (if (((aOf e M).length : Nat) : Int) < (if (0 : Int) > at_ then (0 : Int) else at_) then (((aOf e M).length : Nat) : Int) else (if (0 : Int) > at_ then (0 : Int) else at_)).toNat = nb (atoms (aOf e M)) at_.toNat := by
  by_cases h0 : (0 : Int) > at_
  ·rw [if_pos h0, if_neg (by omega)]
   have : at_.toNat = (0 : Int).toNat := by omega
   rw [this]
  ·rw [if_neg h0]
   split
   ·rw [Int.toNat_natCast, Z5 _ _ (by omega), Z5 _ _ (by omega)]
   ·rfl
 rw [e]; exact this
theorem At3 (h : Txt w p e lim na O M) {K : Bool -> Wp} (hK : ∀ w', Ext w w' -> K (ended (atoms (aOf e M))) w') :
  Aa Tryz.prog 133 #[.pointer (some (at0 p))] rB K w := by
 refine Dq5 ?_
 unfold F133
 have hal := hal e M
 unfold ended at hK
 refine Je h λ w1 e1 => Ac (λ hc => ?_) (λ hc => ?_)
 ·simp only [decide_eq_true_eq, gt_iff_lt] at hc
  refine Pz (h.ext e1) λ w2 e2 => Ze (h.ext (e1.trans e2)) λ w3 e3 => ?_
  have := hK w3 ((e1.trans e2).trans e3)
  rw [Int.toNat_natCast, ← hal, ← Jm, Ak1]
  rw [decide_eq_true (by omega), Bool.true_and] at this
  cases hs : sk (atoms (aOf e M)) (brs (atoms (aOf e M))) with
  | none =>
   rw [hs] at this
   have e1 : ((-1 : Int) == (((atoms (aOf e M)).length : Nat) : Int)) = false := by rw [beq_eq_false_iff_ne]; omega
   show K ((-1 : Int) == _) w3
   rw [e1]; exact this
  | some m =>
   rw [hs] at this
   have e1 : ((m : Int) == (((atoms (aOf e M)).length : Nat) : Int)) = (some m == some (atoms (aOf e M)).length) := by rw [Bool.eq_iff_iff, beq_iff_eq, beq_iff_eq, Option.some.injEq]; omega
   show K ((m : Int) == _) w3
   rw [e1]; exact this
 ·simp only [decide_eq_false_iff_not, gt_iff_lt] at hc
  have := hK w1 e1
  rw [decide_eq_false (by omega), Bool.false_and] at this
  exact this
theorem At4 (h : Txt w p e lim na O M) {K : Int -> Wp} (hK : ∀ w', Ext w w' -> K ((lnN (atoms (aOf e M)) : Nat) : Int) w') :
  Aa Tryz.prog 87 #[.pointer (some (at0 p))] rI K w := by
 refine A87 ?_
 unfold F87
 have few := h.few; have lims := h.lims
 have hal := hal e M
 have hb : brs (atoms (aOf e M)) <= (atoms (aOf e M)).length := by rw [Jm]; exact As1 _ _
 refine Je h λ w1 e1 => Pz (h.ext e1) λ w2 e2 => ?_
 rw [Int.toNat_natCast, ← hal, ← Jm]
 refine Ad (λ x W => x = (((lnN (atoms (aOf e M)) : Nat) : Int), ()) /\ Ext w W) ?_ (λ x W hx => by obtain ⟨rfl, hx⟩ := hx; exact hK W hx)
 refine At3 (h.ext (e1.trans e2)) λ w3 e3 => ?_
 have e03 := (e1.trans e2).trans e3
 refine Ac (λ hc => ⟨?_, e03⟩) (λ hc => ⟨?_, e03⟩)
 ·simp only [Bool.not_eq_true'] at hc
  unfold lnN
  rw [hc, wrap64 (by omega) (by omega)]
  simp
 ·simp only [Bool.not_eq_false'] at hc
  unfold lnN
  rw [hc]
  simp
end
end Go.Proofs.YtolhlldgnfbemaaGreatDoor
namespace Go.Proofs.YtolhlldgnfbemaaGreatDoor
open Go Go.Vx Cdc Trx Gly Clu Lns Obx
namespace Mot
variable {A : List Int} {i : Nat}
def O1 (A : List Int) (i : Nat) : List Int := (List.range ((Ag A i).length + 1)).map λ j => (Jz A i j : Int)
theorem Cn3 (h : i <= brs A) : nv (cuts (rowB A i)) = iv (O1 A i) := by
 rw [Aq7 h]
 unfold O1
 simp only [List.map_map]
 rfl
theorem Ca5 (A : List Int) (i : Nat) : (O1 A i).length = (Ag A i).length + 1 := by unfold O1; simp
theorem Yx {j : Nat} (h : j <= (Ag A i).length) : (O1 A i)[j]? = some (Jz A i j : Int) := by
 unfold O1
 rw [List.getElem?_map, List.getElem?_range (by omega)]; rfl
theorem Bn4 (h : i <= brs A) (c : Int) : Bf A i c = (Aw A i).from_ + Jz A i (min c.toNat (Ag A i).length) := by
 rw [Vs h]
 rcases Nat.lt_or_ge c.toNat (Ag A i).length with u | u
 ·rw [Nat.min_eq_left (by omega)]
  unfold Bf
  rw [Int.toNat_natCast]
 ·rw [Nat.min_eq_right u, Gp u, Gp (by omega)]
theorem Be9 (h : i <= brs A) {j : Nat} {c : Cel} (hc : (Ag A i)[j]? = some c) : c.to_ = Bf A i ((j + 1 : Nat) : Int) := by
 have hl := (List.getElem?_eq_some_iff.1 hc).1
 rcases Nat.lt_or_ge (j + 1) (Ag A i).length with u | u
 ·obtain ⟨d, hd⟩ := Dy u
  rw [Eh u, Ht hd]
  exact (Ib A i).next j c d hc hd
 ·rw [Gp (by omega)]
  exact Af5 h hc (by omega)
theorem Y5 (h : i <= brs A) {c d : Nat} (hcd : c <= d) (hd : d <= (Ag A i).length) : Bf A i (c : Int) <= Bf A i (d : Int) := by
 rcases Nat.lt_or_ge c d with u | u
 ·exact Nat.le_of_lt (Ox h u hd)
 ·rw [show c = d by omega]; exact Nat.le_refl _
theorem Bg9 (h : i <= brs A) {j : Nat} {c : Cel} (hc : (Ag A i)[j]? = some c) : (rowB A i)[Jz A i j]? = some c.atom /\ c.kind = wrd c.atom := by
 have hl := (List.getElem?_eq_some_iff.1 hc).1
 obtain ⟨_, _, _, _, q⟩ := Un (Bz h).ft (by have := (Bz h).tn; have := (Bz h).nl; omega) hc
 exact ⟨by rw [Ca4 h hl, hc]; rfl, q.kind⟩
end Mot
open Mot
abbrev RwT := Cells.T Bc
structure Gv (w : World) (A : List Int) (i : Nat) (r : RwT) : Prop where
 row : i <= brs A
 len : A.length <= 1048576
 f : r.1 = ((Aw A i).from_ : Int)
 t : r.2.1 = ((Aw A i).to_ : Int)
 n : r.2.2.1 = ((Aw A i).next : Int)
 num : r.2.2.2.2.1 = (i : Int)
 atoms : Bh w r.2.2.2.2.2.1 3 1 (iv (rowB A i))
 starts : Bh w r.2.2.2.2.2.2.1 3 1 (iv (O1 A i))
abbrev rwO (r : RwT) : Obj := .cells #[.int .i64 r.1, .int .i64 r.2.1, .int .i64 r.2.2.1, .int .i64 r.2.2.2.1, .int .i64 r.2.2.2.2.1, .slice r.2.2.2.2.2.1.a r.2.2.2.2.2.1.len r.2.2.2.2.2.1.cap, .slice r.2.2.2.2.2.2.1.a r.2.2.2.2.2.2.1.len r.2.2.2.2.2.2.1.cap] 135 (0, 0)
abbrev rwZ : Obj := .cells #[.int .i64 0, .int .i64 0, .int .i64 0, .int .i64 0, .int .i64 0, .slice none 0 0, .slice none 0 0] 135 (0, 0)
section
variable {w w' : World} {A : List Int} {i : Nat} {r : RwT}
theorem Gv.ext (h : Gv w A i r) (e : Ext w w') : Gv w' A i r := ⟨h.row, h.len, h.f, h.t, h.n, h.num, h.atoms.ext e, h.starts.ext e⟩
theorem Gv.slen (h : Gv w A i r) : r.2.2.2.2.2.2.1.len = (Ag A i).length + 1 := by
 have := h.starts.len1
 rw [List.length_map, Ca5] at this
 exact this.symm
theorem Gv.few (h : Gv w A i r) : (Ag A i).length <= 1048576 /\ (Aw A i).to_ <= 1048576 /\ (Aw A i).from_ <= 1048576 /\ (Aw A i).next <= 1048576 := by
 have h1 := Iy h.row
 have ok := Bz h.row
 have := ok.tn; have := ok.nl; have := ok.ft; have := h.len
 omega
theorem Eo (h : Gv w A i r) {K : Int -> Wp} (hK : ∀ w', Ext w w' -> K ((Ag A i).length : Int) w') :
  Aa Tryz.prog 80 #[.agg (Cells.vals Bc r).toArray] rI K w := by
 refine A80 (a0 := r) ?_
 unfold F80
 have hl := h.slen; have fw := h.few
 refine (St.start w).Af λ b1 w1 S1 e1 => S1.ld 0 rfl (x := r.2.2.2.2.2.2.1) rfl ?_
 rw [hl, wrap64 (by omega) (by omega)]
 have := hK w1 e1
 rw [show (((Ag A i).length + 1 : Nat) : Int) - 1 = ((Ag A i).length : Int) by omega]
 exact this
theorem Fg (h : Gv w A i r) {c : Int} {K : Int -> Wp} (hK : ∀ w', Ext w w' -> K (Bf A i c : Int) w') :
  Aa Tryz.prog 79 #[.agg (Cells.vals Bc r).toArray, .int .i64 c] rI K w := by
 refine A79 (a0 := r) ?_
 unfold F79
 have hl := h.slen; have fw := h.few
 refine (St.start w).Af λ b1 w1 S1 e1 => S1.drew λ w2 S2 e2 _ => S2.ld 0 rfl (x := r.1) rfl (S2.ld 0 rfl (x := r.2.2.2.2.2.2.1) rfl (S2.lds 0 r rfl ?_))
 refine Eo (h.ext S2.upd) λ w3 e3 => ?_
 have S3 := S2.ext e3
 refine S3.keep 0 rfl (v := .slice r.2.2.2.2.2.2.1.a r.2.2.2.2.2.2.1.len r.2.2.2.2.2.2.1.cap) rfl (S3.keep 0 rfl (v := .int .i64 r.1) rfl ?_)
 have em : (if (((Ag A i).length : Nat) : Int) < (if (0 : Int) > c then (0 : Int) else c) then (((Ag A i).length : Nat) : Int) else (if (0 : Int) > c then (0 : Int) else c)) = ((min c.toNat (Ag A i).length : Nat) : Int) := by
  split <;> split at * <;> omega
 rw [em]
 refine Gl (c := .int .i64) (xs := O1 A i) (h.ext S3.upd).starts (by omega) (x := (Jz A i (min c.toNat (Ag A i).length) : Int)) (by rw [Int.toNat_natCast]; exact Yx (by omega)) λ p => ?_
 have hp := Bn4 h.row c
 have hle := Oe h.row c
 have hA := h.len
 rw [h.f, wrap64 (by omega) (by omega)]
 have := hK w3 S3.upd
 rw [hp] at this
 rw [show (((Aw A i).from_ : Nat) : Int) + ((Jz A i (min c.toNat (Ag A i).length) : Nat) : Int) = (((Aw A i).from_ + Jz A i (min c.toNat (Ag A i).length) : Nat) : Int) by omega]
 exact this
theorem Vl (h : Gv w A i r) {n : Int} {K : Int -> Wp} (hK : ∀ w', Ext w w' -> K (Du (Ag A i) n : Int) w') :
  Aa Tryz.prog 81 #[.agg (Cells.vals Bc r).toArray, .int .i64 n] rI K w := by
 refine A81 (a0 := r) ?_
 unfold F81
 have hl := h.slen; have fw := h.few; have hA := h.len
 refine (St.start w).Af λ b1 w1 S1 e1 => S1.lds 0 r rfl (Eo (h.ext e1) λ w2 e2 => ?_)
 have S2 := S1.ext e2
 have S2 : St (λ _ => False) w w2 [(b1, rwO r)] := S2
 refine Ad (λ x W => x = ((Du (Ag A i) n : Int), ()) /\ Ext w W) ?_ (λ x W hx => by rw [hx.1]; exact hK W hx.2)
 refine Ar (λ x W => ∃ lo hi : Nat, x = ((lo : Int), (hi : Int), ()) /\ lo <= hi /\ hi <= (Ag A i).length /\ (lo = 0 \/ (Bf A i (lo : Int) : Int) <= n) /\ (∀ j : Nat, hi < j -> j <= (Ag A i).length -> n < (Bf A i (j : Int) : Int)) /\ St (λ _ => False) w W [(b1, rwO r)]) (λ x _ => (x.2.1 - x.1).toNat) ⟨0, (Ag A i).length, rfl, Nat.zero_le _, Nat.le_refl _, .inl rfl, λ j h1 h2 => by omega, S2⟩ ?_
 rintro _ W ⟨lo, hi, rfl, h1, h2, h3, h4, SW⟩
 dsimp only
 refine Ac (λ hc => ?_) (λ hc => ?_)
 ·simp only [decide_eq_true_eq] at hc
  obtain ⟨m, hm⟩ : ∃ m : Nat, m = (lo + hi + 1) / 2 := ⟨_, rfl⟩
  have ew1 : W64 ((lo : Int) + (hi : Int)) = (lo : Int) + hi := wrap64 (by omega) (by omega)
  have ew2 : W64 ((lo : Int) + (hi : Int) + 1) = (lo : Int) + hi + 1 := wrap64 (by omega) (by omega)
  have ed : Int.tdiv ((lo : Int) + (hi : Int) + 1) 2 = (m : Int) := by rw [Int.tdiv_eq_ediv_of_nonneg (by omega)]; omega
  have ew3 : W64 (m : Int) = (m : Int) := wrap64 (by omega) (by omega)
  have ew4 : W64 ((m : Int) - 1) = ((m - 1 : Nat) : Int) := by rw [wrap64 (by omega) (by omega)]; omega
  rw [ew1, ew2, ed, ew3, ew4]
  refine Bq (by decide) (SW.drew λ w3 S3 e3 _ => S3.ld 0 rfl (x := r.1) rfl (S3.ld 0 rfl (x := r.2.2.2.2.2.2.1) rfl ?_))
  refine Gl (c := .int .i64) (xs := O1 A i) (h.ext S3.upd).starts (by omega) (x := (Jz A i m : Int)) (by rw [Int.toNat_natCast]; exact Yx (by omega)) λ p => ?_
  have hp := Vs h.row m
  have hle := Oe h.row (m : Int)
  rw [h.f, wrap64 (by omega) (by omega), show (((Aw A i).from_ : Nat) : Int) + ((Jz A i m : Nat) : Int) = (Bf A i (m : Int) : Int) by omega]
  refine Ac (λ hg => ?_) (λ hg => ?_)
  ·simp only [decide_eq_true_eq] at hg
   exact ⟨⟨m, hi, rfl, by omega, h2, .inr hg, h4, S3⟩, by omega⟩
  ·simp only [decide_eq_false_iff_not] at hg
   refine ⟨⟨lo, m - 1, rfl, by omega, by omega, h3, λ j j1 j2 => ?_, S3⟩, by omega⟩
   have := Y5 h.row (c := m) (d := j) (by omega) j2
   omega
 ·simp only [decide_eq_false_iff_not] at hc
  obtain rfl : lo = hi := by omega
  refine ⟨?_, SW.upd⟩
  rw [Zy h2 (λ j c hj hc' => ?_) (λ c hc' => ?_)]
  ·rw [Be9 h.row hc']
   have := Y5 h.row (c := j + 1) (d := lo) (by omega) h2
   rcases h3 with rfl | h3
   ·omega
   ·omega
  ·have hl2 := (List.getElem?_eq_some_iff.1 hc').1
   rw [Be9 h.row hc']
   exact h4 (lo + 1) (by omega) (by omega)
theorem Ph (h : Gv w A i r) {j : Nat} {c : Cel} (hc : (Ag A i)[j]? = some c) {K : Int -> Wp} (hK : ∀ w', Ext w w' -> K c.atom w') :
  Aa Tryz.prog 204 #[.agg (Cells.vals Bc r).toArray, .int .i64 (j : Int)] rI K w := by
 refine Dm4 (a0 := r) ?_
 unfold F204
 have hl := h.slen; have fw := h.few
 have hj := (List.getElem?_eq_some_iff.1 hc).1
 refine (St.start w).Af λ b1 w1 S1 e1 => S1.drew λ w2 S2 e2 _ => S2.ld 0 rfl (x := r.2.2.2.2.2.1) rfl (S2.ld 0 rfl (x := r.2.2.2.2.2.2.1) rfl ?_)
 have h2 := h.ext S2.upd
 refine Gl (c := .int .i64) (xs := O1 A i) h2.starts (by omega) (x := (Jz A i j : Int)) (by rw [Int.toNat_natCast]; exact Yx (by omega)) λ p => ?_
 exact Gl (c := .int .i64) (xs := rowB A i) h2.atoms (by omega) (x := c.atom) (by rw [Int.toNat_natCast]; exact (Bg9 h.row hc).1) λ q => hK w2 S2.upd
theorem Z8 (h : Gv w A i r) {j : Nat} (hj : j < (Ag A i).length) {big : Bool} {K : Int -> Wp} (hK : ∀ w', Ext w w' -> K (Yf (Ag A i) j big : Int) w') :
  Aa Tryz.prog 197 #[.agg (Cells.vals Bc r).toArray, .int .i64 (j : Int), .bool big] rI K w := by
 refine Dm9 (a0 := r) ?_
 unfold F197
 obtain ⟨c, hc⟩ := Dy hj
 refine (St.start w).Af λ b1 w1 S1 e1 => S1.lds 0 r rfl (Ph (h.ext e1) hc λ w2 e2 => Bl3 λ w3 e3 => ?_)
 have e13 := (e1.trans e2).trans e3
 have hk := (Bg9 h.row hc).2
 unfold Yf at hK
 rw [hc] at hK
 refine Ac (λ hb => ?_) (λ hb => ?_)
 ·have := hK w3 e13
  rw [if_pos hb] at this
  have e : (if (1 : Int) < ((wrd c.atom : Nat) : Int) then (1 : Int) else ((wrd c.atom : Nat) : Int)) = ((min c.kind 1 : Nat) : Int) := by rw [hk]; split <;> omega
  rw [e]; exact this
 ·have := hK w3 e13
  rw [if_neg (by rw [hb]; decide)] at this
  rw [← hk]; exact this
theorem Z7 (h : Gv w A i r) {K : Int -> Wp} (hK : ∀ w', Ext w w' -> K (Nz A i : Int) w') :
  Aa Tryz.prog 182 #[.agg (Cells.vals Bc r).toArray] rI K w := by
 refine Dn5 (a0 := r) ?_
 unfold F182
 have fw := h.few
 refine (St.start w).Af λ b1 w1 S1 e1 => ?_
 have S1 : St (λ _ => False) w w1 [(b1, rwO r)] := S1
 refine Ad (λ _ W => (∀ (j : Nat) y, (Ag A i)[j]? = some y -> y.kind = 0) /\ St (λ _ => False) w W [(b1, rwO r)]) ?_ ?_
 ·refine S1.lds 0 r rfl (Eo (h.ext e1) λ w2 e2 => ?_)
  refine Ar (λ x W => ∃ c : Nat, x = ((c : Int), ()) /\ c <= (Ag A i).length /\ (∀ (j : Nat) y, j < c -> (Ag A i)[j]? = some y -> y.kind = 0) /\ St (λ _ => False) w W [(b1, rwO r)]) (λ x _ => (((Ag A i).length : Int) - x.1).toNat) ⟨0, rfl, Nat.zero_le _, λ j y hj => by omega, S1.ext e2⟩ ?_
  rintro _ W ⟨c, rfl, h1, h2, SW⟩
  dsimp only
  refine Ac (λ hc => ?_) (λ hc => ?_)
  ·simp only [decide_eq_true_eq] at hc
   have ew : W64 ((c : Int) + 1) = ((c + 1 : Nat) : Int) := by rw [wrap64 (by omega) (by omega)]; omega
   rw [ew]
   obtain ⟨x, hx⟩ := Dy (C := Ag A i) (j := c) (by omega)
   refine SW.lds 0 r rfl (Z8 (h.ext SW.upd) (j := c) (by omega) λ w3 e3 => ?_)
   have hkb : Yf (Ag A i) c true = min x.kind 1 := by unfold Yf; rw [if_pos rfl, hx]; rfl
   rw [hkb]
   refine Ac (λ hg => ?_) (λ hg => ?_)
   ·simp only [bne_iff_ne, ne_eq] at hg
    have := hK w3 (SW.ext e3).upd
    rw [Cd6 hx (by omega) h2] at this
    exact this
   ·simp only [bne_eq_false_iff_eq] at hg
    refine ⟨⟨c + 1, rfl, by omega, λ j y hj hy => ?_, SW.ext e3⟩, by omega⟩
    by_cases hjc : j = c
    ·subst hjc; rw [hx] at hy; cases hy; omega
    ·exact h2 j y (by omega) hy
  ·simp only [decide_eq_false_iff_not] at hc
   exact ⟨λ j y hy => h2 j y (by have := (List.getElem?_eq_some_iff.1 hy).1; omega) hy, SW⟩
 rintro _ W ⟨h0, SW⟩
 refine SW.lds 0 r rfl (Eo (h.ext SW.upd) λ w3 e3 => ?_)
 have := hK w3 (SW.ext e3).upd
 rw [Af1 h0] at this
 rw [wrap64 (by omega) (by omega)]
 have e : (if (0 : Int) > (((Ag A i).length : Nat) : Int) - 1 then (0 : Int) else (((Ag A i).length : Nat) : Int) - 1) = (((Ag A i).length - 1 : Nat) : Int) := by split <;> omega
 rw [e]; exact this
theorem Pj (h : Gv w A i r) {K : Bool -> Wp} (hK : ∀ w', Ext w w' -> K (Eb A i) w') :
  Aa Tryz.prog 193 #[.agg (Cells.vals Bc r).toArray] rB K w := by
 refine Dn2 (a0 := r) ?_
 unfold F193
 have hbl := Ca6 A i
 refine (St.start w).Af λ b1 w1 S1 e1 => ?_
 have S1 : St (λ _ => False) w w1 [(b1, rwO r)] := S1
 refine S1.lds 0 r rfl (Eo (h.ext e1) λ w2 e2 => (S1.ext e2).drew λ w3 S3 e3 _ => ?_)
 refine Ac (λ hc => ?_) (λ hc => ?_)
 ·simp only [beq_iff_eq] at hc
  have := hK w3 S3.upd
  rw [hbl, show (Ag A i).length = 0 by omega] at this
  exact this
 ·simp only [beq_eq_false_iff_ne, ne_eq] at hc
  refine S3.lds 0 r rfl (S3.lds 0 r rfl (Z7 (h.ext S3.upd) λ w4 e4 => ?_))
  have S4 := S3.ext e4
  have hs := Bt1 A i
  refine S4.keeps 0 (x := r) rfl (Z8 (h.ext S4.upd) (j := Nz A i) (by omega) λ w5 e5 => ?_)
  have := hK w5 (S4.ext e5).upd
  rw [hbl] at this
  have e : ((Ag A i).length == 0 || Yf (Ag A i) (Nz A i) true == 0) = (((Yf (Ag A i) (Nz A i) true : Nat) : Int) == 0) := by
   have : ((Ag A i).length == 0) = false := by rw [beq_eq_false_iff_ne]; omega
   rw [this, Bool.false_or, Bool.eq_iff_iff, beq_iff_eq, beq_iff_eq]; omega
  rw [e] at this; exact this
end
end Go.Proofs.YtolhlldgnfbemaaGreatDoor
namespace Go.Proofs.YtolhlldgnfbemaaGreatDoor
open Go Go.Vx Cdc Trx Gly Clu Lns Obx Mot
section
variable {w w' : World} {p : Nat} {e : Enc} {lim na : Nat} {O : Nat -> Prop} {M : Parts} {A : List Int}
structure TxA (w : World) (p : Nat) (A : List Int) : Prop where
 ex : ∃ e lim na O M, Txt w p e lim na O M /\ atoms (aOf e M) = A
theorem TxA.ext (h : TxA w p A) (x : Ext w w') : TxA w' p A := by
 obtain ⟨e, lim, na, O, M, h1, h2⟩ := h.ex
 exact ⟨e, lim, na, O, M, h1.ext x, h2⟩
theorem TxA.len (h : TxA w p A) : A.length <= 1048576 := by
 obtain ⟨e, lim, na, O, M, h1, rfl⟩ := h.ex
 rw [hal]; exact h1.few
theorem TxA.at_ (h : TxA w p A) {i : Nat} (hi : i <= brs A) {K : Cells.T Jl × Int × Unit -> Wp} (hK : ∀ w', Ext w w' -> K (lnT (Aw A i), 0, ()) w') :
  Aa Tryz.prog 106 #[.pointer (some (at0 p)), .int .i64 (i : Int)] (.tup [(.agg Jl), (.one (.int .i64))]) K w := by
 have hA := h.len; have hb := Lc A
 obtain ⟨e, lim, na, O, M, h1, rfl⟩ := h.ex
 refine Bw8 h1 (by omega) λ w' x => ?_
 have := hK w' x
 unfold lnI
 rw [if_neg (by omega), Int.toNat_natCast, Vg hi]
 exact this
theorem TxA.atoms (h : TxA w p A) {f t : Int} {K : Sl -> Wp} (hK : ∀ s w', Ap w' w.heap.size s 3 1 (iv (sub A f t)) -> Ext w w' -> K s w') :
  Aa Tryz.prog 25 #[.pointer (some (at0 p)), .int .i64 f, .int .i64 t] rS K w := by
 obtain ⟨e, lim, na, O, M, h1, rfl⟩ := h.ex
 exact Tj h1 hK
theorem TxA.of (h : TxA w p A) {x : Int} {K : Int -> Wp} (hK : ∀ w', Ext w w' -> K (ofI A x : Int) w') :
  Aa Tryz.prog 130 #[.pointer (some (at0 p)), .int .i64 x] rI K w := by
 obtain ⟨e, lim, na, O, M, h1, rfl⟩ := h.ex
 refine Bw0 h1 λ w' x' => ?_
 have := hK w' x'
 unfold ofI inT at this
 have e1 : nb (Trx.atoms (aOf e M)) x.toNat = nb (Trx.atoms (aOf e M)) (min (max x 0) ((Trx.atoms (aOf e M)).length : Int)).toNat := by
  rcases Nat.lt_or_ge x.toNat (Trx.atoms (aOf e M)).length with u | u
  ·congr 1; omega
  ·rw [Z5 _ _ u, show (min (max x 0) ((Trx.atoms (aOf e M)).length : Int)).toNat = (Trx.atoms (aOf e M)).length by omega, Jm]
 rw [e1]; exact this
theorem TxA.count (h : TxA w p A) {K : Int -> Wp} (hK : ∀ w', Ext w w' -> K (lnN A : Int) w') :
  Aa Tryz.prog 87 #[.pointer (some (at0 p))] rI K w := by
 obtain ⟨e, lim, na, O, M, h1, rfl⟩ := h.ex
 exact At4 h1 hK
theorem TxA.Cq1 (h : TxA w p A) {K : Int -> Wp} (hK : ∀ w', Ext w w' -> K (A.length : Int) w') :
  Aa Tryz.prog 23 #[.pointer (some (at0 p))] rI K w := by
 obtain ⟨e, lim, na, O, M, h1, rfl⟩ := h.ex
 refine Je h1 λ w' x => ?_
 have := hK w' x
 rw [hal] at this; exact this
theorem Bg2 (A : List Int) (i : Nat) : sub A ((Aw A i).from_ : Int) ((Aw A i).to_ : Int) = rowB A i := by unfold sub rowB; simp
theorem Nr (h : TxA w p A) {i : Nat} (hi : i <= brs A) {K : RwT -> Wp} (hK : ∀ r w', Gv w' A i r -> Ext w w' -> K r w') :
  Aa Tryz.prog 86 #[.pointer (some (at0 p)), .int .i64 (i : Int)] (.one (.agg Bc)) K w := by
 refine A86 ?_
 unfold F86
 have hA := h.len
 let rw1 (sa ss : Sl) : RwT := (((Aw A i).from_ : Int), ((Aw A i).to_ : Int), ((Aw A i).next : Int), ((Aw A i).kind : Int), (i : Int), sa, ss, ())
 let lnO : Obj := .cells #[.int .i64 ((Aw A i).from_ : Int), .int .i64 ((Aw A i).to_ : Int), .int .i64 ((Aw A i).next : Int), .int .i64 ((Aw A i).kind : Int)] 133 (0, 0)
 refine (St.start w).Af λ b1 w1 S1 e1 => h.ext e1 |>.at_ hi λ w2 e2 => (S1.ext e2).Af λ b3 w3 S3 e3 => S3.Ae 0 rfl rfl rfl rfl λ w4 S4 u4 => ?_
 have S4 : St (λ _ => False) w w4 [(b3, lnO), (b1, rwZ)] := S4
 refine Ad (λ x W => ∃ b sa, x = (at0 b, ()) /\ St (λ _ => False) w W [(b, rwO (rw1 sa ⟨none, 0, 0⟩)), (b3, lnO), (b1, rwZ)] /\ Ap W w.heap.size sa 3 1 (iv (rowB A i))) ?_ ?_
 ·refine S4.drew λ w5 S5 e5 _ => S5.lds 0 (lnT (Aw A i)) rfl (S5.ld 0 rfl (x := ((Aw A i).from_ : Int)) rfl (S5.ld 0 rfl (x := ((Aw A i).to_ : Int)) rfl ?_))
  refine ⟨?_, ?_⟩
  ·refine S5.Af λ b9 w6 S6 e6 => ?_
   refine S6.keep 1 rfl (v := .int .i64 ((Aw A i).to_ : Int)) rfl (S6.keep 1 rfl (v := .int .i64 ((Aw A i).from_ : Int)) rfl (S6.keeps 1 (x := lnT (Aw A i)) rfl ?_))
   refine (h.ext S6.upd).atoms λ sa w7 o7 e7 => ?_
   rw [Bg2] at o7
   have S7 := S6.ext e7
   have o7 := o7.mono S6.upd.size
   refine S7.keeps 1 (x := lnT (Aw A i)) rfl (S7.Ae 0 rfl rfl rfl rfl λ w8 S8 u8 => ?_)
   exact ⟨b9, sa, rfl, S8, o7.box (S7.at_ 0 rfl) (by decide) u8⟩
  ·refine (h.ext S5.upd).atoms λ sa w6 o6 e6 => ?_
   rw [Bg2] at o6
   have S6 := S5.ext e6
   have o6 := o6.mono S5.upd.size
   refine S6.keeps 0 (x := lnT (Aw A i)) rfl ⟨?_, trivial⟩
   refine S6.Af λ b12 w7 S7 e7 => ?_
   refine S7.keep 1 rfl (v := .int .i64 ((Aw A i).to_ : Int)) rfl (S7.keep 1 rfl (v := .int .i64 ((Aw A i).from_ : Int)) rfl (S7.keeps 1 (x := lnT (Aw A i)) rfl (S7.Ae 0 rfl rfl rfl rfl λ w8 S8 u8 => ?_)))
   exact ⟨b12, sa, rfl, S8, (o6.ext e7).box (S7.at_ 0 rfl) (by decide) u8⟩
 rintro _ W ⟨b, sa, rfl, SW, oa⟩
 refine SW.ld (off := 5) 0 rfl (x := sa) rfl ?_
 refine An8 oa.in (by rw [Ov hi]; have := (Bz hi).tn; have := (Bz hi).nl; omega) λ ss w2 o2 e2 => ?_
 rw [Cn3 hi] at o2
 have S2 := SW.ext e2
 have o2 := o2.mono SW.upd.size
 refine S2.stC (off := 6) 0 rfl (by show 6 < 7; decide) λ w3 S3 u3 => ?_
 have S3 : St (λ _ => False) w w3 [(b, rwO (rw1 sa ss)), (b3, lnO), (b1, rwZ)] := S3
 have oa3 := (oa.ext e2).box (S2.at_ 0 rfl) (by decide) u3
 have os3 := o2.box (S2.at_ 0 rfl) (by decide) u3
 refine S3.lds 0 (rw1 sa ss) rfl (S3.Ae 2 rfl rfl rfl rfl λ w4 S4 u4 => ?_)
 have oa4 := oa3.box (S3.at_ 2 rfl) (by decide) u4
 have os4 := os3.box (S3.at_ 2 rfl) (by decide) u4
 refine S4.lds 2 (rw1 sa ss) rfl (hK _ w4 ?_ S4.upd)
 exact ⟨hi, hA, rfl, rfl, rfl, rfl, oa4.in, os4.in⟩
theorem Rt (h : TxA w p A) {x : Int} {tail : Bool} {K : RwT -> Wp} (hK : ∀ r w', Gv w' A (Cj A x tail) r -> Ext w w' -> K r w') :
  Aa Tryz.prog 78 #[.pointer (some (at0 p)), .int .i64 x, .bool tail] (.one (.agg Bc)) K w := by
 refine A78 ?_
 unfold F78
 have hA := h.len; have hb := Bl A; have hbl := Lc A; have hof := Zm A x
 refine (St.start w).Af λ b1 w1 S1 e1 => (h.ext e1).of λ w2 e2 => ?_
 have S2 := S1.ext e2
 have S2 : St (λ _ => False) w w2 [(b1, rwZ)] := S2
 refine Ad (λ y W => y = ((Cj A x tail : Int), ()) /\ St (λ _ => False) w W [(b1, rwZ)]) ?_ ?_
 ·refine Ac (λ hc => ?_) (λ hc => ?_)
  ·have ht : tail = false := by simpa using hc
   subst ht
   refine (h.ext S2.upd).count λ w3 e3 => ⟨?_, S2.ext e3⟩
   have ew : W64 ((lnN A : Int) - 1) = ((lnN A - 1 : Nat) : Int) := by rw [wrap64 (by omega) (by omega)]; omega
   rw [ew]
   show _ = (((min (ofI A x) (lnN A - 1) : Nat) : Int), ())
   congr 1
   split <;> omega
  ·have ht : tail = true := by simpa using hc
   subst ht
   exact ⟨by unfold Cj; rw [if_pos rfl], S2⟩
 rintro _ W ⟨rfl, SW⟩
 refine Nr (h.ext SW.upd) (Ru A x tail) λ r w3 hr e3 => (SW.ext e3).Ae 0 rfl rfl rfl rfl λ w4 S4 u4 => ?_
 have S4 : St (λ _ => False) w w4 [(b1, rwO r)] := S4
 refine S4.lds 0 r rfl (hK r w4 ⟨hr.row, hr.len, hr.f, hr.t, hr.n, hr.num, ?_, ?_⟩ S4.upd)
 ·exact hr.atoms.box ((SW.ext e3).at_ 0 rfl) (by decide) u4
 ·exact hr.starts.box ((SW.ext e3).at_ 0 rfl) (by decide) u4
theorem Gv.box {i b : Nat} {c : Array Value} {fr : Nat × Nat} {t : TypeId} {r : RwT} (h : Gv w A i r) (hb : w.heap[b]? = some (.cells c t fr)) (ht : 3 ≠ t) (u : Upd (λ k => k = b) w w') : Gv w' A i r :=
 ⟨h.row, h.len, h.f, h.t, h.n, h.num, h.atoms.box hb ht u, h.starts.box hb ht u⟩
theorem H9 (h : TxA w p A) {x : Int} {past : Bool} {K : Int -> Wp} (hK : ∀ w', Ext w w' -> K (Bg A x past : Int) w') :
  Aa Tryz.prog 34 #[.pointer (some (at0 p)), .int .i64 x, .bool past] rI K w := by
 refine A34 ?_
 unfold F34
 have hA := h.len
 refine Rt h λ r w1 hr e1 => ?_
 refine (St.start w).ext e1 |>.Af λ b2 w2 S2 e2 => S2.Ae 0 rfl rfl rfl rfl λ w3 S3 u3 => ?_
 have S3 : St (λ _ => False) w w3 [(b2, rwO r)] := S3
 have hr := (hr.ext e2).box (S2.at_ 0 rfl) (by decide) u3
 have fw := hr.few
 refine (h.ext S3.upd).Cq1 λ w4 e4 => ?_
 have S4 := S3.ext e4
 have hr := hr.ext e4
 refine S4.ld (off := 1) 0 rfl (x := r.2.1) rfl ?_
 have ein : (if ((A.length : Nat) : Int) < (if (0 : Int) > x then (0 : Int) else x) then ((A.length : Nat) : Int) else (if (0 : Int) > x then (0 : Int) else x)) = (inT A x : Int) := by
  unfold inT
  split <;> split at * <;> omega
 rw [ein, hr.t]
 unfold Bg at hK
 refine Ac (λ hc => ?_) (λ hc => ?_)
 ·simp only [decide_eq_true_eq, ge_iff_le] at hc
  rw [if_pos (by omega)] at hK
  refine Ac (λ hp => ?_) (λ hp => ?_)
  ·subst hp
   rw [if_pos rfl] at hK
   refine S4.ld (off := 1) 0 rfl (x := r.2.1) rfl ?_
   rw [hr.t]; exact hK w4 S4.upd
  ·subst hp
   rw [if_neg (by decide)] at hK
   refine S4.drew λ w5 S5 e5 _ => S5.lds 0 r rfl (S5.lds 0 r rfl (Eo (hr.ext e5) λ w6 e6 => ?_))
   have S6 := S5.ext e6
   rw [wrap64 (by omega) (by omega)]
   exact S6.keeps 0 (x := r) rfl (Fg ((hr.ext e5).ext e6) λ w7 e7 => hK w7 (S6.ext e7).upd)
 ·simp only [decide_eq_false_iff_not, ge_iff_le] at hc
  rw [if_neg (by omega)] at hK
  refine S4.drew λ w5 S5 e5 _ => S5.lds 0 r rfl (S5.lds 0 r rfl (Vl (hr.ext e5) λ w6 e6 => ?_))
  have S6 := S5.ext e6
  exact S6.keeps 0 (x := r) rfl (Fg ((hr.ext e5).ext e6) λ w7 e7 => hK w7 (S6.ext e7).upd)
theorem Am1 (h : TxA w p A) {x : Int} {K : Int -> Wp} (hK : ∀ w', Ext w w' -> K (Q8 A x : Int) w') :
  Aa Tryz.prog 38 #[.pointer (some (at0 p)), .int .i64 x] rI K w := by
 refine A38 ?_
 unfold F38
 refine Rt h λ r w1 hr e1 => ?_
 refine (St.start w).ext e1 |>.Af λ b2 w2 S2 e2 => S2.Ae 0 rfl rfl rfl rfl λ w3 S3 u3 => ?_
 have S3 : St (λ _ => False) w w3 [(b2, rwO r)] := S3
 have hr := (hr.ext e2).box (S2.at_ 0 rfl) (by decide) u3
 exact S3.lds 0 r rfl (Vl hr λ w4 e4 => hK w4 (S3.ext e4).upd)
end
abbrev LdT := Cells.T c83 × Int × Unit
abbrev ldT (l : Ld) : LdT := ((l.1.1, l.1.2.1, l.1.2.2, ()), l.2, ())
abbrev ldZ : Obj := .cells #[.int .i64 0, .int .i64 0, .int .i64 0] 83 (0, 0)
abbrev mvO (p : Nat) (s c k : Int) (counted : Bool) (arg goal : Int) (past big : Bool) (r : RwT) : Obj :=
 .cells #[.pointer (some (at0 p)), .int .i64 s, .int .i64 c, .int .i64 k, .bool counted, .int .i64 arg, .int .i64 goal, .bool past, .bool big, .int .i64 r.1, .int .i64 r.2.1, .int .i64 r.2.2.1, .int .i64 r.2.2.2.1, .int .i64 r.2.2.2.2.1, .slice r.2.2.2.2.2.1.a r.2.2.2.2.2.1.len r.2.2.2.2.2.1.cap, .slice r.2.2.2.2.2.2.1.a r.2.2.2.2.2.2.1.len r.2.2.2.2.2.2.1.cap] 176 (0, 0)
structure Ed (w : World) (b p : Nat) (A : List Int) (x count arg goal : Int) (past big : Bool) (r : RwT) : Prop where
 tx : TxA w p A
 obj : w.heap[b]? = some (mvO p (Bg A x past : Int) ((Aq A x past).2 : Int) (kOf count : Int) (decide (0 < count)) arg goal past big r)
 row : Gv w A (Aq A x past).1 r
section
variable {w w' : World} {b p : Nat} {A : List Int} {x count arg goal : Int} {past big : Bool} {r : RwT}
theorem Ed.ext (h : Ed w b p A x count arg goal past big r) (e : Ext w w') : Ed w' b p A x count arg goal past big r := ⟨h.tx.ext e, e.ext_get h.obj, h.row.ext e⟩
theorem Ed.tK (h : Ed w b p A x count arg goal past big r) {K : Addr -> Option Addr -> Wp} (hK : K (at0 b) (some (at0 p)) w) : nn (some (at0 b)) (λ q => ld (.ptr) q (K q)) w := Aj (Cc (off := 0) h.obj rfl hK)
theorem Ed.cK (h : Ed w b p A x count arg goal past big r) {K : Addr -> Int -> Wp} (hK : K (at0 b) ((Aq A x past).2 : Int) w) : nn (some (at0 b)) (λ q => ld (.int .i64) (q.add 2) (K q)) w := Aj (Cc (off := 2) h.obj rfl hK)
theorem Ed.sK (h : Ed w b p A x count arg goal past big r) {K : Addr -> Int -> Wp} (hK : K (at0 b) (Bg A x past : Int) w) : nn (some (at0 b)) (λ q => ld (.int .i64) (q.add 1) (K q)) w := Aj (Cc (off := 1) h.obj rfl hK)
theorem Ed.kK (h : Ed w b p A x count arg goal past big r) {K : Addr -> Int -> Wp} (hK : K (at0 b) (kOf count : Int) w) : nn (some (at0 b)) (λ q => ld (.int .i64) (q.add 3) (K q)) w := Aj (Cc (off := 3) h.obj rfl hK)
theorem Ed.Ct7 (h : Ed w b p A x count arg goal past big r) {K : Addr -> Int -> Wp} (hK : K (at0 b) arg w) : nn (some (at0 b)) (λ q => ld (.int .i64) (q.add 5) (K q)) w := Aj (Cc (off := 5) h.obj rfl hK)
theorem Ed.Ck0 (h : Ed w b p A x count arg goal past big r) {K : Addr -> Bool -> Wp} (hK : K (at0 b) past w) : nn (some (at0 b)) (λ q => ld (.bool) (q.add 7) (K q)) w := Aj (Cc (off := 7) h.obj rfl hK)
theorem Ed.Ac5 (h : Ed w b p A x count arg goal past big r) {K : Addr -> Bool -> Wp} (hK : K (at0 b) big w) : nn (some (at0 b)) (λ q => ld (.bool) (q.add 8) (K q)) w := Aj (Cc (off := 8) h.obj rfl hK)
theorem Ed.Ah4 (h : Ed w b p A x count arg goal past big r) {K : Addr -> Int -> Wp} (hK : K (at0 b) r.1 w) : nn (some (at0 b)) (λ q => ld (.int .i64) (q.add 9) (K q)) w := Aj (Cc (off := 9) h.obj rfl hK)
theorem Ed.Bb5 (h : Ed w b p A x count arg goal past big r) {K : Addr -> Int -> Wp} (hK : K (at0 b) r.2.2.2.2.1 w) : nn (some (at0 b)) (λ q => ld (.int .i64) ((q.add 9).add 4) (K q)) w := Aj (Cc (off := 13) h.obj rfl hK)
theorem Um {o : Array Value} {off : Nat} {r : RwT} (h : (o.toList.drop off).take 7 = Cells.vals Bc r) : ∀ (j : Nat) v, (Cells.vals Bc r)[j]? = some v -> o[off + j]? = some v := by
 intro j v hv
 rw [← h, List.getElem?_take] at hv
 split at hv
 ·rw [List.getElem?_drop] at hv
  simpa using hv
 ·cases hv
theorem Ed.Qc (h : Ed w b p A x count arg goal past big r) {K : Addr -> RwT -> Wp} (hK : K (at0 b) r w) : nn (some (at0 b)) (λ q => lds Bc (q.add 9) (K q)) w :=
 Aj (Nb (off := 9) h.obj (Um (by rfl)) hK)
theorem Ed.keepRow (h : Ed w b p A x count arg goal past big r) {K : World -> Prop} (hK : K w) : keep (λ w => Ak w ((at0 b).add 9) 0 (Cells.vals Bc r)) K w :=
 Au (Eu (off := 9) _ 0 λ j v hv => by rw [Nat.zero_add]; exact cell_of h.obj (Um (r := r) (by rfl) j v hv)) hK
theorem Ed.At6 (h : Ed w b p A x count arg goal past big r) {K : World -> Prop} (hK : K w) : keep (λ w => w.cell? ((at0 b).add 2) = some (Cell.val (.int .i64) ((Aq A x past).2 : Int))) K w := Au (cell_of (off := 2) h.obj rfl) hK
theorem Ed.Ck6 (h : Ed w b p A x count arg goal past big r) {K : World -> Prop} (hK : K w) : keep (λ w => w.cell? ((at0 b).add 3) = some (Cell.val (.int .i64) (kOf count : Int))) K w := Au (cell_of (off := 3) h.obj rfl) hK
theorem Ed.Bi7 (h : Ed w b p A x count arg goal past big r) {K : World -> Prop} (hK : K w) : keep (λ w => w.cell? ((at0 b).add 5) = some (Cell.val (.int .i64) arg)) K w := Au (cell_of (off := 5) h.obj rfl) hK
theorem Ed.Cs2 (h : Ed w b p A x count arg goal past big r) {K : World -> Prop} (hK : K w) : keep (λ w => w.cell? (at0 b) = some (Cell.val (.ptr) (some (at0 p)))) K w := Au (cell_of (off := 0) h.obj rfl) hK
theorem Hy {W w0 : World} {b1 : Nat} {l : Ld} {K : LdT -> Wp} (S : St (λ _ => False) w0 W [(b1, ldZ)]) (hK : ∀ w', Ext w0 w' -> K (ldT l) w') :
  Ae (at0 b1) (.agg (Cells.vals c83 (ldT l).1).toArray) 3 (lds c83 (at0 b1) λ y => K (y, (ldT l).2.1, ())) W :=
 S.Ae 0 rfl rfl rfl rfl λ w1 S1 _ => S1.lds 0 (ldT l).1 rfl (hK w1 S1.upd)
theorem Gj {K : LdT -> Wp} (hK : ∀ w', Ext w w' -> K (ldT (noP 80)) w') : Aa Tryz.prog 179 #[] (.tup [(.agg c83), (.one (.int .i64))]) K w := by
 refine Dn8 ?_
 unfold F179
 exact (St.start w).Af λ b1 w1 S1 e1 => S1.Ae 0 rfl rfl rfl rfl λ w2 S2 _ => S2.lds 0 (ldT (noP 80)).1 rfl (hK w2 S2.upd)
theorem Gf (h : Ed w b p A x count arg goal past big r) {n : Nat} {kind : Int} {K : LdT -> Wp} (hK : ∀ w', Ext w w' -> K (ldT (Dq A n kind)) w') :
  Aa Tryz.prog 180 #[.pointer (some (at0 b)), .int .i64 (n : Int), .int .i64 kind] (.tup [(.agg c83), (.one (.int .i64))]) K w := by
 refine Dn7 ?_
 unfold F180
 refine (St.start w).Af λ b1 w1 S1 e1 => (h.ext e1).tK (Am1 (h.ext e1).tx λ w2 e2 => ?_)
 exact (S1.ext e2).Ae 0 rfl rfl rfl rfl λ w3 S3 _ => S3.lds 0 (ldT (Dq A n kind)).1 rfl (hK w3 S3.upd)
theorem Ul (h : Ed w b p A x count arg goal past big r) {K : Int -> Wp} (hK : ∀ w', Ext w w' -> K (Jb A (Aq A x past).1 past : Int) w') :
  Aa Tryz.prog 181 #[.pointer (some (at0 b))] rI K w := by
 refine Dn6 ?_
 unfold F181
 have fw := h.row.few
 unfold Jb at hK
 refine h.Ck0 (Ac (λ hp => ?_) (λ hp => ?_))
 ·refine h.Qc (Eo h.row λ w1 e1 => ?_)
  have := hK w1 e1
  rw [if_pos hp] at this; exact this
 ·refine h.Qc (Eo h.row λ w1 e1 => ?_)
  have := hK w1 e1
  rw [if_neg (by rw [hp]; decide)] at this
  rw [wrap64 (by omega) (by omega)]
  have e : (if (0 : Int) > (((Ag A (Aq A x past).1).length : Nat) : Int) - 1 then (0 : Int) else (((Ag A (Aq A x past).1).length : Nat) : Int) - 1) = (((Ag A (Aq A x past).1).length - 1 : Nat) : Int) := by split <;> omega
  rw [e]; exact this
theorem Ed.bounds (h : Ed w b p A x count arg goal past big r) : (Aq A x past).2 <= Jb A (Aq A x past).1 past /\ Jb A (Aq A x past).1 past <= (Ag A (Aq A x past).1).length /\ (Ag A (Aq A x past).1).length <= 1048576 /\ 1 <= kOf count /\ kOf count <= 9999 /\ (Aq A x past).1 <= brs A /\ (Aq A x past).1 <= 1048576 := by
 have h1 := Bu2 A x past
 have h2 := h.row.few
 have h3 := h.row.row
 have h4 := Lc A
 have h5 := h.row.len
 exact ⟨h1.1, h1.2, h2.1, Cf6 count, Cn8 count, h3, by omega⟩
theorem Bo7 (h : Ed w b p A x count arg goal past big r) {a' : Int} {K : LdT -> Wp} (hK : ∀ w', Ext w w' -> K (ldT (Dc A x 1 count a' past)) w') :
  Aa Tryz.prog 134 #[.pointer (some (at0 b))] (.tup [(.agg c83), (.one (.int .i64))]) K w := by
 refine Dq4 ?_
 unfold F134
 obtain ⟨m1, m2, m3, m4, m5, m6, m7⟩ := h.bounds
 rw [Bq7] at hK
 refine (St.start w).Af λ b1 w1 S1 e1 => ?_
 have h1 := h.ext e1
 refine h1.cK (Ac (λ hc => ?_) (λ hc => ?_))
 ·simp only [beq_iff_eq] at hc
  rw [if_pos (by omega)] at hK
  exact Gj λ w2 e2 => Hy (S1.ext e2) hK
 ·simp only [beq_eq_false_iff_ne, ne_eq] at hc
  rw [if_neg (by omega)] at hK
  refine S1.drew λ w2 S2 e2 _ => ?_
  have h2 := h1.ext e2
  refine h2.Qc (h2.cK (h2.kK ?_))
  rw [wrap64 (by omega) (by omega)]
  refine Fg h2.row λ w3 e3 => Gf (h2.ext e3) λ w4 e4 => Hy ((S2.ext e3).ext e4) ?_
  have e : Bf A (Aq A x past).1 (((Aq A x past).2 : Int) - (kOf count : Int)) = Ec A ((Aq A x past).1, (Aq A x past).2 - kOf count) := by
   unfold Ec
   dsimp only
   rcases Nat.le_total (Aq A x past).2 (kOf count) with u | u
   ·rw [Ji (by omega), Ji (c := (((Aq A x past).2 - kOf count : Nat) : Int)) (by omega)]
   ·congr 1; omega
  rw [e]; exact hK
theorem Ba3 (h : Ed w b p A x count arg goal past big r) {a' : Int} {K : LdT -> Wp} (hK : ∀ w', Ext w w' -> K (ldT (Dc A x 2 count a' past)) w') :
  Aa Tryz.prog 135 #[.pointer (some (at0 b))] (.tup [(.agg c83), (.one (.int .i64))]) K w := by
 refine Dq3 ?_
 unfold F135
 obtain ⟨m1, m2, m3, m4, m5, m6, m7⟩ := h.bounds
 rw [Ai0] at hK
 refine (St.start w).Af λ b1 w1 S1 e1 => S1.drew λ w2 S2 e2 _ => ?_
 have h2 := (h.ext e1).ext e2
 refine h2.cK (Ul h2 λ w3 e3 => (h2.ext e3).At6 (Ac (λ hc => ?_) (λ hc => ?_)))
 ·simp only [beq_iff_eq] at hc
  rw [if_pos (by omega)] at hK
  exact Gj λ w4 e4 => Hy ((S2.ext e3).ext e4) hK
 ·simp only [beq_eq_false_iff_ne, ne_eq] at hc
  rw [if_neg (by omega)] at hK
  refine (S2.ext e3).drew λ w4 S4 e4 _ => ?_
  have h4 := (h2.ext e3).ext e4
  refine h4.Qc (h4.cK (h4.kK (Ul h4 λ w5 e5 => ?_)))
  have h5 := h4.ext e5
  refine h5.Ck6 (h5.At6 (h5.keepRow ?_))
  rw [wrap64 (by omega) (by omega)]
  have em : (if ((Jb A (Aq A x past).1 past : Nat) : Int) < ((Aq A x past).2 : Int) + (kOf count : Int) then ((Jb A (Aq A x past).1 past : Nat) : Int) else ((Aq A x past).2 : Int) + (kOf count : Int)) = ((min ((Aq A x past).2 + kOf count) (Jb A (Aq A x past).1 past) : Nat) : Int) := by split <;> omega
  rw [em]
  exact Fg h5.row λ w6 e6 => Gf (h5.ext e6) λ w7 e7 => Hy (((S4.ext e5).ext e6).ext e7) hK
theorem Av6 (A : List Int) (x count arg : Int) (past : Bool) : Dc A x 3 count arg past = Dq A (Aw A (Aq A x past).1).from_ 0 := by
 unfold Dc Aq
 dsimp only
 rw [Gg, if_neg (by decide), if_neg (by decide), if_pos rfl]
theorem Be5 (A : List Int) (x count arg : Int) (past : Bool) : Dc A x 4 count arg past = Dq A (Bf A (Aq A x past).1 (Nz A (Aq A x past).1)) 0 := by
 unfold Dc Aq
 dsimp only
 rw [Gg, if_neg (by decide), if_neg (by decide), if_neg (by decide), if_pos rfl]
theorem Bq6 (A : List Int) (x count arg : Int) (past : Bool) : Dc A x 6 count arg past = Dq A (Bf A (Aq A x past).1 (min ((kOf count : Int) - 1) (Jb A (Aq A x past).1 past))) 0 := by
 unfold Dc Aq Jb
 dsimp only
 rw [Gg, if_neg (by decide), if_neg (by decide), if_neg (by decide), if_neg (by decide), if_neg (by decide), if_pos rfl]
theorem Ay9 (h : Ed w b p A x count arg goal past big r) {a' : Int} {K : LdT -> Wp} (hK : ∀ w', Ext w w' -> K (ldT (Dc A x 3 count a' past)) w') :
  Aa Tryz.prog 136 #[.pointer (some (at0 b))] (.tup [(.agg c83), (.one (.int .i64))]) K w := by
 refine Dq2 ?_
 unfold F136
 rw [Av6] at hK
 refine (St.start w).Af λ b1 w1 S1 e1 => (h.ext e1).Ah4 ?_
 rw [h.row.f]
 exact Gf (h.ext e1) λ w2 e2 => Hy (S1.ext e2) hK
theorem Bo6 (h : Ed w b p A x count arg goal past big r) {a' : Int} {K : LdT -> Wp} (hK : ∀ w', Ext w w' -> K (ldT (Dc A x 4 count a' past)) w') :
  Aa Tryz.prog 137 #[.pointer (some (at0 b))] (.tup [(.agg c83), (.one (.int .i64))]) K w := by
 refine Dq1 ?_
 unfold F137
 rw [Be5] at hK
 refine (St.start w).Af λ b1 w1 S1 e1 => S1.drew λ w2 S2 e2 _ => ?_
 have h2 := (h.ext e1).ext e2
 refine h2.Qc (h2.Qc (Z7 h2.row λ w3 e3 => ?_))
 have h3 := h2.ext e3
 exact h3.keepRow (Fg h3.row λ w4 e4 => Gf (h3.ext e4) λ w5 e5 => Hy (((S2.ext e3).ext e4).ext e5) hK)
theorem Cb4 (h : Ed w b p A x count arg goal past big r) {a' : Int} {K : LdT -> Wp} (hK : ∀ w', Ext w w' -> K (ldT (Dc A x 6 count a' past)) w') :
  Aa Tryz.prog 139 #[.pointer (some (at0 b))] (.tup [(.agg c83), (.one (.int .i64))]) K w := by
 refine Dp9 ?_
 unfold F139
 obtain ⟨m1, m2, m3, m4, m5, m6, m7⟩ := h.bounds
 rw [Bq6] at hK
 refine (St.start w).Af λ b1 w1 S1 e1 => S1.drew λ w2 S2 e2 _ => ?_
 have h2 := (h.ext e1).ext e2
 refine h2.Qc (h2.kK (Ul h2 λ w3 e3 => ?_))
 have h3 := h2.ext e3
 refine h3.Ck6 (h3.keepRow ?_)
 rw [wrap64 (by omega) (by omega)]
 have em : (if ((Jb A (Aq A x past).1 past : Nat) : Int) < (kOf count : Int) - 1 then ((Jb A (Aq A x past).1 past : Nat) : Int) else (kOf count : Int) - 1) = min ((kOf count : Int) - 1) (Jb A (Aq A x past).1 past) := by split <;> omega
 rw [em]
 exact Fg h3.row λ w4 e4 => Gf (h3.ext e4) λ w5 e5 => Hy (((S2.ext e3).ext e4).ext e5) hK
end
section
variable {w w' : World} {b p : Nat} {A : List Int} {x count arg goal : Int} {past big : Bool} {r : RwT}
def Wh (A : List Int) (i : Nat) (a : Int) (j : Nat) : Bool := decide ((Ag A i)[j]?.map (·.atom) = some a)
theorem Cd8 (A : List Int) (i : Nat) (a : Int) (n c k : Nat) : Gw (Ag A i) a (upL n c) k = upF (Wh A i a) (c + 1) n k := rfl
theorem Ce0 (A : List Int) (i : Nat) (a : Int) (c k : Nat) : Gw (Ag A i) a (Ol c) k = dnF (Wh A i a) c k := rfl
theorem Am7 {i j : Nat} {a : Int} {c : Cel} (hc : (Ag A i)[j]? = some c) : Wh A i a j = decide (c.atom = a) := by
 unfold Wh
 rw [hc]
 simp
theorem As3 (h : Ed w b p A x count arg goal past big r) {K : Int -> Wp}
  (hK : ∀ w', Ext w w' -> K (match Gw (Ag A (Aq A x past).1) arg (upL (Ag A (Aq A x past).1).length (Aq A x past).2) (kOf count) with | some j => (j : Int) | none => -1) w') :
  Aa Tryz.prog 203 #[.pointer (some (at0 b)), .int .i64 1] rI K w := by
 refine Cu2 ?_
 unfold F203
 obtain ⟨m1, m2, m3, m4, m5, m6, m7⟩ := h.bounds
 rw [Cd8] at hK
 generalize hi : (Aq A x past).1 = i at *
 generalize hcc : (Aq A x past).2 = c at *
 refine h.kK (Ad (λ _ W => upF (Wh A i arg) (c + 1) (Ag A i).length (kOf count) = none /\ Ext w W) ?_ (λ _ W hW => by have := hK W hW.2; rw [hW.1] at this; exact this))
 refine h.cK ?_
 rw [hcc, wrap64 (by omega) (by omega)]
 refine Ar (λ s W => ∃ k j : Nat, s = ((k : Int), (j : Int), ()) /\ 1 <= k /\ k <= 9999 /\ j <= (Ag A i).length + 1 /\ upF (Wh A i arg) (c + 1) (Ag A i).length (kOf count) = upF (Wh A i arg) j (Ag A i).length k /\ Ext w W) (λ s _ => ((Ag A i).length + 1 - s.2.1).toNat) ⟨kOf count, c + 1, by simp, m4, m5, by omega, rfl, Ext.refl w⟩ ?_
 rintro _ W ⟨k, j, rfl, k1, k2, hj, hu, eW⟩
 dsimp only
 have hW := h.ext eW
 have hrow := hW.row
 rw [hi] at hrow
 refine Ad (λ y W' => y = (decide (j < (Ag A i).length), ()) /\ Ext w W') ?_ ?_
 ·refine Ac (λ _ => hW.Qc (Eo hrow λ w2 e2 => ⟨Az ?_, eW.trans e2⟩)) (λ hc => ?_)
  ·simp only [decide_eq_true_eq]; omega
  ·simp only [decide_eq_false_iff_not, ge_iff_le] at hc; omega
 rintro _ W2 ⟨rfl, eW2⟩
 have h2 := h.ext eW2
 refine Ac (λ hc => ?_) (λ hc => ?_)
 ·simp only [decide_eq_true_eq] at hc
  obtain ⟨cl, hcl⟩ := Dy hc
  have ew : W64 ((j : Int) + 1) = ((j + 1 : Nat) : Int) := by rw [wrap64 (by omega) (by omega)]; omega
  rw [ew]
  refine Ad (λ y W' => ∃ k' : Nat, y = ((k' : Int), ()) /\ 1 <= k' /\ k' <= 9999 /\ upF (Wh A i arg) j (Ag A i).length k = upF (Wh A i arg) (j + 1) (Ag A i).length k' /\ Ext w W') ?_ ?_
  ·refine Di λ w3 e3 _ => ?_
   have h3 := h2.ext e3
   have hr3 := h3.row
   rw [hi] at hr3
   refine h3.Qc (h3.Ct7 (Ph hr3 hcl λ w4 e4 => (h3.ext e4).Bi7 ?_))
   have e04 := (eW2.trans e3).trans e4
   refine Ac (λ hg => ?_) (λ hg => ?_)
   ·simp only [bne_iff_ne, ne_eq] at hg
    exact ⟨k, rfl, k1, k2, Ay3 hc (by rw [Am7 hcl, decide_eq_false hg]), e04⟩
   ·simp only [bne_eq_false_iff_eq] at hg
    have hf : Wh A i arg j = true := by rw [Am7 hcl, decide_eq_true hg]
    have ewk : W64 ((k : Int) - 1) = ((k - 1 : Nat) : Int) := by rw [wrap64 (by omega) (by omega)]; omega
    rw [ewk]
    refine Ac (λ hz => ?_) (λ hz => ?_)
    ·simp only [beq_iff_eq] at hz
     have : k = 1 := by omega
     subst this
     have := hK w4 e04
     rw [hu, Aj4 hc hf] at this
     exact this
    ·simp only [beq_eq_false_iff_ne, ne_eq] at hz
     refine ⟨k - 1, rfl, by omega, by omega, ?_, e04⟩
     conv => lhs; rw [show k = (k - 1) + 1 by omega]
     exact U4 hc hf (by omega)
  rintro _ W3 ⟨k', rfl, k1', k2', hu', eW3⟩
  exact ⟨⟨k', j + 1, rfl, k1', k2', by omega, hu.trans hu', eW3⟩, by omega⟩
 ·simp only [decide_eq_false_iff_not] at hc
  exact ⟨hu.trans (U3 (by omega)), eW2⟩
theorem Az6 (h : Ed w b p A x count arg goal past big r) {K : Int -> Wp}
  (hK : ∀ w', Ext w w' -> K (match Gw (Ag A (Aq A x past).1) arg (Ol (Aq A x past).2) (kOf count) with | some j => (j : Int) | none => -1) w') :
  Aa Tryz.prog 203 #[.pointer (some (at0 b)), .int .i64 (-1)] rI K w := by
 refine Cu2 ?_
 unfold F203
 obtain ⟨m1, m2, m3, m4, m5, m6, m7⟩ := h.bounds
 rw [Ce0] at hK
 generalize hi : (Aq A x past).1 = i at *
 generalize hcc : (Aq A x past).2 = c at *
 refine h.kK (Ad (λ _ W => dnF (Wh A i arg) c (kOf count) = none /\ Ext w W) ?_ (λ _ W hW => by have := hK W hW.2; rw [hW.1] at this; exact this))
 refine h.cK ?_
 rw [hcc, wrap64 (by omega) (by omega)]
 refine Ar (λ s W => ∃ k j : Nat, s = ((k : Int), (j : Int) - 1, ()) /\ 1 <= k /\ k <= 9999 /\ j <= (Ag A i).length /\ dnF (Wh A i arg) c (kOf count) = dnF (Wh A i arg) j k /\ Ext w W) (λ s _ => (s.2.1 + 1).toNat) ⟨kOf count, c, rfl, m4, m5, by omega, rfl, Ext.refl w⟩ ?_
 rintro _ W ⟨k, j, rfl, k1, k2, hj, hu, eW⟩
 dsimp only
 have hW := h.ext eW
 have hrow := hW.row
 rw [hi] at hrow
 refine Ad (λ y W' => y = (decide (0 < j), ()) /\ Ext w W') ?_ ?_
 ·refine Ac (λ hc => hW.Qc (Eo hrow λ w2 e2 => ⟨Az ?_, eW.trans e2⟩)) (λ hc => ⟨Az ?_, eW⟩)
  ·simp only [decide_eq_true_eq, ge_iff_le] at hc ⊢; omega
  ·simp only [decide_eq_false_iff_not, ge_iff_le, decide_eq_true_eq, Bool.false_eq_true, false_iff] at hc ⊢; omega
 rintro _ W2 ⟨rfl, eW2⟩
 have h2 := h.ext eW2
 refine Ac (λ hc => ?_) (λ hc => ?_)
 ·simp only [decide_eq_true_eq] at hc
  obtain ⟨m, rfl⟩ : ∃ m, j = m + 1 := ⟨j - 1, by omega⟩
  have em : ((m + 1 : Nat) : Int) - 1 = (m : Int) := by omega
  rw [em]
  obtain ⟨cl, hcl⟩ := Dy (C := Ag A i) (j := m) (by omega)
  have ew : W64 ((m : Int) + -1) = (m : Int) - 1 := by rw [wrap64 (by omega) (by omega)]; omega
  rw [ew]
  refine Ad (λ y W' => ∃ k' : Nat, y = ((k' : Int), ()) /\ 1 <= k' /\ k' <= 9999 /\ dnF (Wh A i arg) (m + 1) k = dnF (Wh A i arg) m k' /\ Ext w W') ?_ ?_
  ·refine Di λ w3 e3 _ => ?_
   have h3 := h2.ext e3
   have hr3 := h3.row
   rw [hi] at hr3
   refine h3.Qc (h3.Ct7 (Ph hr3 hcl λ w4 e4 => (h3.ext e4).Bi7 ?_))
   have e04 := (eW2.trans e3).trans e4
   refine Ac (λ hg => ?_) (λ hg => ?_)
   ·simp only [bne_iff_ne, ne_eq] at hg
    exact ⟨k, rfl, k1, k2, Be1 (by rw [Am7 hcl, decide_eq_false hg]), e04⟩
   ·simp only [bne_eq_false_iff_eq] at hg
    have hf : Wh A i arg m = true := by rw [Am7 hcl, decide_eq_true hg]
    have ewk : W64 ((k : Int) - 1) = ((k - 1 : Nat) : Int) := by rw [wrap64 (by omega) (by omega)]; omega
    rw [ewk]
    refine Ac (λ hz => ?_) (λ hz => ?_)
    ·simp only [beq_iff_eq] at hz
     have : k = 1 := by omega
     subst this
     have := hK w4 e04
     rw [hu, An2 hf] at this
     exact this
    ·simp only [beq_eq_false_iff_ne, ne_eq] at hz
     refine ⟨k - 1, rfl, by omega, by omega, ?_, e04⟩
     conv => lhs; rw [show k = (k - 1) + 1 by omega]
     exact Ab2 hf (by omega)
  rintro _ W3 ⟨k', rfl, k1', k2', hu', eW3⟩
  exact ⟨⟨k', m, rfl, k1', k2', by omega, hu.trans hu', eW3⟩, by omega⟩
 ·simp only [decide_eq_false_iff_not] at hc
  have : j = 0 := by omega
  subst this
  exact ⟨hu, eW2⟩
theorem Cd9 {C : List Cel} {a : Int} {n c k j : Nat} (h : Gw C a (upL n c) k = some j) : c + 1 <= j /\ j < n := by
 have := (Af2 h).1
 unfold upL at this
 rw [List.mem_range'_1] at this
 omega
theorem Bt2 {C : List Cel} {a : Int} {c k j : Nat} (h : Gw C a (Ol c) k = some j) : j < c := by
 have := (Af2 h).1
 unfold Ol at this
 rw [List.mem_reverse, List.mem_range] at this
 omega
theorem Aa6 (h : Ed w b p A x count arg goal past big r) {be kd : Int} (hb : -1 <= be /\ be <= 1) {K : LdT -> Wp}
  (hK : ∀ w', Ext w w' -> K (ldT (match Gw (Ag A (Aq A x past).1) arg (upL (Ag A (Aq A x past).1).length (Aq A x past).2) (kOf count) with | some j => Dq A (Bf A (Aq A x past).1 ((j : Int) + be)) kd | none => noP 80)) w') :
  Aa Tryz.prog 183 #[.pointer (some (at0 b)), .int .i64 1, .int .i64 be, .int .i64 kd] (.tup [(.agg c83), (.one (.int .i64))]) K w := by
 refine Cu3 ?_
 unfold F183
 obtain ⟨m1, m2, m3, m4, m5, m6, m7⟩ := h.bounds
 refine (St.start w).Af λ b1 w1 S1 e1 => As3 (h.ext e1) λ w2 e2 => ?_
 have S2 := S1.ext e2
 have h2 := (h.ext e1).ext e2
 cases hs : Gw (Ag A (Aq A x past).1) arg (upL (Ag A (Aq A x past).1).length (Aq A x past).2) (kOf count) with
 | none =>
  rw [hs] at hK
  refine Ac (λ _ => ?_) (λ hc => by simp at hc)
  exact Gj λ w4 e4 => Hy (S2.ext e4) hK
 | some j =>
  rw [hs] at hK
  have hlt := Cd9 hs
  refine Ac (λ hc => by simp at hc; omega) (λ _ => ?_)
  refine h2.Qc ?_
  dsimp only at hK ⊢
  rw [wrap64 (by omega) (by omega)]
  exact Fg h2.row λ w6 e6 => Gf (h2.ext e6) λ w7 e7 => Hy ((S2.ext e6).ext e7) hK
theorem I7 (h : Ed w b p A x count arg goal past big r) {be kd : Int} (hb : -1 <= be /\ be <= 1) {K : LdT -> Wp}
  (hK : ∀ w', Ext w w' -> K (ldT (match Gw (Ag A (Aq A x past).1) arg (Ol (Aq A x past).2) (kOf count) with | some j => Dq A (Bf A (Aq A x past).1 ((j : Int) + be)) kd | none => noP 80)) w') :
  Aa Tryz.prog 183 #[.pointer (some (at0 b)), .int .i64 (-1), .int .i64 be, .int .i64 kd] (.tup [(.agg c83), (.one (.int .i64))]) K w := by
 refine Cu3 ?_
 unfold F183
 obtain ⟨m1, m2, m3, m4, m5, m6, m7⟩ := h.bounds
 refine (St.start w).Af λ b1 w1 S1 e1 => Az6 (h.ext e1) λ w2 e2 => ?_
 have S2 := S1.ext e2
 have h2 := (h.ext e1).ext e2
 cases hs : Gw (Ag A (Aq A x past).1) arg (Ol (Aq A x past).2) (kOf count) with
 | none =>
  rw [hs] at hK
  refine Ac (λ _ => ?_) (λ hc => by simp at hc)
  exact Gj λ w4 e4 => Hy (S2.ext e4) hK
 | some j =>
  rw [hs] at hK
  have hlt := Bt2 hs
  refine Ac (λ hc => by simp at hc; omega) (λ _ => ?_)
  refine h2.Qc ?_
  dsimp only at hK ⊢
  rw [wrap64 (by omega) (by omega)]
  exact Fg h2.row λ w6 e6 => Gf (h2.ext e6) λ w7 e7 => Hy ((S2.ext e6).ext e7) hK
theorem Bd7 (h : Ed w b p A x count arg goal past big r) {K : LdT -> Wp} (hK : ∀ w', Ext w w' -> K (ldT (Dc A x 7 count arg past)) w') :
  Aa Tryz.prog 140 #[.pointer (some (at0 b))] (.tup [(.agg c83), (.one (.int .i64))]) K w := by
 refine Dp8 ?_
 unfold F140
 rw [(Sr A x count arg past).1] at hK
 refine (St.start w).Af λ b1 w1 S1 e1 => Aa6 (h.ext e1) (by decide) λ w2 e2 => Hy (S1.ext e2) λ w' e' => ?_
 have := hK w' e'
 cases hs : Gw (Ag A (Aq A x past).1) arg (upL (Ag A (Aq A x past).1).length (Aq A x past).2) (kOf count) with
 | none => rw [hs] at this; exact this
 | some j => rw [hs] at this; dsimp only at this ⊢; rw [Int.add_zero]; exact this
theorem Bl6 (h : Ed w b p A x count arg goal past big r) {K : LdT -> Wp} (hK : ∀ w', Ext w w' -> K (ldT (Dc A x 9 count arg past)) w') :
  Aa Tryz.prog 142 #[.pointer (some (at0 b))] (.tup [(.agg c83), (.one (.int .i64))]) K w := by
 refine Dp6 ?_
 unfold F142
 rw [(Sr A x count arg past).2.1] at hK
 refine (St.start w).Af λ b1 w1 S1 e1 => Aa6 (h.ext e1) (by decide) λ w2 e2 => Hy (S1.ext e2) λ w' e' => ?_
 have := hK w' e'
 cases hs : Gw (Ag A (Aq A x past).1) arg (upL (Ag A (Aq A x past).1).length (Aq A x past).2) (kOf count) with
 | none => rw [hs] at this; exact this
 | some j => rw [hs] at this; exact this
theorem Bd6 (h : Ed w b p A x count arg goal past big r) {K : LdT -> Wp} (hK : ∀ w', Ext w w' -> K (ldT (Dc A x 8 count arg past)) w') :
  Aa Tryz.prog 141 #[.pointer (some (at0 b))] (.tup [(.agg c83), (.one (.int .i64))]) K w := by
 refine Dp7 ?_
 unfold F141
 rw [(Sr A x count arg past).2.2.1] at hK
 refine (St.start w).Af λ b1 w1 S1 e1 => I7 (h.ext e1) (by decide) λ w2 e2 => Hy (S1.ext e2) λ w' e' => ?_
 have := hK w' e'
 cases hs : Gw (Ag A (Aq A x past).1) arg (Ol (Aq A x past).2) (kOf count) with
 | none => rw [hs] at this; exact this
 | some j => rw [hs] at this; dsimp only at this ⊢; rw [Int.add_zero]; exact this
theorem Ay5 (h : Ed w b p A x count arg goal past big r) {K : LdT -> Wp} (hK : ∀ w', Ext w w' -> K (ldT (Dc A x 10 count arg past)) w') :
  Aa Tryz.prog 143 #[.pointer (some (at0 b))] (.tup [(.agg c83), (.one (.int .i64))]) K w := by
 refine Dp5 ?_
 unfold F143
 rw [(Sr A x count arg past).2.2.2] at hK
 refine (St.start w).Af λ b1 w1 S1 e1 => I7 (h.ext e1) (by decide) λ w2 e2 => Hy (S1.ext e2) λ w' e' => ?_
 have := hK w' e'
 cases hs : Gw (Ag A (Aq A x past).1) arg (Ol (Aq A x past).2) (kOf count) with
 | none => rw [hs] at this; exact this
 | some j => rw [hs] at this; exact this
theorem Be6 (A : List Int) (x count arg : Int) (past : Bool) : Dc A x 5 count arg past = ((((Bf A (if (Aq A x past).1 < lnN A - 1 /\ 1 < kOf count then min ((Aq A x past).1 + kOf count - 1) (lnN A - 1) else (Aq A x past).1) (((Ag A (if (Aq A x past).1 < lnN A - 1 /\ 1 < kOf count then min ((Aq A x past).1 + kOf count - 1) (lnN A - 1) else (Aq A x past).1)).length : Int) - 1) : Nat) : Int), 1, 100000), 0) := by
 unfold Dc Aq
 dsimp only
 rw [Gg, if_neg (by decide), if_neg (by decide), if_neg (by decide), if_neg (by decide), if_pos rfl]
theorem By1 (h : Ed w b p A x count arg goal past big r) {a' : Int} {K : LdT -> Wp} (hK : ∀ w', Ext w w' -> K (ldT (Dc A x 5 count a' past)) w') :
  Aa Tryz.prog 138 #[.pointer (some (at0 b))] (.tup [(.agg c83), (.one (.int .i64))]) K w := by
 refine Dq0 ?_
 unfold F138
 obtain ⟨m1, m2, m3, m4, m5, m6, m7⟩ := h.bounds
 have hb := Bl A; have hA := h.row.len; have hbl := Lc A
 rw [Be6] at hK
 refine (St.start w).Af λ b1 w1 S1 e1 => (h.ext e1).Qc (S1.Af λ b4 w2 S2 e2 => S2.Ae 0 rfl rfl rfl rfl λ w3 S3 u3 => ?_)
 have S3 : St (λ _ => False) w w3 [(b4, rwO r), (b1, ldZ)] := S3
 have h3 := h.ext S3.upd
 have ewl : W64 ((lnN A : Int) - 1) = (lnN A : Int) - 1 := wrap64 (by omega) (by omega)
 refine Ad (λ _ W => ∃ r', St (λ _ => False) w W [(b4, rwO r'), (b1, ldZ)] /\ Gv W A (if (Aq A x past).1 < lnN A - 1 /\ 1 < kOf count then min ((Aq A x past).1 + kOf count - 1) (lnN A - 1) else (Aq A x past).1) r') ?_ ?_
 ·refine h3.tK (h3.tx.count λ w4 e4 => ?_)
  have S4 := S3.ext e4
  have h4 := h3.ext e4
  rw [ewl]
  refine Ad (λ y W => y = (decide ((Aq A x past).1 < lnN A - 1 /\ 1 < kOf count), ()) /\ w4 = W) ?_ ?_
  ·refine S4.ld (off := 4) 0 rfl (x := r.2.2.2.2.1) rfl ?_
   rw [h.row.num]
   refine Ac (λ hc => h4.kK ⟨Az ?_, rfl⟩) (λ hc => ⟨Az ?_, rfl⟩)
   ·simp only [decide_eq_true_eq, gt_iff_lt] at hc ⊢; omega
   ·simp only [decide_eq_false_iff_not, decide_eq_true_eq, Bool.false_eq_true, false_iff] at hc ⊢; omega
  rintro _ _ ⟨rfl, rfl⟩
  refine Ac (λ hc => ?_) (λ hc => ?_)
  ·have hc := of_decide_eq_true hc
   rw [if_pos hc]
   refine S4.drew λ w5 S5 e5 _ => ?_
   have h5 := h4.ext e5
   refine h5.tK (S5.ld (off := 4) 0 rfl (x := r.2.2.2.2.1) rfl (h5.kK ?_))
   rw [h.row.num, wrap64 (a := ((Aq A x past).1 : Int) + (kOf count : Int)) (by omega) (by omega), wrap64 (by omega) (by omega)]
   have em : (if (lnN A : Int) - 1 < ((Aq A x past).1 : Int) + (kOf count : Int) - 1 then (lnN A : Int) - 1 else ((Aq A x past).1 : Int) + (kOf count : Int) - 1) = ((min ((Aq A x past).1 + kOf count - 1) (lnN A - 1) : Nat) : Int) := by split <;> omega
   rw [em]
   refine Nr h5.tx (by omega) λ r' w6 hr' e6 => (S5.ext e6).Ae 0 rfl rfl rfl rfl λ w7 S7 u7 => ⟨r', S7, hr'.box ((S5.ext e6).at_ 0 rfl) (by decide) u7⟩
  ·rw [if_neg (of_decide_eq_false hc)]
   exact ⟨r, S4, h4.row⟩
 rintro _ W ⟨r', SW, hr'⟩
 generalize (if (Aq A x past).1 < lnN A - 1 /\ 1 < kOf count then min ((Aq A x past).1 + kOf count - 1) (lnN A - 1) else (Aq A x past).1) = j at *
 have fw := hr'.few
 refine SW.drew λ w5 S5 e5 _ => S5.lds 0 r' rfl (S5.lds 0 r' rfl (Eo (hr'.ext e5) λ w6 e6 => ?_))
 have S6 := S5.ext e6
 rw [wrap64 (by omega) (by omega)]
 refine S6.keeps 0 (x := r') rfl (Fg ((hr'.ext e5).ext e6) λ w7 e7 => (S6.ext e7).Ae 1 rfl rfl rfl rfl λ w8 S8 _ => ?_)
 exact S8.lds 1 (((Bf A j (((Ag A j).length : Int) - 1) : Nat) : Int), 1, 100000, ()) rfl (hK w8 S8.upd)
end
end Go.Proofs.YtolhlldgnfbemaaGreatDoor
namespace Go.Vx
open Go
theorem least {P : Nat -> Prop} (h : ∃ n, P n) : ∃ n, P n /\ ∀ m, P m -> n <= m := by
 obtain ⟨n, hn⟩ := h
 induction n using Nat.strongRecOn with
 | ind n ih =>
  by_cases hc : ∃ k, k < n /\ P k
  ·obtain ⟨k, h1, h2⟩ := hc
   exact ih k h1 h2
  ·exact ⟨n, hn, λ m hm => Nat.le_of_not_lt λ hl => hc ⟨m, hl, hm⟩⟩
open Classical in
theorem Bg6 {T G : Type} {body : T -> (T -> Wp) -> Wp} {s0 : T} {w : World} (J : G -> T -> Wp) (m : G -> Nat) (g0 : G) (h0 : J g0 s0 w)
  (hr : ∀ g s w' (R : T -> Wp), J g s w' -> (∀ g' s' w'', J g' s' w'' -> m g' < m g -> R s' w'') -> body s R w') : Ho body s0 w := by
 have hex : ∀ s w, (∃ g, J g s w) -> ∃ n, (∃ g, J g s w /\ m g = n) /\ ∀ g, J g s w -> n <= m g := λ s w ⟨g, h⟩ => by
  obtain ⟨n, h1, h2⟩ := least (P := λ n => ∃ g, J g s w /\ m g = n) ⟨m g, g, h, rfl⟩
  exact ⟨n, h1, λ g' h' => h2 _ ⟨g', h', rfl⟩⟩
 let μ : T -> World -> Nat := λ s w => if h : ∃ g, J g s w then Classical.choose (hex s w h) else 0
 have hμ : ∀ s w (h : ∃ g, J g s w), μ s w = Classical.choose (hex s w h) := λ s w h => dif_pos h
 have le : ∀ g s w, J g s w -> μ s w <= m g := λ g s w h => by
  rw [hμ s w ⟨g, h⟩]
  exact (Classical.choose_spec (hex s w ⟨g, h⟩)).2 g h
 have at_ : ∀ s w, (∃ g, J g s w) -> ∃ g, J g s w /\ m g = μ s w := λ s w h => by
  rw [hμ s w h]
  exact (Classical.choose_spec (hex s w h)).1
 refine Ar (λ s w => ∃ g, J g s w) μ ⟨g0, h0⟩ λ s w' hI => ?_
 obtain ⟨g, h1, h2⟩ := at_ s w' hI
 refine hr g s w' _ h1 λ g' s' w'' h3 h4 => ⟨⟨g', h3⟩, ?_⟩
 have := le g' s' w'' h3
 omega
end Go.Vx
namespace Go.Proofs.YtolhlldgnfbemaaGreatDoor
open Go Go.Vx Cdc Trx Gly Clu Lns Obx Mot
abbrev wkO (p : Nat) (r : RwT) (c last : Int) (big : Bool) : Obj :=
 .cells #[.pointer (some (at0 p)), .int .i64 r.1, .int .i64 r.2.1, .int .i64 r.2.2.1, .int .i64 r.2.2.2.1, .int .i64 r.2.2.2.2.1, .slice r.2.2.2.2.2.1.a r.2.2.2.2.2.1.len r.2.2.2.2.2.1.cap, .slice r.2.2.2.2.2.2.1.a r.2.2.2.2.2.2.1.len r.2.2.2.2.2.2.1.cap, .int .i64 c, .int .i64 last, .bool big] 201 (0, 0)
structure TxB (w : World) (p : Nat) (A : List Int) (b : Nat) : Prop where
 ex : ∃ e lim na O M, Txt w p e lim na O M /\ atoms (aOf e M) = A /\ ¬ O b
structure Ii (w : World) (b p : Nat) (A : List Int) (big : Bool) (q : Nat × Nat) (r : RwT) : Prop where
 tx : TxB w p A b
 obj : w.heap[b]? = some (wkO p r (q.2 : Int) ((lnN A - 1 : Nat) : Int) big)
 row : Gv w A q.1 r
 on : On A q
theorem Bm4 (v0 v1 v2 v3 v4 v5 v6 v7 v8 v9 v10 u1 u2 u3 u4 u5 u6 u7 : Value) : setRow #[v0, v1, v2, v3, v4, v5, v6, v7, v8, v9, v10] 1 [u1, u2, u3, u4, u5, u6, u7] = #[v0, u1, u2, u3, u4, u5, u6, u7, v8, v9, v10] := by kernel_rfl
section
variable {w w' : World} {b p : Nat} {A : List Int} {big : Bool} {q : Nat × Nat} {r : RwT}
theorem Bs1 {r' : RwT} {c l : Int} (h : w.heap[b]? = some (wkO p r c l big)) {K : World -> Prop} (hK : ∀ w1, Upd (λ k => k = b) w w1 -> w1.heap[b]? = some (wkO p r' c l big) -> K w1) :
  Ae ((at0 b).add 1) (.agg (Cells.vals Bc r').toArray) 7 K w :=
 Vu (off := 1) h rfl rfl (by show 1 + 7 <= 11; decide) λ w1 u n _ => hK w1 u (n.trans (congrArg (λ c => some (Obj.cells c 201 (0, 0))) (Bm4 ..)))
theorem Aj0 {c' c l : Int} (h : w.heap[b]? = some (wkO p r c l big)) {K : World -> Prop} (hK : ∀ w1, Upd (λ k => k = b) w w1 -> w1.heap[b]? = some (wkO p r c' l big) -> K w1) :
  stC ((at0 b).add 8) (.int .i64 c') K w :=
 Jq (off := 8) h (by show 8 < 11; decide) λ w1 u n _ => hK w1 u n
theorem TxB.ta (h : TxB w p A b) : TxA w p A := by
 obtain ⟨e, lim, na, O, M, h1, h2, _⟩ := h.ex
 exact ⟨e, lim, na, O, M, h1, h2⟩
theorem TxB.ext (h : TxB w p A b) (x : Ext w w') : TxB w' p A b := by
 obtain ⟨e, lim, na, O, M, h1, h2, h3⟩ := h.ex
 exact ⟨e, lim, na, O, M, h1.ext x, h2, h3⟩
theorem TxB.upd {c : Array Value} {fr : Nat × Nat} {t : TypeId} (h : TxB w p A b) (hb : w.heap[b]? = some (.cells c t fr)) (ht : 162 ≠ t) (u : Upd (λ k => k = b) w w') : TxB w' p A b := by
 obtain ⟨e, lim, na, O, M, h1, h2, h3⟩ := h.ex
 refine ⟨e, lim, na, O, M, h1.upd u (λ k hk hk2 => by subst hk2; exact h3 hk) (λ k hk c' fr' hn => ?_), h2, h3⟩
 subst hk
 rw [hb] at hn
 cases hn
 exact ht rfl
theorem TxA.toB (h : TxA w p A) (hb : w.heap.size <= b) : TxB w p A b := by
 obtain ⟨e, lim, na, O, M, h1, h2⟩ := h.ex
 exact ⟨e, lim, na, O, M, h1, h2, λ hO => by have := h1.own b hO; omega⟩
theorem Ii.ext (h : Ii w b p A big q r) (e : Ext w w') : Ii w' b p A big q r := ⟨h.tx.ext e, e.ext_get h.obj, h.row.ext e, h.on⟩
theorem Ii.tK (h : Ii w b p A big q r) {K : Addr -> Option Addr -> Wp} (hK : K (at0 b) (some (at0 p)) w) : nn (some (at0 b)) (λ q => ld (.ptr) q (K q)) w := Aj (Cc (off := 0) h.obj rfl hK)
theorem Ii.cK (h : Ii w b p A big q r) {K : Addr -> Int -> Wp} (hK : K (at0 b) (q.2 : Int) w) : nn (some (at0 b)) (λ q => ld (.int .i64) (q.add 8) (K q)) w := Aj (Cc (off := 8) h.obj rfl hK)
theorem Ii.Cr9 (h : Ii w b p A big q r) {K : Addr -> Int -> Wp} (hK : K (at0 b) ((lnN A - 1 : Nat) : Int) w) : nn (some (at0 b)) (λ q => ld (.int .i64) (q.add 9) (K q)) w := Aj (Cc (off := 9) h.obj rfl hK)
theorem Ii.Bb5 (h : Ii w b p A big q r) {K : Addr -> Int -> Wp} (hK : K (at0 b) (q.1 : Int) w) : nn (some (at0 b)) (λ q => ld (.int .i64) ((q.add 1).add 4) (K q)) w := by
 rw [← h.row.num] at hK
 exact Aj (Cc (off := 5) h.obj rfl hK)
theorem Ii.stK (h : Ii w b p A big q r) {K : Addr -> Sl -> Wp} (hK : K (at0 b) r.2.2.2.2.2.2.1 w) : nn (some (at0 b)) (λ q => ld (.sl) ((q.add 1).add 6) (K q)) w := Aj (Cc (off := 7) h.obj rfl hK)
theorem Ii.Qc (h : Ii w b p A big q r) {K : Addr -> RwT -> Wp} (hK : K (at0 b) r w) : nn (some (at0 b)) (λ q => lds Bc (q.add 1) (K q)) w :=
 Aj (Nb (off := 1) h.obj (Um (by rfl)) hK)
theorem Ii.At6 (h : Ii w b p A big q r) {K : World -> Prop} (hK : K w) : keep (λ w => w.cell? ((at0 b).add 8) = some (Cell.val (.int .i64) (q.2 : Int))) K w := Au (cell_of (off := 8) h.obj rfl) hK
theorem Ii.few (h : Ii w b p A big q r) : q.2 <= (Ag A q.1).length /\ (Ag A q.1).length <= 1048576 /\ q.1 <= 1048576 /\ lnN A <= 1048577 := by
 have h1 := h.row.few; have h2 := h.on.col; have h3 := h.on.row; have h4 := Lc A; have h5 := h.row.len; have h6 := Bl A
 omega
theorem Al7 {x : Nat} {past : Bool} (h : TxA w p A) (hx : Bg A (x : Int) past = x) {K : Option Addr -> Wp} (hK : ∀ b r w', Ii w' b p A big (Aq A (x : Int) past) r -> w.heap.size <= b -> Ext w w' -> K (some (at0 b)) w') :
  Aa Tryz.prog 161 #[.pointer (some (at0 p)), .int .i64 (x : Int), .bool past, .bool big] rP K w := by
 refine Dp0 ?_
 unfold F161
 have hb := Bl A; have hA := h.len; have hbl := Lc A
 refine Rt h λ r w1 hr e1 => ?_
 refine (St.start w).ext e1 |>.Af λ b2 w2 S2 e2 => S2.Ae 0 rfl rfl rfl rfl λ w3 S3 u3 => ?_
 have S3 : St (λ _ => False) w w3 [(b2, rwO r)] := S3
 have hr := (hr.ext e2).box (S2.at_ 0 rfl) (by decide) u3
 refine S3.drew λ w4 S4 e4 _ => S4.lds 0 r rfl (S4.lds 0 r rfl (Vl (hr.ext e4) λ w5 e5 => ?_))
 have S5 := S4.ext e5
 refine S5.keeps 0 (x := r) rfl ((h.ext S5.upd).count λ w6 e6 => ?_)
 have S6 := S5.ext e6
 refine S6.keeps 0 (x := r) rfl ?_
 have ewl : W64 ((lnN A : Int) - 1) = ((lnN A - 1 : Nat) : Int) := by rw [wrap64 (by omega) (by omega)]; omega
 rw [ewl]
 have ep : (Aq A (x : Int) past).2 = Du (Ag A (Cj A (x : Int) past)) (x : Int) := by unfold Aq; rw [hx]
 refine S6.Af λ b7 w7 S7 e7 => hK b7 r w7 ⟨?_, by rw [ep]; exact S7.at_ 0 rfl, ?_, (Y2 A (x : Int) past).1⟩ (S7.ge 0 rfl) S7.upd
 ·exact (h.toB (S7.ge 0 rfl)).ext S7.upd
 ·have := (((hr.ext e4).ext e5).ext e6).ext e7
  exact this
theorem Bl4 (h : Ii w b p A big q r) {K : Int -> Wp} (hK : ∀ w', Ext w w' -> K (Ec A q : Int) w') :
  Aa Tryz.prog 164 #[.pointer (some (at0 b))] rI K w := by
 refine Do8 ?_
 unfold F164
 refine Di λ w1 e1 _ => ?_
 have h1 := h.ext e1
 exact h1.Qc (h1.cK (Fg h1.row λ w2 e2 => hK w2 (e1.trans e2)))
theorem Af8 {p q : Nat × Nat} (h : On A p) (hq : Lm A p = some q) : Plc A q := by
 have hb := Bl A; have hg := Bw2 A; have hr := h.row; have hc := h.col
 unfold Lm at hq
 split at hq
 ·rename_i h0
  cases hq
  refine ⟨?_, .inl (by dsimp only; omega)⟩
  dsimp only
  rcases Nat.lt_or_ge p.1 (lnN A) with u | u
  ·exact u
  ·have hp : p.1 = brs A /\ lnN A = brs A := by omega
   have := tail_nil hp.2
   rw [hp.1] at hc
   omega
 ·split at hq
  ·cases hq
  ·cases hq
   exact ⟨by dsimp only; omega, by dsimp only; omega⟩
theorem Bo5 {p q : Nat × Nat} (h : On A p) (hq : Ja A p = some q) : Plc A q := by
 obtain ⟨_, h2, h3, _⟩ := Uk h hq
 exact ⟨h2, h3⟩
theorem F6 (h : Ii w b p A big q r) {K : Bool -> Wp} (hN : Ja A q = none -> ∀ w', Ext w w' -> K false w')
  (hS : ∀ q' r' w', Ja A q = some q' -> Ii w' b p A big q' r' -> Upd (λ k => k = b) w w' -> K true w') :
  Aa Tryz.prog 162 #[.pointer (some (at0 b))] rB K w := by
 refine Do9 ?_
 unfold F162
 have fw := h.few; have hb := Bl A
 refine Di λ w1 e1 _ => ?_
 have h1 := h.ext e1
 refine h1.cK (h1.Qc (Eo h1.row λ w2 e2 => ?_))
 have h2 := h1.ext e2
 refine h2.At6 ?_
 have ew : W64 ((q.2 : Int) + 1) = ((q.2 + 1 : Nat) : Int) := by rw [wrap64 (by omega) (by omega)]; omega
 rw [ew]
 refine Ac (λ hc => ?_) (λ hc => ?_)
 ·simp only [decide_eq_true_eq] at hc
  have hn : Ja A q = some (q.1, q.2 + 1) := by unfold Ja; rw [if_pos (by omega)]
  refine h2.cK (Aj ?_)
  rw [ew]
  refine Aj0 h2.obj λ w3 u3 n3 => ?_
  refine hS _ r w3 hn ⟨h2.tx.upd h2.obj (by decide) u3, n3, h2.row.box h2.obj (by decide) u3, (Uk h.on hn).1⟩ ?_
  exact (Upd.Et (e1.trans e2)).trans u3
 ·simp only [decide_eq_false_iff_not] at hc
  refine Di λ w3 e3 _ => ?_
  have h3 := h2.ext e3
  refine h3.Bb5 (h3.Cr9 ?_)
  refine Ac (λ hg => ?_) (λ hg => ?_)
  ·simp only [decide_eq_true_eq, ge_iff_le] at hg
   have hn : Ja A q = none := by unfold Ja; rw [if_neg (by omega), if_pos (by omega)]
   exact hN hn w3 ((e1.trans e2).trans e3)
  ·simp only [decide_eq_false_iff_not, ge_iff_le] at hg
   have hn : Ja A q = some (q.1 + 1, 0) := by unfold Ja; rw [if_neg (by omega), if_neg (by omega)]
   refine Di λ w4 e4 _ => ?_
   have h4 := h3.ext e4
   refine h4.tK (h4.Bb5 ?_)
   have ewn : W64 ((q.1 : Int) + 1) = ((q.1 + 1 : Nat) : Int) := by rw [wrap64 (by omega) (by omega)]; omega
   rw [ewn]
   have hon := (Uk h.on hn).1
   refine Nr h4.tx.ta hon.row λ r' w5 hr' e5 => ?_
   have h5 := h4.ext e5
   refine Aj (Bs1 h5.obj λ w6 u6 n6 => Aj (Aj0 n6 λ w7 u7 n7 => ?_))
   refine hS _ r' w7 hn ⟨(h5.tx.upd h5.obj (by decide) u6).upd n6 (by decide) u7, n7, (hr'.box h5.obj (by decide) u6).box n6 (by decide) u7, hon⟩ ?_
   exact (Upd.Et ((((e1.trans e2).trans e3).trans e4).trans e5)).trans (u6.trans u7)
theorem Ap2 (h : Ii w b p A big q r) {K : Bool -> Wp} (hN : Lm A q = none -> ∀ w', Ext w w' -> K false w')
  (hS : ∀ q' r' w', Lm A q = some q' -> Ii w' b p A big q' r' -> Upd (λ k => k = b) w w' -> K true w') :
  Aa Tryz.prog 195 #[.pointer (some (at0 b))] rB K w := by
 refine Dn0 ?_
 unfold F195
 have fw := h.few; have hb := Bl A
 refine h.cK (Ac (λ hc => ?_) (λ hc => ?_))
 ·simp only [decide_eq_true_eq, gt_iff_lt] at hc
  have hn : Lm A q = some (q.1, q.2 - 1) := by unfold Lm; rw [if_pos (by omega)]
  have ew : W64 ((q.2 : Int) - 1) = ((q.2 - 1 : Nat) : Int) := by rw [wrap64 (by omega) (by omega)]; omega
  refine h.cK (Aj ?_)
  rw [ew]
  refine Aj0 h.obj λ w3 u3 n3 => ?_
  exact hS _ r w3 hn ⟨h.tx.upd h.obj (by decide) u3, n3, h.row.box h.obj (by decide) u3, (Af8 h.on hn).on⟩ u3
 ·simp only [decide_eq_false_iff_not, gt_iff_lt] at hc
  refine h.Bb5 (Ac (λ hg => ?_) (λ hg => ?_))
  ·simp only [beq_iff_eq] at hg
   have hn : Lm A q = none := by unfold Lm; rw [if_neg (by omega), if_pos (by omega)]
   exact hN hn w (Ext.refl w)
  ·simp only [beq_eq_false_iff_ne, ne_eq] at hg
   have hn : Lm A q = some (q.1 - 1, (Ag A (q.1 - 1)).length - 1) := by unfold Lm; rw [if_neg (by omega), if_neg (by omega)]
   refine Di λ w4 e4 _ => ?_
   have h4 := h.ext e4
   refine h4.tK (h4.Bb5 ?_)
   have ewn : W64 ((q.1 : Int) - 1) = ((q.1 - 1 : Nat) : Int) := by rw [wrap64 (by omega) (by omega)]; omega
   rw [ewn]
   have hon := (Af8 h.on hn).on
   refine Nr h4.tx.ta hon.row λ r' w5 hr' e5 => ?_
   have h5 := h4.ext e5
   refine Aj (Bs1 h5.obj λ w6 u6 n6' => ?_)
   have hr6 := hr'.box h5.obj (by decide) u6
   have fw6 := hr6.few
   refine Aj (Nb (off := 1) (x := r') n6' (Um (by rfl)) (Eo hr6 λ w7 e7 => ?_))
   have n7' := e7.ext_get n6'
   have hr7 := hr6.ext e7
   dsimp only at fw6
   rw [wrap64 (by dsimp only; omega) (by dsimp only; omega)]
   have em : (if (0 : Int) > (((Ag A (q.1 - 1)).length : Nat) : Int) - 1 then (0 : Int) else (((Ag A (q.1 - 1)).length : Nat) : Int) - 1) = (((Ag A (q.1 - 1)).length - 1 : Nat) : Int) := by split <;> omega
   rw [em]
   refine Aj (Aj0 n7' λ w8 u8 n8' => ?_)
   refine hS _ r' w8 hn ⟨((h5.tx.upd h5.obj (by decide) u6).ext e7).upd n7' (by decide) u8, n8', hr7.box n7' (by decide) u8, hon⟩ ?_
   exact (Upd.Et (e4.trans e5)).trans ((u6.trans (Upd.Et e7)).trans u8)
end
namespace Mot
def Yv : List Int := [40, 91, 123, 41, 93, 125]
theorem Bg5 {c : Cel} (ha : c.alone = true) {b : Nat} (hb : b < 6) (h : c.atom = Yv.getD b 0) : sortB c = some b := by
 rcases (by omega : b = 0 \/ b = 1 \/ b = 2 \/ b = 3 \/ b = 4 \/ b = 5) with rfl | rfl | rfl | rfl | rfl | rfl <;> simp [sortB, ha, h, Yv]
theorem Ae9 {c : Cel} (h : ∀ j, j < 6 -> c.atom ≠ Yv.getD j 0) : sortB c = none := by
 have h0 := h 0 (by decide); have h1 := h 1 (by decide); have h2 := h 2 (by decide); have h3 := h 3 (by decide); have h4 := h 4 (by decide); have h5 := h 5 (by decide)
 simp [Yv] at h0 h1 h2 h3 h4 h5
 simp [sortB, h0, h1, h2, h3, h4, h5]
theorem Br1 {A : List Int} {i j : Nat} {c : Cel} (h : i <= brs A) (hc : (Ag A i)[j]? = some c) : c.alone = decide (Jz A i (j + 1) = Jz A i j + 1) := by
 have hl := (List.getElem?_eq_some_iff.1 hc).1
 obtain ⟨_, _, _, _, q⟩ := Un (Bz h).ft (by have := (Bz h).tn; have := (Bz h).nl; omega) hc
 have h1 := Be9 h hc
 have h2 : c.from_ = Bf A i (j : Int) := by rw [Eh hl, Ht hc]
 have h3 := Vs h j
 have h4 := Vs h (j + 1)
 rw [q.alone, Bool.eq_iff_iff, decide_eq_true_eq, decide_eq_true_eq]
 omega
end Mot
theorem Bt6 {g : FuncId} {recv : Array Value} {t : RTy} {K : t.T -> Wp} {w : World} (hf : ((Tryz.prog.funcs[g]?).map λ fn => (fn.body.isNone, fn.name == "runtime.NumGoroutine")) = some (false, false)) (h : Aa Tryz.prog g recv t K w) :
  Cb Tryz.prog (do let d ← Deferred.ofValue (.func (.func g) recv #[]) #[]; invoke d.target d.args : Sem Next) t K w := by
 refine .inl ⟨g, recv, ?_, h⟩
 have := Hg (P := Tryz.prog) (f := g) (args := recv) hf w
 simp only [Deferred.ofValue, pure_bind, invoke]
 have e : (recv ++ #[] ++ #[] : Array Value) = recv := by simp
 first
  | exact this
  | (rw [e]; exact this)
section
variable {w w' : World} {b p : Nat} {A : List Int} {big : Bool} {q : Nat × Nat} {r : RwT}
theorem Tc (h : Ii w b p A big q r) {K : Int -> Wp} (hK : ∀ w', Ext w w' -> K (match Ql A q with | some n => (n : Int) | none => -1) w') :
  Aa Tryz.prog 194 #[.pointer (some (at0 b))] rI K w := by
 refine Dn1 ?_
 unfold F194
 have fw := h.few
 have sl := h.row.slen
 have hrow := h.row.row
 unfold Ql at hK
 have ewp : W64 ((q.2 : Int) + 1) = ((q.2 + 1 : Nat) : Int) := by rw [wrap64 (by omega) (by omega)]; omega
 refine Ad (λ y W => y = (decide (¬ ∃ c, (Ag A q.1)[q.2]? = some c /\ c.alone = true), ()) /\ Ext w W) ?_ ?_
 ·refine Di λ w1 e1 _ => ?_
  have h1 := h.ext e1
  refine h1.cK (h1.Qc (Eo h1.row λ w2 e2 => (h1.ext e2).At6 ?_))
  have h2 := h1.ext e2
  refine Ac (λ hg => ?_) (λ hg => ?_)
  ·simp only [decide_eq_true_eq, ge_iff_le] at hg
   refine ⟨?_, e1.trans e2⟩
   rw [decide_eq_true]
   rintro ⟨c, hc, _⟩
   have := (List.getElem?_eq_some_iff.1 hc).1
   omega
  ·simp only [decide_eq_false_iff_not, ge_iff_le] at hg
   obtain ⟨c, hc⟩ := Dy (C := Ag A q.1) (j := q.2) (by omega)
   refine h2.stK (h2.cK ?_)
   rw [ewp]
   refine Gl (c := .int .i64) (xs := O1 A q.1) h2.row.starts (by omega) (x := (Jz A q.1 (q.2 + 1) : Int)) (by rw [Int.toNat_natCast]; exact Yx (by omega)) λ p1 => h2.stK (h2.cK ?_)
   refine Gl (c := .int .i64) (xs := O1 A q.1) h2.row.starts (by omega) (x := (Jz A q.1 q.2 : Int)) (by rw [Int.toNat_natCast]; exact Yx (by omega)) λ p2 => ⟨?_, e1.trans e2⟩
   have b1 := Co9 hrow (c := q.2) (d := q.2 + 1) (by omega) (by omega)
   have b2 := Ai5 (Cp0 hrow (c := q.2 + 1) (by omega))
   have b3 := Ov hrow
   have fr := h.row.few
   rw [wrap64 (by omega) (by omega)]
   refine Az ?_
   have ha := Br1 hrow hc
   simp only [decide_eq_true_eq, gt_iff_lt]
   constructor
   ·rintro hd ⟨c', hc', ha'⟩
    rw [hc] at hc'; cases hc'
    rw [ha] at ha'
    have := of_decide_eq_true ha'
    omega
   ·intro hn
    have : c.alone = false := by
     cases hcs : c.alone with
     | false => rfl
     | true => exact absurd ⟨c, hc, hcs⟩ hn
    rw [ha] at this
    have := of_decide_eq_false this
    omega
 rintro _ W ⟨rfl, eW⟩
 refine Ac (λ hc => ?_) (λ hc => ?_)
 ·have hc := of_decide_eq_true hc
  have := hK W eW
  have hnone : (Ag A q.1)[q.2]?.bind sortB = none := by
   cases hg : (Ag A q.1)[q.2]? with
   | none => rfl
   | some c =>
    show sortB c = none
    cases ha : c.alone with
    | true => exact absurd ⟨c, hg, ha⟩ hc
    | false => simp [sortB, ha]
  rw [hnone] at this
  exact this
 ·have hc := of_decide_eq_false hc
  have hc : ∃ c, (Ag A q.1)[q.2]? = some c /\ c.alone = true := Classical.byContradiction hc
  obtain ⟨c, hc, ha⟩ := hc
  rw [hc] at hK
  have hK : ∀ w', Ext w w' -> K (match sortB c with | some n => (n : Int) | none => -1) w' := hK
  refine Ad (λ _ W => (∀ j, j < 6 -> c.atom ≠ Yv.getD j 0) /\ Ext w W) ?_ (λ _ W hW => by have := hK W hW.2; rw [Ae9 hW.1] at this; exact this)
  refine Ar (λ x W => ∃ j : Nat, x = ((j : Int), ()) /\ j <= 6 /\ (∀ i, i < j -> c.atom ≠ Yv.getD i 0) /\ Ext w W) (λ x _ => (6 - x.1).toNat) ⟨0, rfl, Nat.zero_le _, λ i hi => by omega, eW⟩ ?_
  rintro _ W1 ⟨j, rfl, hj, hno, eW1⟩
  dsimp only
  refine Ac (λ hg => ?_) (λ hg => ?_)
  ·simp only [decide_eq_true_eq] at hg
   refine Di λ w2 e2 _ => ?_
   have h2 := h.ext (eW1.trans e2)
   refine h2.Qc (h2.cK ?_)
   obtain ⟨y, hy, hyv⟩ : ∃ y : UInt8, ({ data := #[40, 91, 123, 41, 93, 125] } : ByteArray)[((j : Int)).toNat]? = some y /\ ((y.toNat : Nat) : Int) = Yv.getD j 0 := by
    rcases (by omega : j = 0 \/ j = 1 \/ j = 2 \/ j = 3 \/ j = 4 \/ j = 5) with rfl | rfl | rfl | rfl | rfl | rfl <;> exact ⟨_, rfl, rfl⟩
   have hyb := y.toNat_lt
   refine ⟨y, ⟨by omega, hy⟩, Ph h2.row hc λ w3 e3 => ?_⟩
   have e03 := (eW1.trans e2).trans e3
   rw [wrap64 (by omega) (by omega), hyv]
   have ew : W64 ((j : Int) + 1) = ((j + 1 : Nat) : Int) := by rw [wrap64 (by omega) (by omega)]; omega
   rw [ew]
   refine Ac (λ he => ?_) (λ he => ?_)
   ·simp only [beq_iff_eq] at he
    have := hK w3 e03
    rw [Bg5 ha (by omega) he] at this
    exact this
   ·simp only [beq_eq_false_iff_ne, ne_eq] at he
    refine ⟨⟨j + 1, rfl, by omega, λ i hi => ?_, e03⟩, by omega⟩
    by_cases hij : i = j
    ·subst hij; exact he
    ·exact hno i (by omega)
  ·simp only [decide_eq_false_iff_not] at hg
   exact ⟨λ i hi => hno i (by omega), eW1⟩
end
namespace Mot
variable {A : List Int}
theorem Bn3 (A : List Int) (x : Int) (past : Bool) : Aq A (Bg A x past : Int) past = Aq A x past := by
 obtain ⟨h1, h2, h3⟩ := Y2 A x past
 rw [← h2]; exact Bu1 h1 h3
theorem Bq5 (A : List Int) : Bg A (A.length : Int) false = Kz A := by
 have hb := Bl A
 have hr : Cj A (A.length : Int) false = lnN A - 1 := by
  unfold Cj ofI
  rw [if_neg (by decide), Xj (Nat.le_refl _), ← Jm]; omega
 have ok := Bz (A := A) (i := lnN A - 1) (by omega)
 unfold Bg
 rw [hr, Xj (Nat.le_refl _), if_pos (by have := ok.tn; have := ok.nl; omega), if_neg (by decide)]; rfl
end Mot
section
variable {w w' : World} {b p : Nat} {A : List Int} {x count arg goal : Int} {past big : Bool} {r : RwT}
structure TxN (w : World) (p : Nat) (A : List Int) (N : Nat) : Prop where
 ex : ∃ e lim na O M, Txt w p e lim na O M /\ atoms (aOf e M) = A /\ ∀ k, O k -> k < N
theorem TxA.n (h : TxA w p A) : TxN w p A w.heap.size := by
 obtain ⟨e, lim, na, O, M, h1, h2⟩ := h.ex
 exact ⟨e, lim, na, O, M, h1, h2, h1.own⟩
theorem TxN.ext {N : Nat} (h : TxN w p A N) (x : Ext w w') : TxN w' p A N := by
 obtain ⟨e, lim, na, O, M, h1, h2, h3⟩ := h.ex
 exact ⟨e, lim, na, O, M, h1.ext x, h2, h3⟩
theorem As4 {s c k arg goal : Int} {cd past bg : Bool} {r0 : RwT} (ht : TxA w p A) (hm : w.heap[b]? = some (mvO p s c k cd arg goal past bg r0)) {K : Int -> Wp} (hK : ∀ w', Ext w w' -> K (Kz A : Int) w') :
  Aa Tryz.prog 189 #[.pointer (some (at0 b))] rI K w := by
 refine Dn3 ?_
 unfold F189
 refine Di λ w1 e1 _ => ?_
 have m1 := e1.ext_get hm
 refine Aj (Cc (off := 0) (x := some (at0 p)) m1 rfl (Aj (Cc (off := 0) (x := some (at0 p)) m1 rfl ((ht.ext e1).Cq1 λ w2 e2 => ?_))))
 refine Au (cell_of (off := 0) (e2.ext_get m1) rfl) (H9 ((ht.ext e1).ext e2) λ w3 e3 => ?_)
 rw [Bq5]
 exact hK w3 ((e1.trans e2).trans e3)
theorem As2 (h : Ed w b p A x count arg goal past big r) {K : Option Addr -> Wp} (hK : ∀ bw r' w', Ii w' bw p A big (Aq A x past) r' -> w.heap.size <= bw -> Ext w w' -> K (some (at0 bw)) w') :
  Aa Tryz.prog 187 #[.pointer (some (at0 b))] rP K w := by
 refine Dn4 ?_
 unfold F187
 refine Di λ w1 e1 _ => ?_
 have h1 := h.ext e1
 refine h1.tK (h1.sK (h1.Ck0 (h1.Ac5 (Al7 h1.tx (Aq1 A x past).clamp λ bw r' w2 hw hge e2 => ?_))))
 rw [Bn3] at hw
 exact hK bw r' w2 hw (Nat.le_trans e1.size hge) (e1.trans e2)
theorem walked {w2 w3 : World} {bw : Nat} (e : Ext w w2) (hge : w.heap.size <= bw) (u : Upd (λ k => k = bw) w2 w3) : Ext w w3 := e.step u λ k hk => by subst hk; exact hge
end
namespace Mot
variable {A : List Int}
def paN (A : List Int) (j : Nat) : Bool := Eb A j && !Eb A (j - 1)
def paP (A : List Int) (j : Nat) : Bool := Eb A j && !Eb A (j + 1)
theorem Bb3 (A : List Int) (x count : Int) : Gq A x 31 count = (match upF (paN A) ((Aq A x false).1 + 1) (lnN A) (kOf count) with
  | some j => Dq A (Aw A j).from_ 0
  | none => if Kz A = Bg A x false then noP 80 else Dq A (Kz A) 1) := by
 unfold Gq Aq
 dsimp only
 rw [Gg, if_pos rfl]; rfl
theorem Bb2 (A : List Int) (x count : Int) : Gq A x 32 count = (match dnF (paP A) (Aq A x false).1 (kOf count) with
  | some j => Dq A (Aw A j).from_ 0
  | none => if Bg A x false = 0 then noP 80 else Dq A 0 0) := by
 unfold Gq Aq
 dsimp only
 rw [Gg, if_neg (by decide), if_pos rfl]; rfl
theorem Aq8 {N : Nat} : ∀ (l : List Nat) (a : Nat), l.Pairwise (· < ·) -> (∀ x ∈ l, a <= x /\ x <= N) -> l.length + a <= N + 1 \/ l = []
 | [], _, _, _ => .inr rfl
 | y :: l, a, h, hb => by
  left
  rw [List.pairwise_cons] at h
  have hy := hb y List.mem_cons_self
  rcases Aq8 l (y + 1) h.2 (λ x hx => ⟨h.1 x hx, (hb x (List.mem_cons_of_mem _ hx)).2⟩) with hh | hh
  ·rw [List.length_cons]; omega
  ·rw [hh]; simp; omega
theorem Ap3 {p : Nat × Nat} (h : Plc A p) : (aft A p).length <= A.length + 1 /\ (bef A p).length <= A.length + 1 := by
 have hr := Ax2 A
 rw [D9 h] at hr
 have hall : ∀ q, q ∈ (bef A p).reverse ++ p :: aft A p -> Ec A q <= A.length := λ q hq => by
  rw [← D9 h] at hq
  exact Oe (Bi1.1 hq).on.row _
 have h2 : (((bef A p).reverse ++ p :: aft A p).map (Ec A)).Pairwise (· < ·) := by rw [List.pairwise_map]; exact hr
 rcases Aq8 (N := A.length) _ 0 h2 (λ x hx => by
  obtain ⟨q, hq, rfl⟩ := List.mem_map.1 hx
  exact ⟨Nat.zero_le _, hall q hq⟩) with hh | hh
 ·rw [List.length_map, List.length_append, List.length_reverse, List.length_cons] at hh
  omega
 ·simp at hh
end Mot
section
variable {w w' : World} {b p : Nat} {A : List Int} {x count arg goal g : Int} {past big : Bool} {r : RwT}
set_option maxHeartbeats 2000000 in
theorem Bb0 (h : Ed w b p A x count arg goal false big r) {K : LdT -> Wp} (hK : ∀ w', Ext w w' -> K (ldT (Gq A x 31 count)) w') :
  Aa Tryz.prog 157 #[.pointer (some (at0 b))] (.tup [(.agg c83), (.one (.int .i64))]) K w := by
 refine Dp4 ?_
 unfold F157
 obtain ⟨m1, m2, m3, m4, m5, m6, m7⟩ := h.bounds
 have hb := Bl A; have hA := h.row.len; have hbl := Lc A
 rw [Bb3] at hK
 have ewl : W64 ((lnN A : Int) - 1) = (lnN A : Int) - 1 := wrap64 (by omega) (by omega)
 refine (St.start w).Af λ b1 w1 S1 e1 => S1.drew λ w2 S2 e2 _ => ?_
 have h2 := (h.ext e1).ext e2
 refine h2.Qc (h2.tK (Pj h2.row λ w3 e3 => (h2.ext e3).Cs2 ((h2.ext e3).tx.count λ w4 e4 => ?_)))
 have h4 := (h2.ext e3).ext e4
 have S4 := (S2.ext e3).ext e4
 have S4 : St (λ _ => False) w w4 [(b1, ldZ)] := S4
 refine h4.kK (Ad (λ _ W => upF (paN A) ((Aq A x false).1 + 1) (lnN A) (kOf count) = none /\ St (λ _ => False) w W [(b1, ldZ)]) ?_ ?_)
 ·refine h4.Bb5 ?_
  rw [h.row.num, wrap64 (a := ((Aq A x false).1 : Int) + 1) (by omega) (by omega), ewl]
  refine Ar (λ s W => ∃ k i : Nat, s = (Eb A (i - 1), (k : Int), (i : Int), ()) /\ 1 <= k /\ k <= 9999 /\ 1 <= i /\ i <= brs A + 1 /\ upF (paN A) ((Aq A x false).1 + 1) (lnN A) (kOf count) = upF (paN A) i (lnN A) k /\ St (λ _ => False) w W [(b1, ldZ)]) (λ s _ => ((brs A : Int) + 1 - s.2.2.1).toNat) ⟨kOf count, (Aq A x false).1 + 1, by simp, m4, m5, by omega, by omega, rfl, S4⟩ ?_
  rintro _ W ⟨k, i, rfl, k1, k2, i1, i2, hu, SW⟩
  dsimp only
  have hW := h.ext SW.upd
  refine Ac (λ hc => ?_) (λ hc => ?_)
  ·simp only [decide_eq_true_eq] at hc
   refine hW.tK (Nr hW.tx (i := i) (by omega) λ r1 w5 hr1 e5 => ?_)
   refine (SW.ext e5).Af λ b19 w6 S6 e6 => S6.Ae 0 rfl rfl rfl rfl λ w7 S7 u7 => ?_
   have S7 : St (λ _ => False) w w7 [(b19, rwO r1), (b1, ldZ)] := S7
   have hr7 := (hr1.ext e6).box (S6.at_ 0 rfl) (by decide) u7
   refine S7.lds 0 r1 rfl (Pj hr7 λ w8 e8 => ?_)
   have S8 := S7.ext e8
   have h8 := h.ext S8.upd
   have ewi : W64 ((i : Int) + 1) = ((i + 1 : Nat) : Int) := by rw [wrap64 (by omega) (by omega)]; omega
   have ewk : W64 ((k : Int) - 1) = ((k - 1 : Nat) : Int) := by rw [wrap64 (by omega) (by omega)]; omega
   rw [ewi, ewk]
   refine Ad (λ y W' => ∃ k' : Nat, y = ((k' : Int), ()) /\ 1 <= k' /\ k' <= 9999 /\ upF (paN A) i (lnN A) k = upF (paN A) (i + 1) (lnN A) k' /\ St (λ _ => False) w W' [(b1, ldZ)]) ?_ ?_
   ·refine Ad (λ y W' => y = (paN A i, ()) /\ w8 = W') ?_ ?_
    ·unfold paN
     refine Ac (λ hg => ⟨?_, rfl⟩) (λ hg => ⟨?_, rfl⟩)
     ·rw [hg, Bool.true_and]
     ·rw [hg, Bool.false_and]
    rintro _ _ ⟨rfl, rfl⟩
    refine Ac (λ hf => ?_) (λ hf => ?_)
    ·have hf : paN A i = true := hf
     refine Ac (λ hz => ?_) (λ hz => ?_)
     ·simp only [beq_iff_eq] at hz
      have : k = 1 := by omega
      subst this
      refine S8.ld (off := 0) 0 rfl (x := r1.1) rfl ?_
      rw [hr1.f]
      refine Gf h8 λ w9 e9 => ?_
      rw [hu, Aj4 (by omega) hf] at hK
      exact Hy (S8.ext e9).tail hK
     ·simp only [beq_eq_false_iff_ne, ne_eq] at hz
      refine ⟨k - 1, rfl, by omega, by omega, ?_, S8.tail⟩
      have := U4 (n := lnN A) (k := k - 1) (show i < lnN A by omega) hf (by omega)
      rw [show k - 1 + 1 = k by omega] at this
      exact this
    ·exact ⟨k, rfl, k1, k2, Ay3 (by omega) hf, S8.tail⟩
   rintro _ W9 ⟨k', rfl, k1', k2', hu', S9⟩
   exact ⟨⟨k', i + 1, by rw [Nat.add_sub_cancel], k1', k2', by omega, by omega, hu.trans hu', S9⟩, by omega⟩
  ·simp only [decide_eq_false_iff_not] at hc
   exact ⟨hu.trans (U3 (by omega)), SW⟩
 rintro _ W ⟨hn, SW⟩
 have hW := h.ext SW.upd
 rw [hn] at hK
 have hK : ∀ w', Ext w w' -> K (ldT (if Kz A = Bg A x false then noP 80 else Dq A (Kz A) 1)) w' := hK
 refine As4 hW.tx hW.obj λ w3 e3 => ?_
 have h3 := hW.ext e3
 refine h3.sK (Ac (λ hc => ?_) (λ hc => ?_))
 ·simp only [bne_iff_ne, ne_eq] at hc
  have he : ¬ Kz A = Bg A x false := by omega
  rw [if_neg he] at hK
  exact Gf h3 λ w5 e5 => Hy ((SW.ext e3).ext e5) hK
 ·simp only [bne_eq_false_iff_eq] at hc
  have he : Kz A = Bg A x false := by omega
  rw [if_pos he] at hK
  exact Gj λ w5 e5 => Hy ((SW.ext e3).ext e5) hK
set_option maxHeartbeats 2000000 in
theorem Ba9 (h : Ed w b p A x count arg goal false big r) {K : LdT -> Wp} (hK : ∀ w', Ext w w' -> K (ldT (Gq A x 32 count)) w') :
  Aa Tryz.prog 158 #[.pointer (some (at0 b))] (.tup [(.agg c83), (.one (.int .i64))]) K w := by
 refine Dp3 ?_
 unfold F158
 obtain ⟨m1, m2, m3, m4, m5, m6, m7⟩ := h.bounds
 have hb := Bl A; have hA := h.row.len; have hbl := Lc A
 rw [Bb2] at hK
 refine (St.start w).Af λ b1 w1 S1 e1 => ?_
 have h1 := h.ext e1
 refine h1.Qc (Pj h1.row λ w4 e4 => ?_)
 have h4 := h1.ext e4
 have S4 := S1.ext e4
 have S4 : St (λ _ => False) w w4 [(b1, ldZ)] := S4
 refine h4.kK (Ad (λ _ W => dnF (paP A) (Aq A x false).1 (kOf count) = none /\ St (λ _ => False) w W [(b1, ldZ)]) ?_ ?_)
 ·refine h4.Bb5 ?_
  rw [h.row.num, wrap64 (a := ((Aq A x false).1 : Int) - 1) (by omega) (by omega)]
  refine Ar (λ s W => ∃ k i : Nat, s = (Eb A i, (k : Int), (i : Int) - 1, ()) /\ 1 <= k /\ k <= 9999 /\ i <= brs A /\ dnF (paP A) (Aq A x false).1 (kOf count) = dnF (paP A) i k /\ St (λ _ => False) w W [(b1, ldZ)]) (λ s _ => (s.2.2.1 + 1).toNat) ⟨kOf count, (Aq A x false).1, rfl, m4, m5, m6, rfl, S4⟩ ?_
  rintro _ W ⟨k, i, rfl, k1, k2, i2, hu, SW⟩
  dsimp only
  have hW := h.ext SW.upd
  refine Ac (λ hc => ?_) (λ hc => ?_)
  ·simp only [decide_eq_true_eq, ge_iff_le] at hc
   obtain ⟨m, rfl⟩ : ∃ m, i = m + 1 := ⟨i - 1, by omega⟩
   have em : ((m + 1 : Nat) : Int) - 1 = (m : Int) := by omega
   rw [em]
   refine hW.tK (Nr hW.tx (i := m) (by omega) λ r1 w5 hr1 e5 => ?_)
   refine (SW.ext e5).Af λ b19 w6 S6 e6 => S6.Ae 0 rfl rfl rfl rfl λ w7 S7 u7 => ?_
   have S7 : St (λ _ => False) w w7 [(b19, rwO r1), (b1, ldZ)] := S7
   have hr7 := (hr1.ext e6).box (S6.at_ 0 rfl) (by decide) u7
   refine S7.lds 0 r1 rfl (Pj hr7 λ w8 e8 => ?_)
   have S8 := S7.ext e8
   have h8 := h.ext S8.upd
   have ewi : W64 ((m : Int) - 1) = (m : Int) - 1 := wrap64 (by omega) (by omega)
   have ewk : W64 ((k : Int) - 1) = ((k - 1 : Nat) : Int) := by rw [wrap64 (by omega) (by omega)]; omega
   rw [ewi, ewk]
   refine Ad (λ y W' => ∃ k' : Nat, y = ((k' : Int), ()) /\ 1 <= k' /\ k' <= 9999 /\ dnF (paP A) (m + 1) k = dnF (paP A) m k' /\ St (λ _ => False) w W' [(b1, ldZ)]) ?_ ?_
   ·refine Ad (λ y W' => y = (paP A m, ()) /\ w8 = W') ?_ ?_
    ·unfold paP
     refine Ac (λ hg => ⟨?_, rfl⟩) (λ hg => ⟨?_, rfl⟩)
     ·rw [hg, Bool.true_and]
     ·rw [hg, Bool.false_and]
    rintro _ _ ⟨rfl, rfl⟩
    refine Ac (λ hf => ?_) (λ hf => ?_)
    ·have hf : paP A m = true := hf
     refine Ac (λ hz => ?_) (λ hz => ?_)
     ·simp only [beq_iff_eq] at hz
      have : k = 1 := by omega
      subst this
      refine S8.ld (off := 0) 0 rfl (x := r1.1) rfl ?_
      rw [hr1.f]
      refine Gf h8 λ w9 e9 => ?_
      rw [hu, An2 hf] at hK
      exact Hy (S8.ext e9).tail hK
     ·simp only [beq_eq_false_iff_ne, ne_eq] at hz
      refine ⟨k - 1, rfl, by omega, by omega, ?_, S8.tail⟩
      have := Ab2 (j := m) (k := k - 1) hf (by omega)
      rw [show k - 1 + 1 = k by omega] at this
      exact this
    ·exact ⟨k, rfl, k1, k2, Be1 hf, S8.tail⟩
   rintro _ W9 ⟨k', rfl, k1', k2', hu', S9⟩
   exact ⟨⟨k', m, rfl, k1', k2', by omega, hu.trans hu', S9⟩, by omega⟩
  ·simp only [decide_eq_false_iff_not, ge_iff_le] at hc
   have : i = 0 := by omega
   subst this
   exact ⟨hu, SW⟩
 rintro _ W ⟨hn, SW⟩
 have hW := h.ext SW.upd
 rw [hn] at hK
 have hK : ∀ w', Ext w w' -> K (ldT (if Bg A x false = 0 then noP 80 else Dq A 0 0)) w' := hK
 refine hW.sK (Ac (λ hc => ?_) (λ hc => ?_))
 ·simp only [beq_iff_eq] at hc
  rw [if_pos (by omega)] at hK
  exact Gj λ w5 e5 => Hy (SW.ext e5) hK
 ·simp only [beq_eq_false_iff_ne, ne_eq] at hc
  rw [if_neg (by omega)] at hK
  exact Gf (n := 0) hW λ w5 e5 => Hy (SW.ext e5) hK
theorem Cv5 (a b : Nat) : ((Int.tmod (a : Int) 3) != (Int.tmod (b : Int) 3)) = decide (a % 3 ≠ b % 3) := by
 rw [Int.tmod_eq_emod_of_nonneg (by omega), Int.tmod_eq_emod_of_nonneg (by omega), Bool.eq_iff_iff, bne_iff_ne, decide_eq_true_eq]
 omega
set_option maxHeartbeats 2000000 in
theorem Al8 (h : Ed w b p A x count arg goal false big r) {K : LdT -> Wp} (hK : ∀ w', Ext w w' -> K (ldT (Gq A x 33 0)) w') :
  Aa Tryz.prog 159 #[.pointer (some (at0 b))] (.tup [(.agg c83), (.one (.int .i64))]) K w := by
 refine Dp2 ?_
 unfold F159
 obtain ⟨o1, o2, o3⟩ := Y2 A x false
 have hpl := o3 rfl
 have hA := h.row.len
 obtain ⟨l1, l2⟩ := Ap3 hpl
 have hM := Bc0 hpl
 rw [Uh, Gg, ← o2, show Cj A x false = (Aq A x false).1 from rfl, hM] at hK
 refine (St.start w).Af λ b1 w1 S1 e1 => As2 (h.ext e1) λ bw r' w2 hw hge e2 => ?_
 refine Aj ?_
 have nn0 : ∀ {W : World} {K : Int -> Wp} {q : Nat × Nat} {r0 : RwT}, Ii W bw p A big q r0 -> K (q.1 : Int) W -> ld (.int .i64) (((at0 bw).add 1).add 4) K W := λ hh hk => by
  rw [← hh.row.num] at hk
  exact Cc (off := 5) hh.obj rfl hk
 refine nn0 hw ?_
 have xt : ∀ {W : World}, Upd (λ k => k = bw) w2 W -> Ext w1 W := λ u => walked e2 hge u
 refine Ad (λ _ W => ∃ q r0 n, headB A (Aq A x false).1 (Aq A x false) = some (q, n) /\ Ql A q = some n /\ Plc A q /\ Ii W bw p A big q r0 /\ Upd (λ k => k = bw) w2 W) ?_ ?_
 ·refine Bg6 (λ (g : (Nat × Nat) × RwT) (_ : Unit) W => Ii W bw p A big g.1 g.2 /\ Plc A g.1 /\ g.1.1 = (Aq A x false).1 /\ headB A (Aq A x false).1 (Aq A x false) = headB A (Aq A x false).1 g.1 /\ Upd (λ k => k = bw) w2 W) (λ g => (aft A g.1).length) (Aq A x false, r') ⟨hw, hpl, rfl, rfl, Upd.refl _ _⟩ ?_
  rintro ⟨q, r0⟩ _ W R ⟨hW, hq, hq1, hh, uW⟩ hR
  dsimp only at hW hq hq1 hh hR ⊢
  refine Tc hW λ w3 e3 => ?_
  have hW3 := hW.ext e3
  have u3 := uW.trans (Upd.Et e3)
  cases hbr : Ql A q with
  | some n =>
   refine Ac (λ hc => by simp at hc; omega) (λ _ => ?_)
   refine ⟨q, r0, n, ?_, hbr, hq, hW3, u3⟩
   rw [hh, ← hq1]; exact Bd1 hbr
  | none =>
   refine Ac (λ _ => ?_) (λ hc => by simp at hc)
   refine Ad (λ y W' => (y = (true, ()) /\ headB A (Aq A x false).1 (Aq A x false) = none /\ Upd (λ k => k = bw) w2 W') \/ (y = (false, ()) /\ ∃ q2 r2, Ja A q = some q2 /\ Ii W' bw p A big q2 r2 /\ Plc A q2 /\ q2.1 = (Aq A x false).1 /\ Upd (λ k => k = bw) w2 W')) ?_ ?_
   ·refine F6 hW3 (λ hn w4 e4 => Bo (.inl ⟨rfl, ?_, u3.trans (Upd.Et e4)⟩)) (λ q2 r2 w4 hn hW4 u4 => Am (Aj (nn0 hW4 ?_)))
    ·rw [hh]; exact Bd0 hbr hn
    ·by_cases he : q2.1 = (Aq A x false).1
     ·refine .inr ⟨?_, q2, r2, hn, hW4, Bo5 hq.on hn, he, u3.trans u4⟩
      rw [he]
      have : (((Aq A x false).1 : Int) != ((Aq A x false).1 : Int)) = false := by rw [bne_eq_false_iff_eq]
      rw [this]
     ·refine .inl ⟨?_, ?_, u3.trans u4⟩
      ·have : ((q2.1 : Int) != ((Aq A x false).1 : Int)) = true := by rw [bne_iff_ne]; omega
       rw [this]
      ·rw [hh, Aa4 hbr hn]
       have := (Uk hq.on hn).2.2.2
       exact At8 (by omega)
   rintro _ w4 (⟨rfl, hn, u4⟩ | ⟨rfl, q2, r2, hn, hW4, hq2, he, u4⟩)
   ·refine Bo ?_
    rw [hn] at hK
    exact Gj λ w5 e5 => Hy ((S1.ext (xt u4)).ext e5) hK
   ·refine Am (hR (q2, r2) () w4 ⟨hW4, hq2, he, ?_, u4⟩ ?_)
    ·rw [hh]; exact Aa4 hbr hn
    ·rw [Ut hn]; simp
 rintro _ W ⟨q, r0, n, hh, hbr, hq, hW, uW⟩
 rw [hh, Option.bind_some] at hK
 dsimp only at hK
 refine Tc hW λ w3 e3 => ?_
 have hW3 := hW.ext e3
 have u3 := uW.trans (Upd.Et e3)
 rw [hbr]
 dsimp only
 obtain ⟨l3, l4⟩ := Ap3 hq
 refine Ad (λ y W' => y = ((if n < 3 then (.func (Fn.func 162) #[.pointer (some (at0 bw))] #[] : Value) else (.func (Fn.func 195) #[.pointer (some (at0 bw))] #[] : Value)), ()) /\ w3 = W') ?_ ?_
 ·refine Ac (λ hc => ⟨?_, rfl⟩) (λ hc => ⟨?_, rfl⟩)
  ·simp only [decide_eq_true_eq, ge_iff_le] at hc
   rw [if_neg (by omega)]
  ·simp only [decide_eq_false_iff_not, ge_iff_le] at hc
   rw [if_pos (by omega)]
 rintro _ _ ⟨rfl, rfl⟩
 dsimp only
 let lst : Nat × Nat -> List Bk := λ q => if n < 3 then Uu A q else Na A q
 let rem : Nat × Nat -> List (Nat × Nat) := λ q => if n < 3 then aft A q else bef A q
 have step : ∀ {q1 : Nat × Nat} {r1 : RwT} {V : World} {K : Bool -> Wp}, Ii V bw p A big q1 r1 -> (rem q1 = [] -> (∀ d, Dk n (lst q1) d = none) -> ∀ V', Ext V V' -> K false V') ->
   (∀ q2 r2 V', rem q1 = q2 :: rem q2 -> (Ql A q2 = none -> ∀ d, Dk n (lst q1) d = Dk n (lst q2) d) -> (∀ b2, Ql A q2 = some b2 -> ∀ d, Dk n (lst q1) d = if b2 % 3 ≠ n % 3 then Dk n (lst q2) d else if b2 = n then Dk n (lst q2) (d + 1) else if d = 1 then some q2 else Dk n (lst q2) (d - 1)) -> Ii V' bw p A big q2 r2 -> Upd (λ k => k = bw) V V' -> K true V') ->
   Cb Tryz.prog (do let d ← Deferred.ofValue (if n < 3 then (.func (Fn.func 162) #[.pointer (some (at0 bw))] #[] : Value) else (.func (Fn.func 195) #[.pointer (some (at0 bw))] #[] : Value)) #[]; invoke d.target d.args : Sem Next) (.one (.one .bool)) K V := by
  intro q1 r1 V K hV hN hS
  by_cases hn3 : n < 3
  ·have el : ∀ q, lst q = Uu A q := λ q => if_pos hn3
   have er : ∀ q, rem q = aft A q := λ q => if_pos hn3
   simp only [el, er] at hN hS
   rw [if_pos hn3]
   refine Bt6 (by kernel_rfl) (F6 hV (λ hn V' e' => hN (Ac9 hn) (λ d => V5 hn) V' e') λ q2 r2 V' hn hV' u' => ?_)
   exact hS q2 r2 V' (Ut hn) (λ hb d => V4 hn hb) (λ b2 hb d => V3 hn hb) hV' u'
  ·have el : ∀ q, lst q = Na A q := λ q => if_neg hn3
   have er : ∀ q, rem q = bef A q := λ q => if_neg hn3
   simp only [el, er] at hN hS
   rw [if_neg hn3]
   refine Bt6 (by kernel_rfl) (Ap2 hV (λ hn V' e' => hN (Aw6 hn) (λ d => V8 hn) V' e') λ q2 r2 V' hn hV' u' => ?_)
   exact hS q2 r2 V' (Ac6 hn) (λ hb d => V7 hn hb) (λ b2 hb d => V6 hn hb) hV' u'
 have hlst : (if n < 3 then Uu A q else Na A q) = lst q := rfl
 rw [hlst] at hK
 have hrem : (rem q).length <= A.length + 1 := by
  show (if n < 3 then aft A q else bef A q).length <= _
  split <;> omega
 refine Ad (λ y V => ∃ d : Nat, y = ((d : Int), ()) /\ ((0 < d /\ Dk n (lst q) 1 = none /\ Upd (λ k => k = bw) w2 V) \/ (d = 0 /\ ∃ q2 r2, Dk n (lst q) 1 = some q2 /\ Ii V bw p A big q2 r2 /\ Upd (λ k => k = bw) w2 V))) ?_ ?_
 ·refine Bg6 (λ (g : Nat × (Nat × Nat) × RwT) y V => y = ((g.1 : Int), ()) /\ 1 <= g.1 /\ g.1 + (rem g.2.1).length <= 2097152 /\ Ii V bw p A big g.2.1 g.2.2 /\ Dk n (lst q) 1 = Dk n (lst g.2.1) g.1 /\ Upd (λ k => k = bw) w2 V) (λ g => (rem g.2.1).length) (1, q, r0) ⟨rfl, Nat.le_refl _, by dsimp only; omega, hW3, rfl, u3⟩ ?_
  rintro ⟨d, q1, r1⟩ _ V R ⟨rfl, d1, d2, hV, hs, uV⟩ hR
  dsimp only at d1 d2 hV hs hR ⊢
  refine step hV (λ hr hn V' e' => Am ⟨d, rfl, .inl ⟨d1, hs.trans (hn d), uV.trans (Upd.Et e')⟩⟩) λ q2 r2 V' hr hk hb hV' u' => Bo (Tc hV' λ V2 e2' => ?_)
  have hV2 := hV'.ext e2'
  have uV2 := (uV.trans u').trans (Upd.Et e2')
  have hlen : (rem q1).length = (rem q2).length + 1 := by rw [hr]; rfl
  cases hb2 : Ql A q2 with
  | none =>
   dsimp only
   refine Ad (λ y V' => y = (true, ()) /\ V2 = V') (Ac (λ _ => ⟨rfl, rfl⟩) (λ hc => by simp at hc)) ?_
   rintro _ _ ⟨rfl, rfl⟩
   refine Bo (hR (d, q2, r2) _ V2 ⟨rfl, d1, by dsimp only; omega, hV2, hs.trans (hk hb2 d), uV2⟩ (by dsimp only; omega))
  | some b2 =>
   dsimp only
   have hbb := hb b2 hb2 d
   refine Ad (λ y V' => y = (decide (b2 % 3 ≠ n % 3), ()) /\ V2 = V') (Ac (λ hc => by simp at hc; omega) (λ _ => Bq (by decide) (Bq (by decide) ⟨by rw [Cv5], rfl⟩))) ?_
   rintro _ _ ⟨rfl, rfl⟩
   refine Ac (λ hc => ?_) (λ hc => ?_)
   ·rw [if_pos (of_decide_eq_true hc)] at hbb
    exact hR (d, q2, r2) _ V2 ⟨rfl, d1, by dsimp only; omega, hV2, hs.trans hbb, uV2⟩ (by dsimp only; omega)
   ·rw [if_neg (of_decide_eq_false hc)] at hbb
    refine Ac (λ he => ?_) (λ he => ?_)
    ·simp only [beq_iff_eq] at he
     rw [if_pos (by omega)] at hbb
     have ew : W64 ((d : Int) + 1) = ((d + 1 : Nat) : Int) := by rw [wrap64 (by omega) (by omega)]; omega
     rw [ew]
     exact hR (d + 1, q2, r2) _ V2 ⟨rfl, by dsimp only; omega, by dsimp only; omega, hV2, hs.trans hbb, uV2⟩ (by dsimp only; omega)
    ·simp only [beq_eq_false_iff_ne, ne_eq] at he
     rw [if_neg (by omega)] at hbb
     have ew : W64 ((d : Int) - 1) = ((d - 1 : Nat) : Int) := by rw [wrap64 (by omega) (by omega)]; omega
     rw [ew]
     refine Ac (λ hz => ?_) (λ hz => ?_)
     ·simp only [beq_iff_eq] at hz
      rw [if_pos (by omega)] at hbb
      exact ⟨d - 1, rfl, .inr ⟨by omega, q2, r2, hs.trans hbb, hV2, uV2⟩⟩
     ·simp only [beq_eq_false_iff_ne, ne_eq] at hz
      rw [if_neg (by omega)] at hbb
      exact hR (d - 1, q2, r2) _ V2 ⟨rfl, by dsimp only; omega, by dsimp only; omega, hV2, hs.trans hbb, uV2⟩ (by dsimp only; omega)
 rintro _ V ⟨d, rfl, (⟨d1, hs, uV⟩ | ⟨d0, q2, r2, hs, hV, uV⟩)⟩
 ·rw [hs] at hK
  refine Ac (λ _ => Gj λ w5 e5 => Hy ((S1.ext (xt uV)).ext e5) hK) (λ hc => ?_)
  simp at hc; omega
 ·rw [hs] at hK
  subst d0
  refine Ac (λ hc => by simp at hc) (λ _ => Bl4 hV λ w5 e5 => ?_)
  have x5 := (xt uV).trans e5
  exact Gf ((h.ext e1).ext x5) λ w6 e6 => Hy ((S1.ext x5).ext e6) hK
end
abbrev mvM (kind count arg : Int) : Cells.T c48 := (kind, count, arg, ())
abbrev Yd (kind count arg : Int) : Obj := .cells #[.int .i64 kind, .int .i64 count, .int .i64 arg] 48 (0, 0)
def vF : Option FuncId -> Value
 | none => .nilFunc
 | some g => .func (.func g) #[] #[]
def Ac5 (kind : Int) : Bool := decide ((25 <= kind /\ kind <= 28) \/ kind = 30)
section
variable {w w' : World} {b p : Nat} {A : List Int} {x goal kind count arg : Int} {past big : Bool}
theorem Bm8 {t : TypeId} {ps rs : Array TypeId} {vr : Bool} (hu : Tryz.prog.underlying t = some (.func ps rs vr)) {o1 : Operand} {v : Option FuncId} {K : Bool -> Wp} (h : K v.isNone w) : rdB Tryz.prog (do eqGuard .eql t o1 (.const .nilFunc) (vF v) .nilFunc; binOp .eql t (vF v) .nilFunc : Sem Value) K w := by
 refine ⟨v.isNone, ?_, h⟩
 cases v with
 | none =>
  have e : (Op.equal t .nilFunc .nilFunc).run Tryz.prog w = .ok true w := Au7 hu 9999
  simp [eqGuard, binOp, vF, e]
 | some g =>
  have e : (Op.equal t (.func (.func g) #[] #[]) .nilFunc).run Tryz.prog w = .ok false w := Be0 hu _ _ _ 9999
  simp [eqGuard, binOp, vF, e]
theorem Cl2 : Tryz.prog.underlying 173 = some (.func #[174] #[83, 37] false) := by kernel_rfl
theorem Ag7 {tab : Value} {v : Option FuncId} {ans : Ld} (h : TxA w p A)
  (htab : ∀ W (K : Value -> Wp), K (vF v) W -> Cb Tryz.prog (do let d ← Deferred.ofValue tab #[.int .i64 kind]; invoke d.target d.args : Sem Next) (.one (.one .any)) K W)
  (hnil : v = none -> ans = noP 1)
  (hdo : ∀ g, v = some g -> ((Tryz.prog.funcs[g]?).map λ fn => (fn.body.isNone, fn.name == "runtime.NumGoroutine")) = some (false, false) /\ ∀ W b r N (K : LdT -> Wp), Ed W b p A x count arg (max goal 0) past (Ac5 kind) r -> TxN W p A N -> N <= b -> (∀ W', Upd (λ k => k = b) W W' -> K (ldT ans) W') -> Aa Tryz.prog g #[.pointer (some (at0 b))] (.tup [(.agg c83), (.one (.int .i64))]) K W)
  {K : LdT -> Wp} (hK : ∀ w', Ext w w' -> K (ldT ans) w') :
  Aa Tryz.prog 89 #[tab, .pointer (some (at0 p)), .int .i64 x, .int .i64 goal, .agg (Cells.vals c48 (mvM kind count arg)).toArray, .bool past] (.tup [(.agg c83), (.one (.int .i64))]) K w := by
 refine A89 (a4 := mvM kind count arg) ?_
 unfold F89
 refine (St.start w).Af λ b1 w1 S1 e1 => S1.Af λ b2 w2 S2 e2 => ?_
 have S2 : St (λ _ => False) w w2 [(b2, ldZ), (b1, Yd kind count arg)] := S2
 refine S2.ld (off := 0) 1 rfl (x := kind) rfl (htab w2 _ ?_)
 refine Bm8 Cl2 ?_
 cases v with
 | none =>
  have ha := hnil rfl
  subst ha
  refine Bo (S2.Ae 0 rfl rfl rfl rfl λ w3 S3 _ => S3.lds 0 (ldT (noP 1)).1 rfl (hK w3 S3.upd))
 | some g =>
  obtain ⟨hg, hdo⟩ := hdo g rfl
  refine Am (H9 (h.ext S2.upd) λ w3 e3 => ?_)
  have S3 := S2.ext e3
  refine S3.drew λ w4 S4 e4 _ => S4.ld (off := 2) 1 rfl (x := arg) rfl (Rt (h.ext S4.upd) λ r w5 hr e5 => ?_)
  have S5 := S4.ext e5
  rw [Gg] at hr
  have hr : Gv w5 A (Aq A x past).1 r := hr
  refine S5.keep (off := 2) 1 rfl (v := .int .i64 arg) rfl (S5.Y8 λ b10 w6 S6 e6 hb10 => ?_)
  have em : (if (0 : Int) > goal then (0 : Int) else goal) = max goal 0 := by split <;> omega
  rw [em] at S6
  have S6 : St (λ _ => False) w w6 [(b10, mvO p (Bg A x past : Int) 0 1 false arg (max goal 0) past false r), (b2, ldZ), (b1, Yd kind count arg)] := S6
  have hr6 := hr.ext e6
  refine Aj (Nb (off := 9) (x := r) (S6.at_ 0 rfl) (Um (by rfl)) (Vl (hr.ext e6) λ w7 e7 => Aj ?_))
  have S7 := S6.ext e7
  refine S7.stC (off := 2) 0 rfl (by show 2 < 16; decide) λ w8 S8 u8 => ?_
  have hr8 : Gv w8 A (Aq A x past).1 r := (hr6.ext e7).box (S7.at_ 0 rfl) (by decide) u8
  have S8 : St (λ _ => False) w w8 [(b10, mvO p (Bg A x past : Int) ((Aq A x past).2 : Int) 1 false arg (max goal 0) past false r), (b2, ldZ), (b1, Yd kind count arg)] := S8
  refine Ad (λ _ W => Gv W A (Aq A x past).1 r /\ St (λ _ => False) w W [(b10, mvO p (Bg A x past : Int) ((Aq A x past).2 : Int) 1 false arg (max goal 0) past (Ac5 kind) r), (b2, ldZ), (b1, Yd kind count arg)]) ?_ ?_
  ·have hset : ∀ (bb : Bool), bb = Ac5 kind -> stC ((at0 b10).add 8) (.bool bb) (λ W => Gv W A (Aq A x past).1 r /\ St (λ _ => False) w W [(b10, mvO p (Bg A x past : Int) ((Aq A x past).2 : Int) 1 false arg (max goal 0) past (Ac5 kind) r), (b2, ldZ), (b1, Yd kind count arg)]) w8 := λ bb hbb => by
    subst hbb
    exact S8.stC (off := 8) 0 rfl (by show 8 < 16; decide) λ w9 S9 u9 => ⟨hr8.box (S8.at_ 0 rfl) (by decide) u9, S9⟩
   refine S8.ld (off := 0) 2 rfl (x := kind) rfl (Ac (λ hc => ?_) (λ hc => ?_))
   ·simp only [decide_eq_true_eq, ge_iff_le] at hc
    refine S8.ld (off := 0) 2 rfl (x := kind) rfl (Ac (λ hc2 => ?_) (λ hc2 => ?_))
    ·simp only [decide_eq_true_eq] at hc2
     exact Aj (hset true (by unfold Ac5; rw [decide_eq_true]; exact .inl ⟨hc, hc2⟩))
    ·simp only [decide_eq_false_iff_not] at hc2
     refine S8.ld (off := 0) 2 rfl (x := kind) rfl (Aj (hset _ ?_))
     unfold Ac5
     rw [Bool.eq_iff_iff, beq_iff_eq, decide_eq_true_eq]; omega
   ·simp only [decide_eq_false_iff_not, ge_iff_le] at hc
    refine S8.ld (off := 0) 2 rfl (x := kind) rfl (Aj (hset _ ?_))
    unfold Ac5
    rw [Bool.eq_iff_iff, beq_iff_eq, decide_eq_true_eq]; omega
  rintro _ w9 ⟨hr9, S9⟩
  refine Ad (λ _ W => Gv W A (Aq A x past).1 r /\ St (λ _ => False) w W [(b10, mvO p (Bg A x past : Int) ((Aq A x past).2 : Int) (kOf count : Int) (decide (0 < count)) arg (max goal 0) past (Ac5 kind) r), (b2, ldZ), (b1, Yd kind count arg)]) ?_ ?_
  ·refine S9.ld (off := 1) 2 rfl (x := count) rfl (Ac (λ hc => ?_) (λ hc => ?_))
   ·simp only [decide_eq_true_eq, gt_iff_lt] at hc
    refine S9.ld (off := 1) 2 rfl (x := count) rfl (Aj ?_)
    have ek : (if (9999 : Int) < count then (9999 : Int) else count) = (kOf count : Int) := by unfold kOf; rw [if_pos hc]; split <;> omega
    rw [ek, decide_eq_true hc]
    refine S9.stC (off := 3) 0 rfl (by show 3 < 16; decide) λ w10 S10 u10 => Aj (S10.stC (off := 4) 0 rfl (by show 4 < 16; decide) λ w11 S11 u11 => ⟨(hr9.box (S9.at_ 0 rfl) (by decide) u10).box (S10.at_ 0 rfl) (by decide) u11, S11⟩)
   ·simp only [decide_eq_false_iff_not, gt_iff_lt] at hc
    have ek : kOf count = 1 := by unfold kOf; rw [if_neg hc]
    rw [ek, decide_eq_false hc]
    exact ⟨hr9, S9⟩
  rintro _ w10 ⟨hrow, S10⟩
  have hge : w5.heap.size <= b10 := Nat.le_of_eq hb10.symm
  have hmv : Ed w10 b10 p A x count arg (max goal 0) past (Ac5 kind) r := ⟨h.ext S10.upd, S10.at_ 0 rfl, hrow⟩
  refine func_x (caps := #[]) hg (hdo w10 b10 r w.heap.size _ hmv (h.n.ext S10.upd) (S10.ge 0 rfl) λ w11 u11 => ?_)
  have S11 : St (λ _ => False) w w11 [(b2, ldZ), (b1, Yd kind count arg)] := S10.tail.fresh u11 (λ k hk => .inr (by subst hk; exact S10.ge 0 rfl)) (λ y hy hk => by
   have hnd := S10.nd
   simp only [List.map_cons, List.map_nil, List.nodup_cons, List.mem_cons, List.not_mem_nil, or_false, not_or] at hnd
   rcases List.mem_cons.1 hy with rfl | hy
   ·exact hnd.1.1 hk.symm
   ·rw [List.mem_singleton.1 hy] at hk
    exact hnd.1.2 hk.symm)
  exact S11.Ae 0 rfl rfl rfl rfl λ w12 S12 _ => S12.lds 0 (ldT ans).1 rfl (hK w12 S12.upd)
theorem Am8 {W w0 : World} {b2 : Nat} {o : Obj} {b1 : Nat} {l : Ld} {K : LdT -> Wp} (S : St (λ _ => False) w0 W [(b2, ldZ), (b1, o)]) (hK : ∀ w', Ext w0 w' -> K (ldT l) w') :
  Ae (at0 b2) (.agg (Cells.vals c83 (ldT l).1).toArray) 3 (lds c83 (at0 b2) λ y => K (y, (ldT l).2.1, ())) W :=
 S.Ae 0 rfl rfl rfl rfl λ w1 S1 _ => S1.lds 0 (ldT l).1 rfl (hK w1 S1.upd)
def Bz6 (k : Int) : Option FuncId := if k = 1 then some 134 else if k = 2 then some 135 else if k = 3 then some 136 else if k = 4 then some 137 else if k = 5 then some 138 else if k = 6 then some 139 else if k = 7 then some 140 else if k = 8 then some 141 else if k = 9 then some 142 else if k = 10 then some 143 else none
def Bu7 (k : Int) : Option FuncId := if k = 31 then some 157 else if k = 32 then some 158 else if k = 33 then some 159 else none
theorem Qo {n : Int} {k : Int} {g : FuncId} {o : Option FuncId} {K : Value -> Wp} {B : World -> Prop} (hK : K (vF (if k = n then some g else o)) w) (h2 : K (vF o) w -> B w) : sif (k == n) (K (.func (.func g) #[] #[])) B w := by
 refine Ac (λ hc => ?_) (λ hc => ?_)
 ·simp only [beq_iff_eq] at hc
  rw [if_pos hc] at hK; exact hK
 ·simp only [beq_eq_false_iff_ne, ne_eq] at hc
  rw [if_neg hc] at hK; exact h2 hK
theorem Ae1 {K : Value -> Wp} (hK : K (vF (Bz6 kind)) w) : Aa Tryz.prog 90 #[.int .i64 kind] (.one (.one .any)) K w := by
 refine A90 ?_
 unfold F90
 exact Qo hK λ hK => Qo hK λ hK => Qo hK λ hK => Qo hK λ hK => Qo hK λ hK => Qo hK λ hK => Qo hK λ hK => Qo hK λ hK => Qo hK λ hK => Qo hK λ hK => hK
theorem Ad8 {K : Value -> Wp} (hK : K (vF (Bu7 kind)) w) : Aa Tryz.prog 101 #[.int .i64 kind] (.one (.one .any)) K w := by
 refine Dt2 ?_
 unfold F101
 exact Qo hK λ hK => Qo hK λ hK => Qo hK λ hK => hK
theorem As7 (h : TxA w p A) {K : LdT -> Wp} (hK : ∀ w', Ext w w' -> K (ldT (Dc A x kind count arg past)) w') :
  Aa Tryz.prog 40 #[.pointer (some (at0 p)), .int .i64 x, .agg (Cells.vals c48 (mvM kind count arg)).toArray, .bool past] (.tup [(.agg c83), (.one (.int .i64))]) K w := by
 refine A40 (a2 := mvM kind count arg) ?_
 unfold F40
 refine (St.start w).Af λ b1 w1 S1 e1 => S1.Af λ b2 w2 S2 e2 => ?_
 have S2 : St (λ _ => False) w w2 [(b2, ldZ), (b1, Yd kind count arg)] := S2
 refine S2.lds 1 (mvM kind count arg) rfl (Ag7 (v := Bz6 kind) (ans := Dc A x kind count arg past) (h.ext S2.upd) (λ W K hk => func_x (caps := #[]) (by kernel_rfl) (Ae1 hk)) (λ hn => ?_) (λ g hg => ?_) λ w3 e3 => Am8 (S2.ext e3) hK)
 ·have n1 : ¬ kind = 1 := λ h => absurd (h ▸ hn) (by decide)
  have n2 : ¬ kind = 2 := λ h => absurd (h ▸ hn) (by decide)
  have n3 : ¬ kind = 3 := λ h => absurd (h ▸ hn) (by decide)
  have n4 : ¬ kind = 4 := λ h => absurd (h ▸ hn) (by decide)
  have n5 : ¬ kind = 5 := λ h => absurd (h ▸ hn) (by decide)
  have n6 : ¬ kind = 6 := λ h => absurd (h ▸ hn) (by decide)
  have n7 : ¬ kind = 7 := λ h => absurd (h ▸ hn) (by decide)
  have n8 : ¬ kind = 8 := λ h => absurd (h ▸ hn) (by decide)
  have n9 : ¬ kind = 9 := λ h => absurd (h ▸ hn) (by decide)
  have n10 : ¬ kind = 10 := λ h => absurd (h ▸ hn) (by decide)
  unfold Dc
  dsimp only
  rw [if_neg n1, if_neg n2, if_neg n3, if_neg n4, if_neg n5, if_neg n6, if_neg (by omega), if_neg (by omega)]
 ·have up : ∀ {W : World} {b : Nat} {K : LdT -> Wp}, (∀ W', Upd (λ k => k = b) W W' -> K (ldT (Dc A x kind count arg past)) W') -> ∀ W', Ext W W' -> K (ldT (Dc A x kind count arg past)) W' := λ hk W' e => hk W' (Upd.Et e)
  unfold Bz6 at hg
  split at hg
  ·cases hg; subst kind; exact ⟨by kernel_rfl, λ W b r N K hm _ _ hk => Bo7 hm (up hk)⟩
  split at hg
  ·cases hg; subst kind; exact ⟨by kernel_rfl, λ W b r N K hm _ _ hk => Ba3 hm (up hk)⟩
  split at hg
  ·cases hg; subst kind; exact ⟨by kernel_rfl, λ W b r N K hm _ _ hk => Ay9 hm (up hk)⟩
  split at hg
  ·cases hg; subst kind; exact ⟨by kernel_rfl, λ W b r N K hm _ _ hk => Bo6 hm (up hk)⟩
  split at hg
  ·cases hg; subst kind; exact ⟨by kernel_rfl, λ W b r N K hm _ _ hk => By1 hm (up hk)⟩
  split at hg
  ·cases hg; subst kind; exact ⟨by kernel_rfl, λ W b r N K hm _ _ hk => Cb4 hm (up hk)⟩
  split at hg
  ·cases hg; subst kind; exact ⟨by kernel_rfl, λ W b r N K hm _ _ hk => Bd7 hm (up hk)⟩
  split at hg
  ·cases hg; subst kind; exact ⟨by kernel_rfl, λ W b r N K hm _ _ hk => Bd6 hm (up hk)⟩
  split at hg
  ·cases hg; subst kind; exact ⟨by kernel_rfl, λ W b r N K hm _ _ hk => Bl6 hm (up hk)⟩
  split at hg
  ·cases hg; subst kind; exact ⟨by kernel_rfl, λ W b r N K hm _ _ hk => Ay5 hm (up hk)⟩
  ·cases hg
theorem As6 (h : TxA w p A) {K : LdT -> Wp} (hK : ∀ w', Ext w w' -> K (ldT (Gq A x kind count)) w') :
  Aa Tryz.prog 47 #[.pointer (some (at0 p)), .int .i64 x, .agg (Cells.vals c48 (mvM kind count arg)).toArray] (.tup [(.agg c83), (.one (.int .i64))]) K w := by
 refine A47 (a2 := mvM kind count arg) ?_
 unfold F47
 refine (St.start w).Af λ b1 w1 S1 e1 => S1.Af λ b2 w2 S2 e2 => ?_
 have S2 : St (λ _ => False) w w2 [(b2, ldZ), (b1, Yd kind count arg)] := S2
 refine S2.lds 1 (mvM kind count arg) rfl (Ag7 (v := Bu7 kind) (ans := Gq A x kind count) (h.ext S2.upd) (λ W K hk => func_x (caps := #[]) (by kernel_rfl) (Ad8 hk)) (λ hn => ?_) (λ g hg => ?_) λ w3 e3 => Am8 (S2.ext e3) hK)
 ·have n31 : ¬ kind = 31 := λ h => absurd (h ▸ hn) (by decide)
  have n32 : ¬ kind = 32 := λ h => absurd (h ▸ hn) (by decide)
  have n33 : ¬ kind = 33 := λ h => absurd (h ▸ hn) (by decide)
  unfold Gq
  dsimp only
  rw [if_neg n31, if_neg n32, if_neg n33]
 ·have up : ∀ {W : World} {b : Nat} {K : LdT -> Wp}, (∀ W', Upd (λ k => k = b) W W' -> K (ldT (Gq A x kind count)) W') -> ∀ W', Ext W W' -> K (ldT (Gq A x kind count)) W' := λ hk W' e => hk W' (Upd.Et e)
  unfold Bu7 at hg
  split at hg
  ·cases hg; subst kind; exact ⟨by kernel_rfl, λ W b r N K hm _ _ hk => Bb0 hm (up hk)⟩
  split at hg
  ·cases hg; subst kind; exact ⟨by kernel_rfl, λ W b r N K hm _ _ hk => Ba9 hm (up hk)⟩
  split at hg
  ·cases hg; subst kind
   refine ⟨by kernel_rfl, λ W b r N K hm _ _ hk => Al8 hm ?_⟩
   have e : Gq A x 33 0 = Gq A x 33 count := by rw [Uh, Uh]
   rw [e]; exact up hk
  ·cases hg
end
end Go.Proofs.YtolhlldgnfbemaaGreatDoor
namespace Go.Proofs.YtolhlldgnfbemaaGreatDoor
open Cdc Gly Clu Lns Obx
namespace Obx
def Ab9 (n : Nat) : Nat := if n = 13 then 1 else if n = 10 then 2 else if n < 32 \/ n = 127 then 3 else 0
def Cc7 (n : Nat) : Nat := if (9 <= n /\ n <= 13) \/ n = 32 then 0 else if (48 <= n /\ n <= 57) \/ (65 <= n /\ n <= 90) \/ n = 95 \/ (97 <= n /\ n <= 122) then 2 else 1
theorem Cl5 : ((List.range 128).all λ n => cls (n : Int) == Ab9 n && cnj (n : Int) == 0 && wrd (n : Int) == Cc7 n) = true := by kernel_rfl
theorem Ao5 {v : Int} (h : 0 <= v /\ v < 128) : cls v = Ab9 v.toNat /\ cnj v = 0 /\ wrd v = Cc7 v.toNat := by
 have h1 := List.all_eq_true.1 Cl5 v.toNat (List.mem_range.2 (by omega))
 have e : ((v.toNat : Nat) : Int) = v := by omega
 rw [e] at h1
 simp only [Bool.and_eq_true, beq_iff_eq] at h1
 exact ⟨h1.1.1, h1.1.2, h1.2⟩
theorem Bj8 (n : Nat) : Ab9 n <= 3 := by unfold Ab9; split <;> (try split) <;> (try split) <;> omega
def Bf8 (l : List Int) : Prop := ∀ v ∈ l, 0 <= v /\ v < 128
theorem Cn9 {s : Sc} {a : Int} (ha : 0 <= a /\ a < 128) (hs : s.last <= 3) : joins s (cls a) (cnj a) = decide (s.last = 1 /\ a = 10) := by
 obtain ⟨h1, h2, _⟩ := Ao5 ha
 have h3 := Bj8 a.toNat
 rw [h1, h2]
 have h10 : Ab9 a.toNat = 2 ↔ a = 10 := by unfold Ab9; split <;> (try split) <;> (try split) <;> omega
 unfold joins
 by_cases hc : s.last = 1 /\ Ab9 a.toNat = 2
 ·rw [if_pos hc, decide_eq_true ⟨hc.1, h10.1 hc.2⟩]
 ·rw [if_neg hc, decide_eq_false (λ h => hc ⟨h.1, h10.2 h.2⟩)]
  split
  ·rfl
  ·rename_i hap
   simp only [not_or, apart, decide_eq_true_eq] at hap
   have e0 : s.last = 0 := by omega
   have e1 : Ab9 a.toNat = 0 := by omega
   rw [e0, e1]
   rfl
theorem Ck5 {A : List Int} (h : Bf8 A) : ∀ k, (sc (A.take k)).last <= 3
 | 0 => by simp [sc, Sc.zero]
 | k + 1 => by
  by_cases hk : k < A.length
  ·rw [List.take_add_one, List.getElem?_eq_getElem hk]
   show (sc (A.take k ++ [A[k]])).last <= 3
   rw [Xr, At5, (Ao5 (h _ (List.getElem_mem hk))).1]
   exact Bj8 _
  ·have := Ck5 h k
   rwa [List.take_of_length_le (by omega)] at this ⊢
theorem bk7 {A : List Int} (h : Bf8 A) {k : Nat} (hk : k <= A.length) : bk A k = !(decide (0 < k) && (A[k - 1]? == some 13) && (A[k]? == some 10)) := by
 cases k with
 | zero => rw [Yy]; rfl
 | succ k =>
  by_cases he : k + 1 = A.length
  ·rw [he, Ao2, List.getElem?_eq_none (Nat.le_refl A.length)]
   simp
  ·have ha : A[k + 1]? = some A[k + 1] := List.getElem?_eq_getElem (by omega)
   have hb : A[k]? = some A[k] := List.getElem?_eq_getElem (by omega)
   rw [Bk4 ha (by omega), Cn9 (h _ (List.getElem_mem _)) (Ck5 h _)]
   have hl : (sc (A.take (k + 1))).last = Ab9 (A[k]).toNat := by
    rw [List.take_add_one, hb]
    show (sc (A.take k ++ [A[k]])).last = _
    rw [Xr, At5, (Ao5 (h _ (List.getElem_mem _))).1]
   have h13 : Ab9 (A[k]).toNat = 1 ↔ A[k] = 13 := by
    have := h A[k] (List.getElem_mem _)
    unfold Ab9; split <;> (try split) <;> (try split) <;> omega
   rw [hl, ha, Nat.add_sub_cancel, hb]
   rw [Bool.eq_iff_iff]
   simp [h13]
def Cc1 (A : List Int) : Prop := ∀ k : Nat, A[k]? = some 13 -> A[k + 1]? ≠ some 10
theorem Ci5 {A : List Int} (h : Bf8 A) (hn : Cc1 A) {k : Nat} (hk : k <= A.length) : bk A k = true := by
 rw [bk7 h hk]
 cases k with
 | zero => rfl
 | succ k =>
  rw [Nat.add_sub_cancel]
  cases h1 : (A[k]? == some 13) with
  | false => simp
  | true =>
   have := hn k (by simpa using h1)
   simp [this]
theorem By7 {A : List Int} (h : Bf8 A) (hn : Cc1 A) : cuts A = List.range (A.length + 1) := by
 unfold cuts Jw
 rw [List.filter_eq_self]
 intro k hk
 exact Ci5 h hn (by have := List.mem_range.1 hk; omega)
theorem Ct0 {A : List Int} (h : Bf8 A) (hn : Cc1 A) (off : Nat) {k : Nat} {a : Int} (ha : A[k]? = some a) : (Sv A off)[k]? = some ⟨off + k, off + k + 1, Cc7 a.toNat, true, a⟩ := by
 have hk := (List.getElem?_eq_some_iff.1 ha).1
 have hlen : (Sv A off).length = A.length := by rw [Rh, By7 h hn, List.length_range, Nat.add_sub_cancel]
 obtain ⟨c, hc⟩ : ∃ c, (Sv A off)[k]? = some c := ⟨_, List.getElem?_eq_getElem (by omega)⟩
 obtain ⟨i, j, h1, h2, h3, h4, h5, h6, _, _, h7, h8, h9⟩ := (Pq hc).ex
 rw [By7 h hn] at h1 h2
 rw [List.getElem?_range (by omega)] at h1
 rw [List.getElem?_range (by omega)] at h2
 cases h1; cases h2
 rw [ha] at h7
 cases h7
 obtain ⟨_, _, hw⟩ := Ao5 (h _ (List.mem_of_getElem? ha))
 rw [hc]
 obtain ⟨cf, ct, ck, ca, cat⟩ := c
 dsimp only at *
 have : ca = true := h9.2 rfl
 subst h5 h6 this
 rw [h8, hw]
 rfl
theorem Br0 {A : List Int} (h : Bf8 A) (hn : Cc1 A) (off : Nat) : (Sv A off).length = A.length := by rw [Rh, By7 h hn, List.length_range, Nat.add_sub_cancel]
end Obx
end Go.Proofs.YtolhlldgnfbemaaGreatDoor
namespace Go.Proofs.YtolhlldgnfbemaaGreatDoor
open Trx Gly Clu Lns Obx
namespace Obx
structure Good (A : List Int) (s : Int × Int × Int) : Prop where
 lo : 0 <= s.1
 le : s.1 <= s.2.1
 hi : s.2.1 <= A.length
 b1 : bk A s.1.toNat = true
 b2 : bk A s.2.1.toNat = true
structure LcOk (A : List Int) (l : Ln) (c : Cel) : Prop where
 lo : l.from_ <= c.from_
 lt : c.from_ < c.to_
 hi : c.to_ <= l.to_
 b1 : bk A c.from_ = true
 b2 : bk A c.to_ = true
end Obx
namespace Obx
def Ux (L : List Int) : Prop := ∀ v ∈ L, v ≠ 10 /\ v ≠ 13
theorem Ux.cl {L : List Int} (h : Ux L) : Cc1 L := λ k hk => absurd rfl (h 13 (List.mem_of_getElem? hk)).2
theorem Az1 {A : List Int} {i : Nat} (h : isb A i = true) : sk A (nb A i + 1) = some (i + 1) /\ nb A (i + 1) = nb A i + 1 := by
 have hi := Co0 h
 have hn : nb A (i + 1) = nb A i + 1 := by rw [Pg, h]; rfl
 have hle : nb A i + 1 <= brs A := by rw [← hn, Jm]; exact Jv A _ _ (by omega)
 obtain ⟨m, hm⟩ := Af0 hle
 obtain ⟨_, _, h3, h4⟩ := Ny hm
 rw [hm]
 have h1 : ¬ i + 1 < m := λ hc => by have := h4 _ hc; omega
 have h2 : ¬ m < i + 1 := λ hc => by have := Jv A m i (by omega); omega
 exact ⟨by congr 1; omega, hn⟩
end Obx
namespace Obx
def file : List (List Int) -> List Int -> List Int
 | [], R => R
 | l :: Ls, R => l ++ 10 :: file Ls R
def Vy : List (List Int) -> Nat -> Nat
 | _, 0 => 0
 | [], _ + 1 => 0
 | l :: Ls, k + 1 => l.length + 1 + Vy Ls k
theorem Ag1 (Ls : List (List Int)) : Vy Ls 0 = 0 := by cases Ls <;> rfl
theorem Av9 {X : List Int} : ∀ {l : List Int}, Ux l -> brs (l ++ 10 :: X) = 1 + brs X
 | [], _ => by rw [List.nil_append, brs]; rfl
 | a :: l, h => by
  have ha := h a List.mem_cons_self
  rw [List.cons_append, brs, Av9 (l := l) λ v hv => h v (List.mem_cons_of_mem _ hv)]
  have : isE a (l ++ 10 :: X) = false := by
   unfold isE
   simp [ha.1, ha.2]
  rw [this]; simp
theorem Yu : ∀ {l : List Int}, Ux l -> brs l = 0
 | [], _ => rfl
 | a :: l, h => by
  have ha := h a List.mem_cons_self
  rw [brs, Yu (l := l) λ v hv => h v (List.mem_cons_of_mem _ hv)]
  have : isE a l = false := by unfold isE; simp [ha.1, ha.2]
  rw [this]; simp
theorem Bg7 {X : List Int} {k : Nat} : ∀ {l : List Int}, Ux l -> sk (l ++ 10 :: X) (k + 1) = (sk X k).map (· + (l.length + 1))
 | [], _ => by
  rw [List.nil_append, sk]
  have : isE 10 X = true := rfl
  rw [this]; rfl
 | a :: l, h => by
  have ha := h a List.mem_cons_self
  rw [List.cons_append, sk]
  have : isE a (l ++ 10 :: X) = false := by unfold isE; simp [ha.1, ha.2]
  rw [this]
  simp only [Bool.false_eq_true, if_false]
  rw [Bg7 (l := l) λ v hv => h v (List.mem_cons_of_mem _ hv), Option.map_map]
  congr 1
def Lines (Ls : List (List Int)) : Prop := ∀ l ∈ Ls, Ux l
theorem O9 {R : List Int} (hR : Ux R) : ∀ {Ls : List (List Int)} (k : Nat), Lines Ls -> sk (file Ls R) k = if k <= Ls.length then some (Vy Ls k) else none
 | Ls, 0, _ => by rw [Aj9, Ag1]; simp
 | [], k + 1, _ => by
  show sk R (k + 1) = _
  rw [Ve R _ (by rw [Yu hR]; omega), if_neg (by simp)]
 | l :: Ls, k + 1, h => by
  rw [file, Bg7 (h l List.mem_cons_self), O9 hR k λ x hx => h x (List.mem_cons_of_mem _ hx)]
  by_cases hk : k <= Ls.length
  ·rw [if_pos hk, if_pos (by simpa using hk), Option.map_some, Vy]
   congr 1; omega
  ·rw [if_neg hk, if_neg (by simpa using hk)]; rfl
theorem Aw0 {R : List Int} (hR : Ux R) : ∀ {Ls : List (List Int)}, Lines Ls -> brs (file Ls R) = Ls.length
 | [], _ => Yu hR
 | l :: Ls, h => by rw [file, Av9 (h l List.mem_cons_self), Aw0 hR λ x hx => h x (List.mem_cons_of_mem _ hx), List.length_cons]; omega
theorem Ab0 (R : List Int) : ∀ Ls : List (List Int), (file Ls R).length = Vy Ls Ls.length + R.length
 | [] => by simp [file, Ag1]
 | l :: Ls => by rw [file, List.length_append, List.length_cons, Ab0 R Ls, List.length_cons, Vy]; omega
variable {Ls : List (List Int)} {R : List Int}
theorem Cf3 (hL : Lines Ls) (hR : Ux R) : Ky (file Ls R) Ls.length = some ⟨Vy Ls Ls.length, Vy Ls Ls.length + R.length, Vy Ls Ls.length + R.length, 0⟩ := by
 unfold Ky
 rw [O9 hR _ hL, if_pos (Nat.le_refl _), O9 hR _ hL, if_neg (by omega)]
 simp only
 rw [Ab0]
theorem Bw3 (hL : Lines Ls) (hR : Ux R) : lnN (file Ls R) = Ls.length + (if Ls ≠ [] /\ R = [] then 0 else 1) := by
 unfold lnN ended
 rw [Aw0 hR hL, O9 hR _ hL, if_pos (Nat.le_refl _), Ab0]
 congr 1
 by_cases hr : R = []
 ·subst hr
  cases Ls with
  | nil => simp [Vy]
  | cons l Ls =>
   have h1 : Vy (l :: Ls) (Ls.length + 1) ≠ 0 := by rw [Vy]; omega
   have h2 : 0 < Vy (l :: Ls) (Ls.length + 1) := by omega
   simp [h1, h2]
 ·have : 0 < R.length := List.length_pos_iff.2 hr
  have hb : (some (Vy Ls Ls.length) == some (Vy Ls Ls.length + R.length)) = false := by
   rw [beq_eq_false_iff_ne]
   intro h
   have := Option.some.inj h
   omega
  rw [hb, Bool.and_false, if_neg (by decide), if_neg (λ h => hr h.2)]
end Obx
namespace Mot
structure Tiny (A : List Int) : Prop where
 no : Ux A
 asc : Bf8 A
 pos : 0 < A.length
variable {A : List Int}
theorem Tiny.row (h : Tiny A) : brs A = 0 /\ lnN A = 1 /\ Aw A 0 = ⟨0, A.length, A.length, 0⟩ := by
 have hL : Lines [] := λ l hl => by cases hl
 have h1 := Cf3 (Ls := []) (R := A) hL h.no
 have h2 := Bw3 (Ls := []) (R := A) hL h.no
 have e : file [] A = A := rfl
 have o : Vy [] ([] : List (List Int)).length = 0 := rfl
 rw [e, o, Nat.zero_add] at h1
 rw [e] at h2
 refine ⟨Yu h.no, ?_, ?_⟩
 ·rw [h2]; simp
 ·unfold Aw
  have h1 : Ky A 0 = some ⟨0, A.length, A.length, 0⟩ := h1
  rw [h1]; rfl
theorem Tiny.Sv (h : Tiny A) {k : Nat} {a : Int} (ha : A[k]? = some a) : (Ag A 0)[k]? = some ⟨k, k + 1, Cc7 a.toNat, true, a⟩ := by
 have e : Ag A 0 = Obx.Sv A 0 := by
  unfold Ag Bi6
  rw [h.row.2.2]
  dsimp only
  rw [List.drop_zero, Nat.sub_zero, List.take_length]
 have := Ct0 h.asc h.no.cl 0 ha
 rw [e, this]
 simp
theorem Tiny.len (h : Tiny A) : (Ag A 0).length = A.length := by
 have e : Ag A 0 = Obx.Sv A 0 := by
  unfold Ag Bi6
  rw [h.row.2.2]
  dsimp only
  rw [List.drop_zero, Nat.sub_zero, List.take_length]
 rw [e, Br0 h.asc h.no.cl]
theorem Tiny.place (h : Tiny A) {k : Nat} (hk : k <= A.length) : Bf A 0 (k : Int) = k := by
 by_cases hlt : k < A.length
 ·obtain ⟨a, ha⟩ : ∃ a, A[k]? = some a := ⟨_, List.getElem?_eq_getElem hlt⟩
  rw [Eh (by rw [h.len]; exact hlt), Ht (h.Sv ha)]
 ·rw [Gp (by rw [h.len]; omega), h.row.2.2]
  show A.length = k
  omega
theorem Tiny.plc (h : Tiny A) {k : Nat} (hk : k < A.length) : Plc A (0, k) := ⟨by have := h.row.2.1; dsimp only; omega, .inl (by rw [h.len]; exact hk)⟩
theorem Tiny.off (h : Tiny A) {k : Nat} (hk : k <= A.length) : Ec A (0, k) = k := h.place hk
theorem Tiny.Cv4 (h : Tiny A) : Aq A 0 false = (0, 0) := by
 have hp := h.plc h.pos
 have := Bu1 (past := false) hp.on (λ _ => hp)
 rw [h.off (Nat.zero_le _)] at this
 exact this
theorem Cb7 {A : List Int} (h : A.all (λ v => decide (32 <= v /\ v < 128)) = true) (h0 : 0 < A.length) : Tiny A := by
 rw [List.all_eq_true] at h
 refine ⟨λ v hv => ?_, λ v hv => ?_, h0⟩
 ·have := of_decide_eq_true (h v hv); omega
 ·have := of_decide_eq_true (h v hv); omega
theorem Cj2 : Dc [97, 98, 99] 0 2 0 0 false = Dq [97, 98, 99] 1 0 := by
 have h : Tiny [97, 98, 99] := Cb7 (by decide) (by decide)
 rw [Ai0, h.Cv4]
 have hm : Jb [97, 98, 99] 0 false = 2 := by unfold Jb; rw [h.len]; rfl
 rw [hm, if_neg (by decide)]
 have e : (min ((0 : Nat) + kOf 0) 2) = 1 := by decide
 dsimp only
 rw [e, h.off (by decide)]
end Mot
end Go.Proofs.YtolhlldgnfbemaaGreatDoor
namespace Go.Proofs.YtolhlldgnfbemaaGreatDoor
open Go Go.Vx
def F7 (a0 : (Int × Sl × Sl × Sl × Unit)) (K : Bool -> Wp) : Wp := Af (.cells #[(vI a0.1), a0.2.1.v, a0.2.2.1.v, a0.2.2.2.1.v] 26) λ b1 => lds c26 (at0 b1) λ (x2 : (Int × Sl × Sl × Sl × Unit)) => cB 10 #[(vA c26 x2), (vI 7), (vI 7)] λ x3 => K x3
def h7 : Hint := (hS (hR 2) (hS (hR 3) hL))
theorem A7 {a0 : (Int × Sl × Sl × Sl × Unit)} {K : Bool -> Wp} {w : World} (h : F7 a0 K w) : Aa Tryz.prog 7 #[(vA c26 a0)] rB K w := tied Ai Tryz.func7 h7 _ h
def F10 (a0 : (Int × Sl × Sl × Sl × Unit)) (a1 : Int) (a2 : Int) (K : Bool -> Wp) : Wp := Af (.cells #[(vI a0.1), a0.2.1.v, a0.2.2.1.v, a0.2.2.2.1.v] 26) λ b1 => lds c26 (at0 b1) λ (x2 : (Int × Sl × Sl × Sl × Unit)) => Aa Tryz.prog 11 #[(vA c26 x2)] (.tup [(.one .ptr), (.one .ptr), (.one .bool)]) λ (x3 : (Option Addr × Option Addr × Bool × Unit)) => jB (λ J4 => sif (!x3.2.2.1) ( J4 (true, ())) ( J4 ((Option.isNone x3.1), ()))) λ s5 => sif s5.1 ( K x3.2.2.1) ( jU (λ J6 => sI (λ s8 again9 => ld (.sl) (ad b1 3) λ (x10 : Sl) => sif (decide (s8.1 < ((x10.len : Nat) : Int))) ( ld (.sl) (ad b1 3) λ (x11 : Sl) => ixs c50 x11 s8.1 7 λ (x13 : (Int × Int × Int × Int × Int × Int × Bool × Unit)) => Af (.cells #[(vI 0), (vI 0), (vI 0), (vI 0), (vI 0), (vI 0), (.bool false)] 50) λ b14 => Ae (at0 b14) (vA c50 x13) 7 <| jB (λ J15 => lI (at0 b14) λ x17 => sif (decide (x17 >= a1)) ( lI (at0 b14) λ x18 => sif (decide (x18 <= a2)) ( lds c50 (at0 b14) λ (x19 : (Int × Int × Int × Int × Int × Int × Bool × Unit)) => cB 18 #[(.pointer x3.1), (.pointer x3.2.1), (vA c50 x19)] λ x20 => J15 ((!x20), ())) ( J15 (false, ()))) ( J15 (false, ()))) λ s16 => sif s16.1 ( K false) ( again9 ((W64 (s8.1 + 1)), ()))) ( J6 ())) (0, ())) λ s7 => K true)
def h10 : Hint := (hS (hR 2) (hS (hR 9) (hS (hJ (0xfc0000, [(23, tB)]) (.region [] (.ops 3 (.split 20 (.skips 2 (hO 1)) (hO 3)))) (hC (hS (hR 2) hL) hL)) (hJ (0x3ffffffe000c40, []) (hS (hR 1) (.block (.loop 0x3ffffffe000c40 [(10, tI)] (hS (hS (hR 5) (hC hL hL)) (hS (.block (hS (hR 7) (hJ ((mR [(37, 54)]), [(53, tB)]) (.region [] (.ops 5 (.split 41 (.ops 6 (.split 47 (hO 6) (.skips 5 (hO 1)))) (.skips 4 (.ops 2 (.skips 5 (hO 1))))))) (hC (hS (hR 1) hL) hL)))) (hR 3)))))) (hS (hR 1) hL)))))
theorem A10 {a0 : (Int × Sl × Sl × Sl × Unit)} {a1 : Int} {a2 : Int} {K : Bool -> Wp} {w : World} (h : F10 a0 a1 a2 K w) : Aa Tryz.prog 10 #[(vA c26 a0), (vI a1), (vI a2)] rB K w := tied Ai Tryz.func10 h10 _ h
def F11 (a0 : (Int × Sl × Sl × Sl × Unit)) (K : (Option Addr × Option Addr × Bool × Unit) -> Wp) : Wp := Af (.cells #[(vI a0.1), a0.2.1.v, a0.2.2.1.v, a0.2.2.2.1.v] 26) λ b1 => cB 19 #[] λ x2 => sif (!x2) ( K (none, none, false, ())) ( lI (at0 b1) λ x3 => ld (.sl) (ad b1 1) λ (x4 : Sl) => Aa Tryz.prog 12 #[(vI x3), x4.v, (vI 65536)] (.tup [(.one .ptr), (.one cI)]) λ (x5 : (Option Addr × Int × Unit)) => sif (x5.2.1 != 0) ( K (none, none, true, ())) ( drew <| lI (at0 b1) λ x6 => ld (.sl) (ad b1 1) λ (x7 : Sl) => Dz Tryz.prog rS (Builtin.append_ #[22, 22] 22 #[(.slice none 0 0), x7.v]) λ (x8 : Sl) => keep (λ w => w.cell? (at0 b1) = some (Cell.val cI x6)) <| Aa Tryz.prog 20 #[(vI x6), x8.v, (vI 65536)] (.tup [(.one .ptr), (.one cI)]) λ (x9 : (Option Addr × Int × Unit)) => jB (λ J10 => sif (Option.isNone x9.1) ( J10 (true, ())) ( J10 ((x9.2.1 != 0), ()))) λ s11 => sif s11.1 ( K (none, none, false, ())) ( jU (λ J12 => sI (λ s14 again15 => ld (.sl) (ad b1 2) λ (x16 : Sl) => sif (decide (s14.1 < ((x16.len : Nat) : Int))) ( drew <| ld (.sl) (ad b1 2) λ (x17 : Sl) => ixl (.sl) x17 s14.1 1 λ (x19 : Sl) => ld (.sl) (ad b1 2) λ (x20 : Sl) => ix x20.a x20.len s14.1 λ p21 => ld (.sl) (p21.add (scaled (Int.toNat s14.1) 1)) λ (x22 : Sl) => cS 15 #[x19.v] λ x23 => keep (λ w => w.cell? (p21.add (scaled (Int.toNat s14.1) 1)) = some (Cell.val (.sl) x22)) <| keep (λ w => w.cell? (ad b1 2) = some (Cell.val (.sl) x20)) <| cN 14 #[(.pointer x9.1), x23.v] λ x24 => keep (λ w => w.cell? (p21.add (scaled (Int.toNat s14.1) 1)) = some (Cell.val (.sl) x22)) <| keep (λ w => w.cell? (ad b1 2) = some (Cell.val (.sl) x20)) <| cN 16 #[(.pointer x5.1), x22.v] λ x25 => sif (x24 != x25) ( K (none, none, false, ())) ( again15 ((W64 (s14.1 + 1)), ()))) ( J12 ())) (0, ())) λ s13 => nn x5.1 λ p26 => ld (.sl) (p26.add 2) λ (x27 : Sl) => Aa Tryz.prog 17 #[x27.v] rP λ (x28 : Option Addr) => K (x9.1, x28, true, ()))))
def h11 : Hint := (hS (hR 4) (hS (hS (hR 2) (hC (hS (hR 3) hL) hL)) (hS (hR 10) (hS (hS (hR 2) (hC (hS (hR 3) hL) hL)) (hS (.region (lR 11) (hO 11)) (hS (hJ (0x1f80000000, [(36, tB)]) (.region [] (.ops 3 (.split 33 (.skips 2 (hO 1)) (hO 3)))) (hC (hS (hR 3) hL) hL)) (hJ (0xfffffe00000021c, []) (hS (hR 1) (.block (.loop 0xfffffe00000021c [(9, tI)] (hS (hS (hR 5) (hC hL hL)) (hS (.block (hS (.region [0, 1, 2, 3, 4, 5, 8, 9, 10, 11, 12, 13, 6, 7, 14, 15] (hO 16)) (hC (hS (hR 3) hL) hL))) (hR 3)))))) (hS (hR 9) hL))))))))
theorem A11 {a0 : (Int × Sl × Sl × Sl × Unit)} {K : (Option Addr × Option Addr × Bool × Unit) -> Wp} {w : World} (h : F11 a0 K w) : Aa Tryz.prog 11 #[(vA c26 a0)] (.tup [(.one .ptr), (.one .ptr), (.one .bool)]) K w := tied Ai Tryz.func11 h11 _ h
def F15 (a0 : Sl) (K : Sl -> Wp) : Wp := jS (λ J1 => Ho (S := Sl × Int × Unit) (λ s3 again4 => sif (decide (s3.2.1 < ((a0.len : Nat) : Int))) ( drew <| ix a0.a a0.len s3.2.1 λ p5 => ld cI (p5.add (scaled (Int.toNat s3.2.1) 3)) λ (x6 : Int) => ix a0.a a0.len s3.2.1 λ p7 => ld cI ((p7.add (scaled (Int.toNat s3.2.1) 3)).add 1) λ (x8 : Int) => ixf (.sl) a0 s3.2.1 3 2 λ (x10 : Sl) => Dz Tryz.prog rS (Builtin.append_ #[43, 43] 43 #[(.slice none 0 0), x10.v]) λ (x11 : Sl) => keep (λ w => w.cell? ((p7.add (scaled (Int.toNat s3.2.1) 3)).add 1) = some (Cell.val cI x8)) <| keep (λ w => w.cell? (p5.add (scaled (Int.toNat s3.2.1) 3)) = some (Cell.val cI x6)) <| Af (.cells #[(vI x6), (vI x8), x11.v] 65) λ b12 => Dz Tryz.prog rS (Builtin.append_ #[39, 39] 39 #[s3.1.v, (.slice (some (at0 b12)) 1 1)]) λ (x13 : Sl) => again4 (x13, (W64 (s3.2.1 + 1)), ())) ( J1 (s3.1, ()))) (⟨none, 0, 0⟩, 0, ())) λ s2 => K s2.1
def h15 : Hint := (hS (hR 1) (hS (hR 1) (hJ (0x7ffffff8, [(3, tS)]) (hS (hR 1) (.block (.loop 0x7ffffff8 [(3, tS), (4, tI)] (hS (hS (hR 4) (hC hL hL)) (hS (.block (.region (lR 21) (hO 21))) (hR 3)))))) (hS (hR 2) hL))))
theorem A15 {a0 : Sl} {K : Sl -> Wp} {w : World} (h : F15 a0 K w) : Aa Tryz.prog 15 #[a0.v] rS K w := tied Ai Tryz.func15 h15 _ h
def F18 (a0 : Option Addr) (a1 : Option Addr) (a2 : (Int × Int × Int × Int × Int × Int × Bool × Unit)) (K : Bool -> Wp) : Wp := Af (.cells #[(vI a2.1), (vI a2.2.1), (vI a2.2.2.1), (vI a2.2.2.2.1), (vI a2.2.2.2.2.1), (vI a2.2.2.2.2.2.1), (.bool a2.2.2.2.2.2.2.1)] 50) λ b1 => lI (at0 b1) λ x2 => sif (x2 == 1) ( drew <| lI (ad b1 1) λ x3 => ld (.bool) (ad b1 6) λ (x4 : Bool) => lI (ad b1 1) λ x5 => ld (.bool) (ad b1 6) λ (x6 : Bool) => cN 34 #[(.pointer a0), (vI x3), (.bool x4)] λ x7 => keep (λ w => w.cell? (ad b1 6) = some (Cell.val (.bool) x6)) <| keep (λ w => w.cell? (ad b1 1) = some (Cell.val cI x5)) <| cN 35 #[(.pointer a1), (vI x5), (.bool x6)] λ x8 => K (x7 == x8)) ( sif (x2 == 2) ( drew <| lI (ad b1 1) λ x9 => lI (ad b1 2) λ x10 => ld (.bool) (ad b1 6) λ (x11 : Bool) => lI (ad b1 1) λ x12 => lI (ad b1 2) λ x13 => ld (.bool) (ad b1 6) λ (x14 : Bool) => cN 36 #[(.pointer a0), (vI x9), (vI x10), (.bool x11)] λ x15 => keep (λ w => w.cell? (ad b1 6) = some (Cell.val (.bool) x14)) <| keep (λ w => w.cell? (ad b1 2) = some (Cell.val cI x13)) <| keep (λ w => w.cell? (ad b1 1) = some (Cell.val cI x12)) <| cN 37 #[(.pointer a1), (vI x12), (vI x13), (.bool x14)] λ x16 => K (x15 == x16)) ( sif (x2 == 3) ( drew <| lI (ad b1 1) λ x17 => lI (ad b1 1) λ x18 => cN 38 #[(.pointer a0), (vI x17)] λ x19 => keep (λ w => w.cell? (ad b1 1) = some (Cell.val cI x18)) <| cN 39 #[(.pointer a1), (vI x18)] λ x20 => K (x19 == x20)) ( sif (x2 == 4) ( lI (ad b1 1) λ x21 => lds c48 (ad b1 3) λ (x22 : I3) => ld (.bool) (ad b1 6) λ (x23 : Bool) => Aa Tryz.prog 40 #[(.pointer a0), (vI x21), (vA c48 x22), (.bool x23)] (.tup [(.agg c83), (.one cI)]) λ (x24 : (I3 × Int × Unit)) => Af (.cells #[(vI 0), (vI 0), (vI 0)] 83) λ b25 => Ae (at0 b25) (vA c83 x24.1) 3 <| lI (ad b1 1) λ x26 => lds c48 (ad b1 3) λ (x27 : I3) => ld (.bool) (ad b1 6) λ (x28 : Bool) => Aa Tryz.prog 41 #[(.pointer a1), (vI x26), (vA c48 x27), (.bool x28)] (.tup [(.agg c83), (.one cI)]) λ (x29 : (I3 × Int × Unit)) => Af (.cells #[(vI 0), (vI 0), (vI 0)] 83) λ b30 => Ae (at0 b30) (vA c83 x29.1) 3 <| lds c83 (at0 b25) λ (x31 : I3) => lds c83 (at0 b30) λ (x32 : I3) => cB 42 #[(vA c83 x31), (vI x24.2.1), (vA c83 x32), (vI x29.2.1)] λ x33 => K x33) ( sif (x2 == 5) ( lI (ad b1 1) λ x34 => lI (ad b1 2) λ x35 => lds c48 (ad b1 3) λ (x36 : I3) => Aa Tryz.prog 43 #[(.pointer a0), (vI x34), (vI x35), (vA c48 x36)] (.tup [(.agg c83), (.one cI)]) λ (x37 : (I3 × Int × Unit)) => Af (.cells #[(vI 0), (vI 0), (vI 0)] 83) λ b38 => Ae (at0 b38) (vA c83 x37.1) 3 <| lI (ad b1 1) λ x39 => lI (ad b1 2) λ x40 => lds c48 (ad b1 3) λ (x41 : I3) => Aa Tryz.prog 44 #[(.pointer a1), (vI x39), (vI x40), (vA c48 x41)] (.tup [(.agg c83), (.one cI)]) λ (x42 : (I3 × Int × Unit)) => Af (.cells #[(vI 0), (vI 0), (vI 0)] 83) λ b43 => Ae (at0 b43) (vA c83 x42.1) 3 <| lds c83 (at0 b38) λ (x44 : I3) => lds c83 (at0 b43) λ (x45 : I3) => cB 42 #[(vA c83 x44), (vI x37.2.1), (vA c83 x45), (vI x42.2.1)] λ x46 => K x46) ( sif (x2 == 6) ( lI (ad b1 1) λ x47 => lds c48 (ad b1 3) λ (x48 : I3) => ld (.bool) (ad b1 6) λ (x49 : Bool) => Aa Tryz.prog 45 #[(.pointer a0), (vI x47), (vA c48 x48), (.bool x49)] (.tup [(.agg c83), (.one cI)]) λ (x50 : (I3 × Int × Unit)) => Af (.cells #[(vI 0), (vI 0), (vI 0)] 83) λ b51 => Ae (at0 b51) (vA c83 x50.1) 3 <| lI (ad b1 1) λ x52 => lds c48 (ad b1 3) λ (x53 : I3) => ld (.bool) (ad b1 6) λ (x54 : Bool) => Aa Tryz.prog 46 #[(.pointer a1), (vI x52), (vA c48 x53), (.bool x54)] (.tup [(.agg c83), (.one cI)]) λ (x55 : (I3 × Int × Unit)) => Af (.cells #[(vI 0), (vI 0), (vI 0)] 83) λ b56 => Ae (at0 b56) (vA c83 x55.1) 3 <| lds c83 (at0 b51) λ (x57 : I3) => lds c83 (at0 b56) λ (x58 : I3) => cB 42 #[(vA c83 x57), (vI x50.2.1), (vA c83 x58), (vI x55.2.1)] λ x59 => K x59) ( sif (x2 == 7) ( lI (ad b1 1) λ x60 => lds c48 (ad b1 3) λ (x61 : I3) => Aa Tryz.prog 47 #[(.pointer a0), (vI x60), (vA c48 x61)] (.tup [(.agg c83), (.one cI)]) λ (x62 : (I3 × Int × Unit)) => Af (.cells #[(vI 0), (vI 0), (vI 0)] 83) λ b63 => Ae (at0 b63) (vA c83 x62.1) 3 <| lI (ad b1 1) λ x64 => lds c48 (ad b1 3) λ (x65 : I3) => Aa Tryz.prog 48 #[(.pointer a1), (vI x64), (vA c48 x65)] (.tup [(.agg c83), (.one cI)]) λ (x66 : (I3 × Int × Unit)) => Af (.cells #[(vI 0), (vI 0), (vI 0)] 83) λ b67 => Ae (at0 b67) (vA c83 x66.1) 3 <| lds c83 (at0 b63) λ (x68 : I3) => lds c83 (at0 b67) λ (x69 : I3) => cB 42 #[(vA c83 x68), (vI x62.2.1), (vA c83 x69), (vI x66.2.1)] λ x70 => K x70) ( sif (x2 == 8) ( lI (ad b1 1) λ x71 => lds c48 (ad b1 3) λ (x72 : I3) => Aa Tryz.prog 49 #[(.pointer a0), (vI x71), (vA c48 x72)] (.tup [(.agg c94), (.one cI)]) λ (x73 : (I3 × Int × Unit)) => Af (.cells #[(vI 0), (vI 0), (vI 0)] 94) λ b74 => Ae (at0 b74) (vA c94 x73.1) 3 <| lI (ad b1 1) λ x75 => lds c48 (ad b1 3) λ (x76 : I3) => Aa Tryz.prog 50 #[(.pointer a1), (vI x75), (vA c48 x76)] (.tup [(.agg c94), (.one cI)]) λ (x77 : (I3 × Int × Unit)) => Af (.cells #[(vI 0), (vI 0), (vI 0)] 94) λ b78 => Ae (at0 b78) (vA c94 x77.1) 3 <| lds c94 (at0 b74) λ (x79 : I3) => lds c94 (at0 b78) λ (x80 : I3) => cB 51 #[(vA c94 x79), (vI x73.2.1), (vA c94 x80), (vI x77.2.1)] λ x81 => K x81) ( sif (x2 == 9) ( lI (ad b1 1) λ x82 => lI (ad b1 2) λ x83 => lI (ad b1 3) λ x84 => Aa Tryz.prog 52 #[(.pointer a0), (vI x82), (vI x83), (vI x84)] (.tup [(.agg c94), (.one cI)]) λ (x85 : (I3 × Int × Unit)) => Af (.cells #[(vI 0), (vI 0), (vI 0)] 94) λ b86 => Ae (at0 b86) (vA c94 x85.1) 3 <| lI (ad b1 1) λ x87 => lI (ad b1 2) λ x88 => lI (ad b1 3) λ x89 => Aa Tryz.prog 53 #[(.pointer a1), (vI x87), (vI x88), (vI x89)] (.tup [(.agg c94), (.one cI)]) λ (x90 : (I3 × Int × Unit)) => Af (.cells #[(vI 0), (vI 0), (vI 0)] 94) λ b91 => Ae (at0 b91) (vA c94 x90.1) 3 <| lds c94 (at0 b86) λ (x92 : I3) => lds c94 (at0 b91) λ (x93 : I3) => cB 51 #[(vA c94 x92), (vI x85.2.1), (vA c94 x93), (vI x90.2.1)] λ x94 => K x94) ( K true)))))))))
def h18 : Hint := (hS (hR 2) (hS (hS (hR 2) (.block (hS (hR 2) (hC (hS (.region [0, 1, 2, 3, 4, 6, 7, 8, 9, 10, 5, 11, 12, 13] (hO 14)) hL) (hS (hR 2) (hC (hS (.region [0, 1, 2, 3, 4, 5, 6, 8, 9, 10, 11, 12, 13, 14, 7, 15, 16, 17] (hO 18)) hL) (hS (hR 2) (hC (hS (.region [0, 1, 2, 4, 5, 6, 3, 7, 8, 9] (hO 10)) hL) (hS (hR 2) (hC (hS (hR 14) (hS (hR 14) (hS (hR 6) hL))) (hS (hR 2) (hC (hS (hR 14) (hS (hR 14) (hS (hR 6) hL))) (hS (hR 2) (hC (hS (hR 14) (hS (hR 14) (hS (hR 6) hL))) (hS (hR 2) (hC (hS (hR 12) (hS (hR 12) (hS (hR 6) hL))) (hS (hR 2) (hC (hS (hR 12) (hS (hR 12) (hS (hR 6) hL))) (hS (hR 2) (hC (hS (hR 15) (hS (hR 15) (hS (hR 6) hL))) hL)))))))))))))))))))) (hS (hR 1) hL)))
theorem A18 {a0 : Option Addr} {a1 : Option Addr} {a2 : (Int × Int × Int × Int × Int × Int × Bool × Unit)} {K : Bool -> Wp} {w : World} (h : F18 a0 a1 a2 K w) : Aa Tryz.prog 18 #[(.pointer a0), (.pointer a1), (vA c50 a2)] rB K w := tied Ai Tryz.func18 h18 _ h
def F19  (K : Bool -> Wp) : Wp := Af (.cells #[(.int .u8 97), (.int .u8 98), (.int .u8 99)] 5) λ b1 => Aa Tryz.prog 20 #[(vI 1), (.slice (some (at0 b1)) 3 3), (vI 9)] (.tup [(.one .ptr), (.one cI)]) λ (x2 : (Option Addr × Int × Unit)) => jB (λ J3 => sif (Option.isNone x2.1) ( J3 (true, ())) ( J3 ((x2.2.1 != 0), ()))) λ s4 => sif s4.1 ( K false) ( Aa Tryz.prog 40 #[(.pointer x2.1), (vI 0), (.agg #[(vI 2), (vI 0), (vI 0)]), (.bool false)] (.tup [(.agg c83), (.one cI)]) λ (x5 : (I3 × Int × Unit)) => Af (.cells #[(vI 0), (vI 0), (vI 0)] 83) λ b6 => Ae (at0 b6) (vA c83 x5.1) 3 <| sif (x5.2.1 == 0) ( lI (at0 b6) λ x7 => K (x7 == 1)) ( K false))
def h19 : Hint := (hS (hR 1) (hS (hR 7) (hS (hJ (64512, [(15, tB)]) (.region [] (.ops 3 (.split 12 (.skips 2 (hO 1)) (hO 3)))) (hC (hS (hR 1) hL) hL)) (hS (hR 9) (hS (.region [] (.ops 3 (.split 24 (hO 5) (.skips 3 (hO 2))))) hL)))))
theorem A19 {K : Bool -> Wp} {w : World} (h : F19  K w) : Aa Tryz.prog 19 #[] rB K w := tied Ai Tryz.func19 h19 _ h
def F42 (a0 : I3) (a1 : Int) (a2 : I3) (a3 : Int) (K : Bool -> Wp) : Wp := Af (.cells #[(vI a0.1), (vI a0.2.1), (vI a0.2.2.1)] 83) λ b1 => Af (.cells #[(vI a2.1), (vI a2.2.1), (vI a2.2.2.1)] 83) λ b2 => lI (at0 b1) λ x3 => lI (at0 b2) λ x4 => sif (x3 == x4) ( lI (ad b1 1) λ x5 => lI (ad b2 1) λ x6 => sif (x5 == x6) ( lI (ad b1 2) λ x7 => lI (ad b2 2) λ x8 => sif (x7 == x8) ( K (a1 == a3)) ( K false)) ( K false)) ( K false)
def h42 : Hint := (hS (hR 3) (hS (.region [] (.ops 6 (.split 14 (.ops 7 (.split 21 (.ops 7 (.split 28 (hO 5) (.skips 3 (hO 2)))) (.skips 5 (.ops 2 (.skips 3 (hO 2)))))) (.skips 5 (.ops 2 (.skips 5 (.ops 2 (.skips 3 (hO 2))))))))) hL))
theorem A42 {a0 : I3} {a1 : Int} {a2 : I3} {a3 : Int} {K : Bool -> Wp} {w : World} (h : F42 a0 a1 a2 a3 K w) : Aa Tryz.prog 42 #[(vA c83 a0), (vI a1), (vA c83 a2), (vI a3)] rB K w := tied Ai Tryz.func42 h42 _ h
end Go.Proofs.YtolhlldgnfbemaaGreatDoor
namespace Go.Proofs.YtolhlldgnfbemaaGreatDoor
open Go Go.Vx Cdc Trx Gly Clu Lns Obx Mot
theorem By5 : Hu Tryz.prog 39 65 3 40 := Hu.of (z := .agg #[.int .i64 0, .int .i64 0, .slice none 0 0]) C39 C65 rfl rfl rfl (by decide)
section
variable {w w' : World}
theorem Br5 {K : Bool -> Wp} (hK : ∀ w', Ext w w' -> K true w') : Aa Tryz.prog 19 #[] rB K w := by
 refine A19 ?_
 unfold F19
 refine (St.start w).Af λ b1 w1 S1 e1 => ?_
 have hB : By w1 ⟨some (at0 b1), 3, 3⟩ [97, 98, 99] := Bh.Iw (S1.at_ 0 rfl) (n := 3) (sz := 1) rfl
 refine Ag0 (e := .u8) (lim := 9) hB (by decide) (by decide) λ p O M w2 tx hA _ e2 _ => ?_
 have hA : atoms (aOf .u8 M) = [97, 98, 99] := by rw [hA]; kernel_rfl
 have ta : TxA w2 p [97, 98, 99] := ⟨_, _, _, _, _, tx, hA⟩
 refine Ad (λ x W => x = (false, ()) /\ w2 = W) (Am ⟨rfl, rfl⟩) ?_
 rintro _ _ ⟨rfl, rfl⟩
 refine Am (As7 (kind := 2) (count := 0) (arg := 0) (x := 0) ta λ w3 e3 => ?_)
 rw [Cj2]
 refine ((S1.ext e2).ext e3).Af λ b6 w4 S4 e4 => S4.Ae 0 rfl rfl rfl rfl λ w5 S5 _ => ?_
 exact Bo (S5.ld (off := 0) 0 rfl (x := 1) rfl (hK w5 S5.upd))
theorem Yg {c : Cell} {cs : List Cell} {s : Sl} {xs : List (Cells.T cs)} {n : Int} {j : Nat} {K : Addr -> c.T -> Wp} (h : SlX w s cs.length (flat cs xs)) (h0 : 0 <= n) {x : Cells.T cs} {y : c.T} (hx : xs[n.toNat]? = some x) (hy : (Cells.vals cs x)[j]? = some (c.val y))
  (hK : ∀ p, (∀ w', Ext w w' -> w'.cell? ((p.add (scaled (Int.toNat n) cs.length)).add j) = some (c.val y)) -> K p y w) :
  ix s.a s.len n (λ p => ld c ((p.add (scaled (Int.toNat n) cs.length)).add j) (K p)) w := by
 have hlt := (List.getElem?_eq_some_iff.1 hx).1
 have hjl : j < cs.length := by
  have := (List.getElem?_eq_some_iff.1 hy).1
  rwa [Ey] at this
 have hl := h.Jt (by omega)
 obtain ⟨t, h⟩ := h.Ah2 (by omega)
 refine h.ix h0 (by omega) (by omega) λ b off ha hv => ?_
 have hc : w.cell? (((⟨b, off, none⟩ : Addr).add (scaled (Int.toNat n) cs.length)).add j) = some (c.val y) := by
  rw [addr_add, addr_add]
  have := hv j (c.val y) (by rw [flat_get cs xs _ j x hx hjl]; exact hy)
  simpa [Dx] using this
 exact Wu (x := y) hc (hK _ λ w' x' => Rj hc x')
theorem Bx0 {c : Cell} {cs : List Cell} {s : Sl} {xs : List (Cells.T cs)} {n : Int} {K : Addr -> c.T -> Wp} (h : SlX w s cs.length (flat cs xs)) (h0 : 0 <= n) {x : Cells.T cs} {y : c.T} (hx : xs[n.toNat]? = some x) (hy : (Cells.vals cs x)[0]? = some (c.val y))
  (hK : ∀ p, (∀ w', Ext w w' -> w'.cell? (p.add (scaled (Int.toNat n) cs.length)) = some (c.val y)) -> K p y w) :
  ix s.a s.len n (λ p => ld c (p.add (scaled (Int.toNat n) cs.length)) (K p)) w := by
 have hlt := (List.getElem?_eq_some_iff.1 hx).1
 have hjl : 0 < cs.length := by
  have := (List.getElem?_eq_some_iff.1 hy).1
  rwa [Ey] at this
 have hl := h.Jt (by omega)
 obtain ⟨t, h⟩ := h.Ah2 (by omega)
 refine h.ix h0 (by omega) (by omega) λ b off ha hv => ?_
 have hc : w.cell? ((⟨b, off, none⟩ : Addr).add (scaled (Int.toNat n) cs.length)) = some (c.val y) := by
  rw [addr_add]
  have := hv 0 (c.val y) (by rw [flat_get cs xs _ 0 x hx hjl]; exact hy)
  simpa [Dx] using this
 exact Wu (x := y) hc (hK _ λ w' x' => Rj hc x')
set_option maxHeartbeats 400000 in
theorem Bu8 {s : Sl} {es : List LEd} (h : EdX w s es) {K : Sl -> Wp} (hK : ∀ r ys w', Cp5 w' r 65 ys es -> (∀ k, r.blk k -> w.heap.size <= k) -> (∀ (i : Nat) y, ys[i]? = some y -> ∀ k, y.2.2.1.blk k -> w.heap.size <= k) -> Ext w w' -> K r w') :
  Aa Tryz.prog 15 #[s.v] rS K w := by
 refine A15 ?_
 unfold F15
 obtain ⟨ys0, hs, hyl, hy0⟩ := h.ex
 have few := h.few
 have hsl : ys0.length = s.len := SlX.Jt (cs := c65) hs (by decide)
 refine Ad (λ x W => ∃ ys, Ap W w.heap.size x.1 65 3 (flat c65 ys) /\ ys.length = es.length /\ (∀ (i : Nat) y z, ys[i]? = some y -> es[i]? = some z -> y.1 = z.f /\ y.2.1 = z.t /\ Ap W w.heap.size y.2.2.1 3 1 (iv z.put) /\ z.put.length <= 1048576) /\ Ext w W) ?_ ?_
 ·refine Ar (λ x W => ∃ (i : Nat) (ys : List (Cells.T c65)), i <= es.length /\ x.2 = ((i : Int), ()) /\ Ap W w.heap.size x.1 65 3 (flat c65 ys) /\ ys.length = i /\ (∀ (j : Nat) y z, ys[j]? = some y -> es[j]? = some z -> y.1 = z.f /\ y.2.1 = z.t /\ Ap W w.heap.size y.2.2.1 3 1 (iv z.put) /\ z.put.length <= 1048576) /\ Ext w W) (λ x _ => ((es.length : Int) - x.2.1).toNat) ⟨0, [], Nat.zero_le _, rfl, Ap.nil _ _ _ _, rfl, λ j y z hy => by simp at hy, Ext.refl w⟩ ?_
  rintro ⟨r, _⟩ W ⟨i, ys, hi, rfl, hr, hl, hys, eW⟩
  dsimp only at hr ⊢
  have hrl : ys.length = r.len := Ap.Jt (cs := c65) hr (by decide)
  refine Ac (λ hc => ?_) (λ hc => ?_)
  ·simp only [decide_eq_true_eq] at hc
   obtain ⟨y, hy⟩ : ∃ y, ys0[i]? = some y := ⟨_, List.getElem?_eq_getElem (by omega)⟩
   obtain ⟨z, hz⟩ : ∃ z, es[i]? = some z := ⟨_, List.getElem?_eq_getElem (by omega)⟩
   obtain ⟨y1, y2, y3, y4⟩ := hy0 i y z hy hz
   have ew : W64 ((i : Int) + 1) = ((i + 1 : Nat) : Int) := by rw [wrap64 (by omega) (by omega)]; omega
   rw [ew]
   refine Di λ w2 e2 _ => ?_
   have x2 := eW.trans e2
   have hyn : ys0[((i : Int)).toNat]? = some y := by rw [Int.toNat_natCast]; exact hy
   have hs2 := hs.ext x2
   refine Bx0 (c := .int .i64) (cs := c65) (xs := ys0) (y := y.1) hs2 (Int.natCast_nonneg i) hyn rfl λ q1 k1 => ?_
   refine Yg (c := .int .i64) (cs := c65) (xs := ys0) (j := 1) (y := y.2.1) hs2 (Int.natCast_nonneg i) hyn rfl λ q2 k2 => ?_
   refine Yg (c := .sl) (cs := c65) (xs := ys0) (j := 2) (y := y.2.2.1) hs2 (Int.natCast_nonneg i) hyn rfl λ q3 k3 => ?_
   have hpl : z.put.length = y.2.2.1.len := by have := y3.len1; rwa [List.length_map] at this
   refine Ej Xa Xa.ts_ (B := w.heap.size) (s := ⟨none, 0, 0⟩) (x := y.2.2.1) (vs := []) (us := iv z.put) (Ap.nil w2 w.heap.size 3 1) (y3.ext x2) (λ v hv => by obtain ⟨n, _, rfl⟩ := List.mem_map.1 hv; rfl) (by
    show (0 + y.2.2.1.len + (0 + y.2.2.1.len) / 4 + 512) * 8 <= 2 ^ 48
    omega) (by have := x2.size; omega) λ s3 w3 o3 l3 u3 b3 => ?_
   have e3 : Ext w2 w3 := (Ext.refl w2).step u3 λ k hk => by obtain ⟨_, hp, _⟩ := hk; cases hp
   have x3 := x2.trans e3
   rw [List.nil_append] at o3
   refine Au (k2 w3 e3) (Au (k1 w3 e3) (Cm λ b12 w4 e4 n4 hb4 _ => ?_))
   have x4 := x3.trans e4
   have hbox : SlX w4 ⟨some (at0 b12), 1, 1⟩ 3 (flat c65 [(y.1, y.2.1, s3, ())]) := (Bh.Iw n4 (n := 1) (sz := 3) rfl).x
   refine Ej By5 By5.ts_ (x := ⟨some (at0 b12), 1, 1⟩) (hr.ext ((e2.trans e3).trans e4)) hbox (λ v hv => by
    have hv : v ∈ [Value.int .i64 y.1, .int .i64 y.2.1, .slice s3.a s3.len s3.cap] := hv
    simp only [List.mem_cons, List.not_mem_nil, or_false] at hv
    rcases hv with rfl | rfl | rfl <;> rfl) (by
    show (r.len + 1 + (r.len + 1) / 4 + 512) * 40 <= 2 ^ 48
    omega) (by have := x4.size; omega) λ r' w5 o5 l5 u5 b5 => ?_
   have x5 : Ext w w5 := x4.step u5 λ k hk => hr.Ew hk
   have ef : flat c65 ys ++ flat c65 [(y.1, y.2.1, s3, ())] = flat c65 (ys ++ [(y.1, y.2.1, s3, ())]) := by simp [flat]
   rw [ef] at o5
   have ne : ∀ {sl : Sl} {v : List Int} {V : World}, Ap V w.heap.size sl 3 1 (iv v) -> Ext V w4 -> Ap w5 w.heap.size sl 3 1 (iv v) := λ ho e => (ho.ext e).ty (t := 3) u5 (λ k hk c fr hn => by
    obtain ⟨c', fr', hc'⟩ := (hr.ext ((e2.trans e3).trans e4)).in.Ep hk
    rw [hn] at hc'
    cases hc')
   refine ⟨⟨i + 1, ys ++ [(y.1, y.2.1, s3, ())], by omega, rfl, o5, by simp [hl], λ j y' z' hy' hz' => ?_, x5⟩, by (try dsimp only); omega⟩
   by_cases hj : j < ys.length
   ·rw [List.getElem?_append_left hj] at hy'
    obtain ⟨g1, g2, g3, g4⟩ := hys j y' z' hy' hz'
    exact ⟨g1, g2, ne g3 ((e2.trans e3).trans e4), g4⟩
   ·have hje : j = i := by
     have := (List.getElem?_eq_some_iff.1 hy').1
     simp at this; omega
    subst hje
    rw [← hl, List.getElem?_concat_length] at hy'
    cases hy'
    rw [hz] at hz'; cases hz'
    exact ⟨y1, y2, ne o3 e4, y4⟩
  ·simp only [decide_eq_false_iff_not] at hc
   obtain rfl : i = es.length := by omega
   exact ⟨ys, hr, hl, hys, eW⟩
 rintro ⟨r, _⟩ W ⟨ys, hr, hl, hys, eW⟩
 refine hK r ys W ⟨hr.in, hl, λ i y z hy hz => ?_⟩ (λ k hk => hr.Ew hk) (λ i y hy k hk => ?_) eW
 ·obtain ⟨g1, g2, g3, g4⟩ := hys i y z hy hz
  exact ⟨g1, g2, ⟨_, g3.in⟩, by omega⟩
 ·obtain ⟨z, hz⟩ : ∃ z, es[i]? = some z := ⟨_, List.getElem?_eq_getElem (by have := (List.getElem?_eq_some_iff.1 hy).1; omega)⟩
  exact (hys i y z hy hz).2.2.1.Ew hk
abbrev lkO (y : Cells.T c26) : Obj := .cells #[.int .i64 y.1, .slice y.2.1.a y.2.1.len y.2.1.cap, .slice y.2.2.1.a y.2.2.1.len y.2.2.1.cap, .slice y.2.2.2.1.a y.2.2.2.1.len y.2.2.2.1.cap] 26 (0, 0)
theorem EdX.ext {s : Sl} {es : List LEd} (h : EdX w s es) (e : Ext w w') : EdX w' s es := by
 obtain ⟨ys, h1, h2, h3⟩ := h.ex
 exact ⟨⟨ys, h1.ext e, h2, λ i y x hy hx => by obtain ⟨a, b, c, d⟩ := h3 i y x hy hx; exact ⟨a, b, c.ext e, d⟩⟩, h.few⟩
theorem Ba5 {e : Enc} {lim : Nat} {A : As} {es : List LEd} (h : Ij e lim A es = 0) : Ce e es <= lim := by
 unfold Ij at h
 split at h
 ·cases h
 split at h
 ·cases h
 rename_i hr
 split at h
 ·cases h
 split at h
 ·cases h
 have gl := Yi (A := A) (es := es) (a := 0) (Int.le_refl _) (by simpa using hr)
 omega
theorem Cg9 {c : Int} (h : 1 <= c /\ c <= 4) : ∃ e : Enc, e.num = c := by
 rcases (by omega : c = 1 \/ c = 2 \/ c = 3 \/ c = 4) with rfl | rfl | rfl | rfl
 ·exact ⟨.u8, rfl⟩
 ·exact ⟨.le, rfl⟩
 ·exact ⟨.be, rfl⟩
 ·exact ⟨.l1, rfl⟩
end
end Go.Proofs.YtolhlldgnfbemaaGreatDoor
namespace Go.Proofs.YtolhlldgnfbemaaGreatDoor
open Go Go.Vx Cdc Trx
namespace Cdc
def Uc (B : List Int) : Nat -> List LEd -> List Int
 | a, [] => B.drop a
 | a, x :: r => (B.drop a).take (x.f.toNat - a) ++ x.put ++ Uc B x.t.toNat r
theorem apply_seq {e : Enc} {A : As} : ∀ {es : List LEd} {a : Int}, 0 <= a -> a <= A.length -> Hq A.length a es = true -> atoms (Df e A es) = (atoms A).take a.toNat ++ Uc (atoms A) a.toNat es
 | [], a, _, _, _ => by
  show atoms A = _
  rw [Uc, List.take_append_drop]
 | x :: r, a, h0, ha, hr => by
  rw [Hq, Bool.and_eq_true, decide_eq_true_eq] at hr
  obtain ⟨⟨h1, h2, h3⟩, h4⟩ := hr
  have ih := apply_seq (e := e) (es := r) (a := x.t) (by omega) h3 h4
  have hl : (atoms A).length = A.length := List.length_map ..
  have hp : atoms (prs e x.put) = x.put := by unfold prs atoms; rw [List.map_map]; exact List.map_id x.put
  rw [Df]
  show List.map _ _ = _
  rw [List.map_append, List.map_append, List.map_take, List.map_drop]
  show (atoms (Df e A r)).take _ ++ atoms (prs e x.put) ++ (atoms (Df e A r)).drop _ = _
  rw [ih, hp, Uc, List.take_append_of_le_length (by rw [List.length_take]; omega), List.drop_append_of_le_length (by rw [List.length_take]; omega), List.take_take, Nat.min_eq_left (by omega), List.drop_eq_nil_of_le (by rw [List.length_take]; omega), List.nil_append]
  have e1 : (atoms A).take x.f.toNat = (atoms A).take a.toNat ++ ((atoms A).drop a.toNat).take (x.f.toNat - a.toNat) := by
   conv => lhs; rw [show x.f.toNat = a.toNat + (x.f.toNat - a.toNat) by omega]
   rw [List.take_add]
  rw [e1]; simp [List.append_assoc]
theorem Cm1 {B : List Int} {i : Nat} {es : List LEd} {v : Int} (hv : B[i]? = some v) (hf : ∀ x, es.head? = some x -> (i : Int) < x.f) : Uc B i es = v :: Uc B (i + 1) es := by
 have hlt := (List.getElem?_eq_some_iff.1 hv).1
 have hd : B.drop i = v :: B.drop (i + 1) := by rw [List.drop_eq_getElem_cons hlt, (List.getElem?_eq_some_iff.1 hv).2]
 cases es with
 | nil => exact hd
 | cons x r =>
  have := hf x rfl
  obtain ⟨m, hm⟩ : ∃ m, x.f.toNat - i = m + 1 := ⟨x.f.toNat - i - 1, by omega⟩
  rw [Uc, Uc, hd, hm, List.take_succ_cons, show x.f.toNat - (i + 1) = m by omega]; rfl
theorem Ai6 {e : Enc} {A : As} (h : ∀ a ∈ atoms A, sz e a ≠ 0) : ∀ {es : List LEd}, Hw e es = true -> ∀ a ∈ atoms (Df e A es), sz e a ≠ 0
 | [], _ => h
 | x :: r, hf => by
  unfold Hw at hf
  rw [List.all_cons, Bool.and_eq_true] at hf
  have ih := Ai6 h (es := r) hf.2
  intro a ha
  rw [Df] at ha
  obtain ⟨y, hy, rfl⟩ := List.mem_map.1 ha
  rw [List.mem_append, List.mem_append] at hy
  rcases hy with (hy | hy) | hy
  ·exact ih _ (List.mem_map.2 ⟨y, List.mem_of_mem_take hy, rfl⟩)
  ·obtain ⟨b, hb, rfl⟩ := List.mem_map.1 hy
   have := List.all_eq_true.1 hf.1 b hb
   rw [bne_iff_ne] at this
   exact this
  ·exact ih _ (List.mem_map.2 ⟨y, List.mem_of_mem_drop hy, rfl⟩)
theorem Cg5 {e : Enc} {B : List Int} (h : ∀ a ∈ B, sz e a ≠ 0) : B.length <= szs (prs e B) := by
 have := Ro (l := prs e B) λ y hy => by
  obtain ⟨a, ha, rfl⟩ := List.mem_map.1 hy
  have := h a ha
  show 1 <= sz e a
  omega
 unfold prs at this
 rwa [List.length_map] at this
def Nj (e : Enc) (n : Nat) (es : List LEd) : Int := if 70000 < es.length then 3 else if Hq n 0 es = false then 2 else if Hw e es = false then 11 else 0
theorem Ak6 {e : Enc} {lim : Nat} {A : As} {es : List LEd} : Ij e lim A es = if Nj e A.length es ≠ 0 then Nj e A.length es else if lim + Ig A es < szs A + Ce e es then 50 else 0 := by
 unfold Ij Nj
 by_cases h1 : 70000 < es.length
 ·rw [if_pos h1, if_pos h1, if_pos (by decide)]
 ·rw [if_neg h1, if_neg h1]
  by_cases h2 : Hq A.length 0 es = false
  ·rw [if_pos h2, if_pos h2, if_pos (by decide)]
  ·rw [if_neg h2, if_neg h2]
   by_cases h3 : Hw e es = false
   ·rw [if_pos h3, if_pos h3, if_pos (by decide)]
   ·rw [if_neg h3, if_neg h3, if_neg (show ¬ (0 : Int) ≠ 0 from λ hh => hh rfl)]
end Cdc
section
variable {w w' : World} {r : Nat} {e : Enc} {B : List Int} {F : Nat -> Prop} {s : Sl} {es : List LEd}
structure EdR (w : World) (s : Sl) (ys : List (Cells.T c65)) (es : List LEd) : Prop where
 row : SlX w s 3 (flat c65 ys)
 len : ys.length = es.length
 slen : ys.length = s.len
 each : ∀ (i : Nat) y x, ys[i]? = some y -> es[i]? = some x -> y.1 = x.f /\ y.2.1 = x.t /\ SlX w y.2.2.1 1 (iv x.put) /\ x.put.length <= 1048576
 few : es.length <= 1048576
theorem EdX.toR (h : EdX w s es) : ∃ ys, EdR w s ys es := by
 obtain ⟨ys, h1, h2, h3⟩ := h.ex
 exact ⟨ys, h1, h2, SlX.Jt (cs := c65) h1 (by decide), h3, h.few⟩
theorem EdR.ext {ys : List (Cells.T c65)} (h : EdR w s ys es) (x : Ext w w') : EdR w' s ys es := ⟨h.row.ext x, h.len, h.slen, λ i y z hy hz => by obtain ⟨a, b, c, d⟩ := h.each i y z hy hz; exact ⟨a, b, c.ext x, d⟩, h.few⟩
theorem EdR.get {ys : List (Cells.T c65)} (h : EdR w s ys es) {i : Nat} (hi : i < es.length) : ∃ y x, ys[((i : Int)).toNat]? = some y /\ es[i]? = some x /\ y.1 = x.f /\ y.2.1 = x.t /\ SlX w y.2.2.1 1 (iv x.put) /\ x.put.length <= 1048576 /\ y.2.2.1.len = x.put.length := by
 have := h.len
 obtain ⟨y, hy⟩ : ∃ y, ys[i]? = some y := ⟨_, List.getElem?_eq_getElem (by omega)⟩
 obtain ⟨x, hx⟩ : ∃ x, es[i]? = some x := ⟨_, List.getElem?_eq_getElem hi⟩
 obtain ⟨a, b, c, d⟩ := h.each i y x hy hx
 have hl := c.len1
 rw [List.length_map] at hl
 exact ⟨y, x, by rw [Int.toNat_natCast]; exact hy, hx, a, b, c, d, hl.symm⟩
theorem wn (n : Nat) (h : n <= 2 ^ 40) : W64 ((n : Int) + 1) = ((n + 1 : Nat) : Int) := by rw [wrap64 (by omega) (by omega)]; omega
theorem Qp {n : Nat} {a : Int} {es : List LEd} {i : Nat} {x : LEd} (hx : es[i]? = some x) : Hq n a (es.drop i) = (decide (a <= x.f /\ x.f <= x.t /\ x.t <= n) && Hq n x.t (es.drop (i + 1))) := by
 have hlt := (List.getElem?_eq_some_iff.1 hx).1
 rw [List.drop_eq_getElem_cons hlt, (List.getElem?_eq_some_iff.1 hx).2, Hq]
set_option maxHeartbeats 1000000 in
theorem Ad4 {ys : List (Cells.T c65)} (h : Oo w r e B F) (hE : EdR w s ys es) {K : Int -> Wp} (hK : ∀ w', Ext w w' -> K (Nj e B.length es) w') :
  Aa Tryz.prog 28 #[.pointer (some (at0 r)), s.v] rI K w := by
 refine A28 ?_
 unfold F28
 have hel := hE.len; have hsl := hE.slen; have few := hE.few
 refine Ac (λ hc => ?_) (λ hc => ?_)
 ·simp only [decide_eq_true_eq, gt_iff_lt] at hc
  have := hK w (Ext.refl w)
  unfold Nj at this
  rw [if_pos (by omega)] at this; exact this
 simp only [decide_eq_false_iff_not, gt_iff_lt] at hc
 have hK : ∀ w', Ext w w' -> K (if Hq B.length 0 es = false then 2 else if Hw e es = false then 11 else 0) w' := λ w' x => by
  have := hK w' x
  unfold Nj at this
  rwa [if_neg (by omega)] at this
 refine Ad (λ _ W => Ext w W /\ Hq B.length 0 es = true) ?_ ?_
 ·refine Ar (λ x W => ∃ (a : Int) (i : Nat), x = (a, (i : Int), ()) /\ i <= es.length /\ Ext w W /\ Hq B.length 0 es = Hq B.length a (es.drop i)) (λ x _ => ((es.length : Int) - x.2.1).toNat) ⟨0, 0, rfl, Nat.zero_le _, Ext.refl _, rfl⟩ ?_
  rintro _ W ⟨a, i, rfl, hi, eW, hr⟩
  dsimp only
  refine Ac (λ hc2 => ?_) (λ hc2 => ?_)
  ·simp only [decide_eq_true_eq] at hc2
   obtain ⟨y, x, g1, g2, g3, g4, _, _, _⟩ := (hE.ext eW).get (i := i) (by omega)
   have g3 : @Eq Int y.1 x.f := g3
   have g4 : @Eq Int y.2.1 x.t := g4
   rw [Qp g2] at hr
   refine Bi9 (cs := c65) (xs := ys) (hE.ext eW).row (by decide) (Int.natCast_nonneg i) g1 λ p5 => ?_
   refine (St.start W).Ku rfl rfl rfl λ b7 w2 S2 e2 => ?_
   have S2 : St (λ _ => False) W w2 [(b7, .cells #[.int .i64 y.1, .int .i64 y.2.1, .slice y.2.2.1.a y.2.2.1.len y.2.2.1.cap] 65 (0, 0))] := S2
   refine Ad (λ z V => z = (decide (¬ (a <= x.f /\ x.f <= x.t /\ x.t <= B.length)), ()) /\ St (λ _ => False) W V [(b7, .cells #[.int .i64 y.1, .int .i64 y.2.1, .slice y.2.2.1.a y.2.2.1.len y.2.2.1.cap] 65 (0, 0))]) ?_ ?_
   ·refine S2.drew λ w3 S3 e3 _ => S3.ld (off := 0) 0 rfl (x := y.1) rfl (Ac (λ h1 => ⟨Az ?_, S3⟩) (λ h1 => S3.ld (off := 1) 0 rfl (x := y.2.1) rfl (S3.ld (off := 0) 0 rfl (x := y.1) rfl (Ac (λ h2 => ⟨Az ?_, S3⟩) (λ h2 => S3.ld (off := 1) 0 rfl (x := y.2.1) rfl ((h.ext (eW.trans S3.upd)).Qm λ sa hsa => ⟨Az ?_, S3⟩))))))
    ·simp only [decide_eq_true_eq, true_iff] at h1 ⊢; omega
    ·simp only [decide_eq_true_eq, decide_eq_false_iff_not, true_iff] at h1 h2 ⊢; omega
    ·have hl := hsa.len1
     rw [List.length_map] at hl
     simp only [decide_eq_true_eq, decide_eq_false_iff_not, gt_iff_lt] at h1 h2 ⊢; omega
   rintro _ V ⟨rfl, SV⟩
   refine Ac (λ hb => ?_) (λ hb => ?_)
   ·have hb := of_decide_eq_true hb
    rw [decide_eq_false hb, Bool.false_and] at hr
    have := hK V (eW.trans SV.upd)
    rw [if_pos hr] at this; exact this
   ·have hb := Classical.byContradiction λ hn => (of_decide_eq_false hb) hn
    rw [decide_eq_true hb, Bool.true_and] at hr
    rw [wn i (by omega)]
    refine SV.ld (off := 1) 0 rfl (x := y.2.1) rfl ⟨⟨y.2.1, i + 1, rfl, by omega, eW.trans SV.upd, by rw [g4]; exact hr⟩, by omega⟩
  ·simp only [decide_eq_false_iff_not] at hc2
   obtain rfl : i = es.length := by omega
   rw [List.drop_length, Hq] at hr
   exact ⟨eW, hr⟩
 rintro _ w1 ⟨e1, hr⟩
 have hK : ∀ w', Ext w w' -> K (if Hw e es = false then 11 else 0) w' := λ w' x => by
  have := hK w' x
  rwa [if_neg (by rw [hr]; decide)] at this
 refine Ad (λ _ W => Ext w W /\ Hw e es = true) ?_ ?_
 ·refine Ar (λ x W => ∃ i : Nat, x = ((i : Int), ()) /\ i <= es.length /\ Ext w W /\ Hw e (es.take i) = true) (λ x _ => ((es.length : Int) - x.1).toNat) ⟨0, rfl, Nat.zero_le _, e1, rfl⟩ ?_
  rintro _ W ⟨i, rfl, hi, eW, hf⟩
  dsimp only
  refine Ac (λ hc2 => ?_) (λ hc2 => ?_)
  ·simp only [decide_eq_true_eq] at hc2
   obtain ⟨y, x, g1, g2, g3, g4, _, g6, g7⟩ := (hE.ext eW).get (i := i) (by omega)
   have ht : es.take (i + 1) = es.take i ++ [x] := by rw [List.take_add_one, g2]; rfl
   refine Ad (λ _ V => Ext w V /\ (x.put.all λ a => sz e a != 0) = true) ?_ ?_
   ·refine Ar (λ z V => ∃ j : Nat, z = ((j : Int), ()) /\ j <= x.put.length /\ Ext w V /\ ((x.put.take j).all λ a => sz e a != 0) = true) (λ z _ => ((x.put.length : Int) - z.1).toNat) ⟨0, rfl, Nat.zero_le _, eW, rfl⟩ ?_
    rintro _ V ⟨j, rfl, hj, eV, hp⟩
    dsimp only
    have hEV := hE.ext eV
    obtain ⟨y', x', k1, k2, _, _, k5, _, _⟩ := hEV.get (i := i) (by omega)
    rw [g1] at k1; cases k1
    rw [g2] at k2; cases k2
    refine Yg (c := .sl) (cs := c65) (xs := ys) (j := 2) (y := y.2.2.1) hEV.row (Int.natCast_nonneg i) g1 rfl λ p25 _ => ?_
    refine Ac (λ hc3 => ?_) (λ hc3 => ?_)
    ·simp only [decide_eq_true_eq] at hc3
     obtain ⟨v, hv⟩ : ∃ v, x.put[j]? = some v := ⟨_, List.getElem?_eq_getElem (by omega)⟩
     refine Di λ w2 e2 _ => (h.ext (eV.trans e2)).Ch0 ?_
     have hE2 := hEV.ext e2
     refine Yg (c := .sl) (cs := c65) (xs := ys) (j := 2) (y := y.2.2.1) hE2.row (Int.natCast_nonneg i) g1 rfl λ p29 _ => ?_
     refine Am4 (c := .int .i64) (xs := x.put) (k5.ext e2) (Int.natCast_nonneg j) (x := v) (by rw [Int.toNat_natCast]; exact hv) λ p31 => ?_
     refine X7 ?_
     refine Ac (λ hb => ?_) (λ hb => ?_)
     ·have hb : (sz e v != 0) = false := by simpa using hb
      have hall : Hw e es = false := by
       unfold Hw
       rw [List.all_eq_false]
       refine ⟨x, List.mem_of_getElem? g2, ?_⟩
       rw [Bool.not_eq_true, List.all_eq_false]
       exact ⟨v, List.mem_of_getElem? hv, by rw [hb]; decide⟩
      have := hK w2 (eV.trans e2)
      rw [if_pos hall] at this; exact this
     ·have hb : (sz e v != 0) = true := by simpa using hb
      rw [wn j (by omega)]
      refine ⟨⟨j + 1, rfl, by omega, eV.trans e2, ?_⟩, by omega⟩
      rw [List.take_add_one, hv, List.all_append, hp]
      simp only [Option.toList_some, List.all_cons, List.all_nil, hb, Bool.true_and]
    ·simp only [decide_eq_false_iff_not] at hc3
     obtain rfl : j = x.put.length := by omega
     rw [List.take_length] at hp
     exact ⟨eV, hp⟩
   rintro _ V ⟨eV, hp⟩
   rw [wn i (by omega)]
   refine ⟨⟨i + 1, rfl, by omega, eV, ?_⟩, by omega⟩
   rw [ht, Ah7, hf]
   show (true && ((x.put.all λ a => sz e a != 0) && true)) = true
   rw [hp]; rfl
  ·simp only [decide_eq_false_iff_not] at hc2
   obtain rfl : i = es.length := by omega
   rw [List.take_length] at hf
   exact ⟨eW, hf⟩
 rintro _ w2 ⟨e2, hf⟩
 have := hK w2 e2
 rw [if_neg (by rw [hf]; decide)] at this; exact this
theorem U6 {l : List Int} {j : Nat} {v : Int} (hv : l[j]? = some v) : szs (prs e (l.take (j + 1))) = szs (prs e (l.take j)) + sz e v := by
 rw [List.take_add_one, hv]
 show szs (List.map _ (_ ++ [v])) = _
 rw [List.map_append, Bj]
 show szs (prs e (l.take j)) + szs [(v, sz e v)] = _
 simp [szs]
theorem Ay8 (l : List Int) : szs (prs e l) <= 4 * l.length := by
 induction l with
 | nil => exact Nat.le_refl _
 | cons a m ih =>
  show Cdc.szs ((a, sz e a) :: prs e m) <= _
  rw [Ia, List.length_cons]
  have := Aq0 e a
  show sz e a + _ <= _
  omega
theorem Ar0 (h : Oo w r e B F) {K : Int -> Wp} (hK : ∀ w', Ext w w' -> K (szs (prs e B) : Int) w') :
  Aa Tryz.prog 30 #[.pointer (some (at0 r))] rI K w := by
 refine A30 ?_
 unfold F30
 have hB := h.len
 refine Ad (λ x W => x = ((szs (prs e B) : Int), ()) /\ Ext w W) ?_ (by rintro _ W ⟨rfl, x⟩; exact hK W x)
 refine Ar (λ x W => ∃ j : Nat, x = ((szs (prs e (B.take j)) : Int), (j : Int), ()) /\ j <= B.length /\ Ext w W) (λ x _ => ((B.length : Int) - x.2.1).toNat) ⟨0, rfl, Nat.zero_le _, Ext.refl _⟩ ?_
 rintro _ W ⟨j, rfl, hj, eW⟩
 dsimp only
 refine (h.ext eW).Qm λ sa hsa => ?_
 have hl := hsa.len1
 rw [List.length_map] at hl
 refine Ac (λ hc => ?_) (λ hc => ?_)
 ·simp only [decide_eq_true_eq] at hc
  obtain ⟨v, hv⟩ : ∃ v, B[j]? = some v := ⟨_, List.getElem?_eq_getElem (by omega)⟩
  refine Di λ w2 e2 _ => (h.ext (eW.trans e2)).Ch0 ((h.ext (eW.trans e2)).Qm λ sa2 hsa2 => ?_)
  refine Gl (c := .int .i64) (xs := B) hsa2 (Int.natCast_nonneg j) (x := v) (by rw [Int.toNat_natCast]; exact hv) λ p => X0 λ w3 e3 => ?_
  have h1 := U6 (e := e) hv
  have h2 := Ay8 (e := e) (B.take j)
  have h3 := Aq0 e v
  rw [List.length_take] at h2
  have ew : W64 ((szs (prs e (B.take j)) : Int) + (sz e v : Int)) = (szs (prs e (B.take (j + 1))) : Int) := by rw [wrap64 (by omega) (by omega)]; omega
  rw [ew, wn j (by omega)]
  exact ⟨⟨j + 1, rfl, by omega, (eW.trans e2).trans e3⟩, by omega⟩
 ·simp only [decide_eq_false_iff_not] at hc
  obtain rfl : j = B.length := by omega
  exact ⟨by rw [List.take_length], eW⟩
section
variable {w0 W : World} {N b bx : Nat} {sa st : Sl} {L T : List Int} {v : Int}
theorem Bu0 {R : World -> Prop} (S : St (λ _ => False) w0 W [(bx, .cells #[.int .i64 v] 3 (0, 0)), (b, r5O e sa st)]) (tw : Ko W N sa st L T) (hl : L.length < 2 ^ 40) (hN : N <= W.heap.size) (h0 : w0.heap.size <= N) (hb : b < N)
  (hK : ∀ sa' W', St (λ _ => False) w0 W' [(b, r5O e sa' st)] -> Ko W' N sa' st (L ++ [v]) T -> W.heap.size <= W'.heap.size -> R W') :
  Dz Tryz.prog (.one (.one .sl)) (Builtin.append_ #[43, 43] 43 #[.slice sa.a sa.len sa.cap, .slice (some (at0 bx)) 1 1]) (λ x => nn (some (at0 b)) λ p => stC (p.add 2) (.slice x.a x.len x.cap) R) W := by
 refine Bh2 tw (S.at_ 0 rfl) hl hN λ sa' w4 t4 g4 u4 => ?_
 have S4 : St (λ _ => False) w0 w4 [(b, r5O e sa st)] := S.tail.fresh u4 (λ k hk => .inr (by have := g4 k hk; omega)) (λ z hz hk => by
  rw [List.mem_singleton.1 hz] at hk
  have := g4 _ hk
  dsimp only at this; omega)
 refine Aj (S4.stC (off := 2) 0 rfl (by show 2 < 5; decide) λ w5 S5 u5 => ?_)
 exact hK sa' w5 S5 (t4.box (S4.at_ 0 rfl) (by decide) u5) (by have := u4.size; have := u5.size; omega)
theorem Bt9 {R : World -> Prop} (S : St (λ _ => False) w0 W [(bx, .cells #[.int .i64 v] 3 (0, 0)), (b, r5O e sa st)]) (tw : Ko W N sa st L T) (hl : T.length < 2 ^ 40) (hN : N <= W.heap.size) (h0 : w0.heap.size <= N) (hb : b < N)
  (hK : ∀ st' W', St (λ _ => False) w0 W' [(b, r5O e sa st')] -> Ko W' N sa st' L (T ++ [v]) -> W.heap.size <= W'.heap.size -> R W') :
  Dz Tryz.prog (.one (.one .sl)) (Builtin.append_ #[43, 43] 43 #[.slice st.a st.len st.cap, .slice (some (at0 bx)) 1 1]) (λ x => nn (some (at0 b)) λ p => stC (p.add 3) (.slice x.a x.len x.cap) R) W := by
 refine Bh2 tw.swap (S.at_ 0 rfl) hl hN λ st' w4 t4 g4 u4 => ?_
 have S4 : St (λ _ => False) w0 w4 [(b, r5O e sa st)] := S.tail.fresh u4 (λ k hk => .inr (by have := g4 k hk; omega)) (λ z hz hk => by
  rw [List.mem_singleton.1 hz] at hk
  have := g4 _ hk
  dsimp only at this; omega)
 refine Aj (S4.stC (off := 3) 0 rfl (by show 3 < 5; decide) λ w5 S5 u5 => ?_)
 exact hK st' w5 S5 (t4.swap.box (S4.at_ 0 rfl) (by decide) u5) (by have := u4.size; have := u5.size; omega)
end
set_option maxHeartbeats 4000000 in
theorem Xy {ys : List (Cells.T c65)} {A : As} (h : Oo w r e B F) (hA : A = prs e B) (hE : EdR w s ys es) (hs1 : szs A <= 65536) {K : Int -> Wp}
  (hno : Ij e 65536 A es ≠ 0 -> ∀ w', Ext w w' -> K (Ij e 65536 A es) w')
  (hyes : Ij e 65536 A es = 0 -> ∀ F' w', Oo w' r e (atoms (Df e A es)) F' -> Upd (λ k => k = r) w w' -> (∀ k, F' k -> F k \/ w.heap.size <= k) -> K 0 w') :
  Aa Tryz.prog 16 #[.pointer (some (at0 r)), s.v] rI K w := by
 refine A16 ?_
 unfold F16
 have hel := hE.len; have hsl := hE.slen; have few := hE.few
 have hBA : B = atoms A := by rw [hA]; unfold prs atoms; rw [List.map_map]; exact (List.map_id B).symm
 have hlen : A.length = B.length := by rw [hBA, List.length_map]
 have hB := h.len
 have h3 := Ak6 (e := e) (lim := 65536) (A := A) (es := es)
 rw [hlen] at h3
 refine Ad4 h hE λ w1 e1 => ?_
 refine Ac (λ hc => ?_) (λ hc => ?_)
 ·have hc : Nj e B.length es ≠ 0 := by simpa using hc
  rw [if_pos hc] at h3
  rw [h3] at hno
  exact hno hc w1 e1
 have hc : Nj e B.length es = 0 := by simpa using hc
 rw [if_neg (by omega)] at h3
 have hrf : es.length <= 70000 /\ Hq B.length 0 es = true /\ Hw e es = true := by
  unfold Nj at hc
  split at hc
  ·cases hc
  split at hc
  ·cases hc
  split at hc
  ·cases hc
  exact ⟨by omega, by simpa using ‹¬ Hq B.length 0 es = false›, by simpa using ‹¬ Hw e es = false›⟩
 obtain ⟨hfew, hrng, hfit⟩ := hrf
 have hrngA : Hq A.length 0 es = true := by rw [hlen]; exact hrng
 have hgone := Yi (A := A) (es := es) (a := 0) (Int.le_refl _) hrngA
 refine Ad (λ _ W => Ext w W /\ Ce e es <= 65536) ?_ ?_
 ·refine Ar (λ x W => ∃ i : Nat, x = ((Ce e (es.take i) : Int), (i : Int), ()) /\ i <= es.length /\ Ext w W /\ Ce e (es.take i) <= 65536) (λ x _ => ((es.length : Int) - x.2.1).toNat) ⟨0, rfl, Nat.zero_le _, e1, Nat.zero_le _⟩ ?_
  rintro _ W ⟨i, rfl, hi, eW, hsz⟩
  dsimp only
  refine Ac (λ hc2 => ?_) (λ hc2 => ?_)
  ·simp only [decide_eq_true_eq] at hc2
   obtain ⟨y, x, g1, g2, _, _, _, g6, g7⟩ := (hE.ext eW).get (i := i) (by omega)
   have ht : es.take (i + 1) = es.take i ++ [x] := by rw [List.take_add_one, g2]; rfl
   have hps : Ce e (es.take (i + 1)) = Ce e (es.take i) + szs (prs e x.put) := by rw [ht, Qq]; rfl
   have hall : Ce e es = Ce e (es.take (i + 1)) + Ce e (es.drop (i + 1)) := by
    conv => lhs; rw [← List.take_append_drop (i + 1) es]
    rw [Qq]
   refine Ad (λ z V => z = ((Ce e (es.take (i + 1)) : Int), ()) /\ Ext w V /\ Ce e (es.take (i + 1)) <= 65536) ?_ ?_
   ·refine Ar (λ z V => ∃ j : Nat, z = (((Ce e (es.take i) + szs (prs e (x.put.take j)) : Nat) : Int), (j : Int), ()) /\ j <= x.put.length /\ Ext w V /\ Ce e (es.take i) + szs (prs e (x.put.take j)) <= 65536) (λ z _ => ((x.put.length : Int) - z.2.1).toNat) ⟨0, rfl, Nat.zero_le _, eW, hsz⟩ ?_
    rintro _ V ⟨j, rfl, hj, eV, hp⟩
    dsimp only
    have hEV := hE.ext eV
    obtain ⟨y', x', k1, k2, _, _, k5, _, _⟩ := hEV.get (i := i) (by omega)
    rw [g1] at k1; cases k1
    rw [g2] at k2; cases k2
    refine Yg (c := .sl) (cs := c65) (xs := ys) (j := 2) (y := y.2.2.1) hEV.row (Int.natCast_nonneg i) g1 rfl λ p25 _ => ?_
    refine Ac (λ hc3 => ?_) (λ hc3 => ?_)
    ·simp only [decide_eq_true_eq] at hc3
     obtain ⟨v, hv⟩ : ∃ v, x.put[j]? = some v := ⟨_, List.getElem?_eq_getElem (by omega)⟩
     refine Di λ w2 e2 _ => (h.ext (eV.trans e2)).Ch0 ?_
     have hE2 := hEV.ext e2
     refine Yg (c := .sl) (cs := c65) (xs := ys) (j := 2) (y := y.2.2.1) hE2.row (Int.natCast_nonneg i) g1 rfl λ p29 _ => ?_
     refine Am4 (c := .int .i64) (xs := x.put) (k5.ext e2) (Int.natCast_nonneg j) (x := v) (by rw [Int.toNat_natCast]; exact hv) λ p31 => ?_
     refine X0 λ w3 e3 => (h.ext ((eV.trans e2).trans e3)).Cn7 λ _ => ?_
     have h1 := U6 (e := e) hv
     have h3' := Aq0 e v
     have ew : W64 (((Ce e (es.take i) + szs (prs e (x.put.take j)) : Nat) : Int) + (sz e v : Int)) = ((Ce e (es.take i) + szs (prs e (x.put.take (j + 1))) : Nat) : Int) := by rw [wrap64 (by omega) (by omega)]; omega
     rw [ew]
     refine Ac (λ hb => ?_) (λ hb => ?_)
     ·simp only [decide_eq_true_eq, gt_iff_lt] at hb
      have hle : szs (prs e (x.put.take (j + 1))) <= szs (prs e x.put) := by
       have : prs e (x.put.take (j + 1)) = (prs e x.put).take (j + 1) := by unfold prs; rw [List.map_take]
       rw [this]; exact Rq _ _
      have h0 := Rq A (0 : Int).toNat
      rw [if_pos (by omega)] at h3
      have := hno (by rw [h3]; decide) w3 ((eV.trans e2).trans e3)
      rw [h3] at this; exact this
     ·simp only [decide_eq_false_iff_not, gt_iff_lt] at hb
      rw [wn j (by omega)]
      exact ⟨⟨j + 1, rfl, by omega, (eV.trans e2).trans e3, by omega⟩, by omega⟩
    ·simp only [decide_eq_false_iff_not] at hc3
     obtain rfl : j = x.put.length := by omega
     rw [List.take_length] at hp ⊢
     rw [← hps] at hp ⊢
     exact ⟨rfl, eV, hp⟩
   rintro _ V ⟨rfl, eV, hp⟩
   rw [wn i (by omega)]
   exact ⟨⟨i + 1, rfl, by omega, eV, hp⟩, by omega⟩
  ·simp only [decide_eq_false_iff_not] at hc2
   obtain rfl : i = es.length := by omega
   rw [List.take_length] at hsz
   exact ⟨eW, hsz⟩
 rintro _ w2 ⟨e2, hput⟩
 refine Di λ w3 e3 _ => ?_
 have x3 := e2.trans e3
 have h3' := h.ext x3
 refine h3'.Ch0 (h3'.Cn7 λ _ => ?_)
 refine (St.start w3).Y8 λ b25 w4 S4 e4 hb25 => ?_
 have S4 : St (λ _ => False) w3 w4 [(b25, r5O e ⟨none, 0, 0⟩ ⟨none, 0, 0⟩)] := S4
 have hb4 : b25 < w4.heap.size := lt_of_heap (S4.at_ 0 rfl)
 have h34 : w3.heap.size <= w4.heap.size := e4.size
 obtain ⟨tgt, htg⟩ : ∃ tgt, Uc B 0 es = tgt := ⟨_, rfl⟩
 have happ : atoms (Df e A es) = tgt := by
  have := apply_seq (e := e) (A := A) (es := es) (a := 0) (Int.le_refl _) (by omega) hrngA
  rw [this, ← hBA, ← htg]; rfl
 have hap := Vt (e := e) (A := A) (es := es) (a := 0) (Int.le_refl _) (by omega) hrngA
 have hszt : szs (prs e tgt) = szs (Df e A es) := by
  have hok := Ac7 (e := e) (A := A) (by rw [hA]; exact Ba8 e B) es
  rw [hok.prs, happ]
 have hfitt : ∀ a ∈ tgt, sz e a ≠ 0 := by
  rw [← happ]
  exact Ai6 (A := A) (by rw [← hBA]; exact h.fit) hfit
 have hnum : tgt.length <= 200000 := by
  have := Cg5 hfitt
  omega
 refine Ad (λ _ W => ∃ sa st T, St (λ _ => False) w3 W [(b25, r5O e sa st)] /\ Ko W w4.heap.size sa st tgt T /\ T.length = tgt.length) ?_ ?_
 ·refine Ar (λ x W => ∃ (k i : Nat) (g : Int) (sa st : Sl) (L T : List Int), x = ((k : Int), g, (i : Int), ()) /\ i <= B.length + 1 /\ k <= es.length /\ 0 <= g /\ g <= B.length /\ St (λ _ => False) w3 W [(b25, r5O e sa st)] /\ Ko W w4.heap.size sa st L T /\ T.length = L.length /\ L ++ Uc B (max i g.toNat) (es.drop k) = tgt /\ Hq B.length g (es.drop k) = true /\ (∀ x, es[k]? = some x -> (i : Int) <= x.f) /\ w4.heap.size <= W.heap.size) (λ x _ => ((B.length : Int) + 1 - x.2.2.1).toNat)
   ⟨0, 0, 0, ⟨none, 0, 0⟩, ⟨none, 0, 0⟩, [], [], rfl, Nat.zero_le _, Nat.zero_le _, Int.le_refl _, by omega, S4, Ko.nil _ _, rfl, by rw [← htg]; rfl, hrng, λ x hx => by
    obtain ⟨g1, _⟩ := Xx (i := 0) hrng hx
    simpa using g1, Nat.le_refl _⟩ ?_
  rintro _ W ⟨k, i, g, sa, st, L, T, rfl, hi, hk, hg0, hg1, SW, tw, hT, hL, hr, hf, hWs⟩
  dsimp only
  have xW : Ext w W := x3.trans SW.upd
  refine (h.ext xW).Qm λ s0 hs0 => ?_
  have hl0 := hs0.len1
  rw [List.length_map] at hl0
  refine Ac (λ hc2 => ?_) (λ hc2 => ?_)
  ·simp only [decide_eq_true_eq] at hc2
   have hin : i <= B.length := by omega
   refine Ad (λ z V => ∃ (k' : Nat) (g' : Int) (sa' st' : Sl) (L' T' : List Int), z = ((k' : Int), g', ()) /\ k' <= es.length /\ 0 <= g' /\ g' <= B.length /\ St (λ _ => False) w3 V [(b25, r5O e sa' st')] /\ Ko V w4.heap.size sa' st' L' T' /\ T'.length = L'.length /\ L' ++ Uc B (max (i + 1) g'.toNat) (es.drop k') = tgt /\ Hq B.length g' (es.drop k') = true /\ (∀ x, es[k']? = some x -> (i : Int) < x.f) /\ w4.heap.size <= V.heap.size) ?_ ?_
   ·refine Ad (λ z V => ∃ (k' : Nat) (g' : Int) (sa' st' : Sl) (L' T' : List Int), z = ((k' : Int), g', ()) /\ k' <= es.length /\ 0 <= g' /\ g' <= B.length /\ St (λ _ => False) w3 V [(b25, r5O e sa' st')] /\ Ko V w4.heap.size sa' st' L' T' /\ T'.length = L'.length /\ L' ++ Uc B (max i g'.toNat) (es.drop k') = tgt /\ Hq B.length g' (es.drop k') = true /\ (∀ x, es[k']? = some x -> (i : Int) < x.f) /\ w4.heap.size <= V.heap.size) ?_ ?_
    ·refine Ar (λ z V => ∃ (k' : Nat) (g' : Int) (sa' st' : Sl) (L' T' : List Int), z = ((k' : Int), g', ()) /\ k' <= es.length /\ 0 <= g' /\ g' <= B.length /\ St (λ _ => False) w3 V [(b25, r5O e sa' st')] /\ Ko V w4.heap.size sa' st' L' T' /\ T'.length = L'.length /\ L' ++ Uc B (max i g'.toNat) (es.drop k') = tgt /\ Hq B.length g' (es.drop k') = true /\ (∀ x, es[k']? = some x -> (i : Int) <= x.f) /\ w4.heap.size <= V.heap.size) (λ z _ => ((es.length : Int) - z.1).toNat) ⟨k, g, sa, st, L, T, rfl, hk, hg0, hg1, SW, tw, hT, hL, hr, hf, hWs⟩ ?_
     rintro _ V ⟨k, g, sa, st, L, T, rfl, hk, hg0, hg1, SV, tw, hT, hL, hr, hf, hVs⟩
     dsimp only
     have xV : Ext w V := x3.trans SV.upd
     have hEV := hE.ext xV
     refine Ad (λ z U => z = (decide (∃ x, es[k]? = some x /\ x.f = (i : Int)), ()) /\ V = U) ?_ ?_
     ·refine Ac (λ hc3 => ?_) (λ hc3 => ⟨Az ?_, rfl⟩)
      ·simp only [decide_eq_true_eq] at hc3
       obtain ⟨y, x, g1, g2, g3, _, _, _, _⟩ := hEV.get (i := k) (by omega)
       refine Bx0 (c := .int .i64) (cs := c65) (xs := ys) (y := y.1) hEV.row (Int.natCast_nonneg k) g1 rfl λ p _ => ⟨Az ?_, rfl⟩
       rw [g3, beq_iff_eq, decide_eq_true_eq]
       exact ⟨λ hh => ⟨x, g2, hh⟩, λ ⟨x', h1, h2⟩ => by rw [g2] at h1; cases h1; exact h2⟩
      ·simp only [decide_eq_false_iff_not] at hc3
       simp only [Bool.false_eq_true, decide_eq_true_eq, false_iff]
       rintro ⟨x, hx, _⟩
       have := (List.getElem?_eq_some_iff.1 hx).1
       omega
     rintro _ _ ⟨rfl, rfl⟩
     refine Ac (λ hb => ?_) (λ hb => ?_)
     ·obtain ⟨x, hx, hxf⟩ := of_decide_eq_true hb
      have hkl := (List.getElem?_eq_some_iff.1 hx).1
      rw [Qp hx, Bool.and_eq_true, decide_eq_true_eq] at hr
      obtain ⟨⟨r1, r2, r3⟩, r4⟩ := hr
      have hd : es.drop k = x :: es.drop (k + 1) := by rw [List.drop_eq_getElem_cons hkl, (List.getElem?_eq_some_iff.1 hx).2]
      have hL2 : L ++ x.put ++ Uc B (max i x.t.toNat) (es.drop (k + 1)) = tgt := by
       rw [← hL, hd, Uc, show max i g.toNat = i by omega, show x.f.toNat - i = 0 by omega, List.take_zero, List.nil_append, show max i x.t.toNat = x.t.toNat by omega, List.append_assoc]
      obtain ⟨y, x', g1, g2, g3, g4, _, g6, g7⟩ := hEV.get (i := k) (by omega)
      rw [hx] at g2; cases g2
      have hLl : L.length + x.put.length <= 200000 := by
       have := congrArg List.length hL2
       rw [List.length_append, List.length_append] at this
       omega
      refine Ad (λ _ U => ∃ (sa' st' : Sl) (T' : List Int), St (λ _ => False) w3 U [(b25, r5O e sa' st')] /\ Ko U w4.heap.size sa' st' (L ++ x.put) T' /\ T'.length = (L ++ x.put).length /\ w4.heap.size <= U.heap.size) ?_ ?_
      ·refine Ar (λ z U => ∃ (j : Nat) (sa' st' : Sl) (T' : List Int), z = ((j : Int), ()) /\ j <= x.put.length /\ St (λ _ => False) w3 U [(b25, r5O e sa' st')] /\ Ko U w4.heap.size sa' st' (L ++ x.put.take j) T' /\ T'.length = (L ++ x.put.take j).length /\ w4.heap.size <= U.heap.size) (λ z _ => ((x.put.length : Int) - z.1).toNat) ⟨0, sa, st, T, rfl, Nat.zero_le _, SV, by rw [List.take_zero, List.append_nil]; exact tw, by rw [List.take_zero, List.append_nil]; exact hT, hVs⟩ ?_
       rintro _ U ⟨j, sa, st, T, rfl, hj, SU, tw, hT, hUs⟩
       dsimp only
       have xU : Ext w U := x3.trans SU.upd
       have hEU := hE.ext xU
       obtain ⟨y', x', k1, k2, _, _, k5, _, _⟩ := hEU.get (i := k) (by omega)
       rw [g1] at k1; cases k1
       rw [hx] at k2; cases k2
       refine Yg (c := .sl) (cs := c65) (xs := ys) (j := 2) (y := y.2.2.1) hEU.row (Int.natCast_nonneg k) g1 rfl λ p46 _ => ?_
       refine Ac (λ hc3 => ?_) (λ hc3 => ?_)
       ·simp only [decide_eq_true_eq] at hc3
        obtain ⟨v, hv⟩ : ∃ v, x.put[j]? = some v := ⟨_, List.getElem?_eq_getElem (by omega)⟩
        refine SU.drew λ w5 S5 e5 _ => Aj (S5.ld (off := 2) 0 rfl (x := sa) rfl ?_)
        refine Yg (c := .sl) (cs := c65) (xs := ys) (j := 2) (y := y.2.2.1) (hEU.ext e5).row (Int.natCast_nonneg k) g1 rfl λ p50 _ => ?_
        refine Am4 (c := .int .i64) (xs := x.put) (k5.ext e5) (Int.natCast_nonneg j) (x := v) (by rw [Int.toNat_natCast]; exact hv) λ p52 => ?_
        have hlt : (L ++ x.put.take j).length < 2 ^ 40 := by rw [List.length_append, List.length_take]; omega
        refine S5.Af λ b54 w6 S6 e6 => S6.keep (off := 2) 1 rfl (v := .slice sa.a sa.len sa.cap) rfl (Bu0 S6 ((tw.ext e5).ext e6) hlt (by have := e5.size; have := e6.size; omega) h34 hb4 λ sa' w7 S7 t7 z7 => ?_)
        refine Aj (S7.ld (off := 3) 0 rfl (x := st) rfl (S7.Af λ b59 w8 S8 e8 => Bt9 S8 (t7.ext e8) (by omega) (by have := e5.size; have := e6.size; have := e8.size; omega) h34 hb4 λ st' w9 S9 t9 z9 => ?_))
        rw [wn j (by omega)]
        have et : x.put.take (j + 1) = x.put.take j ++ [v] := by rw [List.take_add_one, hv]; rfl
        refine ⟨⟨j + 1, sa', st', T ++ [-1], rfl, by omega, S9, by rw [et, ← List.append_assoc]; exact t9, by rw [et, ← List.append_assoc, List.length_append, List.length_append, hT]; rfl, by have := e5.size; have := e6.size; have := e8.size; omega⟩, by omega⟩
       ·simp only [decide_eq_false_iff_not] at hc3
        obtain rfl : j = x.put.length := by omega
        rw [List.take_length] at tw hT
        exact ⟨sa, st, T, SU, tw, hT, hUs⟩
      rintro _ U ⟨sa', st', T', SU, tw', hT', hUs⟩
      have hEU := hE.ext (x3.trans SU.upd)
      refine Yg (c := .int .i64) (cs := c65) (xs := ys) (j := 1) (y := y.2.1) hEU.row (Int.natCast_nonneg k) g1 rfl λ p62 _ => ?_
      rw [wn k (by omega), g4]
      refine ⟨⟨k + 1, x.t, sa', st', L ++ x.put, T', rfl, by omega, by omega, r3, SU, tw', hT', hL2, r4, λ x2 hx2 => ?_, hUs⟩, by omega⟩
      have hr5 := r4
      rw [Qp hx2, Bool.and_eq_true, decide_eq_true_eq] at hr5
      omega
     ·have hb := of_decide_eq_false hb
      refine ⟨k, g, sa, st, L, T, rfl, hk, hg0, hg1, SV, tw, hT, hL, hr, λ x hx => ?_, hVs⟩
      have h1 := hf x hx
      have h2 : ¬ x.f = (i : Int) := λ hh => hb ⟨x, hx, hh⟩
      omega
    rintro _ V ⟨k, g, sa, st, L, T, rfl, hk, hg0, hg1, SV, tw, hT, hL, hr, hf, hVs⟩
    have xV : Ext w V := x3.trans SV.upd
    dsimp only
    refine Ad (λ z U => z = (decide (i < B.length /\ g <= (i : Int)), ()) /\ V = U) ((h.ext xV).Qm λ s1 hs1 => ?_) ?_
    ·have hl1 := hs1.len1
     rw [List.length_map] at hl1
     refine Ac (λ hc3 => ⟨Az ?_, rfl⟩) (λ hc3 => ⟨Az ?_, rfl⟩)
     ·simp only [decide_eq_true_eq, ge_iff_le] at hc3 ⊢; omega
     ·simp only [decide_eq_false_iff_not] at hc3
      simp only [Bool.false_eq_true, decide_eq_true_eq, false_iff]; omega
    rintro _ _ ⟨rfl, rfl⟩
    refine Ac (λ hb => ?_) (λ hb => ?_)
    ·obtain ⟨b1, b2⟩ := of_decide_eq_true hb
     obtain ⟨v, hv⟩ : ∃ v, B[i]? = some v := ⟨_, List.getElem?_eq_getElem b1⟩
     rw [show max i g.toNat = i by omega, Cm1 hv (λ x hx => hf x (by rw [List.head?_drop] at hx; exact hx))] at hL
     have hLl : L.length + 1 <= 200000 := by
      have := congrArg List.length hL
      rw [List.length_append, List.length_cons] at this
      omega
     refine SV.drew λ w5 S5 e5 _ => Aj (S5.ld (off := 2) 0 rfl (x := sa) rfl ((h.ext (xV.trans e5)).Qm λ s2 hs2 => ?_))
     refine Gl (c := .int .i64) (xs := B) hs2 (Int.natCast_nonneg i) (x := v) (by rw [Int.toNat_natCast]; exact hv) λ p72 => ?_
     refine S5.Af λ b74 w6 S6 e6 => S6.keep (off := 2) 1 rfl (v := .slice sa.a sa.len sa.cap) rfl (Bu0 S6 ((tw.ext e5).ext e6) (by omega) (by have := e5.size; have := e6.size; omega) h34 hb4 λ sa' w7 S7 t7 z7 => ?_)
     refine S7.drew λ w8 S8 e8 _ => Aj (S8.ld (off := 3) 0 rfl (x := st) rfl ((h.ext (x3.trans S8.upd)).Cq2 λ s3 T0 hs3 hT0 => ?_))
     obtain ⟨u, hu⟩ : ∃ u, T0[i]? = some u := ⟨_, List.getElem?_eq_getElem (by omega)⟩
     refine Gl (c := .int .i64) (xs := T0) hs3 (Int.natCast_nonneg i) (x := u) (by rw [Int.toNat_natCast]; exact hu) λ p81 => ?_
     refine S8.Af λ b83 w9 S9 e9 => S9.keep (off := 3) 1 rfl (v := .slice st.a st.len st.cap) rfl (Bt9 S9 ((t7.ext e8).ext e9) (by omega) (by have := e5.size; have := e6.size; have := e8.size; have := e9.size; omega) h34 hb4 λ st' w10 S10 t10 z10 => ?_)
     exact ⟨k, g, sa', st', L ++ [v], T ++ [u], rfl, hk, hg0, hg1, S10, t10, by rw [List.length_append, List.length_append, hT]; rfl, by rw [show max (i + 1) g.toNat = i + 1 by omega, List.append_assoc]; exact hL, hr, hf, by have := e5.size; have := e6.size; have := e8.size; have := e9.size; omega⟩
    ·have hb := of_decide_eq_false hb
     refine ⟨k, g, sa, st, L, T, rfl, hk, hg0, hg1, SV, tw, hT, ?_, hr, hf, hVs⟩
     by_cases hg : (i : Int) < g
     ·rw [show max (i + 1) g.toNat = max i g.toNat by omega]; exact hL
     ·have hn : i = B.length := by
       rcases Nat.lt_or_ge i B.length with u | u
       ·exact absurd ⟨u, by omega⟩ hb
       ·omega
      have hnil : es.drop k = [] := by
       cases hd : es[k]? with
       | none =>
        rw [List.getElem?_eq_none_iff] at hd
        exact List.drop_eq_nil_of_le hd
       | some x =>
        have h1 := hf x hd
        rw [Qp hd, Bool.and_eq_true, decide_eq_true_eq] at hr
        omega
      rw [hnil] at hL ⊢
      rw [show max i g.toNat = i by omega] at hL
      rw [show max (i + 1) g.toNat = i + 1 by omega]
      rw [Uc, List.drop_eq_nil_of_le (by omega)] at hL ⊢
      exact hL
   rintro _ V ⟨k, g, sa, st, L, T, rfl, hk, hg0, hg1, SV, tw, hT, hL, hr, hf, hVs⟩
   rw [wn i (by omega)]
   exact ⟨⟨k, i + 1, g, sa, st, L, T, rfl, by omega, hk, hg0, hg1, SV, tw, hT, hL, hr, λ x hx => by have := hf x hx; omega, hVs⟩, by omega⟩
  ·simp only [decide_eq_false_iff_not] at hc2
   have hi' : i = B.length + 1 := by omega
   have hnil : es.drop k = [] := by
    cases hd : es[k]? with
    | none =>
     rw [List.getElem?_eq_none_iff] at hd
     exact List.drop_eq_nil_of_le hd
    | some x =>
     have h1 := hf x hd
     rw [Qp hd, Bool.and_eq_true, decide_eq_true_eq] at hr
     omega
   rw [hnil, Uc, List.drop_eq_nil_of_le (by omega), List.append_nil] at hL
   subst hL
   exact ⟨sa, st, T, SW, tw, hT⟩
 rintro _ w5 ⟨sa, st, T, S5, tw, hT⟩
 have x5 : Ext w w5 := x3.trans S5.upd
 have hnew : Oo w5 b25 e tgt (λ k => w3.heap.size <= k /\ k < w5.heap.size) := ⟨⟨sa, st, T, S5.at_ 0 rfl, tw.one.in, tw.two.in, hT, λ k hk => ⟨by have := tw.one.Ew hk; omega, tw.one.in.Me hk⟩, λ k hk => ⟨by have := tw.two.Ew hk; omega, tw.two.in.Me hk⟩⟩, ⟨S5.ge 0 rfl, lt_of_heap (S5.at_ 0 rfl)⟩, hfitt, λ k hk => hk.2, by omega⟩
 refine Di λ w6 e6 _ => ?_
 have S6 := S5.ext e6
 refine (h.ext (x5.trans e6)).Cn7 λ kl => Ar0 (hnew.ext e6) λ w7 e7 => Au (kl w7 e7) ?_
 have S7 := S6.ext e7
 have x7 : Ext w w7 := (x5.trans e6).trans e7
 rw [hszt]
 refine Ac (λ hb => ?_) (λ hb => ?_)
 ·simp only [decide_eq_true_eq, gt_iff_lt] at hb
  rw [if_pos (by omega)] at h3
  have := hno (by rw [h3]; decide) w7 x7
  rw [h3] at this; exact this
 ·simp only [decide_eq_false_iff_not, gt_iff_lt] at hb
  rw [if_neg (by omega)] at h3
  obtain ⟨sa0, st0, T0, h1, _, _, _, _, _⟩ := (h.ext x7).ex
  have hrb : r < w.heap.size := h.own r h.root
  have hwr : w.heap.size <= w3.heap.size := x3.size
  have hbr : b25 ≠ r := by have := S7.ge 0 rfl; omega
  refine Aj (S7.ld (off := 2) 0 rfl (x := sa) rfl (Aj (Jq (off := 2) h1 (by show 2 < 5; decide) λ w8 u8 n8 _ => ?_)))
  have hb8 : w8.heap[b25]? = some (r5O e sa st) := u8.get (S7.at_ 0 rfl) λ hh => hbr hh
  refine Aj (Cc (off := 3) (x := st) hb8 rfl (Aj (Jq (off := 3) n8 (by show 3 < 5; decide) λ w9 u9 n9 _ => ?_)))
  rw [← happ] at tw hT
  have tw7 := (tw.ext e6).ext e7
  have tw9 := (tw7.box h1 (by decide) u8).box n8 (by decide) u9
  have hlen9 : (atoms (Df e A es)).length <= 1048576 := by rw [happ]; omega
  refine hyes h3 (λ k => k = r \/ (w3.heap.size <= k /\ k < w9.heap.size)) w9 ⟨⟨sa, st, T, n9, tw9.one.in, tw9.two.in, hT, λ k hk => .inr ⟨by have := tw9.one.Ew hk; omega, tw9.one.in.Me hk⟩, λ k hk => .inr ⟨by have := tw9.two.Ew hk; omega, tw9.two.in.Me hk⟩⟩, .inl rfl, by rw [happ]; exact hfitt, λ k hk => ?_, hlen9⟩ (((Upd.Et x7).trans u8).trans u9) (λ k hk => ?_)
  ·rcases hk with rfl | hk
   ·have := x7.size; have := u8.size; have := u9.size; omega
   ·exact hk.2
  ·rcases hk with rfl | hk
   ·exact .inl h.root
   ·exact .inr (by omega)
end
end Go.Proofs.YtolhlldgnfbemaaGreatDoor
namespace Go.Proofs.YtolhlldgnfbemaaGreatDoor
open Go Go.Vx
def F33 (a0 : Int) (K : Int -> Wp) : Wp := cB 76 #[(vI a0)] λ x1 => sif x1 ( K 0) ( cB 77 #[(vI a0)] λ x2 => sif x2 ( K 2) ( K 1))
def h33 : Hint := (hS (hR 1) (hS (hS (hR 2) (hC (hS (hR 1) hL) hL)) (hS (hS (hR 2) (hC (hS (hR 1) hL) hL)) (hS (hR 1) hL))))
theorem A33 {a0 : Int} {K : Int -> Wp} {w : World} (h : F33 a0 K w) : Aa Tryz.prog 33 #[(vI a0)] rI K w := tied Ai Tryz.func33 h33 _ h
def F125 (a0 : Int) (K : Int -> Wp) : Wp := cB 172 #[(vI a0)] λ x1 => sif (!x1) ( K 3) ( jB (λ J2 => sif (decide (a0 >= 44032)) ( J2 ((decide (a0 <= 55203)), ())) ( J2 (false, ()))) λ s3 => sif s3.1 ( chk ((28 : Int) ≠ 0) <| sif ((Int.tmod (W64 (a0 - 44032)) 28) == 0) ( K 12) ( K 13)) ( sif (decide (a0 < 3076)) ( cN 173 #[(vI a0)] λ x4 => K x4) ( sif (decide (a0 < 8505)) ( cN 174 #[(vI a0)] λ x5 => K x5) ( cN 175 #[(vI a0)] λ x6 => K x6))))
def Dd4 : Hint := (hS (hR 1) (hS (hS (hR 3) (hC (hS (hR 1) hL) hL)) (hS (hJ (4032, [(11, tB)]) (.region [] (.ops 3 (.split 8 (hO 3) (.skips 2 (hO 1))))) (hC (hS (hS (hR 4) (hC (hS (hR 1) hL) hL)) (hS (hR 1) hL)) hL)) (hS (.block (hS (hR 3) (hC (hS (hR 3) hL) (hS (hR 3) (hC (hS (hR 3) hL) hL))))) (hS (hR 3) hL)))))
theorem Dr3 {a0 : Int} {K : Int -> Wp} {w : World} (h : F125 a0 K w) : Aa Tryz.prog 125 #[(vI a0)] rI K w := tied Ai Tryz.func125 Dd4 _ h
def F172 (a0 : Int) (K : Bool -> Wp) : Wp := sif (decide (a0 >= 0)) ( sif (decide (a0 <= 1114111)) ( sif (decide (a0 < 55296)) ( K true) ( K (decide (a0 > 57343)))) ( K false)) ( K false)
def Da3 : Hint := (hS (hR 1) (hS (.region [] (.ops 3 (.split 5 (.ops 4 (.split 9 (.ops 3 (.split 12 (.skips 2 (hO 3)) (hO 5))) (.skips 6 (hO 2)))) (.skips 2 (.ops 2 (.skips 6 (hO 2))))))) hL))
theorem Do2 {a0 : Int} {K : Bool -> Wp} {w : World} (h : F172 a0 K w) : Aa Tryz.prog 172 #[(vI a0)] rB K w := tied Ai Tryz.func172 Da3 _ h
def F176 (a0 : Int) (K : Int -> Wp) : Wp := jB (λ J1 => sif (a0 == 2381) ( J1 (true, ())) ( sif (a0 == 2509) ( J1 (true, ())) ( sif (a0 == 2765) ( J1 (true, ())) ( sif (a0 == 2893) ( J1 (true, ())) ( sif (a0 == 3149) ( J1 (true, ())) ( J1 ((a0 == 3405), ()))))))) λ s2 => sif s2.1 ( K 3) ( cN 125 #[(vI a0)] λ x3 => jB (λ J4 => sif (x3 == 4) ( J4 ((a0 != 8204), ())) ( sif (x3 == 5) ( J4 ((a0 != 8204), ())) ( J4 (false, ())))) λ s5 => sif s5.1 ( K 2) ( cB 200 #[(vI a0)] λ x6 => sif x6 ( K 1) ( K 0)))
def Da2 : Hint := (hS (hR 1) (hS (hJ (67108848, [(25, tB)]) (.region [] (.ops 3 (.split 6 (.skips 2 (.ops 2 (.skips 2 (.ops 2 (.skips 2 (.ops 2 (.skips 2 (.ops 2 (.skips 2 (hO 1)))))))))) (.ops 4 (.split 10 (.skips 2 (.ops 2 (.skips 2 (.ops 2 (.skips 2 (.ops 2 (.skips 2 (hO 1)))))))) (.ops 4 (.split 14 (.skips 2 (.ops 2 (.skips 2 (.ops 2 (.skips 2 (hO 1)))))) (.ops 4 (.split 18 (.skips 2 (.ops 2 (.skips 2 (hO 1)))) (.ops 4 (.split 22 (.skips 2 (hO 1)) (hO 3)))))))))))) (hC (hS (hR 1) hL) hL)) (hS (hR 3) (hS (hJ (0x3ff0000000, [(37, tB)]) (.region [] (.ops 3 (.split 30 (.skips 2 (hO 5)) (.ops 4 (.split 34 (hO 3) (.skips 2 (hO 1))))))) (hC (hS (hR 1) hL) hL)) (hS (hS (hR 2) (hC (hS (hR 1) hL) hL)) (hS (hR 1) hL))))))
theorem Do1 {a0 : Int} {K : Int -> Wp} {w : World} (h : F176 a0 K w) : Aa Tryz.prog 176 #[(vI a0)] rI K w := tied Ai Tryz.func176 Da2 _ h
end Go.Proofs.YtolhlldgnfbemaaGreatDoor
namespace Go.Proofs.YtolhlldgnfbemaaGreatDoor
open Go Go.Vx Cdc Gly
namespace Rgl
def Qk (a : Int) (J : Bool × Unit -> Wp) : List (Bool × Int × Int) -> World -> Prop
 | [] => J (false, ())
 | [(true, v, _)] => J ((a == v), ())
 | [(false, l, h)] => sif (decide (a >= l)) (J ((decide (a <= h)), ())) (J (false, ()))
 | (true, v, _) :: x :: r => sif (a == v) (J ((a == v), ())) (Qk a J (x :: r))
 | (false, l, h) :: x :: r => join (S := Bool × Unit) (λ J3 => sif (decide (a >= l)) (J3 ((decide (a <= h)), ())) (J3 (false, ()))) λ s => sif s.1 (J (s.1, ())) (Qk a J (x :: r))
def Ae0 (a : Int) (K : Int -> Wp) (d : Int) : List (List (Bool × Int × Int) × Int) -> World -> Prop
 | [] => K d
 | ([(true, v, _)], n) :: r => sif (a == v) (K n) (Ae0 a K d r)
 | (ch, n) :: r => join (S := Bool × Unit) (λ J => Qk a J ch) λ s => sif s.1 (K n) (Ae0 a K d r)
def inR (a : Int) (x : Bool × Int × Int) : Bool := if x.1 then a == x.2.1 else decide (x.2.1 <= a) && decide (a <= x.2.2)
def Gt (a : Int) (ch : List (Bool × Int × Int)) : Bool := ch.any (inR a)
def Yq (a d : Int) : List (List (Bool × Int × Int) × Int) -> Int
 | [] => d
 | (ch, n) :: r => if Gt a ch then n else Yq a d r
variable {w : World}
theorem Q9 {a : Int} {J : Bool × Unit -> Wp} : ∀ {ch : List (Bool × Int × Int)}, J (Gt a ch, ()) w -> Qk a J ch w
 | [], h => h
 | [(true, v, _)], h => by
  have e : Gt a [(true, v, ‹Int›)] = (a == v) := by simp [Gt, inR]
  rw [e] at h; exact h
 | [(false, l, u)], h => by
  have e : Gt a [(false, l, u)] = (decide (l <= a) && decide (a <= u)) := by simp [Gt, inR]
  rw [e] at h
  refine Ac (λ h1 => ?_) (λ h1 => ?_)
  ·simp only [decide_eq_true_eq, ge_iff_le] at h1
   rw [decide_eq_true h1, Bool.true_and] at h; exact h
  ·simp only [decide_eq_false_iff_not, ge_iff_le] at h1
   rw [decide_eq_false h1, Bool.false_and] at h; exact h
 | (true, v, u) :: x :: r, h => by
  have e : Gt a ((true, v, u) :: x :: r) = ((a == v) || Gt a (x :: r)) := by simp [Gt, inR]
  rw [e] at h
  refine Ac (λ h1 => ?_) (λ h1 => ?_)
  ·have h1 : (a == v) = true := h1
   rw [h1, Bool.true_or] at h
   rw [h1]; exact h
  ·have h1 : (a == v) = false := h1
   rw [h1, Bool.false_or] at h
   exact Q9 h
 | (false, l, u) :: x :: r, h => by
  have e : Gt a ((false, l, u) :: x :: r) = ((decide (l <= a) && decide (a <= u)) || Gt a (x :: r)) := by simp [Gt, inR]
  rw [e] at h
  refine Ad (λ y W => y = ((decide (l <= a) && decide (a <= u)), ()) /\ w = W) (Ac (λ h1 => ?_) (λ h1 => ?_)) ?_
  ·simp only [decide_eq_true_eq, ge_iff_le] at h1
   rw [decide_eq_true h1, Bool.true_and]; exact ⟨rfl, rfl⟩
  ·simp only [decide_eq_false_iff_not, ge_iff_le] at h1
   rw [decide_eq_false h1, Bool.false_and]; exact ⟨rfl, rfl⟩
  rintro _ _ ⟨rfl, rfl⟩
  refine Ac (λ h1 => ?_) (λ h1 => ?_)
  ·have h1 : (decide (l <= a) && decide (a <= u)) = true := h1
   rw [h1, Bool.true_or] at h
   show J ((decide (l <= a) && decide (a <= u)), ()) w
   rw [h1]; exact h
  ·have h1 : (decide (l <= a) && decide (a <= u)) = false := h1
   rw [h1, Bool.false_or] at h
   exact Q9 h
theorem Ab8 {a d n : Int} {K : Int -> Wp} {ch : List (Bool × Int × Int)} {r : List (List (Bool × Int × Int) × Int)} (ih : K (Yq a d r) w -> Ae0 a K d r w) (h : K (Yq a d ((ch, n) :: r)) w) :
  join (S := Bool × Unit) (λ J => Qk a J ch) (λ s => sif s.1 (K n) (Ae0 a K d r)) w := by
 refine Ad (λ x W => x = (Gt a ch, ()) /\ w = W) (Q9 ⟨rfl, rfl⟩) ?_
 rintro _ _ ⟨rfl, rfl⟩
 rw [Yq] at h
 refine Ac (λ h1 => ?_) (λ h1 => ?_)
 ·have h1 : Gt a ch = true := h1
  rw [if_pos h1] at h; exact h
 ·have h1 : Gt a ch = false := h1
  rw [if_neg (by rw [h1]; decide)] at h; exact ih h
theorem Ab7 {a d : Int} {K : Int -> Wp} : ∀ {T : List (List (Bool × Int × Int) × Int)}, K (Yq a d T) w -> Ae0 a K d T w
 | [], h => h
 | ([(true, v, u)], n) :: r, h => by
  rw [Yq] at h
  have e : Gt a [(true, v, u)] = (a == v) := by simp [Gt, inR]
  rw [e] at h
  refine Ac (λ h1 => ?_) (λ h1 => ?_)
  ·have h1 : (a == v) = true := h1
   rw [if_pos h1] at h; exact h
  ·have h1 : (a == v) = false := h1
   rw [if_neg (by rw [h1]; decide)] at h; exact Ab7 h
 | ([], n) :: r, h => Ab8 Ab7 h
 | ([(false, l, u)], n) :: r, h => Ab8 Ab7 h
 | (x :: y :: z, n) :: r, h => by
  have : Ae0 a K d ((x :: y :: z, n) :: r) = join (S := Bool × Unit) (λ J => Qk a J (x :: y :: z)) λ s => sif s.1 (K n) (Ae0 a K d r) := by
   obtain ⟨b, l, u⟩ := x
   cases b <;> rfl
  rw [this]
  exact Ab8 Ab7 h
def rr2 : List Nat -> List (Bool × Int × Int)
  | a :: b :: r => (Nat.beq a b, a, b) :: rr2 r
  | _ => []
def rC1 : List (List (Bool × Int × Int) × Int) := [(rr2 [13,13], 1), (rr2 [10,10], 2), (rr2 [0,9,11,12,14,31,127,159,173,173,1564,1564], 3), (rr2 [768,879,1155,1161,1425,1469,1471,1471,1473,1474,1476,1477,1479,1479,1552,1562,1611,1631,1648,1648,1750,1756,1759,1764,1767,1768,1770,1773,1809,1809,1840,1866,1958,1968,2027,2035,2045,2045,2070,2073,2075,2083,2085,2087,2089,2093,2137,2139,2200,2207,2250,2273,2275,2306,2362,2362,2364,2364,2369,2376,2381,2381,2385,2391,2402,2403,2433,2433,2492,2492,2494,2494,2497,2500,2509,2509,2519,2519,2530,2531,2558,2558,2561,2562,2620,2620,2625,2626,2631,2632,2635,2637,2641,2641,2672,2673,2677,2677,2689,2690,2748,2748,2753,2757,2759,2760,2765,2765,2786,2787,2810,2815,2817,2817,2876,2876,2878,2879,2881,2884,2893,2893,2901,2903,2914,2915,2946,2946,3006,3006,3008,3008,3021,3021,3031,3031,3072,3072], 4), (rr2 [1536,1541,1757,1757,1807,1807,2192,2193,2274,2274], 7), (rr2 [2307,2307,2363,2363,2366,2368,2377,2380,2382,2383,2434,2435,2495,2496,2503,2504,2507,2508,2563,2563,2622,2624,2691,2691,2750,2752,2761,2761,2763,2764,2818,2819,2880,2880,2887,2888,2891,2892,3007,3007,3009,3010,3014,3016,3018,3020,3073,3075], 8), (rr2 [169,169,174,174], 14)]
def rC2 : List (List (Bool × Int × Int) × Int) := [(rr2 [6158,6158,8203,8203,8206,8207,8232,8238,8288,8303], 3), (rr2 [3076,3076,3132,3132,3134,3136,3142,3144,3146,3149,3157,3158,3170,3171,3201,3201,3260,3260,3263,3263,3266,3266,3270,3270,3276,3277,3285,3286,3298,3299,3328,3329,3387,3388,3390,3390,3393,3396,3405,3405,3415,3415,3426,3427,3457,3457,3530,3530,3535,3535,3538,3540,3542,3542,3551,3551,3633,3633,3636,3642,3655,3662,3761,3761,3764,3772,3784,3790,3864,3865,3893,3893,3895,3895,3897,3897,3953,3966,3968,3972,3974,3975,3981,3991,3993,4028,4038,4038,4141,4144,4146,4151,4153,4154,4157,4158,4184,4185,4190,4192,4209,4212,4226,4226,4229,4230,4237,4237,4253,4253,4957,4959,6068,6069,6071,6077,6086,6086,6089,6099,6109,6109,6155,6157,6159,6159,6313,6313,6832,6862,7616,7679,8204,8204,8400,8432], 4), (rr2 [8205,8205], 5), (rr2 [3406,3406], 7), (rr2 [3137,3140,3202,3203,3262,3262,3264,3265,3267,3268,3271,3272,3274,3275,3315,3315,3330,3331,3391,3392,3398,3400,3402,3404,3458,3459,3536,3537,3544,3550,3570,3571,3635,3635,3763,3763,3902,3903,3967,3967,4145,4145,4155,4156,4182,4183,4228,4228,6070,6070,6078,6085,6087,6088], 8), (rr2 [4352,4447], 9), (rr2 [4448,4519], 10), (rr2 [4520,4607], 11), (rr2 [8252,8252,8265,8265,8482,8482], 14)]
def rC3 : List (List (Bool × Int × Int) × Int) := [(rr2 [65279,65279,65520,65531,78896,78911,113824,113827,119155,119162,917504,917535,917632,917759,918000,921599], 3), (rr2 [12330,12335,12441,12442,42607,42610,42612,42621,42654,42655,42736,42737,64286,64286,65024,65039,65056,65071,65438,65439,66045,66045,119141,119141,119143,119145,119150,119154,119163,119170,119173,119179,119210,119213,127995,127999,917536,917631,917760,917999], 4), (rr2 [127462,127487], 6), (rr2 [69821,69821,69837,69837,70082,70083], 7), (rr2 [43360,43388], 9), (rr2 [55216,55238], 10), (rr2 [55243,55291], 11), (rr2 [8505,8505,8596,8601,8617,8618,8986,8987,9000,9000,9096,9096,9167,9167,9193,9203,9208,9210,9410,9410,9642,9643,9654,9654,9664,9664,9723,9726,9728,9733,9735,9746,9748,9861,9872,9989,9992,10002,10004,10004,10006,10006,10013,10013,10017,10017,10024,10024,10035,10036,10052,10052,10055,10055,10060,10060,10062,10062,10067,10069,10071,10071,10083,10087,10133,10135,10145,10145,10160,10160,10175,10175,10548,10549,11013,11015,11035,11036,11088,11088,11093,11093,12336,12336,12349,12349,12951,12951,12953,12953,126976,127231,127245,127247,127279,127279,127340,127345,127358,127359,127374,127374,127377,127386,127405,127461,127489,127503,127514,127514,127535,127535,127538,127546,127548,127551,127561,127994,128000,128317,128326,128591,128640,128767,128884,128895,128981,129023,129036,129039,129096,129103,129114,129119,129160,129167,129198,129279,129292,129338,129340,129349,129351,129791,130048,131069], 14)]
def Zg : List (Bool × Int × Int) := rr2 [2325,2361,2392,2399,2424,2431,2453,2472,2474,2480,2482,2482,2486,2489,2524,2525,2527,2527,2544,2545,2709,2728,2730,2736,2738,2739,2741,2745,2809,2809,2837,2856,2858,2864,2866,2867,2869,2873,2908,2909,2911,2911,2929,2929,3093,3112,3114,3129,3160,3162,3349,3386]
def N8 : List (Bool × Int × Int) := [(false, 9, 13), (true, 32, 32), (true, 133, 133), (true, 160, 160), (true, 5760, 5760), (false, 8192, 8202), (false, 8232, 8233), (true, 8239, 8239), (true, 8287, 8287), (true, 12288, 12288)]
def Zf : List (Bool × Int × Int) := rr2 [48,57,65,90,95,95,97,122,170,170,181,181,186,186,192,214,216,246,248,705,768,884,886,893,895,895,902,902,904,1013,1015,1153,1155,1327,1329,1366,1376,1416,1425,1469,1488,1514,1552,1562,1568,1641,1646,1747,1749,1756,1759,1768,1770,1788,1808,1866,2304,2403,2406,2415,2417,3571,3585,3642,3648,3662,3664,3673,3713,3807,3864,3897,3904,3972,3984,4028,4096,4169,4176,4253,4256,4346,4348,4607,4608,4959,6016,6099,7680,8188,8486,8486,8490,8491,8544,8584,12293,12295,12321,12335,12353,12438,12441,12442,12445,12447,12449,12538,12540,12543,12549,12591,12593,12686,13312,19903,19968,40959,43360,43388,44032,55203,55216,55291,63744,64255,64285,64335,65296,65305,65313,65338,65345,65370,65382,65500,66560,66639,131072,195103,196608,205743]
def slN : List (Bool × Int × Int) -> Nat
 | [] => 0
 | x :: r => (if x.1 then 2 else 6) + slN r
def rgH (b : Nat) : Hint := .region [] (.ops 3 (.split (b + 2) (.ops 4 .done) (.skips 2 (.ops 2 .done))))
def sgH : Hint := .region [] (.ops 3 .done)
def chH (o : Nat) : List (Bool × Int × Int) -> Nat -> Hint
 | [], _ => .leaf
 | [x], b => if x.1 then sgH else rgH b
 | x :: y :: r, b => if x.1 then .seq none sgH (.cond none .leaf (chH o (y :: r) (b + 2))) else .seq (some (2 ^ (b + 6) - 2 ^ b + 2 ^ o, [(o, .one .bool)])) (rgH b) (.cond none .leaf (chH o (y :: r) (b + 6)))
def rtH : Hint := .seq none (.region [] (.ops 1 .done)) .leaf
def csH : List (List (Bool × Int × Int) × Int) -> Nat -> Hint
 | [], _ => .leaf
 | ([(true, _)], _) :: r, o => .seq none sgH (.cond none rtH (csH r (o + 3)))
 | (ch, _) :: r, o => .seq (some (2 ^ (o + 1 + slN ch) - 2 ^ o, [(o, .one .bool)])) (chH o ch (o + 1)) (.cond none rtH (csH r (o + 1 + slN ch)))
def tbH (T : List (List (Bool × Int × Int) × Int)) : Hint := .seq none (.region [] (.ops 1 .done)) (.seq none (.block (csH T 3)) rtH)
theorem Cg4 {a : Int} {K : Int -> Wp} (h : K (Yq a 0 rC1) w) : Aa Tryz.prog 173 #[.int .i64 a] rI K w := by
 have e : Aj2 tab Tryz.prog Tryz.f173 (tbH rC1) [.int .i64 a] (.one (.one (.int .i64))) K = Ae0 a K 0 rC1 := by kernel_rfl
 exact Hz Ai Tryz.func173 (tbH rC1) [.int .i64 a] (.one (.one (.int .i64))) K w (by rw [e]; exact Ab7 h)
theorem Cg3 {a : Int} {K : Int -> Wp} (h : K (Yq a 0 rC2) w) : Aa Tryz.prog 174 #[.int .i64 a] rI K w := by
 have e : Aj2 tab Tryz.prog Tryz.f174 (tbH rC2) [.int .i64 a] (.one (.one (.int .i64))) K = Ae0 a K 0 rC2 := by kernel_rfl
 exact Hz Ai Tryz.func174 (tbH rC2) [.int .i64 a] (.one (.one (.int .i64))) K w (by rw [e]; exact Ab7 h)
theorem Cg2 {a : Int} {K : Int -> Wp} (h : K (Yq a 0 rC3) w) : Aa Tryz.prog 175 #[.int .i64 a] rI K w := by
 have e : Aj2 tab Tryz.prog Tryz.f175 (tbH rC3) [.int .i64 a] (.one (.one (.int .i64))) K = Ae0 a K 0 rC3 := by kernel_rfl
 exact Hz Ai Tryz.func175 (tbH rC3) [.int .i64 a] (.one (.one (.int .i64))) K w (by rw [e]; exact Ab7 h)
theorem Bf2 {a : Int} {K : Bool -> Wp} {ch : List (Bool × Int × Int)} (h : K (Gt a ch) w) : join (S := Bool × Unit) (λ J => Qk a J ch) (λ s => sif s.1 (K true) (K false)) w := by
 refine Ad (λ x W => x = (Gt a ch, ()) /\ w = W) (Q9 ⟨rfl, rfl⟩) ?_
 rintro _ _ ⟨rfl, rfl⟩
 refine Ac (λ h1 => ?_) (λ h1 => ?_)
 ·have h1 : Gt a ch = true := h1
  rw [h1] at h; exact h
 ·have h1 : Gt a ch = false := h1
  rw [h1] at h; exact h
theorem Bp3 {a : Int} {K : Bool -> Wp} (h : K (Gt a Zg) w) : Aa Tryz.prog 200 #[.int .i64 a] rB K w := by
 have e : Aj2 tab Tryz.prog Tryz.f200 (tbH [(Zg, 1)]) [.int .i64 a] (.one (.one .bool)) K = join (S := Bool × Unit) (λ J => Qk a J Zg) λ s => sif s.1 (K true) (K false) := by kernel_rfl
 exact Hz Ai Tryz.func200 (tbH [(Zg, 1)]) [.int .i64 a] (.one (.one .bool)) K w (by rw [e]; exact Bf2 h)
theorem Bp4 {a : Int} {K : Bool -> Wp} (h : K (Gt a N8) w) : Aa Tryz.prog 76 #[.int .i64 a] rB K w := by
 have e : Aj2 tab Tryz.prog Tryz.f76 (tbH [(N8, 1)]) [.int .i64 a] (.one (.one .bool)) K = join (S := Bool × Unit) (λ J => Qk a J N8) λ s => sif s.1 (K true) (K false) := by kernel_rfl
 exact Hz Ai Tryz.func76 (tbH [(N8, 1)]) [.int .i64 a] (.one (.one .bool)) K w (by rw [e]; exact Bf2 h)
theorem Bp2 {a : Int} {K : Bool -> Wp} (h : K (Gt a Zf) w) : Aa Tryz.prog 77 #[.int .i64 a] rB K w := by
 have e : Aj2 tab Tryz.prog Tryz.f77 (tbH [(Zf, 1)]) [.int .i64 a] (.one (.one .bool)) K = join (S := Bool × Unit) (λ J => Qk a J Zf) λ s => sif s.1 (K true) (K false) := by kernel_rfl
 exact Hz Ai Tryz.func77 (tbH [(Zf, 1)]) [.int .i64 a] (.one (.one .bool)) K w (by rw [e]; exact Bf2 h)
end Rgl
end Go.Proofs.YtolhlldgnfbemaaGreatDoor
namespace Go.Proofs.YtolhlldgnfbemaaGreatDoor
open Cdc Gly
namespace Rgl
def rl3 : List Nat -> List Row
  | a :: b :: c :: r => ⟨a, b, c⟩ :: rl3 r
  | _ => []
def Ad9 : List Row := rl3 [0,9,3,10,10,2,11,12,3,13,13,1,14,31,3,127,159,3,169,169,14,173,173,3,174,174,14,768,879,4,1155,1161,4,1425,1469,4,1471,1471,4,1473,1474,4,1476,1477,4,1479,1479,4,1536,1541,7,1552,1562,4,1564,1564,3,1611,1631,4,1648,1648,4,1750,1756,4,1757,1757,7,1759,1764,4,1767,1768,4,1770,1773,4,1807,1807,7,1809,1809,4,1840,1866,4,1958,1968,4,2027,2035,4,2045,2045,4,2070,2073,4,2075,2083,4,2085,2087,4,2089,2093,4,2137,2139,4,2192,2193,7,2200,2207,4,2250,2273,4,2274,2274,7,2275,2306,4,2307,2307,8,2362,2362,4,2363,2363,8,2364,2364,4,2366,2368,8,2369,2376,4,2377,2380,8,2381,2381,4,2382,2383,8,2385,2391,4,2402,2403,4,2433,2433,4,2434,2435,8,2492,2492,4,2494,2494,4,2495,2496,8,2497,2500,4,2503,2504,8,2507,2508,8,2509,2509,4,2519,2519,4,2530,2531,4,2558,2558,4,2561,2562,4,2563,2563,8,2620,2620,4,2622,2624,8,2625,2626,4,2631,2632,4,2635,2637,4,2641,2641,4,2672,2673,4,2677,2677,4,2689,2690,4,2691,2691,8,2748,2748,4,2750,2752,8,2753,2757,4,2759,2760,4,2761,2761,8,2763,2764,8,2765,2765,4,2786,2787,4,2810,2815,4,2817,2817,4,2818,2819,8,2876,2876,4,2878,2879,4,2880,2880,8,2881,2884,4,2887,2888,8,2891,2892,8,2893,2893,4,2901,2903,4,2914,2915,4,2946,2946,4,3006,3006,4,3007,3007,8,3008,3008,4,3009,3010,8,3014,3016,8,3018,3020,8,3021,3021,4,3031,3031,4,3072,3072,4,3073,3075,8,3076,3076,4,3132,3132,4,3134,3136,4,3137,3140,8,3142,3144,4,3146,3149,4,3157,3158,4,3170,3171,4,3201,3201,4,3202,3203,8,3260,3260,4,3262,3262,8,3263,3263,4,3264,3265,8,3266,3266,4,3267,3268,8,3270,3270,4,3271,3272,8,3274,3275,8,3276,3277,4,3285,3286,4,3298,3299,4,3315,3315,8,3328,3329,4,3330,3331,8,3387,3388,4,3390,3390,4,3391,3392,8,3393,3396,4,3398,3400,8,3402,3404,8,3405,3405,4,3406,3406,7,3415,3415,4,3426,3427,4,3457,3457,4,3458,3459,8,3530,3530,4,3535,3535,4,3536,3537,8,3538,3540,4,3542,3542,4,3544,3550,8,3551,3551,4,3570,3571,8,3633,3633,4,3635,3635,8,3636,3642,4,3655,3662,4,3761,3761,4,3763,3763,8,3764,3772,4,3784,3790,4,3864,3865,4,3893,3893,4,3895,3895,4,3897,3897,4,3902,3903,8,3953,3966,4,3967,3967,8,3968,3972,4,3974,3975,4,3981,3991,4,3993,4028,4,4038,4038,4,4141,4144,4,4145,4145,8,4146,4151,4,4153,4154,4,4155,4156,8,4157,4158,4,4182,4183,8,4184,4185,4,4190,4192,4,4209,4212,4,4226,4226,4,4228,4228,8,4229,4230,4,4237,4237,4,4253,4253,4,4352,4447,9,4448,4519,10,4520,4607,11,4957,4959,4,6068,6069,4,6070,6070,8,6071,6077,4,6078,6085,8,6086,6086,4,6087,6088,8,6089,6099,4,6109,6109,4,6155,6157,4,6158,6158,3,6159,6159,4,6313,6313,4,6832,6862,4,7616,7679,4,8203,8203,3,8204,8204,4,8205,8205,5,8206,8207,3,8232,8238,3,8252,8252,14,8265,8265,14,8288,8303,3,8400,8432,4,8482,8482,14,8505,8505,14,8596,8601,14,8617,8618,14,8986,8987,14,9000,9000,14,9096,9096,14,9167,9167,14,9193,9203,14,9208,9210,14,9410,9410,14,9642,9643,14,9654,9654,14,9664,9664,14,9723,9726,14,9728,9733,14,9735,9746,14,9748,9861,14,9872,9989,14,9992,10002,14,10004,10004,14,10006,10006,14,10013,10013,14,10017,10017,14,10024,10024,14,10035,10036,14,10052,10052,14,10055,10055,14,10060,10060,14,10062,10062,14,10067,10069,14,10071,10071,14,10083,10087,14,10133,10135,14,10145,10145,14,10160,10160,14,10175,10175,14,10548,10549,14,11013,11015,14,11035,11036,14,11088,11088,14,11093,11093,14,12330,12335,4,12336,12336,14,12349,12349,14,12441,12442,4,12951,12951,14,12953,12953,14,42607,42610,4,42612,42621,4,42654,42655,4,42736,42737,4,43360,43388,9,55216,55238,10,55243,55291,11,64286,64286,4,65024,65039,4,65056,65071,4,65279,65279,3,65438,65439,4,65520,65531,3,66045,66045,4,69821,69821,7,69837,69837,7,70082,70083,7,78896,78911,3,113824,113827,3,119141,119141,4,119143,119145,4,119150,119154,4,119155,119162,3,119163,119170,4,119173,119179,4,119210,119213,4,126976,127231,14,127245,127247,14,127279,127279,14,127340,127345,14,127358,127359,14,127374,127374,14,127377,127386,14,127405,127461,14,127462,127487,6,127489,127503,14,127514,127514,14,127535,127535,14,127538,127546,14,127548,127551,14,127561,127994,14,127995,127999,4,128000,128317,14,128326,128591,14,128640,128767,14,128884,128895,14,128981,129023,14,129036,129039,14,129096,129103,14,129114,129119,14,129160,129167,14,129198,129279,14,129292,129338,14,129340,129349,14,129351,129791,14,130048,131069,14,917504,917535,3,917536,917631,4,917632,917759,3,917760,917999,4,918000,921599,3]
def Bc3 : List Row := rl3 [2325,2361,1,2392,2399,1,2424,2431,1,2453,2472,1,2474,2480,1,2482,2482,1,2486,2489,1,2524,2525,1,2527,2527,1,2544,2545,1,2709,2728,1,2730,2736,1,2738,2739,1,2741,2745,1,2809,2809,1,2837,2856,1,2858,2864,1,2866,2867,1,2869,2873,1,2908,2909,1,2911,2911,1,2929,2929,1,3093,3112,1,3114,3129,1,3160,3162,1,3349,3386,1]
def Cs0 : List Row := rl3 [9,13,1,32,32,1,48,57,2,65,90,2,95,95,2,97,122,2,133,133,1,160,160,1,170,170,2,181,181,2,186,186,2,192,214,2,216,246,2,248,705,2,768,884,2,886,893,2,895,895,2,902,902,2,904,1013,2,1015,1153,2,1155,1327,2,1329,1366,2,1376,1416,2,1425,1469,2,1488,1514,2,1552,1562,2,1568,1641,2,1646,1747,2,1749,1756,2,1759,1768,2,1770,1788,2,1808,1866,2,2304,2403,2,2406,2415,2,2417,3571,2,3585,3642,2,3648,3662,2,3664,3673,2,3713,3807,2,3864,3897,2,3904,3972,2,3984,4028,2,4096,4169,2,4176,4253,2,4256,4346,2,4348,4607,2,4608,4959,2,5760,5760,1,6016,6099,2,7680,8188,2,8192,8202,1,8232,8233,1,8239,8239,1,8287,8287,1,8486,8486,2,8490,8491,2,8544,8584,2,12288,12288,1,12293,12295,2,12321,12335,2,12353,12438,2,12441,12442,2,12445,12447,2,12449,12538,2,12540,12543,2,12549,12591,2,12593,12686,2,13312,19903,2,19968,40959,2,43360,43388,2,44032,55203,2,55216,55291,2,63744,64255,2,64285,64335,2,65296,65305,2,65313,65338,2,65345,65370,2,65382,65500,2,66560,66639,2,131072,195103,2,196608,205743,2]
theorem Bj7 : Co5 = Ad9 := by kernel_rfl
theorem Bj6 : Ci0 = Bc3 := by kernel_rfl
theorem Cc6 : Bl0 = Cs0 := by kernel_rfl
theorem greatest : ∀ (L : List Nat) (s n : Nat), s <= n -> ∃ b, (b = s \/ b ∈ L) /\ s <= b /\ b <= n /\ ∀ c ∈ L, c <= n -> c <= b
 | [], s, n, h => ⟨s, .inl rfl, Nat.le_refl _, h, λ c hc => by cases hc⟩
 | x :: L, s, n, h => by
  obtain ⟨b, h1, h2, h3, h4⟩ := greatest L s n h
  by_cases hx : x <= n /\ b < x
  ·exact ⟨x, .inr List.mem_cons_self, by omega, hx.1, λ c hc hcn => by
    rcases List.mem_cons.1 hc with rfl | hc
    ·exact Nat.le_refl _
    ·have := h4 c hc hcn; omega⟩
  ·exact ⟨b, h1.imp id (List.mem_cons_of_mem _), h2, h3, λ c hc hcn => by
    rcases List.mem_cons.1 hc with rfl | hc
    ·omega
    ·exact h4 c hc hcn⟩
def ends (T : List Row) : List Nat := T.flatMap λ r => [r.lo, r.hi + 1]
theorem Qy : ∀ {T : List Row} {b n : Nat}, b <= n -> (∀ c ∈ ends T, c <= n -> c <= b) -> Jc T n = Jc T b
 | [], _, _, _, _ => rfl
 | r :: T, b, n, hb, h => by
  have h1 : r.lo <= n -> r.lo <= b := h r.lo (by simp [ends])
  have h2 : r.hi + 1 <= n -> r.hi + 1 <= b := h (r.hi + 1) (by simp [ends])
  have ih := Qy (T := T) hb λ c hc => h c (by
   unfold ends at hc ⊢
   rw [List.flatMap_cons]
   exact List.mem_append_right _ hc)
  have e : (Nat.ble r.lo n && Nat.ble n r.hi) = (Nat.ble r.lo b && Nat.ble b r.hi) := by
   rw [Bool.eq_iff_iff]
   simp only [Bool.and_eq_true, Nat.ble_eq]
   omega
  rw [Jc, Jc, e, ih]
def chk (A B : List Row) (s e : Nat) : Bool := (s :: (ends A ++ ends B)).all λ b => !(Nat.ble s b && Nat.ble (b + 1) e) || Nat.beq (Jc A b) (Jc B b)
theorem Xt {A B : List Row} {s e : Nat} (h : chk A B s e = true) {n : Nat} (h1 : s <= n) (h2 : n < e) : Jc A n = Jc B n := by
 obtain ⟨b, hb, g1, g2, g3⟩ := greatest (ends A ++ ends B) s n h1
 have hm : b ∈ s :: (ends A ++ ends B) := by
  rcases hb with rfl | hb
  ·exact List.mem_cons_self
  ·exact List.mem_cons_of_mem _ hb
 have := List.all_eq_true.1 h b hm
 simp only [Bool.or_eq_true, Bool.not_eq_true', Bool.and_eq_false_iff, Nat.beq_eq_true_eq] at this
 rw [Qy g2 λ c hc => g3 c (List.mem_append_left _ hc), Qy g2 λ c hc => g3 c (List.mem_append_right _ hc)]
 rcases this with (h | h) | h
 ·have : Nat.ble s b = true := by rw [Nat.ble_eq]; exact g1
  rw [this] at h; cases h
 ·have : Nat.ble (b + 1) e = true := by rw [Nat.ble_eq]; omega
  rw [this] at h; cases h
 ·exact Nat.eq_of_beq_eq_true h
def Xv (ch : List (Bool × Int × Int)) (n : Nat) : List Row := ch.map λ x => ⟨x.2.1.toNat, x.2.2.toNat, n⟩
def X3 (T : List (List (Bool × Int × Int) × Int)) : List Row := T.flatMap λ p => Xv p.1 p.2.toNat
def Bo1 (ch : List (Bool × Int × Int)) : Bool := ch.all λ x => decide (0 <= x.2.1) && decide (0 <= x.2.2) && (!x.1 || x.2.1 == x.2.2)
def Bv0 (T : List (List (Bool × Int × Int) × Int)) : Bool := T.all λ p => decide (0 <= p.2) && Bo1 p.1
theorem Cf8 {a : Int} (ha : 0 <= a) {x : Bool × Int × Int} (h : (decide (0 <= x.2.1) && decide (0 <= x.2.2) && (!x.1 || x.2.1 == x.2.2)) = true) : inR a x = (Nat.ble x.2.1.toNat a.toNat && Nat.ble a.toNat x.2.2.toNat) := by
 obtain ⟨b, l, u⟩ := x
 simp only [Bool.and_eq_true, decide_eq_true_eq, Bool.or_eq_true, Bool.not_eq_true', beq_iff_eq] at h
 unfold inR
 rw [Bool.eq_iff_iff]
 cases b with
 | true =>
  simp only [if_true, beq_iff_eq, Bool.and_eq_true, Nat.ble_eq]
  have : l = u := by rcases h.2 with h | h; cases h; exact h
  omega
 | false =>
  simp only [Bool.false_eq_true, if_false, Bool.and_eq_true, decide_eq_true_eq, Nat.ble_eq]
  omega
theorem Oi {a : Int} (ha : 0 <= a) (n : Nat) (R : List Row) : ∀ {ch : List (Bool × Int × Int)}, Bo1 ch = true -> Jc (Xv ch n ++ R) a.toNat = if Gt a ch then n else Jc R a.toNat
 | [], _ => rfl
 | x :: ch, h => by
  unfold Bo1 at h
  rw [List.all_cons, Bool.and_eq_true] at h
  have e := Cf8 ha h.1
  have ih := Oi ha n R (ch := ch) h.2
  have e2 : Xv (x :: ch) n ++ R = ⟨x.2.1.toNat, x.2.2.toNat, n⟩ :: (Xv ch n ++ R) := rfl
  have e3 : Gt a (x :: ch) = (inR a x || Gt a ch) := rfl
  rw [e2, Jc, ih, e3, ← e]
  cases inR a x <;> simp
theorem Yp {a : Int} (ha : 0 <= a) : ∀ {T : List (List (Bool × Int × Int) × Int)}, Bv0 T = true -> Yq a 0 T = (Jc (X3 T) a.toNat : Nat)
 | [], _ => rfl
 | (ch, n) :: T, h => by
  unfold Bv0 at h
  rw [List.all_cons, Bool.and_eq_true, Bool.and_eq_true, decide_eq_true_eq] at h
  have ih := Yp ha (T := T) h.2
  have e2 : X3 ((ch, n) :: T) = Xv ch n.toNat ++ X3 T := rfl
  rw [Yq, e2, Oi ha n.toNat (X3 T) h.1.2, ih]
  split
  ·have := h.1.1; dsimp only at this; omega
  ·rfl
theorem ok1 : Bv0 rC1 = true := by kernel_rfl
theorem ok2 : Bv0 rC2 = true := by kernel_rfl
theorem ok3 : Bv0 rC3 = true := by kernel_rfl
theorem Cr0 : Bo1 Zg = true := by kernel_rfl
theorem Cr1 : Bo1 N8 = true := by kernel_rfl
theorem Cq9 : Bo1 Zf = true := by kernel_rfl
theorem Df7 : chk Ad9 (X3 rC1) 0 3076 = true := by kernel_rfl
theorem Df6 : chk Ad9 (X3 rC2) 3076 8505 = true := by kernel_rfl
theorem Df5 : chk Ad9 (X3 rC3) 8505 1114112 = true := by kernel_rfl
theorem Co7 : chk Bc3 (Xv Zg 1) 0 1114112 = true := by kernel_rfl
theorem Co6 : chk Cs0 (Xv N8 1 ++ Xv Zf 2) 0 1114112 = true := by kernel_rfl
end Rgl
end Go.Proofs.YtolhlldgnfbemaaGreatDoor
namespace Go.Proofs.YtolhlldgnfbemaaGreatDoor
open Go Go.Vx Cdc Gly Rgl
namespace Rgl
theorem Ci1 {a : Int} (hs : Scalar a) (hh : ¬ (44032 <= a /\ a < 55204)) : (cls a : Int) = if a < 3076 then Yq a 0 rC1 else if a < 8505 then Yq a 0 rC2 else Yq a 0 rC3 := by
 have ha : 0 <= a := by rcases hs with h | h <;> omega
 have hb : a.toNat < 1114112 := by rcases hs with h | h <;> omega
 have e : cls a = Jc Ad9 a.toNat := by unfold cls; rw [if_pos hs, if_neg hh, Bj7]
 rw [e]
 split
 ·rw [Yp ha ok1, Xt Df7 (Nat.zero_le _) (by omega)]
 ·split
  ·rw [Yp ha ok2, Xt Df6 (by omega) (by omega)]
  ·rw [Yp ha ok3, Xt Df5 (by omega) (by omega)]
theorem An5 {a : Int} (hs : Scalar a) : Jc Ci0 a.toNat = if Gt a Zg then 1 else 0 := by
 have ha : 0 <= a := by rcases hs with h | h <;> omega
 have hb : a.toNat < 1114112 := by rcases hs with h | h <;> omega
 rw [Bj6, Xt Co7 (Nat.zero_le _) hb]
 have := Oi ha 1 [] Cr0
 rw [List.append_nil] at this
 exact this
theorem Ch9 : (Zg.all λ x => decide (0 <= x.2.1) && decide (x.2.2 < 44032) && (!x.1 || x.2.1 == x.2.2)) = true := by kernel_rfl
theorem Co4 {a : Int} (h : Gt a Zg = true) : 0 <= a /\ a < 44032 := by
 obtain ⟨x, hx, h⟩ := List.any_eq_true.1 h
 have := List.all_eq_true.1 Ch9 x hx
 obtain ⟨b, l, u⟩ := x
 simp only [Bool.and_eq_true, decide_eq_true_eq, Bool.or_eq_true, Bool.not_eq_true', beq_iff_eq] at this
 unfold inR at h
 cases b with
 | true => simp at h this; omega
 | false => simp at h; omega
def Cs9 : Bool := (0 :: (ends Bc3 ++ ends Ad9)).all λ b => Nat.beq (Jc Bc3 b) 0 || Nat.beq (Jc Ad9 b) 0
theorem Bz5 : Cs9 = true := by kernel_rfl
theorem Bq4 {n : Nat} (h : Jc Bc3 n ≠ 0) : Jc Ad9 n = 0 := by
 obtain ⟨b, hb, g1, g2, g3⟩ := greatest (ends Bc3 ++ ends Ad9) 0 n (Nat.zero_le _)
 have hm : b ∈ 0 :: (ends Bc3 ++ ends Ad9) := by
  rcases hb with rfl | hb
  ·exact List.mem_cons_self
  ·exact List.mem_cons_of_mem _ hb
 have := List.all_eq_true.1 Bz5 b hm
 simp only [Bool.or_eq_true] at this
 rw [Qy g2 λ c hc => g3 c (List.mem_append_left _ hc)] at h
 rw [Qy g2 λ c hc => g3 c (List.mem_append_right _ hc)]
 rcases this with q | q
 ·exact absurd (Nat.eq_of_beq_eq_true q) h
 ·exact Nat.eq_of_beq_eq_true q
theorem Bj5 {a : Int} (h : Gt a Zg = true) : Scalar a /\ cls a = 0 := by
 obtain ⟨h1, h2⟩ := Co4 h
 have hs : Scalar a := .inl ⟨h1, by omega⟩
 refine ⟨hs, ?_⟩
 have := An5 hs
 rw [h, if_pos rfl, Bj6] at this
 unfold cls
 rw [if_pos hs, if_neg (by omega), Bj7]
 exact Bq4 (by omega)
theorem By9 : Gt 8204 Zg = false := by kernel_rfl
theorem Yo (a : Int) : cnj a = if a = 2381 \/ a = 2509 \/ a = 2765 \/ a = 2893 \/ a = 3149 \/ a = 3405 then 3 else if (cls a = 4 \/ cls a = 5) /\ a ≠ 8204 then 2 else if Gt a Zg then 1 else 0 := by
 unfold cnj
 split
 ·rfl
 by_cases h2 : a = 8204
 ·subst h2
  rw [if_pos rfl, if_neg (λ h => h.2 rfl), By9]; rfl
 ·rw [if_neg h2]
  by_cases h3 : cls a = 4 \/ cls a = 5
  ·rw [if_pos h3, if_pos ⟨h3, h2⟩]
  ·rw [if_neg h3, if_neg (show ¬ ((cls a = 4 \/ cls a = 5) /\ a ≠ 8204) from λ h => h3 h.1)]
   cases h4 : Gt a Zg with
   | true =>
    obtain ⟨g1, g2⟩ := Bj5 h4
    rw [if_pos ⟨g2, g1⟩, An5 g1, h4]
   | false =>
    split
    ·rename_i h5
     rw [An5 h5.2, h4]
    ·rfl
theorem Cc5 : ((N8 ++ Zf).all λ x => decide (0 <= x.2.1) && (decide (x.2.2 < 55296) || (decide (57343 < x.2.1) && decide (x.2.2 < 1114112))) && (!x.1 || x.2.1 == x.2.2)) = true := by kernel_rfl
theorem Br6 {a : Int} (h : Gt a N8 = true \/ Gt a Zf = true) : Scalar a := by
 obtain ⟨x, hx, h⟩ : ∃ x ∈ N8 ++ Zf, inR a x = true := by
  rcases h with h | h
  ·obtain ⟨x, hx, h⟩ := List.any_eq_true.1 h; exact ⟨x, List.mem_append_left _ hx, h⟩
  ·obtain ⟨x, hx, h⟩ := List.any_eq_true.1 h; exact ⟨x, List.mem_append_right _ hx, h⟩
 have := List.all_eq_true.1 Cc5 x hx
 obtain ⟨b, l, u⟩ := x
 simp only [Bool.and_eq_true, decide_eq_true_eq, Bool.or_eq_true, Bool.not_eq_true', beq_iff_eq] at this
 unfold inR at h
 unfold Scalar
 cases b with
 | true => simp at h this; omega
 | false => simp at h; omega
theorem Cc4 (a : Int) : wrd a = if Gt a N8 then 0 else if Gt a Zf then 2 else 1 := by
 by_cases hs : Scalar a
 ·have ha : 0 <= a := by rcases hs with h | h <;> omega
  have hb : a.toNat < 1114112 := by rcases hs with h | h <;> omega
  have e1 := Oi ha 1 (Xv Zf 2) Cr1
  have e2 := Oi ha 2 [] Cq9
  rw [List.append_nil] at e2
  rw [e2] at e1
  unfold wrd
  rw [if_pos hs, Cc6, Xt Co6 (Nat.zero_le _) hb, e1]
  cases Gt a N8 <;> cases Gt a Zf <;> rfl
 ·unfold wrd
  rw [if_neg hs]
  cases h1 : Gt a N8 with
  | true => exact absurd (Br6 (.inl h1)) hs
  | false =>
   cases h2 : Gt a Zf with
   | true => exact absurd (Br6 (.inr h2)) hs
   | false => rfl
end Rgl
section
variable {w : World}
theorem Ad6 {a : Int} {K : Bool -> Wp} (h : K (decide (Scalar a)) w) : Aa Tryz.prog 172 #[.int .i64 a] rB K w := by
 refine Do2 ?_
 unfold F172
 have g : ∀ {b : Bool}, (b = true ↔ Scalar a) -> K b w := λ {b} hb => by
  have e : decide (Scalar a) = b := by
   rw [Bool.eq_iff_iff, decide_eq_true_eq]; exact hb.symm
  rw [e] at h; exact h
 refine Ac (λ h1 => Ac (λ h2 => Ac (λ h3 => g ?_) (λ h3 => g ?_)) (λ h2 => g ?_)) (λ h1 => g ?_)
 all_goals simp only [decide_eq_true_eq, decide_eq_false_iff_not, ge_iff_le, gt_iff_lt, Bool.false_eq_true, true_iff, false_iff] at *
 all_goals unfold Scalar
 all_goals omega
theorem Gx {a : Int} {K : Int -> Wp} (h : K ((cls a : Nat) : Int) w) : Aa Tryz.prog 125 #[.int .i64 a] rI K w := by
 refine Dr3 ?_
 unfold F125
 refine Ad6 ?_
 refine Ac (λ hn => ?_) (λ hn => ?_)
 ·simp only [Bool.not_eq_true', decide_eq_false_iff_not] at hn
  have : cls a = 3 := by unfold cls; rw [if_neg hn]
  rw [this] at h; exact h
 ·simp only [Bool.not_eq_false', decide_eq_true_eq] at hn
  have h0 : 0 <= a := by rcases hn with q | q <;> omega
  refine Ad (λ x W => x = (decide (44032 <= a /\ a < 55204), ()) /\ w = W) (Ac (λ h1 => ⟨Az ?_, rfl⟩) (λ h1 => ⟨Az ?_, rfl⟩)) ?_
  ·simp only [decide_eq_true_eq, ge_iff_le] at *; omega
  ·simp only [decide_eq_true_eq, decide_eq_false_iff_not, ge_iff_le, Bool.false_eq_true, false_iff] at *; omega
  rintro _ _ ⟨rfl, rfl⟩
  refine Ac (λ hh => ?_) (λ hh => ?_)
  ·simp only [decide_eq_true_eq] at hh
   refine Bq (by decide) ?_
   have e : cls a = if (a.toNat - 44032) % 28 = 0 then 12 else 13 := by unfold cls; rw [if_pos hn, if_pos hh]
   rw [e] at h
   rw [wrap64 (by omega) (by omega), Int.tmod_eq_emod_of_nonneg (by omega)]
   refine Ac (λ h1 => ?_) (λ h1 => ?_)
   ·simp only [beq_iff_eq] at h1
    rw [if_pos (by omega)] at h; exact h
   ·simp only [beq_eq_false_iff_ne, ne_eq] at h1
    rw [if_neg (by omega)] at h; exact h
  ·simp only [decide_eq_false_iff_not] at hh
   rw [Ci1 hn hh] at h
   refine Ac (λ h1 => ?_) (λ h1 => ?_)
   ·simp only [decide_eq_true_eq] at h1
    rw [if_pos h1] at h; exact Cg4 h
   ·simp only [decide_eq_false_iff_not] at h1
    rw [if_neg h1] at h
    refine Ac (λ h2 => ?_) (λ h2 => ?_)
    ·simp only [decide_eq_true_eq] at h2
     rw [if_pos h2] at h; exact Cg3 h
    ·simp only [decide_eq_false_iff_not] at h2
     rw [if_neg h2] at h; exact Cg2 h
theorem X9 {a : Int} {K : Int -> Wp} (h : K ((cnj a : Nat) : Int) w) : Aa Tryz.prog 176 #[.int .i64 a] rI K w := by
 refine Do1 ?_
 unfold F176
 rw [Yo] at h
 refine Ad (λ x W => x = (decide (a = 2381 \/ a = 2509 \/ a = 2765 \/ a = 2893 \/ a = 3149 \/ a = 3405), ()) /\ w = W) ?_ ?_
 ·refine Ac (λ h1 => ⟨Az ?_, rfl⟩) λ h1 => Ac (λ h2 => ⟨Az ?_, rfl⟩) λ h2 => Ac (λ h3 => ⟨Az ?_, rfl⟩) λ h3 => Ac (λ h4 => ⟨Az ?_, rfl⟩) λ h4 => Ac (λ h5 => ⟨Az ?_, rfl⟩) λ h5 => ⟨Az ?_, rfl⟩
  all_goals simp only [beq_iff_eq, beq_eq_false_iff_ne, ne_eq, decide_eq_true_eq, true_iff] at *
  all_goals omega
 rintro _ _ ⟨rfl, rfl⟩
 refine Ac (λ h1 => ?_) (λ h1 => ?_)
 ·simp only [decide_eq_true_eq] at h1
  rw [if_pos h1] at h; exact h
 simp only [decide_eq_false_iff_not] at h1
 rw [if_neg h1] at h
 refine Gx ?_
 refine Ad (λ x W => x = (decide ((cls a = 4 \/ cls a = 5) /\ a ≠ 8204), ()) /\ w = W) ?_ ?_
 ·refine Ac (λ h1 => ⟨Az ?_, rfl⟩) λ h1 => Ac (λ h2 => ⟨Az ?_, rfl⟩) λ h2 => ⟨Az ?_, rfl⟩
  all_goals simp only [beq_iff_eq, beq_eq_false_iff_ne, bne_iff_ne, ne_eq, decide_eq_true_eq, Bool.false_eq_true, false_iff] at *
  all_goals omega
 rintro _ _ ⟨rfl, rfl⟩
 refine Ac (λ h1 => ?_) (λ h1 => ?_)
 ·simp only [decide_eq_true_eq] at h1
  rw [if_pos h1] at h; exact h
 simp only [decide_eq_false_iff_not] at h1
 rw [if_neg h1] at h
 refine Bp3 (Ac (λ h2 => ?_) (λ h2 => ?_))
 ·rw [h2] at h; exact h
 ·rw [h2] at h; exact h
theorem Az9 {a : Int} {K : Int -> Wp} (h : K ((wrd a : Nat) : Int) w) : Aa Tryz.prog 33 #[.int .i64 a] rI K w := by
 refine A33 ?_
 unfold F33
 rw [Cc4] at h
 refine Bp4 (Ac (λ h1 => ?_) (λ h1 => Bp2 (Ac (λ h2 => ?_) (λ h2 => ?_))))
 ·rw [h1] at h; exact h
 ·rw [h1, h2] at h; exact h
 ·rw [h1, h2] at h; exact h
end
end Go.Proofs.YtolhlldgnfbemaaGreatDoor
