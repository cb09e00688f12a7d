/- YtolhlldgnfbemaaGreatDoorXWo5: parts of the proof, put together by program. -/
import Derived.Test.YtolhlldgnfbemaaGreatDoorXWo4
set_option linter.unusedVariables false
set_option linter.unusedSimpArgs false
set_option linter.unusedSectionVars false
noncomputable section
set_option maxRecDepth 100000
namespace Go.Proofs.YtolhlldgnfbemaaGreatDoor
open Cdc
namespace Gly
structure Row where
 lo : Nat
 hi : Nat
 v : Nat
def digit (c : UInt8) : Nat := if 57 < c.toNat then c.toNat - 55 else c.toNat - 48
def num (l : Bs) : Nat := l.foldl (λ n c => n * 16 + digit c) 0
def okC (c : UInt8) : Bool := (Nat.ble 48 c.toNat && Nat.ble c.toNat 57) || (Nat.ble 65 c.toNat && Nat.ble c.toNat 70)
def Ou : Nat -> Bs -> List Row
 | 0, _ => []
 | n + 1, l => ⟨num (l.take 5), num ((l.drop 5).take 5), num ((l.drop 10).take 1)⟩ :: Ou n (l.drop 11)
def Ja : List Row -> Nat -> Nat
 | [], _ => 0
 | r :: t, a => bif Nat.ble r.lo a && Nat.ble a r.hi then r.v else Ja t a
def srt : Nat -> List Row -> Bool
 | _, [] => true
 | m, r :: t => Nat.ble m r.lo && (Nat.ble r.lo r.hi && srt (r.hi + 1) t)
theorem Bf8 (c : UInt8) : okC c = true ↔ (48 <= c.toNat /\ c.toNat <= 57) \/ (65 <= c.toNat /\ c.toNat <= 70) := by
 simp [okC, Nat.ble_eq]
theorem Ae9 : ∀ (n : Nat) (l : Bs), (Ou n l).length = n
 | 0, _ => rfl
 | n + 1, l => by rw [Ou, List.length_cons, Ae9]
theorem Af0 : ∀ (n : Nat) (l : Bs) (m : Nat), m < n -> (Ou n l)[m]? = some ⟨num ((l.drop (11 * m)).take 5), num ((l.drop (11 * m + 5)).take 5), num ((l.drop (11 * m + 10)).take 1)⟩
 | n + 1, l, 0, _ => by simp [Ou]
 | n + 1, l, m + 1, h => by
  rw [Ou, List.getElem?_cons_succ, Af0 n _ m (by omega)]
  simp only [List.drop_drop]
  rw [show 11 + 11 * m = 11 * (m + 1) by omega, show 11 + (11 * m + 5) = 11 * (m + 1) + 5 by omega, show 11 + (11 * m + 10) = 11 * (m + 1) + 10 by omega]
theorem P8 : ∀ {T : List Row} {m : Nat}, srt m T = true -> ∀ {i : Nat} {r : Row}, T[i]? = some r -> m <= r.lo /\ r.lo <= r.hi
 | [], _, _, i, r, hr => by simp at hr
 | x :: t, m, h, 0, r, hr => by
  cases hr
  simp only [srt, Bool.and_eq_true, Nat.ble_eq] at h
  exact ⟨h.1, h.2.1⟩
 | x :: t, m, h, i + 1, r, hr => by
  simp only [srt, Bool.and_eq_true, Nat.ble_eq] at h
  have := P8 h.2.2 (i := i) (by simpa using hr)
  exact ⟨by omega, this.2⟩
theorem Aj4 : ∀ {T : List Row} {m : Nat}, srt m T = true -> ∀ {i j : Nat} {r s : Row}, i < j -> T[i]? = some r -> T[j]? = some s -> r.hi < s.lo
 | [], _, _, i, j, r, s, _, hr, _ => by simp at hr
 | x :: t, m, h, 0, j + 1, r, s, _, hr, hs => by
  cases hr
  simp only [srt, Bool.and_eq_true, Nat.ble_eq] at h
  have := P8 h.2.2 (i := j) (by simpa using hs)
  omega
 | x :: t, m, h, i + 1, j + 1, r, s, hij, hr, hs => by
  simp only [srt, Bool.and_eq_true, Nat.ble_eq] at h
  exact Aj4 h.2.2 (i := i) (j := j) (by omega) (by simpa using hr) (by simpa using hs)
theorem Ag6 : ∀ {T : List Row} {a : Nat}, (∀ (i : Nat) (r : Row), T[i]? = some r -> a < r.lo \/ r.hi < a) -> Ja T a = 0
 | [], _, _ => rfl
 | x :: t, a, h => by
  have h0 := h 0 x rfl
  have : (Nat.ble x.lo a && Nat.ble a x.hi) = false := by
   rw [Bool.eq_false_iff]
   simp only [ne_eq, Bool.and_eq_true, Nat.ble_eq]
   omega
  rw [Ja, this]
  exact Ag6 λ i r hr => h (i + 1) r (by simpa using hr)
theorem Bg7 : ∀ {T : List Row} {m a : Nat}, srt m T = true -> ∀ {i : Nat} {r : Row}, T[i]? = some r -> r.lo <= a -> a <= r.hi -> Ja T a = r.v
 | [], _, _, _, i, r, hr, _, _ => by simp at hr
 | x :: t, m, a, h, 0, r, hr, h1, h2 => by
  cases hr
  have : (Nat.ble x.lo a && Nat.ble a x.hi) = true := by simp only [Bool.and_eq_true, Nat.ble_eq]; omega
  rw [Ja, this]; rfl
 | x :: t, m, a, h, i + 1, r, hr, h1, h2 => by
  have hlt := Aj4 h (i := 0) (j := i + 1) (by omega) rfl hr
  have : (Nat.ble x.lo a && Nat.ble a x.hi) = false := by
   rw [Bool.eq_false_iff]
   simp only [ne_eq, Bool.and_eq_true, Nat.ble_eq]
   omega
  rw [Ja, this]
  simp only [srt, Bool.and_eq_true, Nat.ble_eq] at h
  exact Bg7 h.2.2 (i := i) (by simpa using hr) h1 h2
theorem Cm7 : ∀ (l : Bs), l.all okC = true -> num l < 16 ^ l.length := by
 have key : ∀ (l : Bs) (n k : Nat), l.all okC = true -> n < 16 ^ k -> l.foldl (λ n c => n * 16 + digit c) n < 16 ^ (k + l.length) := by
  intro l
  induction l with
  | nil => intro n k _ h; simpa using h
  | cons c r ih =>
   intro n k h hn
   simp only [List.all_cons, Bool.and_eq_true] at h
   have hc := (Bf8 c).1 h.1
   have hd : digit c < 16 := by unfold digit; split <;> omega
   rw [List.foldl_cons, List.length_cons, show k + (r.length + 1) = (k + 1) + r.length by omega]
   refine ih _ _ h.2 ?_
   rw [Nat.pow_succ]; omega
 intro l h
 have := key l 0 0 h (by simp)
 simpa [num] using this
def Cn7 : List Row := Ou 324 Pm.data.toList
def Ci0 : List Row := Ou 26 Pn.data.toList
def Bi7 : List Row := Ou 81 Pj.data.toList
instance (a : Int) : Decidable (Scalar a) := by unfold Scalar; infer_instance
def cls (a : Int) : Nat :=
 if Scalar a then (if 44032 <= a /\ a < 55204 then (if (a.toNat - 44032) % 28 = 0 then 12 else 13) else Ja Cn7 a.toNat) else 3
def cnj (a : Int) : Nat :=
 if a = 2381 \/ a = 2509 \/ a = 2765 \/ a = 2893 \/ a = 3149 \/ a = 3405 then 3 else if a = 8204 then 0 else if cls a = 4 \/ cls a = 5 then 2 else if cls a = 0 /\ Scalar a then Ja Ci0 a.toNat else 0
def wrd (a : Int) : Nat :=
 if Scalar a then (if Ja Bi7 a.toNat = 2 then 2 else if Ja Bi7 a.toNat = 1 then 0 else 1) else 1
end Gly
end Go.Proofs.YtolhlldgnfbemaaGreatDoor
namespace Go.Proofs.YtolhlldgnfbemaaGreatDoor
open Gly
namespace Clu
structure Sc where
 last : Nat
 flags : Nat
 pict : Nat
 conj : Nat
def Sc.zero : Sc := ⟨0, 0, 0, 0⟩
def Sc.note (s : Sc) (c p : Nat) : Sc :=
 ⟨c, if c = 6 then s.flags + 1 else 0, if c = 14 then 1 else if s.pict = 1 /\ c = 5 then 2 else if s.pict = 1 /\ c = 4 then s.pict else 0,
  if p = 1 then 1 else if 0 < s.conj /\ p = 3 then 2 else if 0 < s.conj /\ p = 2 then s.conj else 0⟩
def apart (c : Nat) : Bool := decide (c = 1 \/ c = 2 \/ c = 3)
def Jh (l r : Nat) : Bool :=
 decide ((l = 9 /\ (r = 9 \/ r = 10 \/ r = 12 \/ r = 13)) \/ ((l = 12 \/ l = 10) /\ (r = 10 \/ r = 11)) \/ ((l = 13 \/ l = 11) /\ r = 11))
def joins (s : Sc) (c p : Nat) : Bool :=
 if s.last = 1 /\ c = 2 then true else if apart s.last = true \/ apart c = true then false else if c = 4 \/ c = 5 \/ c = 8 \/ s.last = 7 then true else if Jh s.last c then true
 else if p = 1 /\ s.conj = 2 then true else if c = 14 then s.pict == 2 else if c = 6 then s.flags % 2 == 1 else false
def stp (s : Sc) (a : Int) : Sc := if joins s (cls a) (cnj a) then s.note (cls a) (cnj a) else Sc.zero.note (cls a) (cnj a)
def sc (l : List Int) : Sc := l.foldl stp Sc.zero
theorem V3 (a : Int) : stp Sc.zero a = Sc.zero.note (cls a) (cnj a) := by unfold stp; split <;> rfl
theorem Be5 {s : Sc} {a : Int} (h : joins s (cls a) (cnj a) = false) : stp s a = stp Sc.zero a := by rw [V3]; unfold stp; rw [if_neg (by rw [h]; decide)]
theorem Ae5 {s : Sc} {a : Int} (h : joins s (cls a) (cnj a) = true) : stp s a = s.note (cls a) (cnj a) := by unfold stp; rw [if_pos h]
theorem Xr (l : List Int) (a : Int) : sc (l ++ [a]) = stp (sc l) a := by simp [sc]
theorem Bn8 (s : Sc) (a : Int) : (stp s a).flags <= s.flags + 1 := by
 unfold stp
 split <;> (simp only [Sc.note, Sc.zero]; split <;> omega)
theorem Bx1 (l : List Int) : (sc l).flags <= l.length := by
 have key : ∀ (l : List Int) (s : Sc), (l.foldl stp s).flags <= s.flags + l.length := by
  intro l
  induction l with
  | nil => intro s; simp
  | cons a r ih => intro s; have := ih (stp s a); have := Bn8 s a; simp only [List.foldl_cons, List.length_cons]; omega
 have := key l Sc.zero
 simpa [sc, Sc.zero] using this
theorem As5 (s : Sc) (a : Int) : (stp s a).last = cls a := by unfold stp; split <;> rfl
def bk (A : List Int) (k : Nat) : Bool := match A[k]? with
 | some a => k == 0 || !joins (sc (A.take k)) (cls a) (cnj a)
 | none => k == A.length
theorem Zc (A : List Int) : bk A 0 = true := by
 unfold bk
 cases A <;> simp
theorem An6 (A : List Int) : bk A A.length = true := by
 unfold bk
 rw [List.getElem?_eq_none (Nat.le_refl _)]
 simp
theorem Bi3 {A : List Int} {k : Nat} {a : Int} (h : A[k]? = some a) (h0 : 0 < k) : bk A k = !joins (sc (A.take k)) (cls a) (cnj a) := by
 unfold bk
 rw [h]
 have : (k == 0) = false := by rw [beq_eq_false_iff_ne]; omega
 simp [this]
theorem Av2 {A : List Int} {k : Nat} (h : bk A k = true) : k <= A.length := by
 unfold bk at h
 split at h
 ·rename_i a ha
  have := (List.getElem?_eq_some_iff.1 ha).1
  omega
 ·simp only [beq_iff_eq] at h; omega
theorem Cp4 {A : List Int} {i : Nat} {a : Int} (hb : bk A i = true) (ha : A[i]? = some a) : sc (A.take (i + 1)) = sc [a] := by
 rw [List.take_add_one, ha]
 show sc (A.take i ++ [a]) = _
 rw [Xr]
 show _ = stp Sc.zero a
 cases i with
 | zero => rfl
 | succ i =>
  rw [Bi3 ha (by omega)] at hb
  exact Be5 (by simpa using hb)
def Jv (A : List Int) (k : Nat) : List Nat := (List.range (k + 1)).filter (bk A)
def cuts (A : List Int) : List Nat := Jv A A.length
theorem At9 (A : List Int) : Jv A 0 = [0] := by
 unfold Jv
 have : List.range (0 + 1) = [0] := rfl
 rw [this, List.filter_cons_of_pos (Zc A)]; rfl
theorem Au0 {A : List Int} {i j : Nat} (hij : i < j) (hb : bk A j = true) (hn : ∀ k, i < k -> k < j -> bk A k = false) : Jv A j = Jv A i ++ [j] := by
 unfold Jv
 have key : ∀ d, i + d < j -> (List.range (i + d + 1)).filter (bk A) = (List.range (i + 1)).filter (bk A) := by
  intro d
  induction d with
  | zero => intro _; rfl
  | succ d ih =>
   intro h
   rw [show i + (d + 1) + 1 = (i + d + 1) + 1 by omega, List.range_succ, List.filter_append, ih (by omega), List.filter_cons_of_neg (by rw [hn _ (by omega) (by omega)]; decide)]
   simp
 rw [List.range_succ, List.filter_append, List.filter_cons_of_pos hb]
 obtain ⟨d, rfl⟩ : ∃ d, j = i + d + 1 := ⟨j - i - 1, by omega⟩
 rw [key d (by omega)]; rfl
theorem Ar7 {A : List Int} {k : Nat} : k ∈ cuts A ↔ bk A k = true := by
 unfold cuts Jv
 rw [List.mem_filter, List.mem_range]
 exact ⟨λ h => h.2, λ h => ⟨by have := Av2 h; omega, h⟩⟩
theorem Ch8 {A : List Int} : (cuts A).Pairwise (· < ·) := (List.pairwise_lt_range).filter _
theorem Ab0 (A : List Int) (k : Nat) : (Jv A k).length <= k + 1 := by
 unfold Jv
 have := List.length_filter_le (bk A) (List.range (k + 1))
 rwa [List.length_range] at this
end Clu
end Go.Proofs.YtolhlldgnfbemaaGreatDoor
namespace Go.Proofs.YtolhlldgnfbemaaGreatDoor
open Go Go.Vx
def F131 (a0 : Sl) (K : Sl -> Wp) : Wp := Af (.cells #[(vI 0)] 3) λ b1 => Af (.cells #[(.slice none 0 0)] 43) λ b2 => stC (at0 b2) (.slice (some (at0 b1)) 1 1) <| Aa Tryz.prog 177 #[a0.v, (vI 0), (.func (Fn.func 178) #[] #[(.pointer (some (at0 b2)))])] (.tup []) λ (x3 : (Unit)) => ld (.sl) (at0 b2) λ (x4 : Sl) => K x4
def Dc6 : Hint := (hS (hR 1) (hS (hR 3) (hS (hR 3) (hS (hR 2) hL))))
theorem Dq5 {a0 : Sl} {K : Sl -> Wp} {w : World} (h : F131 a0 K w) : Aa Tryz.prog 131 #[a0.v] rS K w := tied Ai Tryz.func131 Dc6 _ h
def F177 (a0 : Sl) (a1 : Int) (a2 : Value) (K : Unit -> Wp) : Wp := sI (λ s1 again2 => sif (decide (s1.1 < ((a0.len : Nat) : Int))) ( ixI a0 s1.1 1 λ x4 => Aa Tryz.prog 201 #[(vI x4)] (.one (.agg Ab8)) λ (x5 : I4) => Af (.cells #[(vI 0), (vI 0), (vI 0), (vI 0)] 205) λ b6 => Ad (at0 b6) (vA Ab8 x5) 4 <| jU (λ J7 => sI (λ s9 again10 => sif (decide (s9.1 < ((a0.len : Nat) : Int))) ( ixI a0 s9.1 1 λ x12 => cB 202 #[(.pointer (some (at0 b6))), (vI x12)] λ x13 => sif x13 ( again10 ((W64 (s9.1 + 1)), ())) ( Bv Tryz.prog (do let d ← Deferred.ofValue a2 #[(vI s9.1)]; invoke d.target d.args : Sem Next) rB λ (x14 : Bool) => sif (!x14) ( K ()) ( again2 (s9.1, ())))) ( J7 ())) ((W64 (s1.1 + 1)), ())) λ s8 => Bv Tryz.prog (do let d ← Deferred.ofValue a2 #[(vI ((a0.len : Nat) : Int))]; invoke d.target d.args : Sem Next) rB λ (x15 : Bool) => K ()) ( K ())) (a1, ())
def Cz5 : Hint := (.scope (hS (hR 2) (hS hL (.block (.loop 0x1fffffffdc0 [(6, tI)] (hS (hS (hR 4) (hC hL hL)) (.block (hS (hR 7) (hJ (0x1ffff80140, []) (hS (hR 3) (.block (.loop 0x1fffe00140 [(8, tI)] (hS (hS (hR 4) (hC hL hL)) (hS (.block (hS (hS (hR 5) (hC hL hL)) (hS (hS (hR 4) (hC hL hL)) (hS (hR 2) hL)))) (hR 3)))))) (hS (hR 4) hL))))))))))
theorem Dn6 {a0 : Sl} {a1 : Int} {a2 : Value} {K : Unit -> Wp} {w : World} (h : F177 a0 a1 a2 K w) : Aa Tryz.prog 177 #[a0.v, (vI a1), a2] (.tup []) K w := tied Ai Tryz.func177 Cz5 _ h
def F178 (a0 : Int) (v0 : Addr) (K : Bool -> Wp) : Wp := ld (.sl) v0 λ (x1 : Sl) => Af (.cells #[(vI a0)] 3) λ b2 => Dt Tryz.prog rS (Builtin.append_ #[43, 43] 43 #[x1.v, (.slice (some (at0 b2)) 1 1)]) λ (x3 : Sl) => stC v0 x3.v <| K true
def Cz4 : Hint := (hS (hR 1) (hS (hR 5) (hS (hR 1) hL)))
theorem Dn5 {a0 : Int} {v0 : Addr} {K : Bool -> Wp} {w : World} (h : F178 a0 v0 K w) : Aa Tryz.prog 178 #[(vI a0), (.pointer (some v0))] rB K w := tied Ai Tryz.func178 Cz4 _ h
def F201 (a0 : Int) (K : I4 -> Wp) : Wp := Af (.cells #[(vI 0), (vI 0), (vI 0), (vI 0)] 205) λ b1 => Af (.cells #[(vI 0), (vI 0), (vI 0), (vI 0)] 205) λ b2 => cN 207 #[(vI a0)] λ x3 => cN 208 #[(vI a0)] λ x4 => Aa Tryz.prog 206 #[(.pointer (some (at0 b2))), (vI x3), (vI x4)] (.tup []) λ (x5 : (Unit)) => lds Ab8 (at0 b2) λ (x6 : I4) => Ad (at0 b1) (vA Ab8 x6) 4 <| lds Ab8 (at0 b1) λ (x7 : I4) => K x7
def Cx7 : Hint := (hS (hR 1) (hS (hR 1) (hS (hR 5) (hS (hR 2) hL))))
theorem Dm0 {a0 : Int} {K : I4 -> Wp} {w : World} (h : F201 a0 K w) : Aa Tryz.prog 201 #[(vI a0)] (.one (.agg Ab8)) K w := tied Ai Tryz.func201 Cx7 _ h
def F202 (a0 : Option Addr) (a1 : Int) (K : Bool -> Wp) : Wp := cN 207 #[(vI a1)] λ x1 => cN 208 #[(vI a1)] λ x2 => jB (λ J3 => jB (λ J5 => nn a0 λ p7 => lI p7 λ x8 => sif (x8 == 1) ( J5 ((x1 == 2), ())) ( J5 (false, ()))) λ s6 => sif s6.1 ( J3 (true, ())) ( jB (λ J9 => nn a0 λ p11 => lI p11 λ x12 => cB 209 #[(vI x12)] λ x13 => sif x13 ( J9 (x13, ())) ( cB 209 #[(vI x1)] λ x14 => J9 (x14, ()))) λ s10 => sif s10.1 ( J3 (false, ())) ( jB (λ J15 => sif (x1 == 4) ( J15 ((x1 == 4), ())) ( sif (x1 == 5) ( J15 ((x1 == 5), ())) ( sif (x1 == 8) ( J15 ((x1 == 8), ())) ( nn a0 λ p17 => lI p17 λ x18 => J15 ((x18 == 7), ()))))) λ s16 => sif s16.1 ( J3 (true, ())) ( nn a0 λ p19 => lI p19 λ x20 => cB 210 #[(vI x20), (vI x1)] λ x21 => sif x21 ( J3 (true, ())) ( jB (λ J22 => sif (x2 == 1) ( nn a0 λ p24 => ld cI (p24.add 3) λ (x25 : Int) => J22 ((x25 == 2), ())) ( J22 (false, ()))) λ s23 => sif s23.1 ( J3 (true, ())) ( sif (x1 == 14) ( nn a0 λ p26 => ld cI (p26.add 2) λ (x27 : Int) => J3 ((x27 == 2), ())) ( sif (x1 == 6) ( nn a0 λ p28 => ld cI (p28.add 1) λ (x29 : Int) => chk ((2 : Int) ≠ 0) <| J3 (((Int.tmod x29 2) == 1), ())) ( J3 (false, ()))))))))) λ s4 => jU (λ J30 => sif s4.1 ( Aa Tryz.prog 206 #[(.pointer a0), (vI x1), (vI x2)] (.tup []) λ (x32 : (Unit)) => J30 ()) ( J30 ())) λ s31 => K s4.1
def Cx6 : Hint := (hS (hR 1) (hS (hR 6) (hS (hR 1) (hJ (0xffffffffffffffff080, [(7, tB)]) (.block (hJ (4190208, [(12, tB)]) (.region [] (.ops 6 (.split 18 (hO 4) (.skips 2 (hO 2))))) (hC (hR 1) (hJ (0x3fc00000, [(22, tB)]) (hS (hR 6) (hC hL (hR 3))) (hC hL (hJ (0x3ffc0000000, [(30, tB)]) (hS (hR 3) (hC hL (hS (hR 3) (hC hL (hS (hR 3) (hC hL (hR 6))))))) (hC (hR 1) (hS (hR 7) (hC (hR 1) (hJ ((mR [(49, 59)]), [(49, tB)]) (.region [] (.ops 3 (.split 52 (hO 7) (.skips 5 (hO 2))))) (hC (hR 1) (hS (hR 3) (hC (hR 6) (hS (hR 3) (hC (hR 7) hL))))))))))))))) (hJ ((mR [(76, 81)]), []) (hS (hR 1) (hC (hR 4) hL)) (hS (hR 2) hL))))))
theorem Dl9 {a0 : Option Addr} {a1 : Int} {K : Bool -> Wp} {w : World} (h : F202 a0 a1 K w) : Aa Tryz.prog 202 #[(.pointer a0), (vI a1)] rB K w := tied Ai Tryz.func202 Cx6 _ h
def F205 (a0 : Int) (K : Int -> Wp) : Wp := cB 211 #[(vI a0)] λ x1 => sif (!x1) ( K 1) ( cN 212 #[(.string Pj), (vI a0)] λ x2 => sif (x2 == 2) ( K 2) ( sif (x2 == 1) ( K 0) ( K 1)))
def Cx3 : Hint := (hS (hR 1) (hS (hS (hR 3) (hC (hS (hR 1) hL) hL)) (hS (hS (hR 2) (.block (hS (hR 2) (hC (hS (hR 1) hL) (hS (hR 2) (hC (hS (hR 1) hL) hL)))))) (hS (hR 1) hL))))
theorem Dl7 {a0 : Int} {K : Int -> Wp} {w : World} (h : F205 a0 K w) : Aa Tryz.prog 205 #[(vI a0)] rI K w := tied Ai Tryz.func205 Cx3 _ h
def F206 (a0 : Option Addr) (a1 : Int) (a2 : Int) (K : Unit -> Wp) : Wp := nn a0 λ p1 => stC p1 (vI a1) <| jU (λ J2 => sif (a1 == 6) ( nn a0 λ p4 => ld cI (p4.add 1) λ (x5 : Int) => nn a0 λ p6 => stC (p6.add 1) (vI (W64 (x5 + 1))) <| J2 ()) ( nn a0 λ p7 => stC (p7.add 1) (vI 0) <| J2 ())) λ s3 => jU (λ J8 => sif (a1 == 14) ( nn a0 λ p10 => stC (p10.add 2) (vI 1) <| J8 ()) ( jB (λ J11 => nn a0 λ p13 => ld cI (p13.add 2) λ (x14 : Int) => sif (x14 == 1) ( J11 ((a1 == 5), ())) ( J11 (false, ()))) λ s12 => sif s12.1 ( nn a0 λ p15 => stC (p15.add 2) (vI 2) <| J8 ()) ( jB (λ J16 => nn a0 λ p18 => ld cI (p18.add 2) λ (x19 : Int) => sif (x19 == 1) ( J16 ((a1 == 4), ())) ( J16 (false, ()))) λ s17 => sif s17.1 ( J8 ()) ( nn a0 λ p20 => stC (p20.add 2) (vI 0) <| J8 ())))) λ s9 => sif (a2 == 1) ( nn a0 λ p21 => stC (p21.add 3) (vI 1) <| K ()) ( jB (λ J22 => nn a0 λ p24 => ld cI (p24.add 3) λ (x25 : Int) => sif (decide (x25 > 0)) ( J22 ((a2 == 3), ())) ( J22 (false, ()))) λ s23 => sif s23.1 ( nn a0 λ p26 => stC (p26.add 3) (vI 2) <| K ()) ( jB (λ J27 => nn a0 λ p29 => ld cI (p29.add 3) λ (x30 : Int) => sif (decide (x30 > 0)) ( J27 ((a2 == 2), ())) ( J27 (false, ()))) λ s28 => sif s28.1 ( K ()) ( nn a0 λ p31 => stC (p31.add 3) (vI 0) <| K ())))
def Cx2 : Hint := (hS (hR 5) (hJ (4193280, []) (hS (hR 2) (hC (hR 8) (hR 4))) (hJ ((mR [(22, 54)]), []) (.block (hS (hR 3) (hC (hR 4) (hJ (0x1ff80000000, [(31, tB)]) (.region [] (.ops 6 (.split 37 (hO 4) (.skips 2 (hO 2))))) (hC (hR 4) (hJ ((mR [(44, 54)]), [(44, tB)]) (.region [] (.ops 6 (.split 50 (hO 4) (.skips 2 (hO 2))))) (hC hL (hR 4)))))))) (.block (hS (hR 3) (hC (hR 4) (hJ ((mR [(63, 73)]), [(63, tB)]) (.region [] (.ops 6 (.split 69 (hO 4) (.skips 2 (hO 2))))) (hC (hR 4) (hJ ((mR [(76, 86)]), [(76, tB)]) (.region [] (.ops 6 (.split 82 (hO 4) (.skips 2 (hO 2))))) (hC hL (hR 4)))))))))))
theorem Dl6 {a0 : Option Addr} {a1 : Int} {a2 : Int} {K : Unit -> Wp} {w : World} (h : F206 a0 a1 a2 K w) : Aa Tryz.prog 206 #[(.pointer a0), (vI a1), (vI a2)] (.tup []) K w := tied Ai Tryz.func206 Cx2 _ h
def F207 (a0 : Int) (K : Int -> Wp) : Wp := cB 211 #[(vI a0)] λ x1 => sif (!x1) ( K 3) ( jB (λ J2 => sif (decide ((W64 (a0 - 44032)) >= 0)) ( J2 ((decide ((W64 (a0 - 44032)) < 11172)), ())) ( J2 (false, ()))) λ s3 => sif s3.1 ( chk ((28 : Int) ≠ 0) <| sif ((Int.tmod (W64 (a0 - 44032)) 28) == 0) ( K 12) ( K 13)) ( cN 212 #[(.string Pm), (vI a0)] λ x4 => K x4))
def Cx1 : Hint := (hS (hR 1) (hS (hS (hR 3) (hC (hS (hR 1) hL) hL)) (hS (hS (hR 3) (hJ (32256, [(14, tB)]) (.region [] (.ops 3 (.split 11 (hO 3) (.skips 2 (hO 1))))) (hC (hS (hS (hR 3) (hC (hS (hR 1) hL) hL)) (hS (hR 1) hL)) hL))) (hS (hR 3) hL))))
theorem Dl5 {a0 : Int} {K : Int -> Wp} {w : World} (h : F207 a0 K w) : Aa Tryz.prog 207 #[(vI a0)] rI K w := tied Ai Tryz.func207 Cx1 _ h
def F208 (a0 : Int) (K : Int -> Wp) : Wp := jB (λ J1 => sif (a0 == 2381) ( J1 ((a0 == 2381), ())) ( sif (a0 == 2509) ( J1 ((a0 == 2509), ())) ( sif (a0 == 2765) ( J1 ((a0 == 2765), ())) ( sif (a0 == 2893) ( J1 ((a0 == 2893), ())) ( sif (a0 == 3149) ( J1 ((a0 == 3149), ())) ( J1 ((a0 == 3405), ()))))))) λ s2 => sif s2.1 ( K 3) ( sif (a0 == 8204) ( K 0) ( jU (λ J3 => cN 207 #[(vI a0)] λ x5 => jB (λ J6 => sif (x5 == 4) ( J6 ((x5 == 4), ())) ( J6 ((x5 == 5), ()))) λ s7 => sif s7.1 ( K 2) ( sif (x5 == 0) ( cB 211 #[(vI a0)] λ x8 => sif x8 ( cN 212 #[(.string Pn), (vI a0)] λ x9 => K x9) ( J3 ())) ( J3 ()))) λ s4 => K 0))
def Cx0 : Hint := (hS (hR 1) (hS (hS (hR 1) (.block (hJ (2032, [(4, tB)]) (hS (hR 2) (hC hL (hS (hR 2) (hC hL (hS (hR 2) (hC hL (hS (hR 2) (hC hL (hS (hR 2) (hC hL (hR 2))))))))))) (hC (hS (hR 1) hL) (hS (hR 2) (hC (hS (hR 1) hL) hL)))))) (hJ (0xffe004, []) (hS (hR 2) (.block (hJ (229376, [(15, tB)]) (hS (hR 2) (hC hL (hR 2))) (hC (hS (hR 1) hL) (hS (hR 2) (hC (hS (hR 2) (hC (hS (hR 3) hL) hL)) hL)))))) (hS (hR 1) hL))))
theorem Dl4 {a0 : Int} {K : Int -> Wp} {w : World} (h : F208 a0 K w) : Aa Tryz.prog 208 #[(vI a0)] rI K w := tied Ai Tryz.func208 Cx0 _ h
def F209 (a0 : Int) (K : Bool -> Wp) : Wp := sif (a0 == 1) ( K true) ( sif (a0 == 2) ( K true) ( K (a0 == 3)))
def Cw9 : Hint := (hS (hR 1) (hS (.region [] (.ops 3 (.split 5 (.skips 2 (.ops 2 (.skips 2 (hO 2)))) (.ops 4 (.split 9 (.skips 2 (hO 2)) (hO 4)))))) hL))
theorem Dl3 {a0 : Int} {K : Bool -> Wp} {w : World} (h : F209 a0 K w) : Aa Tryz.prog 209 #[(vI a0)] rB K w := tied Ai Tryz.func209 Cw9 _ h
def F210 (a0 : Int) (a1 : Int) (K : Bool -> Wp) : Wp := jU (λ J1 => jB (λ J3 => sif (a1 == 9) ( J3 ((a1 == 9), ())) ( sif (a1 == 12) ( J3 ((a1 == 12), ())) ( J3 ((a1 == 13), ())))) λ s4 => sif s4.1 ( K (a0 == 9)) ( sif (a1 == 10) ( sif (a0 == 9) ( K true) ( J1 ())) ( sif (a1 == 11) ( J1 ()) ( K false)))) λ s2 => jB (λ J5 => sif (a0 == 12) ( J5 (true, ())) ( J5 ((a0 == 10), ()))) λ s6 => sif s6.1 ( K true) ( sif (a1 == 11) ( sif (a0 == 13) ( K true) ( K (a0 == 11))) ( K false))
def Cw8 : Hint := (hS (hR 1) (hS (hS (hR 1) (.block (hJ (262096, []) (.block (hS (.block (hS (.block (hS (hS (hJ (960, [(6, tB)]) (hS (hR 2) (hC hL (hS (hR 2) (hC hL (hR 2))))) (hC hL hL)) (hS (hS (hR 2) (hC hL hL)) (hS (hR 2) (hC hL hL)))) hL)) (hS (hS (hR 3) hL) hL))) (hS (hR 2) (hC (hS (hR 1) hL) hL)))) (hS (hS (hJ (0xfc0000, [(23, tB)]) (.region [] (.ops 3 (.split 20 (.skips 2 (hO 1)) (hO 3)))) (hC (hS (hR 1) hL) hL)) (hS (.region [] (.ops 3 (.split 26 (.ops 3 (.split 29 (.skips 2 (hO 3)) (hO 5))) (.skips 6 (hO 2))))) hL)) hL)))) (hS (hR 1) hL)))
theorem Dl2 {a0 : Int} {a1 : Int} {K : Bool -> Wp} {w : World} (h : F210 a0 a1 K w) : Aa Tryz.prog 210 #[(vI a0), (vI a1)] rB K w := tied Ai Tryz.func210 Cw8 _ h
def F211 (a0 : Int) (K : Bool -> Wp) : Wp := sif (decide (a0 >= 0)) ( sif (decide (a0 < 55296)) ( K true) ( sif (decide (a0 > 57343)) ( K (decide (a0 <= 1114111))) ( K false))) ( sif (decide (a0 > 57343)) ( K (decide (a0 <= 1114111))) ( K false))
def Cw7 : Hint := (hS (hR 1) (hS (.region [] (.ops 3 (.split 5 (.ops 4 (.split 9 (.skips 6 (hO 2)) (.ops 3 (.split 12 (hO 5) (.skips 2 (hO 3)))))) (.skips 2 (.ops 5 (.split 12 (hO 5) (.skips 2 (hO 3)))))))) hL))
theorem Dl1 {a0 : Int} {K : Bool -> Wp} {w : World} (h : F211 a0 K w) : Aa Tryz.prog 211 #[(vI a0)] rB K w := tied Ai Tryz.func211 Cw7 _ h
def F212 (a0 : ByteArray) (a1 : Int) (K : Int -> Wp) : Wp := chk ((11 : Int) ≠ 0) <| jU (λ J1 => sN (λ s3 again4 => sif (decide (s3.1 < s3.2.1)) ( chk ((2 : Int) ≠ 0) <| chk (0 <= (W64 ((W64 (Int.tdiv (W64 (s3.1 + s3.2.1)) 2)) * 11)) /\ (W64 ((W64 (Int.tdiv (W64 (s3.1 + s3.2.1)) 2)) * 11)) <= (W64 ((W64 ((W64 (Int.tdiv (W64 (s3.1 + s3.2.1)) 2)) + 1)) * 11)) /\ (W64 ((W64 ((W64 (Int.tdiv (W64 (s3.1 + s3.2.1)) 2)) + 1)) * 11)) <= ((a0.size : Nat) : Int)) <| chk (0 <= (0 : Int) /\ (0 : Int) <= 5 /\ 5 <= (((a0.extract (Int.toNat (W64 ((W64 (Int.tdiv (W64 (s3.1 + s3.2.1)) 2)) * 11))) (Int.toNat (W64 ((W64 ((W64 (Int.tdiv (W64 (s3.1 + s3.2.1)) 2)) + 1)) * 11)))).size : Nat) : Int)) <| cN 213 #[(.string ((a0.extract (Int.toNat (W64 ((W64 (Int.tdiv (W64 (s3.1 + s3.2.1)) 2)) * 11))) (Int.toNat (W64 ((W64 ((W64 (Int.tdiv (W64 (s3.1 + s3.2.1)) 2)) + 1)) * 11)))).extract (Int.toNat 0) (Int.toNat 5)))] λ x5 => sif (decide (a1 < x5)) ( again4 (s3.1, (W64 (Int.tdiv (W64 (s3.1 + s3.2.1)) 2)), ())) ( chk (0 <= (5 : Int) /\ (5 : Int) <= 10 /\ 10 <= (((a0.extract (Int.toNat (W64 ((W64 (Int.tdiv (W64 (s3.1 + s3.2.1)) 2)) * 11))) (Int.toNat (W64 ((W64 ((W64 (Int.tdiv (W64 (s3.1 + s3.2.1)) 2)) + 1)) * 11)))).size : Nat) : Int)) <| cN 213 #[(.string ((a0.extract (Int.toNat (W64 ((W64 (Int.tdiv (W64 (s3.1 + s3.2.1)) 2)) * 11))) (Int.toNat (W64 ((W64 ((W64 (Int.tdiv (W64 (s3.1 + s3.2.1)) 2)) + 1)) * 11)))).extract (Int.toNat 5) (Int.toNat 10)))] λ x6 => sif (decide (a1 > x6)) ( again4 ((W64 ((W64 (Int.tdiv (W64 (s3.1 + s3.2.1)) 2)) + 1)), s3.2.1, ())) ( chk (0 <= (10 : Int) /\ 10 <= (((a0.extract (Int.toNat (W64 ((W64 (Int.tdiv (W64 (s3.1 + s3.2.1)) 2)) * 11))) (Int.toNat (W64 ((W64 ((W64 (Int.tdiv (W64 (s3.1 + s3.2.1)) 2)) + 1)) * 11)))).size : Nat) : Int) /\ (((a0.extract (Int.toNat (W64 ((W64 (Int.tdiv (W64 (s3.1 + s3.2.1)) 2)) * 11))) (Int.toNat (W64 ((W64 ((W64 (Int.tdiv (W64 (s3.1 + s3.2.1)) 2)) + 1)) * 11)))).size : Nat) : Int) <= (((a0.extract (Int.toNat (W64 ((W64 (Int.tdiv (W64 (s3.1 + s3.2.1)) 2)) * 11))) (Int.toNat (W64 ((W64 ((W64 (Int.tdiv (W64 (s3.1 + s3.2.1)) 2)) + 1)) * 11)))).size : Nat) : Int)) <| cN 213 #[(.string ((a0.extract (Int.toNat (W64 ((W64 (Int.tdiv (W64 (s3.1 + s3.2.1)) 2)) * 11))) (Int.toNat (W64 ((W64 ((W64 (Int.tdiv (W64 (s3.1 + s3.2.1)) 2)) + 1)) * 11)))).extract (Int.toNat 10) (Int.toNat (((a0.extract (Int.toNat (W64 ((W64 (Int.tdiv (W64 (s3.1 + s3.2.1)) 2)) * 11))) (Int.toNat (W64 ((W64 ((W64 (Int.tdiv (W64 (s3.1 + s3.2.1)) 2)) + 1)) * 11)))).size : Nat) : Int))))] λ x7 => K x7))) ( J1 ())) (0, (W64 (Int.tdiv ((ByteArray.size a0 : Nat) : Int) 11)), ())) λ s2 => K 0
def Cw6 : Hint := (hS (hR 1) (hS (hR 5) (hJ (0xffffffff1f0, []) (.block (.loop 0xffffffff1f0 [(5, tI), (6, tI)] (hS (hS (hR 3) (hC hL hL)) (.block (hS (hR 5) (hS (hR 8) (.block (hS (hR 6) (hC (hR 2) (hS (hR 6) (hC (hR 3) (hS (hR 4) hL)))))))))))) (hS (hR 1) hL))))
theorem Dl0 {a0 : ByteArray} {a1 : Int} {K : Int -> Wp} {w : World} (h : F212 a0 a1 K w) : Aa Tryz.prog 212 #[(.string a0), (vI a1)] rI K w := tied Ai Tryz.func212 Cw6 _ h
def F213 (a0 : ByteArray) (K : Int -> Wp) : Wp := jI (λ J1 => Dt Tryz.prog rP (Instr.range 9 (.string a0)) λ (x3 : Option Addr) => sI (λ s4 again5 => Cj6 Tryz.prog (Instr.next (.pointer x3) true 0) (λ p6 c7 => sif true ( jI (λ J8 => sif (decide (c7 > 57)) ( J8 ((W64 ((W64 (IntKind.wrap .i32 (c7 - 65))) + 10)), ())) ( J8 ((W64 (IntKind.wrap .i32 (c7 - 48))), ()))) λ s9 => again5 ((W64 ((W64 (s4.1 * 16)) + s9.1)), ())) ( J1 (s4.1, ()))) ( sif false ( λ _ => False) ( J1 (s4.1, ())))) (0, ())) λ s2 => K s2.1
def Cw5 : Hint := (hS (hR 1) (hS (hR 1) (hJ (33554408, [(3, tI)]) (hS (hR 2) (.block (.loop 33554024 [(3, tI)] (hS (hR 2) (hS (hC hL hL) (.block (hS (hR 2) (hS (hR 4) (hJ (2064448, [(6, tI)]) (hS (hR 2) (hC (hR 5) hL)) (hR 5)))))))))) (hS (hR 2) hL))))
theorem Dk9 {a0 : ByteArray} {K : Int -> Wp} {w : World} (h : F213 a0 K w) : Aa Tryz.prog 213 #[(.string a0)] rI K w := tied Ai Tryz.func213 Cw5 _ h
end Go.Proofs.YtolhlldgnfbemaaGreatDoor
namespace Go.Proofs.YtolhlldgnfbemaaGreatDoor
open Go Go.Vx Cdc Gly
section
variable {w w' : World}
theorem wrap32 {a : Int} (h0 : -(2 ^ 31) <= a) (h : a < 2 ^ 31) : IntKind.wrap .i32 a = a := by
 simp only [IntKind.wrap, IntKind.signed, IntKind.bits]
 simp [Int.bmod_def]; omega
theorem Rw {a : Int} {K : Bool -> Wp} (hK : K (decide (Scalar a)) w) : Aa Tryz.prog 211 #[.int .i64 a] rB K w := by
 refine Dl1 ?_
 unfold F211
 have h1 : Scalar a -> K true w := λ h => by rwa [decide_eq_true h] at hK
 have h2 : ¬ Scalar a -> K false w := λ h => by rwa [decide_eq_false h] at hK
 unfold Scalar at h1 h2
 refine Ac (λ h => Ac (λ h' => ?_) (λ h' => Ac (λ h'' => ?_) (λ h'' => ?_))) (λ h => Ac (λ h'' => ?_) (λ h'' => ?_))
 all_goals simp only [decide_eq_true_eq, decide_eq_false_iff_not, gt_iff_lt, ge_iff_le] at *
 ·exact h1 (by omega)
 ·by_cases hc : a <= 1114111
  ·rw [decide_eq_true hc]; exact h1 (by omega)
  ·rw [decide_eq_false hc]; exact h2 (by omega)
 ·exact h2 (by omega)
 ·by_cases hc : a <= 1114111
  ·rw [decide_eq_true hc]; exact h1 (by omega)
  ·rw [decide_eq_false hc]; exact h2 (by omega)
 ·exact h2 (by omega)
theorem Bw3 (w : World) (s : ByteArray) (pos : Nat) : Ext w (w.iter s pos) := Ext.alloc w _
theorem Bu8 (l : Bs) (c : UInt8) : num (l ++ [c]) = num l * 16 + digit c := by simp [num]
theorem Ui {d : ByteArray} (h : d.data.toList.all okC = true) (hs : d.size <= 5) {K : Int -> Wp} (hK : ∀ w', Ext w w' -> K ((num d.data.toList : Nat) : Int) w') :
  Aa Tryz.prog 213 #[.string d] rI K w := by
 refine Dk9 ?_
 unfold F213
 have hl : d.data.toList.length = d.size := Array.length_toList
 refine Ae (λ x w' => x = (((num d.data.toList : Nat) : Int), ()) /\ Ext w w') ?_ (λ x w' h => by obtain ⟨rfl, h⟩ := h; exact hK w' h)
 refine ⟨some (at0 w.heap.size), w.iter d 0, run_range_string w 9 d C9.und, ?_⟩
 refine Aw (λ x W => ∃ j, j <= d.size /\ x = (((num (d.data.toList.take j) : Nat) : Int), ()) /\ W = w.iter d j) (λ _ W => match W.heap[w.heap.size]? with | some (.stringIter _ pos) => d.size - pos | _ => 0) ⟨0, Nat.zero_le _, rfl, rfl⟩ ?_
 rintro _ W ⟨j, hj, rfl, rfl⟩
 by_cases hlt : j < d.size
 ·have hc : d.data.toList[j]? = some (d[j]'hlt) := by rw [List.getElem?_eq_getElem (by omega), Array.getElem_toList]; rfl
  have hok : okC (d[j]'hlt) = true := List.all_eq_true.1 h _ (List.mem_of_getElem? hc)
  have hok' := (Bf8 _).1 hok
  refine .inl ⟨_, _, _, run_next_ascii w d j 0 hlt (by omega), ?_⟩
  have hb := Cm7 (d.data.toList.take j) (by rw [List.all_eq_true] at h ⊢; exact λ x hx => h x (List.mem_of_mem_take hx))
  have hb2 : num (d.data.toList.take j) < 16 ^ 4 := Nat.lt_of_lt_of_le hb (Nat.pow_le_pow_right (by decide) (by rw [List.length_take]; omega))
  have hn : num (d.data.toList.take (j + 1)) = num (d.data.toList.take j) * 16 + digit (d[j]'hlt) := by rw [List.take_add_one, hc]; exact Bu8 _ _
  refine Bj (Ae (λ x W => x = (((digit (d[j]'hlt) : Nat) : Int), ()) /\ W = w.iter d (j + 1)) ?_ ?_)
  ·refine Ac (λ hg => ?_) (λ hg => ?_)
   ·simp only [decide_eq_true_eq, gt_iff_lt] at hg
    refine ⟨?_, rfl⟩
    rw [wrap32 (by omega) (by omega), wrap64 (a := ((d[j]'hlt).toNat : Int) - 65) (by omega) (by omega), wrap64 (by omega) (by omega)]
    unfold digit
    rw [if_pos (by omega)]
    congr 1; omega
   ·simp only [decide_eq_false_iff_not, gt_iff_lt] at hg
    refine ⟨?_, rfl⟩
    rw [wrap32 (by omega) (by omega), wrap64 (by omega) (by omega)]
    unfold digit
    rw [if_neg (by omega)]
    congr 1; omega
  ·rintro _ _ ⟨rfl, rfl⟩
   have hd : digit (d[j]'hlt) < 16 := by unfold digit; split <;> omega
   have ew : W64 (W64 (((num (d.data.toList.take j) : Nat) : Int) * 16) + ((digit (d[j]'hlt) : Nat) : Int)) = ((num (d.data.toList.take (j + 1)) : Nat) : Int) := by
    rw [hn, wrap64 (a := ((num (d.data.toList.take j) : Nat) : Int) * 16) (by omega) (by omega), wrap64 (by omega) (by omega)]; omega
   refine ⟨⟨j + 1, hlt, by dsimp only; rw [ew], rfl⟩, ?_⟩
   rw [World.iter_heap, World.iter_heap]
   show d.size - (j + 1) < d.size - j
   omega
 ·refine .inr ⟨_, run_next_end w d j 0 hlt, Am ⟨?_, Bw3 w d j⟩⟩
  rw [List.take_of_length_le (by omega)]
theorem Vl (b : ByteArray) (s e : Nat) : (b.extract s e).data.toList = (b.data.toList.drop s).take (e - s) := by
 rw [ByteArray.data_extract, Array.toList_extract]
theorem U0 (b : ByteArray) (s e : Nat) (h : e <= b.size) : (b.extract s e).size = e - s := by
 have : (b.extract s e).data.toList.length = (b.extract s e).size := Array.length_toList
 have hb : b.data.toList.length = b.size := Array.length_toList
 rw [← this, Vl, List.length_take, List.length_drop]; omega
theorem G6 {b : ByteArray} (h : b.data.toList.all okC = true) (s e : Nat) : (b.extract s e).data.toList.all okC = true := by
 rw [Vl]
 rw [List.all_eq_true] at h ⊢
 exact λ x hx => h x (List.mem_of_mem_drop (List.mem_of_mem_take hx))
theorem Tt {rows : ByteArray} {n a : Nat} (hn : rows.size = 11 * n) (hs : n <= 1000) (hok : rows.data.toList.all okC = true) (hT : srt 0 (Ou n rows.data.toList) = true) {K : Int -> Wp}
  (hK : ∀ w', Ext w w' -> K ((Ja (Ou n rows.data.toList) a : Nat) : Int) w') : Aa Tryz.prog 212 #[.string rows, .int .i64 (a : Int)] rI K w := by
 refine Dl0 ?_
 unfold F212
 refine Cm (by decide) ?_
 have e0 : W64 (Int.tdiv ((ByteArray.size rows : Nat) : Int) 11) = (n : Int) := by
  rw [hn, Int.tdiv_eq_ediv_of_nonneg (by omega), wrap64 (by omega) (by omega)]; omega
 rw [e0]
 refine Ae (λ _ w' => Ext w w' /\ Ja (Ou n rows.data.toList) a = 0) ?_ (λ _ w' h => by have := hK w' h.1; rwa [h.2] at this)
 refine Aw (λ x W => ∃ lo hi : Nat, x = ((lo : Int), (hi : Int), ()) /\ lo <= hi /\ hi <= n /\ Ext w W /\ (∀ (i : Nat) (r : Row), i < lo -> (Ou n rows.data.toList)[i]? = some r -> r.hi < a) /\ (∀ (i : Nat) (r : Row), hi <= i -> (Ou n rows.data.toList)[i]? = some r -> a < r.lo)) (λ x _ => (x.2.1 - x.1).toNat)
  ⟨0, n, rfl, Nat.zero_le _, Nat.le_refl _, Ext.refl w, λ i r h => absurd h (Nat.not_lt_zero _), λ i r h hr => by
   have := (List.getElem?_eq_some_iff.1 hr).1
   rw [Ae9] at this; omega⟩ ?_
 rintro _ W ⟨lo, hi, rfl, hlh, hhn, e1, h1, h2⟩
 dsimp only
 refine Ac (λ hc => ?_) (λ hc => ?_)
 ·simp only [decide_eq_true_eq] at hc
  obtain ⟨m, hm⟩ : ∃ m, m = (lo + hi) / 2 := ⟨_, rfl⟩
  have hmn : m < n := by omega
  have em : W64 (Int.tdiv (W64 ((lo : Int) + (hi : Int))) 2) = (m : Int) := by
   rw [wrap64 (a := (lo : Int) + (hi : Int)) (by omega) (by omega), Int.tdiv_eq_ediv_of_nonneg (by omega), wrap64 (by omega) (by omega)]; omega
  have em1 : W64 ((m : Int) + 1) = ((m + 1 : Nat) : Int) := by rw [wrap64 (by omega) (by omega)]; omega
  have e11 : W64 ((m : Int) * 11) = ((11 * m : Nat) : Int) := by rw [wrap64 (by omega) (by omega)]; omega
  have e12 : W64 (((m + 1 : Nat) : Int) * 11) = ((11 * m + 11 : Nat) : Int) := by rw [wrap64 (by omega) (by omega)]; omega
  rw [em, em1, e11, e12]
  simp only [Int.toNat_natCast]
  have sz : (rows.extract (11 * m) (11 * m + 11)).size = 11 := by rw [U0 _ _ _ (by omega)]; omega
  rw [sz]
  have ll : (rows.extract (11 * m) (11 * m + 11)).data.toList = (rows.data.toList.drop (11 * m)).take 11 := by rw [Vl]; congr 1; omega
  have hrow := Af0 n rows.data.toList m hmn
  have p1 : ((rows.extract (11 * m) (11 * m + 11)).extract (Int.toNat 0) (Int.toNat (5 : Int))).data.toList = (rows.data.toList.drop (11 * m)).take 5 := by
   rw [Vl, ll]; show List.take 5 (List.drop 0 _) = _
   rw [List.drop_zero, List.take_take]; rfl
  have p2 : ((rows.extract (11 * m) (11 * m + 11)).extract (Int.toNat (5 : Int)) (Int.toNat (10 : Int))).data.toList = (rows.data.toList.drop (11 * m + 5)).take 5 := by
   rw [Vl, ll]; show List.take 5 (List.drop 5 _) = _
   rw [List.drop_take, List.take_take, List.drop_drop]; rfl
  have p3 : ((rows.extract (11 * m) (11 * m + 11)).extract (Int.toNat (10 : Int)) 11).data.toList = (rows.data.toList.drop (11 * m + 10)).take 1 := by
   rw [Vl, ll]; show List.take 1 (List.drop 10 _) = _
   rw [List.drop_take, List.take_take, List.drop_drop]; rfl
  have z1 : ((rows.extract (11 * m) (11 * m + 11)).extract (Int.toNat 0) (Int.toNat (5 : Int))).size <= 5 := by rw [U0 _ _ _ (by rw [sz]; decide)]; decide
  have z2 : ((rows.extract (11 * m) (11 * m + 11)).extract (Int.toNat (5 : Int)) (Int.toNat (10 : Int))).size <= 5 := by rw [U0 _ _ _ (by rw [sz]; decide)]; decide
  have z3 : ((rows.extract (11 * m) (11 * m + 11)).extract (Int.toNat (10 : Int)) 11).size <= 5 := by rw [U0 _ _ _ (by rw [sz]; decide)]; decide
  refine Cm (by decide) (Cm (by omega) (Cm (by omega) (Ui (G6 (G6 hok _ _) _ _) z1 λ w2 x2 => ?_)))
  rw [p1]
  refine Ac (λ hlt => ?_) (λ hlt => ?_)
  ·simp only [decide_eq_true_eq] at hlt
   refine ⟨⟨lo, m, rfl, by omega, by omega, e1.trans x2, h1, λ i r hi hr => ?_⟩, by omega⟩
   rcases Nat.lt_or_ge m i with hmi | hmi
   ·have := Aj4 hT hmi hrow hr
    have := (P8 hT hrow).2
    simp only at *; omega
   ·have : i = m := by omega
    subst this
    rw [hrow] at hr; cases hr
    simp only; omega
  ·simp only [decide_eq_false_iff_not] at hlt
   refine Cm (by omega) (Ui (G6 (G6 hok _ _) _ _) z2 λ w3 x3 => ?_)
   rw [p2]
   refine Ac (λ hgt => ?_) (λ hgt => ?_)
   ·simp only [decide_eq_true_eq, gt_iff_lt] at hgt
    refine ⟨⟨m + 1, hi, rfl, by omega, hhn, (e1.trans x2).trans x3, λ i r hi hr => ?_, h2⟩, by omega⟩
    rcases Nat.lt_or_ge i m with hmi | hmi
    ·have := Aj4 hT hmi hr hrow
     have := (P8 hT hrow).2
     simp only at *; omega
    ·have : i = m := by omega
     subst this
     rw [hrow] at hr; cases hr
     simp only; omega
   ·simp only [decide_eq_false_iff_not, gt_iff_lt] at hgt
    refine Cm (by omega) (Ui (G6 (G6 hok _ _) _ _) z3 λ w4 x4 => ?_)
    rw [p3]
    have := hK w4 (((e1.trans x2).trans x3).trans x4)
    rw [Bg7 hT hrow (by simp only; omega) (by simp only; omega)] at this
    exact this
 ·simp only [decide_eq_false_iff_not] at hc
  refine ⟨e1, Ag6 λ i r hr => ?_⟩
  rcases Nat.lt_or_ge i lo with h | h
  ·exact .inr (h1 i r h hr)
  ·exact .inl (h2 i r (by omega) hr)
theorem Bc4 : Pm.size = 11 * 324 /\ Pm.data.toList.all okC = true /\ srt 0 Cn7 = true := ⟨by kernel_rfl, by kernel_rfl, by kernel_rfl⟩
theorem Bc3 : Pn.size = 11 * 26 /\ Pn.data.toList.all okC = true /\ srt 0 Ci0 = true := ⟨by kernel_rfl, by kernel_rfl, by kernel_rfl⟩
theorem Aw4 : Pj.size = 11 * 81 /\ Pj.data.toList.all okC = true /\ srt 0 Bi7 = true := ⟨by kernel_rfl, by kernel_rfl, by kernel_rfl⟩
theorem Xn {a : Int} (h : Scalar a) : ∃ n : Nat, a = (n : Int) /\ n <= 1114111 := ⟨a.toNat, by rcases h with h | h <;> omega, by rcases h with h | h <;> omega⟩
theorem Xk {a : Int} {K : Int -> Wp} (hK : ∀ w', Ext w w' -> K ((cls a : Nat) : Int) w') : Aa Tryz.prog 207 #[.int .i64 a] rI K w := by
 refine Dl5 ?_
 unfold F207
 refine Rw (Ac (λ h => ?_) (λ h => ?_))
 ·simp only [Bool.not_eq_true', decide_eq_false_iff_not] at h
  have := hK w (Ext.refl w)
  unfold cls at this
  rw [if_neg h] at this
  exact this
 simp only [Bool.not_eq_false', decide_eq_true_eq] at h
 obtain ⟨n, rfl, hn⟩ := Xn h
 unfold cls at hK
 rw [if_pos h] at hK
 have ew : W64 ((n : Int) - 44032) = (n : Int) - 44032 := wrap64 (by omega) (by omega)
 rw [ew]
 refine Ae (λ x w' => x = (decide (44032 <= n /\ n < 55204), ()) /\ w = w') ?_ ?_
 ·refine Ac (λ hg => ⟨Au ?_, rfl⟩) (λ hg => ⟨Au ?_, rfl⟩)
  ·simp only [decide_eq_true_eq, ge_iff_le] at hg ⊢; omega
  ·simp only [decide_eq_false_iff_not, decide_eq_true_eq, ge_iff_le] at hg ⊢
   exact ⟨(λ h => by cases h), λ h => by omega⟩
 rintro _ _ ⟨rfl, rfl⟩
 refine Ac (λ hg => ?_) (λ hg => ?_)
 ·simp only [decide_eq_true_eq] at hg
  refine Cm (by decide) ?_
  have e1 : Int.tmod ((n : Int) - 44032) 28 = (((n - 44032) % 28 : Nat) : Int) := by rw [Int.tmod_eq_emod_of_nonneg (by omega)]; omega
  rw [e1]
  have := hK w (Ext.refl w)
  rw [if_pos (by omega), Int.toNat_natCast] at this
  refine Ac (λ h0 => ?_) (λ h0 => ?_)
  ·simp only [beq_iff_eq] at h0
   rw [if_pos (by omega)] at this; exact this
  ·simp only [beq_eq_false_iff_ne] at h0
   rw [if_neg (by omega)] at this; exact this
 ·simp only [decide_eq_false_iff_not] at hg
  rw [if_neg (by omega), Int.toNat_natCast] at hK
  exact Tt Bc4.1 (by decide) Bc4.2.1 Bc4.2.2 λ w1 x1 => hK w1 x1
theorem Wx {a : Int} {K : Int -> Wp} (hK : ∀ w', Ext w w' -> K ((cnj a : Nat) : Int) w') : Aa Tryz.prog 208 #[.int .i64 a] rI K w := by
 refine Dl4 ?_
 unfold F208
 unfold cnj at hK
 refine Ae (λ x w' => x = (decide (a = 2381 \/ a = 2509 \/ a = 2765 \/ a = 2893 \/ a = 3149 \/ a = 3405), ()) /\ w = w') ?_ ?_
 ·refine Ac (λ h => ⟨Au ?_, rfl⟩) (λ h1 => Ac (λ h => ⟨Au ?_, rfl⟩) (λ h2 => Ac (λ h => ⟨Au ?_, rfl⟩) (λ h3 => Ac (λ h => ⟨Au ?_, rfl⟩) (λ h4 => Ac (λ h => ⟨Au ?_, rfl⟩) (λ h5 => ⟨Au ?_, rfl⟩)))))
  all_goals simp only [beq_iff_eq, beq_eq_false_iff_ne, ne_eq, decide_eq_true_eq] at *
  all_goals omega
 rintro _ _ ⟨rfl, rfl⟩
 refine Ac (λ h => ?_) (λ h => ?_)
 ·simp only [decide_eq_true_eq] at h
  rw [if_pos h] at hK
  exact hK _ (Ext.refl _)
 simp only [decide_eq_false_iff_not] at h
 rw [if_neg h] at hK
 refine Ac (λ h2 => ?_) (λ h2 => ?_)
 ·simp only [beq_iff_eq] at h2
  rw [if_pos h2] at hK
  exact hK _ (Ext.refl _)
 simp only [beq_eq_false_iff_ne, ne_eq] at h2
 rw [if_neg h2] at hK
 refine Ae (λ _ w1 => Ext w w1 /\ ¬ (cls a = 4 \/ cls a = 5) /\ ¬ (cls a = 0 /\ Scalar a)) ?_ (λ _ w1 h3 => by
  have := hK w1 h3.1
  rw [if_neg h3.2.1, if_neg h3.2.2] at this
  exact this)
 refine Xk λ w1 e1 => Ae (λ x w2 => x = (decide (cls a = 4 \/ cls a = 5), ()) /\ w1 = w2) ?_ ?_
 ·refine Ac (λ h => ⟨Au ?_, rfl⟩) (λ h => ⟨Au ?_, rfl⟩)
  all_goals simp only [beq_iff_eq, beq_eq_false_iff_ne, ne_eq, decide_eq_true_eq] at *
  all_goals omega
 rintro _ _ ⟨rfl, rfl⟩
 refine Ac (λ h => ?_) (λ h3 => ?_)
 ·simp only [decide_eq_true_eq] at h
  rw [if_pos h] at hK
  exact hK _ e1
 simp only [decide_eq_false_iff_not] at h3
 rw [if_neg h3] at hK
 refine Ac (λ h4 => ?_) (λ h4 => ?_)
 ·simp only [beq_iff_eq] at h4
  refine Rw (Ac (λ h5 => ?_) (λ h5 => ?_))
  ·simp only [decide_eq_true_eq] at h5
   rw [if_pos ⟨by omega, h5⟩] at hK
   obtain ⟨n, rfl, hn⟩ := Xn h5
   rw [Int.toNat_natCast] at hK
   exact Tt Bc3.1 (by decide) Bc3.2.1 Bc3.2.2 λ w2 x2 => hK w2 (e1.trans x2)
  ·simp only [decide_eq_false_iff_not] at h5
   exact ⟨e1, h3, λ h => h5 h.2⟩
 ·simp only [beq_eq_false_iff_ne, ne_eq] at h4
  exact ⟨e1, h3, λ h => h4 (by rw [h.1]; rfl)⟩
theorem Bj0 {a : Int} {K : Int -> Wp} (hK : ∀ w', Ext w w' -> K ((wrd a : Nat) : Int) w') : Aa Tryz.prog 205 #[.int .i64 a] rI K w := by
 refine Dl7 ?_
 unfold F205
 unfold wrd at hK
 refine Rw (Ac (λ h => ?_) (λ h => ?_))
 ·simp only [Bool.not_eq_true', decide_eq_false_iff_not] at h
  have := hK w (Ext.refl w)
  rw [if_neg h] at this
  exact this
 simp only [Bool.not_eq_false', decide_eq_true_eq] at h
 rw [if_pos h] at hK
 obtain ⟨n, rfl, hn⟩ := Xn h
 rw [Int.toNat_natCast] at hK
 refine Tt Aw4.1 (by decide) Aw4.2.1 Aw4.2.2 λ w1 x1 => ?_
 have := hK w1 x1
 show sif (((Ja Bi7 n : Nat) : Int) == 2) _ _ w1
 refine Ac (λ h2 => ?_) (λ h2 => ?_)
 ·simp only [beq_iff_eq] at h2
  rw [if_pos (by omega)] at this
  exact this
 ·simp only [beq_eq_false_iff_ne, ne_eq] at h2
  rw [if_neg (by omega)] at this
  show sif (((Ja Bi7 n : Nat) : Int) == 1) _ _ w1
  refine Ac (λ h3 => ?_) (λ h3 => ?_)
  ·simp only [beq_iff_eq] at h3
   rw [if_pos (by omega)] at this
   exact this
  ·simp only [beq_eq_false_iff_ne, ne_eq] at h3
   rw [if_neg (by omega)] at this
   exact this
end
end Go.Proofs.YtolhlldgnfbemaaGreatDoor
namespace Go.Proofs.YtolhlldgnfbemaaGreatDoor
open Go Go.Vx Gly Clu
section
variable {w w' : World}
theorem Us {a : Addr} {v : Value} (h : w.cell? a = some v) (x : Ext w w') : w'.cell? a = some v := by
 obtain ⟨hs, c, t, fr, hh, hc⟩ := cell_spot h
 obtain ⟨b, o, s⟩ := a
 simp only at hs hh hc
 subst hs
 exact cell_of (x.ext_get hh) hc
theorem Am3 {c : Cell} {s : Sl} {t : TypeId} {xs : List c.T} {n : Int} {K : Addr -> c.T -> Wp} (h : Bh w s t 1 (xs.map c.val)) (h0 : 0 <= n) {x : c.T} (hx : xs[n.toNat]? = some x)
  (hK : ∀ p, (∀ w', Ext w w' -> w'.cell? (p.add (scaled (Int.toNat n) 1)) = some (c.val x)) -> K p x w) : ix s.a s.len n (λ p => ld c (p.add (scaled (Int.toNat n) 1)) (K p)) w := by
 have hlt := (List.getElem?_eq_some_iff.1 hx).1
 have hl := h.len
 rw [List.length_map, Nat.mul_one] at hl
 refine h.ix h0 (by omega) (by omega) λ b off ha hv => ?_
 have := hv 0 (c.val x) (by rw [Nat.mul_one, Nat.add_zero, List.getElem?_map, hx]; rfl)
 have hc : w.cell? ((⟨b, off, none⟩ : Addr).add (scaled (Int.toNat n) 1)) = some (c.val x) := by rw [addr_add]; simpa [scaled] using this
 exact Ym (x := x) hc (hK _ λ w' x' => Us hc x')
def scO (s : Sc) : Obj := .cells #[.int .i64 (s.last : Int), .int .i64 (s.flags : Int), .int .i64 (s.pict : Int), .int .i64 (s.conj : Int)] 205 (0, 0)
abbrev scT (s : Sc) : Cells.T Ab8 := ((s.last : Int), (s.flags : Int), (s.pict : Int), (s.conj : Int), ())
theorem Cj5 {a : Addr} {K : Addr -> Wp} : nn (some a) K = K a := funext λ _ => propext L6
theorem Ac3 {c : Nat} {K : Bool -> Wp} (hK : K (apart c) w) : Aa Tryz.prog 209 #[.int .i64 (c : Int)] rB K w := by
 refine Dl3 ?_
 unfold F209
 unfold apart at hK
 refine Ac (λ h => ?_) (λ h => Ac (λ h2 => ?_) (λ h2 => ?_))
 all_goals simp only [beq_iff_eq, beq_eq_false_iff_ne, ne_eq] at *
 ·rw [decide_eq_true (by omega)] at hK; exact hK
 ·rw [decide_eq_true (by omega)] at hK; exact hK
 ·have : ((c : Int) == 3) = decide (c = 1 \/ c = 2 \/ c = 3) := by
   rw [Bool.eq_iff_iff, beq_iff_eq, decide_eq_true_eq]; omega
  rw [this]; exact hK
theorem As7 {l r : Nat} {K : Bool -> Wp} (hK : K (Jh l r) w) : Aa Tryz.prog 210 #[.int .i64 (l : Int), .int .i64 (r : Int)] rB K w := by
 refine Dl2 ?_
 unfold F210
 unfold Jh at hK
 have fin : ∀ {b : Bool}, (b = true ↔ ((l = 9 /\ (r = 9 \/ r = 10 \/ r = 12 \/ r = 13)) \/ ((l = 12 \/ l = 10) /\ (r = 10 \/ r = 11)) \/ ((l = 13 \/ l = 11) /\ r = 11))) -> K b w := by
  intro b hb
  have : b = decide ((l = 9 /\ (r = 9 \/ r = 10 \/ r = 12 \/ r = 13)) \/ ((l = 12 \/ l = 10) /\ (r = 10 \/ r = 11)) \/ ((l = 13 \/ l = 11) /\ r = 11)) := by rw [Bool.eq_iff_iff, hb, decide_eq_true_eq]
  rw [this]; exact hK
 refine Ae (λ _ w' => w = w' /\ (r = 10 \/ r = 11) /\ ¬ (r = 10 /\ l = 9)) ?_ ?_
 ·refine Ae (λ x w' => x = (decide (r = 9 \/ r = 12 \/ r = 13), ()) /\ w = w') ?_ ?_
  ·refine Ac (λ h => ⟨Au ?_, rfl⟩) (λ h => Ac (λ h2 => ⟨Au ?_, rfl⟩) (λ h2 => ⟨Au ?_, rfl⟩))
   all_goals simp only [beq_iff_eq, beq_eq_false_iff_ne, ne_eq, decide_eq_true_eq] at *
   all_goals omega
  rintro _ _ ⟨rfl, rfl⟩
  refine Ac (λ h => fin ?_) (λ h => Ac (λ h2 => Ac (λ h3 => fin ?_) (λ h3 => ?_)) (λ h2 => Ac (λ h3 => ?_) (λ h3 => fin ?_)))
  all_goals simp only [beq_iff_eq, beq_eq_false_iff_ne, ne_eq, decide_eq_true_eq, decide_eq_false_iff_not] at *
  ·omega
  ·simp only [true_iff]; omega
  ·exact ⟨by trivial, by omega, by omega⟩
  ·exact ⟨by trivial, by omega, by omega⟩
  ·simp only [Bool.false_eq_true, false_iff]; omega
 ·rintro _ _ ⟨rfl, h1, h2⟩
  refine Ae (λ x w' => x = (decide (l = 12 \/ l = 10), ()) /\ w = w') ?_ ?_
  ·refine Ac (λ h => ⟨Au ?_, rfl⟩) (λ h => ⟨Au ?_, rfl⟩)
   all_goals simp only [beq_iff_eq, beq_eq_false_iff_ne, ne_eq, decide_eq_true_eq, true_iff] at *
   all_goals omega
  rintro _ _ ⟨rfl, rfl⟩
  refine Ac (λ h => fin ?_) (λ h => Ac (λ h3 => Ac (λ h4 => fin ?_) (λ h4 => fin ?_)) (λ h3 => fin ?_))
  all_goals simp only [beq_iff_eq, beq_eq_false_iff_ne, ne_eq, decide_eq_true_eq, decide_eq_false_iff_not, Bool.false_eq_true, false_iff, true_iff] at *
  all_goals omega
theorem Ag0 {b c p : Nat} {s : Sc} (h : w.heap[b]? = some (scO s)) (hf : s.flags < 2 ^ 60) {K : Unit -> Wp} (hK : ∀ w', Upd (λ k => k = b) w w' -> w'.heap[b]? = some (scO (s.note c p)) -> K () w') :
  Aa Tryz.prog 206 #[.pointer (some (at0 b)), .int .i64 (c : Int), .int .i64 (p : Int)] (.tup []) K w := by
 refine Dl6 ?_
 unfold F206
 simp only [Cj5, addr_add]
 unfold scO at h
 refine Iu h (by show _ < 4; decide) λ w1 u1 n1 _ => ?_
 let O : Nat -> Nat -> Nat -> Nat -> Obj := λ a f q j => .cells #[.int .i64 (a : Int), .int .i64 (f : Int), .int .i64 (q : Int), .int .i64 (j : Int)] 205 (0, 0)
 have n1 : w1.heap[b]? = some (O c s.flags s.pict s.conj) := n1
 refine Ae (λ _ W => Upd (λ k => k = b) w W /\ W.heap[b]? = some (O c (s.note c p).flags s.pict s.conj)) ?_ ?_
 ·refine Ac (λ hc => ?_) (λ hc => ?_)
  ·simp only [beq_iff_eq] at hc
   have hc : c = 6 := by omega
   refine Ci n1 (x := (s.flags : Int)) rfl (Iu n1 (by show _ < 4; decide) λ w2 u2 n2 _ => ⟨u1.trans u2, ?_⟩)
   have e : (s.note c p).flags = s.flags + 1 := by simp [Sc.note, hc]
   rw [e, n2, wrap64 (by omega) (by omega)]; rfl
  ·simp only [beq_eq_false_iff_ne, ne_eq] at hc
   have hc : c ≠ 6 := by omega
   refine Iu n1 (by show _ < 4; decide) λ w2 u2 n2 _ => ⟨u1.trans u2, ?_⟩
   have e : (s.note c p).flags = 0 := by simp [Sc.note, hc]
   rw [e, n2]; rfl
 rintro _ w2 ⟨u2, n2⟩
 refine Ae (λ _ W => Upd (λ k => k = b) w W /\ W.heap[b]? = some (O c (s.note c p).flags (s.note c p).pict s.conj)) ?_ ?_
 ·have hp : (s.note c p).pict = if c = 14 then 1 else if s.pict = 1 /\ c = 5 then 2 else if s.pict = 1 /\ c = 4 then s.pict else 0 := rfl
  refine Ac (λ hc => ?_) (λ hc => ?_)
  ·simp only [beq_iff_eq] at hc
   rw [hp, if_pos (by omega)]
   exact Iu n2 (by show _ < 4; decide) λ w3 u3 n3 _ => ⟨u2.trans u3, n3⟩
  simp only [beq_eq_false_iff_ne, ne_eq] at hc
  rw [hp, if_neg (by omega)]
  refine Ae (λ x W => x = (decide (s.pict = 1 /\ c = 5), ()) /\ w2 = W) ?_ ?_
  ·refine Ci n2 (x := (s.pict : Int)) rfl (Ac (λ h => ⟨Au ?_, rfl⟩) (λ h => ⟨Au ?_, rfl⟩))
   all_goals simp only [beq_iff_eq, beq_eq_false_iff_ne, ne_eq, decide_eq_true_eq, Bool.false_eq_true, false_iff] at *
   all_goals omega
  rintro _ _ ⟨rfl, rfl⟩
  refine Ac (λ h => ?_) (λ h => ?_)
  ·simp only [decide_eq_true_eq] at h
   rw [if_pos h]
   exact Iu n2 (by show _ < 4; decide) λ w3 u3 n3 _ => ⟨u2.trans u3, n3⟩
  simp only [decide_eq_false_iff_not] at h
  rw [if_neg h]
  refine Ae (λ x W => x = (decide (s.pict = 1 /\ c = 4), ()) /\ w2 = W) ?_ ?_
  ·refine Ci n2 (x := (s.pict : Int)) rfl (Ac (λ h => ⟨Au ?_, rfl⟩) (λ h => ⟨Au ?_, rfl⟩))
   all_goals simp only [beq_iff_eq, beq_eq_false_iff_ne, ne_eq, decide_eq_true_eq, Bool.false_eq_true, false_iff] at *
   all_goals omega
  rintro _ _ ⟨rfl, rfl⟩
  refine Ac (λ h => ?_) (λ h => ?_)
  ·simp only [decide_eq_true_eq] at h
   rw [if_pos h]
   exact ⟨u2, n2⟩
  ·simp only [decide_eq_false_iff_not] at h
   rw [if_neg h]
   exact Iu n2 (by show _ < 4; decide) λ w3 u3 n3 _ => ⟨u2.trans u3, n3⟩
 rintro _ w3 ⟨u3, n3⟩
 have hj : (s.note c p).conj = if p = 1 then 1 else if 0 < s.conj /\ p = 3 then 2 else if 0 < s.conj /\ p = 2 then s.conj else 0 := rfl
 have fin : ∀ {q : Nat} {W : World}, (s.note c p).conj = q -> Upd (λ k => k = b) w W -> W.heap[b]? = some (O c (s.note c p).flags (s.note c p).pict q) -> K () W := λ e u n => hK _ u (by subst e; exact n)
 refine Ac (λ hc => ?_) (λ hc => ?_)
 ·simp only [beq_iff_eq] at hc
  exact Iu n3 (by show _ < 4; decide) λ w4 u4 n4 _ => fin (q := 1) (by rw [hj, if_pos (by omega)]) (u3.trans u4) n4
 simp only [beq_eq_false_iff_ne, ne_eq] at hc
 rw [if_neg (by omega)] at hj
 refine Ae (λ x W => x = (decide (0 < s.conj /\ p = 3), ()) /\ w3 = W) ?_ ?_
 ·refine Ci n3 (x := (s.conj : Int)) rfl (Ac (λ h => ⟨Au ?_, rfl⟩) (λ h => ⟨Au ?_, rfl⟩))
  all_goals simp only [beq_iff_eq, decide_eq_true_eq, decide_eq_false_iff_not, Bool.false_eq_true, false_iff, gt_iff_lt] at *
  all_goals omega
 rintro _ _ ⟨rfl, rfl⟩
 refine Ac (λ h => ?_) (λ h => ?_)
 ·simp only [decide_eq_true_eq] at h
  exact Iu n3 (by show _ < 4; decide) λ w4 u4 n4 _ => fin (q := 2) (by rw [hj, if_pos h]) (u3.trans u4) n4
 simp only [decide_eq_false_iff_not] at h
 rw [if_neg h] at hj
 refine Ae (λ x W => x = (decide (0 < s.conj /\ p = 2), ()) /\ w3 = W) ?_ ?_
 ·refine Ci n3 (x := (s.conj : Int)) rfl (Ac (λ h => ⟨Au ?_, rfl⟩) (λ h => ⟨Au ?_, rfl⟩))
  all_goals simp only [beq_iff_eq, decide_eq_true_eq, decide_eq_false_iff_not, Bool.false_eq_true, false_iff, gt_iff_lt] at *
  all_goals omega
 rintro _ _ ⟨rfl, rfl⟩
 refine Ac (λ h => ?_) (λ h => ?_)
 ·simp only [decide_eq_true_eq] at h
  exact fin (q := s.conj) (by rw [hj, if_pos h]) u3 n3
 ·simp only [decide_eq_false_iff_not] at h
  exact Iu n3 (by show _ < 4; decide) λ w4 u4 n4 _ => fin (q := 0) (by rw [hj, if_neg h]) (u3.trans u4) n4
theorem Bd2 {a : Int} {K : Cells.T Ab8 -> Wp} (hK : ∀ w', Ext w w' -> K (scT (sc [a])) w') : Aa Tryz.prog 201 #[.int .i64 a] (.one (.agg Ab8)) K w := by
 refine Dm0 ?_
 unfold F201
 refine (St.start w).Af λ b1 w1 S1 e1 => S1.Y5 λ b2 w2 S2 e2 hb2 => Xk λ w3 e3 => Wx λ w4 e4 => ?_
 have S4 := (S2.ext e3).ext e4
 refine Ag0 (s := Sc.zero) (S4.at_ 0 rfl) (by decide) λ w5 u5 n5 => ?_
 have S5 := Q5 S4 (i := 0) rfl u5 n5
 have e : Sc.zero.note (cls a) (cnj a) = sc [a] := (V3 a).symm
 rw [e] at S5
 refine S5.lds 0 (scT (sc [a])) rfl (S5.Ad 1 rfl rfl rfl rfl λ w6 S6 _ => S6.lds 1 (scT (sc [a])) rfl (hK w6 S6.upd))
theorem Ax0 {b : Nat} {s : Sc} {a : Int} (h : w.heap[b]? = some (scO s)) (hf : s.flags < 2 ^ 60) {K : Bool -> Wp}
  (hK : ∀ w', Upd (λ k => k = b) w w' -> w'.heap[b]? = some (scO (if joins s (cls a) (cnj a) then s.note (cls a) (cnj a) else s)) -> K (joins s (cls a) (cnj a)) w') :
  Aa Tryz.prog 202 #[.pointer (some (at0 b)), .int .i64 a] rB K w := by
 refine Dl9 ?_
 unfold F202
 simp only [Cj5, addr_add]
 refine Xk λ w1 e1 => Wx λ w2 e2 => ?_
 have e12 := e1.trans e2
 have h2 := e12.ext_get h
 generalize hc : cls a = c at *
 generalize hp : cnj a = p at *
 refine Ae (λ x W => x = (joins s c p, ()) /\ w2 = W) ?_ ?_
 ·have hj : joins s c p = if s.last = 1 /\ c = 2 then true else if apart s.last = true \/ apart c = true then false else if c = 4 \/ c = 5 \/ c = 8 \/ s.last = 7 then true else if Jh s.last c then true
   else if p = 1 /\ s.conj = 2 then true else if c = 14 then s.pict == 2 else if c = 6 then s.flags % 2 == 1 else false := rfl
  unfold scO at h2
  have l0 : ∀ {K : Int -> Wp}, K (s.last : Int) w2 -> ld (.int .i64) (at0 b) K w2 := λ hk => Ci h2 (x := (s.last : Int)) rfl hk
  refine Ae (λ x W => x = (decide (s.last = 1 /\ c = 2), ()) /\ w2 = W) ?_ ?_
  ·refine l0 (Ac (λ h => ⟨Au ?_, rfl⟩) (λ h => ⟨Au ?_, rfl⟩))
   all_goals simp only [beq_iff_eq, beq_eq_false_iff_ne, ne_eq, decide_eq_true_eq, Bool.false_eq_true, false_iff] at *
   all_goals omega
  rintro _ _ ⟨rfl, rfl⟩
  refine Ac (λ h => ?_) (λ h => ?_)
  ·simp only [decide_eq_true_eq] at h
   exact ⟨by rw [hj, if_pos h], rfl⟩
  simp only [decide_eq_false_iff_not] at h
  rw [if_neg h] at hj
  refine Ae (λ x W => x = (decide (apart s.last = true \/ apart c = true), ()) /\ w2 = W) ?_ ?_
  ·refine l0 (Ac3 (Ac (λ h => ⟨Au ?_, rfl⟩) (λ h => Ac3 ⟨Au ?_, rfl⟩)))
   all_goals simp only [decide_eq_true_eq] at *
   all_goals simp [h]
  rintro _ _ ⟨rfl, rfl⟩
  refine Ac (λ h => ?_) (λ h => ?_)
  ·simp only [decide_eq_true_eq] at h
   exact ⟨by rw [hj, if_pos h], rfl⟩
  simp only [decide_eq_false_iff_not] at h
  rw [if_neg h] at hj
  refine Ae (λ x W => x = (decide (c = 4 \/ c = 5 \/ c = 8 \/ s.last = 7), ()) /\ w2 = W) ?_ ?_
  ·refine Ac (λ h => ⟨Au ?_, rfl⟩) (λ h1 => Ac (λ h => ⟨Au ?_, rfl⟩) (λ h3 => Ac (λ h => ⟨Au ?_, rfl⟩) (λ h4 => l0 ⟨Au ?_, rfl⟩)))
   all_goals simp only [beq_iff_eq, beq_eq_false_iff_ne, ne_eq, decide_eq_true_eq] at *
   all_goals omega
  rintro _ _ ⟨rfl, rfl⟩
  refine Ac (λ h => ?_) (λ h => ?_)
  ·simp only [decide_eq_true_eq] at h
   exact ⟨by rw [hj, if_pos h], rfl⟩
  simp only [decide_eq_false_iff_not] at h
  rw [if_neg h] at hj
  refine l0 (As7 (Ac (λ h => ?_) (λ h => ?_)))
  ·exact ⟨by rw [hj, if_pos h], rfl⟩
  rw [if_neg (by rw [h]; decide)] at hj
  refine Ae (λ x W => x = (decide (p = 1 /\ s.conj = 2), ()) /\ w2 = W) ?_ ?_
  ·refine Ac (λ h => Ci h2 (x := (s.conj : Int)) rfl ⟨Au ?_, rfl⟩) (λ h => ⟨Au ?_, rfl⟩)
   all_goals simp only [beq_iff_eq, beq_eq_false_iff_ne, ne_eq, decide_eq_true_eq, Bool.false_eq_true, false_iff] at *
   all_goals omega
  rintro _ _ ⟨rfl, rfl⟩
  refine Ac (λ h => ?_) (λ h => ?_)
  ·simp only [decide_eq_true_eq] at h
   exact ⟨by rw [hj, if_pos h], rfl⟩
  simp only [decide_eq_false_iff_not] at h
  rw [if_neg h] at hj
  refine Ac (λ h => ?_) (λ h => ?_)
  ·simp only [beq_iff_eq] at h
   rw [if_pos (by omega)] at hj
   refine Ci h2 (x := (s.pict : Int)) rfl ⟨?_, rfl⟩
   rw [hj]
   exact Au (by simp only [beq_iff_eq]; omega)
  simp only [beq_eq_false_iff_ne, ne_eq] at h
  rw [if_neg (by omega)] at hj
  refine Ac (λ h => ?_) (λ h => ?_)
  ·simp only [beq_iff_eq] at h
   rw [if_pos (by omega)] at hj
   refine Ci h2 (x := (s.flags : Int)) rfl (Cm (by decide) ⟨?_, rfl⟩)
   rw [hj, Int.tmod_eq_emod_of_nonneg (by omega)]
   exact Au (by simp only [beq_iff_eq]; omega)
  ·simp only [beq_eq_false_iff_ne, ne_eq] at h
   rw [if_neg (by omega)] at hj
   exact ⟨by rw [hj], rfl⟩
 rintro _ _ ⟨rfl, rfl⟩
 refine Ae (λ _ W => Upd (λ k => k = b) w W /\ W.heap[b]? = some (scO (if joins s c p then s.note c p else s))) ?_ (λ _ W h => hK W h.1 h.2)
 refine Ac (λ h => ?_) (λ h => ?_)
 ·have h : joins s c p = true := h
  rw [if_pos h]
  exact Ag0 h2 hf λ w3 u3 n3 => ⟨(Upd.Ei e12).trans u3, n3⟩
 ·have h : joins s c p = false := h
  rw [if_neg (by rw [h]; decide)]
  exact ⟨Upd.Ei e12, h2⟩
theorem Bc2 {A : List Int} {s : Sl} {t : TypeId} {at_ : Nat} {y : Value} (hb : bk A at_ = true) (hl : A.length < 2 ^ 59) (Inv : Nat -> Wp) (Brk : World -> Prop)
  (hs : ∀ k W, Inv k W -> Bh W s t 1 (iv A)) (hx : ∀ k W W', Inv k W -> Ext W W' -> Inv k W')
  (hy : ∀ (i j : Nat) (W : World) (K : Bool -> Wp), Inv i W -> i < j -> bk A j = true -> (∀ k, i < k -> k < j -> bk A k = false) -> (∀ c W', (c = true -> Inv j W') -> (c = false -> Brk W') -> K c W') ->
   Bv Tryz.prog (do let d ← Deferred.ofValue y #[.int .i64 (j : Int)]; invoke d.target d.args : Sem Next) (.one (.one .bool)) K W)
  (h0 : Inv at_ w) {K : Unit -> Wp} (hK : ∀ W, Inv A.length W \/ Brk W -> K () W) :
  Aa Tryz.prog 177 #[s.v, .int .i64 (at_ : Int), y] (.tup []) K w := by
 refine Dn6 ?_
 unfold F177
 have hlen : A.length = s.len := by have := (hs _ _ h0).len1; rwa [List.length_map] at this
 refine Aw (λ x W => ∃ i, i <= A.length /\ x = ((i : Int), ()) /\ bk A i = true /\ Inv i W) (λ x _ => ((A.length : Int) - x.1).toNat) ⟨at_, Av2 hb, rfl, hb, h0⟩ ?_
 rintro _ W ⟨i, hi, rfl, hbi, hI⟩
 refine Ac (λ hc => ?_) (λ hc => ?_)
 ·simp only [decide_eq_true_eq] at hc
  have hil : i < A.length := by omega
  have ha : A[i]? = some A[i] := List.getElem?_eq_getElem hil
  refine Fh (c := .int .i64) (xs := A) (hs _ _ hI) (by omega) (x := A[i]) (by rw [Int.toNat_natCast]; exact ha) λ p => Bd2 λ w1 e1 => ?_
  refine Cc λ b w2 e2 n2 hb2 _ => Vs n2 rfl rfl (by decide) λ w3 u3 n3 _ => ?_
  have e3 : Ext W w3 := (e1.trans e2).step u3 λ k hk => by have := e1.size; omega
  have n3 : w3.heap[b]? = some (scO (sc (A.take (i + 1)))) := by rw [Cp4 hbi ha]; exact n3
  have bW : W.heap.size <= b := by have := e1.size; omega
  have ew : W64 ((i : Int) + 1) = ((i + 1 : Nat) : Int) := by rw [wrap64 (by omega) (by omega)]; omega
  rw [ew]
  refine Ae (λ _ W' => Inv i W' /\ ∀ k, i < k -> k < A.length -> bk A k = false) ?_ ?_
  ·refine Aw (λ x W' => ∃ k, i < k /\ k <= A.length /\ x = ((k : Int), ()) /\ Ext W W' /\ W'.heap[b]? = some (scO (sc (A.take k))) /\ ∀ q, i < q -> q < k -> bk A q = false) (λ x _ => ((A.length : Int) - x.1).toNat) ⟨i + 1, by omega, by omega, rfl, e3, n3, λ q h1 h2 => by omega⟩ ?_
   rintro _ W4 ⟨k, hik, hkl, rfl, e4, n4, hno⟩
   refine Ac (λ hc => ?_) (λ hc => ?_)
   ·simp only [decide_eq_true_eq] at hc
    have hkl : k < A.length := by omega
    have hk : A[k]? = some A[k] := List.getElem?_eq_getElem hkl
    have hI4 := hx _ _ _ hI e4
    have hfl := Bx1 (A.take k)
    rw [List.length_take] at hfl
    refine Fh (c := .int .i64) (xs := A) (hs _ _ hI4) (by omega) (x := A[k]) (by rw [Int.toNat_natCast]; exact hk) λ p => Ax0 n4 (by omega) λ w5 u5 n5 => ?_
    have e5 : Ext W w5 := e4.step u5 λ q hq => by omega
    have hbk := Bi3 hk (by omega)
    refine Ac (λ hj => ?_) (λ hj => ?_)
    ·have ew : W64 ((k : Int) + 1) = ((k + 1 : Nat) : Int) := by rw [wrap64 (by omega) (by omega)]; omega
     rw [if_pos hj, ← Ae5 hj] at n5
     have e : sc (A.take (k + 1)) = stp (sc (A.take k)) A[k] := by rw [List.take_add_one, hk]; exact Xr _ _
     rw [← e] at n5
     refine ⟨⟨k + 1, by omega, by omega, by rw [ew], e5, n5, λ q h1 h2 => ?_⟩, by rw [ew]; omega⟩
     by_cases hq : q = k
     ·rw [hq, hbk, hj]; rfl
     ·exact hno q h1 (by omega)
    ·rw [hj] at hbk
     refine hy i k w5 _ (hx _ _ _ hI e5) hik hbk hno λ c W' h1 h2 => Ac (λ hn => ?_) (λ hn => ?_)
     ·have hc : c = false := by cases c <;> simp_all
      exact hK W' (.inr (h2 hc))
     ·have hc : c = true := by cases c <;> simp_all
      exact ⟨⟨k, by omega, rfl, hbk, h1 hc⟩, by omega⟩
   ·simp only [decide_eq_false_iff_not] at hc
    exact ⟨hx _ _ _ hI e4, λ q h1 h2 => hno q h1 (by omega)⟩
  ·rintro _ W5 ⟨hI5, hno⟩
   rw [← hlen]
   exact hy i A.length W5 _ hI5 hil (An6 A) hno λ c W' h1 h2 => hK W' (by cases c with
    | true => exact .inl (h1 rfl)
    | false => exact .inr (h2 rfl))
 ·simp only [decide_eq_false_iff_not] at hc
  have : i = A.length := by omega
  subst this
  exact hK W (.inl hI)
abbrev nv (l : List Nat) : List Value := l.map λ (n : Nat) => Value.int .i64 (n : Int)
theorem An2 {A : List Int} {s : Sl} {t : TypeId} (hs : Bh w s t 1 (iv A)) (hl : A.length < 2 ^ 40) {K : Sl -> Wp} (hK : ∀ s' w', Ap w' w.heap.size s' 3 1 (nv (cuts A)) -> Ext w w' -> K s' w') :
  Aa Tryz.prog 131 #[s.v] rS K w := by
 refine Dq5 ?_
 unfold F131
 refine Cc λ b1 w1 e1 n1 hb1 _ => Cc λ b2 w2 e2 n2 hb2 _ => Iu n2 Nat.one_pos λ w3 u3 n3 _ => ?_
 have e3 : Ext w w3 := (e1.trans e2).step u3 λ k hk => by have := e1.size; omega
 have hb12 : w.heap.size <= b2 := by have := e1.size; omega
 have hlt : b1 ≠ b2 := by have := lt_of_heap n1; omega
 have o3 : Ap w3 w.heap.size ⟨some (at0 b1), 1, 1⟩ 3 1 (nv [0]) := by
  refine ⟨rfl, Nat.le_refl _, .inr ⟨b1, 0, #[.int .i64 0], rfl, by omega, u3.get (e2.ext_get n1) hlt, by show 0 + 1 * 1 <= 1; decide, λ i v hv => ?_⟩⟩
  rw [Nat.zero_add]
  simpa using hv
 refine Bc2 (A := A) (s := s) (t := t) (at_ := 0) (Zc A) (by omega) (λ k W => ∃ o, W.heap[b2]? = some (.cells #[.slice o.a o.len o.cap] 43 (0, 0)) /\ Ap W w.heap.size o 3 1 (nv (Jv A k)) /\ Ext w W /\ k <= A.length) (λ _ => False) ?_ ?_ ?_ ?_ ?_
 ·rintro k W ⟨o, _, _, e, _⟩
  exact hs.ext e
 ·rintro k W W' ⟨o, h1, h2, h3, h4⟩ e
  exact ⟨o, e.ext_get h1, h2.ext e, h3.trans e, h4⟩
 ·rintro i j W K' ⟨o, h1, h2, h3, h4⟩ hij hbj hno hK'
  have hol := h2.len1
  rw [List.length_map] at hol
  have hcl := Ab0 A i
  refine func_x (caps := #[.pointer (some (at0 b2))]) (by kernel_rfl) ?_
  refine Dn5 ?_
  unfold F178
  refine Ci h1 (x := o) rfl (Cc λ b4 w4 e4 n4 hb4 _ => ?_)
  refine Ec Tc Tc.ts_ (x := ⟨some (at0 b4), 1, 1⟩) (h2.ext e4) (Z7 n4) (λ v hv => by rw [List.mem_singleton.1 hv]; rfl) (by
   show (o.len + 1 + (o.len + 1) / 4 + 512) * 8 <= 2 ^ 48
   omega) (by have := h3.size; have := e4.size; omega) λ o' w5 o5 l5 u5 k5 => ?_
  have n5 : w5.heap[b2]? = some (.cells #[.slice o.a o.len o.cap] 43 (0, 0)) := u5.get (e4.ext_get h1) λ hb => by
   obtain ⟨c, fr, hc⟩ := (h2.ext e4).in.Eo hb
   rw [e4.ext_get h1] at hc; cases hc
  refine Iu n5 Nat.one_pos λ w6 u6 n6 _ => hK' true w6 (λ _ => ⟨o', n6, ?_, ?_, Av2 hbj⟩) (λ h => by cases h)
  ·have := o5.box n5 (by decide) u6
   have e : nv (Jv A j) = nv (Jv A i) ++ [.int .i64 (j : Int)] := by rw [Au0 hij hbj hno]; simp
   rw [e]; exact this
  ·exact ((h3.trans e4).step u5 λ k hk => h2.Et hk).step u6 λ k hk => by omega
 ·refine ⟨⟨some (at0 b1), 1, 1⟩, n3, ?_, e3, Nat.zero_le _⟩
  rw [At9]
  exact o3
 ·rintro W (⟨o, h1, h2, h3, h4⟩ | h)
  ·exact Ci h1 (x := o) rfl (hK o W h2 h3)
  ·exact h.elim
end
end Go.Proofs.YtolhlldgnfbemaaGreatDoor
namespace Go.Proofs.YtolhlldgnfbemaaGreatDoor
open Trx Gly Clu
namespace Lns
structure Ln where
 from_ : Nat
 to_ : Nat
 next : Nat
 kind : Nat
 deriving DecidableEq
def isb (A : List Int) (n : Nat) : Bool := match A[n]? with
 | some a => isE a (A.drop (n + 1))
 | none => false
theorem Oy : ∀ (A : List Int) (n : Nat), nb A (n + 1) = nb A n + (if isb A n then 1 else 0)
 | [], n => by cases n <;> simp [nb, isb]
 | a :: r, 0 => by simp [nb, La, isb]
 | a :: r, n + 1 => by
  have ih := Oy r n
  rw [nb, ih, nb]
  have : isb (a :: r) (n + 1) = isb r n := by simp [isb]
  rw [this]; omega
theorem Il {A : List Int} {n : Nat} {a : Int} (h : A[n]? = some a) : isb A n = true ↔ a = 10 \/ (a = 13 /\ A[n + 1]? ≠ some 10) := by
 unfold isb
 rw [h]
 simp only [isE, Bool.or_eq_true, beq_iff_eq, Bool.and_eq_true, bne_iff_ne, ne_eq, List.head?_drop]
theorem Cn1 {A : List Int} {n : Nat} (h : isb A n = true) : n < A.length := by
 unfold isb at h
 split at h
 ·rename_i a ha; exact (List.getElem?_eq_some_iff.1 ha).1
 ·cases h
theorem Nw {A : List Int} {k m : Nat} (h : sk A k = some m) : k <= brs A /\ m <= A.length /\ nb A m = k /\ ∀ j, j < m -> nb A j < k := by
 by_cases hk : k <= brs A
 ·obtain ⟨m', h1, h2, h3, h4⟩ := Aj8 A k hk
  rw [h] at h1; cases h1
  exact ⟨hk, h2, h3, h4⟩
 ·rw [Vb A k (by omega)] at h; cases h
theorem Ae7 {A : List Int} {k : Nat} (h : k <= brs A) : ∃ m, sk A k = some m := by
 obtain ⟨m, h1, _⟩ := Aj8 A k h
 exact ⟨m, h1⟩
theorem Aj7 (A : List Int) : sk A 0 = some 0 := by cases A <;> rfl
theorem Cj3 {A : List Int} {i j m x : Nat} (h1 : sk A i = some m) (h2 : sk A j = some x) (hij : i < j) : m < x := by
 obtain ⟨_, _, g1, _⟩ := Nw h1
 obtain ⟨_, _, g2, g3⟩ := Nw h2
 rcases Nat.lt_or_ge m x with h | h
 ·exact h
 ·have := Js A x m h; omega
theorem Cl3 {A : List Int} {k m : Nat} (h : sk A (k + 1) = some m) : 0 < m /\ isb A (m - 1) = true := by
 obtain ⟨_, _, h3, h4⟩ := Nw h
 cases m with
 | zero => rw [La] at h3; omega
 | succ m =>
  refine ⟨by omega, ?_⟩
  have := h4 m (by omega)
  rw [Oy] at h3
  rw [Nat.add_sub_cancel]
  cases hb : isb A m with
  | true => rfl
  | false => rw [hb] at h3; simp at h3; omega
def lnC (A : List Int) (f x : Nat) : Ln := if A[x - 1]? = some 13 then ⟨f, x - 1, x, 3⟩ else if f + 1 < x /\ A[x - 2]? = some 13 then ⟨f, x - 2, x, 2⟩ else ⟨f, x - 1, x, 1⟩
def Kw (A : List Int) (i : Nat) : Option Ln := match sk A i with
 | none => none
 | some f => some (match sk A (i + 1) with | some x => lnC A f x | none => ⟨f, A.length, A.length, 0⟩)
def lnI (A : List Int) (i : Int) : Option Ln := if i < 0 then none else Kw A i.toNat
def ended (A : List Int) : Bool := decide (0 < A.length) && sk A (brs A) == some A.length
def lnN (A : List Int) : Nat := brs A + (if ended A then 0 else 1)
theorem Qp {A : List Int} {i : Nat} {l : Ln} (h : Kw A i = some l) : i <= brs A /\ sk A i = some l.from_ := by
 unfold Kw at h
 split at h
 ·cases h
 ·rename_i f hf
  cases h
  refine ⟨(Nw hf).1, ?_⟩
  split
  ·unfold lnC; split
   ·exact hf
   ·split <;> exact hf
  ·exact hf
theorem Bg6 {A : List Int} {i : Nat} (h : i <= brs A) : ∃ l, Kw A i = some l := by
 obtain ⟨m, hm⟩ := Ae7 h
 unfold Kw; rw [hm]; exact ⟨_, rfl⟩
structure Co3 (A : List Int) (i : Nat) (l : Ln) : Prop where
 ft : l.from_ <= l.to_
 tn : l.to_ <= l.next
 nl : l.next <= A.length
 nbf : ∀ k, l.from_ <= k -> k < l.next -> nb A k = i
 nbF : nb A l.from_ = i
 tail : sk A (i + 1) = none -> l.kind = 0 /\ l.to_ = A.length /\ l.next = A.length
 brk : ∀ x, sk A (i + 1) = some x -> l.next = x /\ l.to_ < l.next /\ l.kind ≠ 0 /\ nb A x = i + 1
 plain : ∀ j a, l.from_ <= j -> j < l.to_ -> A[j]? = some a -> a ≠ 10 /\ a ≠ 13
 atTo : ∀ a, l.to_ < l.next -> A[l.to_]? = some a -> a = 10 \/ a = 13
 noLF : ∀ j, l.from_ <= j -> j < l.to_ -> A[j]? ≠ some 13
theorem Bv5 {A : List Int} {i : Nat} {l : Ln} (h : Kw A i = some l) : Co3 A i l := by
 obtain ⟨hi, hf⟩ := Qp h
 obtain ⟨_, hfl, hnf, hfmin⟩ := Nw hf
 unfold Kw at h
 rw [hf] at h
 simp only [Option.some.injEq] at h
 cases hx : sk A (i + 1) with
 | none =>
  rw [hx] at h
  simp only at h
  have hbr : brs A <= i := by
   rcases Nat.lt_or_ge i (brs A) with h1 | h1
   ·obtain ⟨m, hm⟩ := Ae7 (A := A) (k := i + 1) (by omega)
    rw [hm] at hx; cases hx
   ·exact h1
  have hall : ∀ k, l.from_ <= k -> nb A k = i := λ k hk => by
   have h1 := Js A _ _ hk
   have h2 := Js A k (max k A.length) (by omega)
   rw [Y8 A (max k A.length) (by omega)] at h2
   omega
  have pl : ∀ j a, l.from_ <= j -> j < A.length -> A[j]? = some a -> a ≠ 10 /\ a ≠ 13 := by
   have no : ∀ j, l.from_ <= j -> isb A j = false := λ j hj => by
    have h1 := hall j hj
    have h2 := hall (j + 1) (by omega)
    rw [Oy, h1] at h2
    cases hb : isb A j with
    | false => rfl
    | true => rw [hb] at h2; simp at h2
   intro j a hj hjl ha
   have h1 := no j hj
   constructor
   ·intro e
    have := (Il ha).2 (.inl e)
    rw [h1] at this; cases this
   ·intro e
    have h2 := no (j + 1) (by omega)
    by_cases h10 : A[j + 1]? = some 10
    ·have := (Il h10).2 (.inl rfl)
     rw [h2] at this; cases this
    ·have := (Il ha).2 (.inr ⟨e, h10⟩)
     rw [h1] at this; cases this
  have el : l = ⟨l.from_, A.length, A.length, 0⟩ := h.symm
  have e1 : l.to_ = A.length := by rw [el]
  have e2 : l.next = A.length := by rw [el]
  have e3 : l.kind = 0 := by rw [el]
  exact ⟨by omega, by omega, by omega, λ k h1 _ => hall k h1, hnf, λ _ => ⟨e3, e1, e2⟩, (λ x hx' => by rw [hx] at hx'; cases hx'), λ j a h1 h2 => pl j a h1 (by omega), λ a h1 => by omega, λ j h1 h2 h3 => (pl j 13 h1 (by omega) h3).2 rfl⟩
 | some x =>
  rw [hx] at h
  simp only at h
  obtain ⟨hib, hxl, hnx, hxmin⟩ := Nw hx
  obtain ⟨hx0, hxe⟩ := Cl3 hx
  have hfx := Cj3 hf hx (by omega)
  have hmid : ∀ k, l.from_ <= k -> k < x -> nb A k = i := λ k h1 h2 => by
   have := Js A _ _ h1
   have := hxmin k h2
   omega
  have no : ∀ j, l.from_ <= j -> j + 1 < x -> isb A j = false := λ j hj hjx => by
   have h1 := hmid j hj (by omega)
   have h2 := hmid (j + 1) (by omega) hjx
   rw [Oy, h1] at h2
   cases hb : isb A j with
   | false => rfl
   | true => rw [hb] at h2; simp at h2
  obtain ⟨a, ha⟩ : ∃ a, A[x - 1]? = some a := ⟨_, List.getElem?_eq_getElem (by omega)⟩
  have hend := (Il ha).1 hxe
  have nx : x - 1 + 1 = x := by omega
  have fin : ∀ t, l.to_ = t -> l.next = x -> l.from_ <= t -> t < x -> l.kind ≠ 0 -> (∀ a, A[t]? = some a -> a = 10 \/ a = 13) -> (t + 1 = x \/ (t + 2 = x /\ A[t]? = some 13)) -> (t + 1 = x -> ∀ j, j + 1 = t -> l.from_ <= j -> A[t]? = some 10 -> A[j]? ≠ some 13) -> Co3 A i l := by
   intro t e1 e2 h1 h2 h3 h4 h5 h6
   have pl : ∀ j a, l.from_ <= j -> j < t -> A[j]? = some a -> a ≠ 10 /\ a ≠ 13 := by
    intro j a hj hjt ha
    have g1 := no j hj (by omega)
    refine ⟨λ e => ?_, λ e => ?_⟩
    ·have := (Il ha).2 (.inl e)
     rw [g1] at this; cases this
    ·by_cases h10 : A[j + 1]? = some 10
     ·by_cases hj2 : j + 2 < x
      ·have g2 := no (j + 1) (by omega) (by omega)
       have := (Il h10).2 (.inl rfl)
       rw [g2] at this; cases this
      ·rcases h5 with h5 | h5
       ·have ht : t = j + 1 := by omega
        subst ht
        exact h6 h5 j rfl hj h10 (by rw [ha, e])
       ·omega
     ·have := (Il ha).2 (.inr ⟨e, h10⟩)
      rw [g1] at this; cases this
   exact ⟨by omega, by omega, by omega, λ k g1 g2 => hmid k g1 (by omega), hnf, (λ hn => by rw [hx] at hn; cases hn), (λ y hy => by rw [hx] at hy; cases hy; exact ⟨e2, by omega, h3, hnx⟩), λ j a g1 g2 => pl j a g1 (by omega), λ a _ g => h4 a (by rw [← e1]; exact g), λ j g1 g2 g3 => (pl j 13 g1 (by omega) g3).2 rfl⟩
  unfold lnC at h
  split at h
  ·rename_i h13
   have el : l = ⟨l.from_, x - 1, x, 3⟩ := h.symm
   refine fin (x - 1) (by rw [el]) (by rw [el]) (by omega) (by omega) (by rw [el]; exact (by decide : (3 : Nat) ≠ 0)) (λ a h => by rw [h13] at h; cases h; exact .inr rfl) (.inl (by omega)) (λ _ j _ _ h => by rw [h13] at h; cases h)
  ·rename_i h13
   have ha10 : a = 10 := by
    rcases hend with h | h
    ·exact h
    ·exact absurd (by rw [ha, h.1]) h13
   split at h
   ·rename_i h2
    have el : l = ⟨l.from_, x - 2, x, 2⟩ := h.symm
    exact fin (x - 2) (by rw [el]) (by rw [el]) (by omega) (by omega) (by rw [el]; exact (by decide : (2 : Nat) ≠ 0)) (λ a h => by rw [h2.2] at h; cases h; exact .inr rfl) (.inr ⟨by omega, h2.2⟩) (λ h => by omega)
   ·rename_i h2
    have el : l = ⟨l.from_, x - 1, x, 1⟩ := h.symm
    refine fin (x - 1) (by rw [el]) (by rw [el]) (by omega) (by omega) (by rw [el]; exact (by decide : (1 : Nat) ≠ 0)) (λ b h => by rw [ha] at h; cases h; exact .inl ha10) (.inl (by omega)) (λ _ j hj hfj _ h => h2 ⟨by omega, ?_⟩)
    rw [← h]; congr 1; omega
theorem Cq7 (A : List Int) {at_ : Nat} (h : at_ <= A.length) : ∃ l, Kw A (nb A at_) = some l /\ l.from_ <= at_ /\ (at_ < l.next \/ (sk A (nb A at_ + 1) = none /\ l.next = A.length)) := by
 have hle : nb A at_ <= brs A := by rw [Jk]; exact Js A _ _ h
 obtain ⟨l, hl⟩ := Bg6 hle
 obtain ⟨_, hf⟩ := Qp hl
 obtain ⟨_, _, g1, g2⟩ := Nw hf
 have ok := Bv5 hl
 refine ⟨l, hl, ?_, ?_⟩
 ·rcases Nat.lt_or_ge at_ l.from_ with h1 | h1
  ·have := g2 at_ h1; omega
  ·exact h1
 ·cases hx : sk A (nb A at_ + 1) with
  | none => exact .inr ⟨rfl, (ok.tail hx).2.2⟩
  | some x =>
   obtain ⟨e1, _, _, e2⟩ := ok.brk x hx
   left
   rcases Nat.lt_or_ge at_ l.next with h1 | h1
   ·exact h1
   ·have := Js A l.next at_ h1
    rw [e1, e2] at this; omega
end Lns
end Go.Proofs.YtolhlldgnfbemaaGreatDoor
namespace Go.Proofs.YtolhlldgnfbemaaGreatDoor
open Trx Gly Clu Lns
namespace Obx
structure Cel where
 from_ : Nat
 to_ : Nat
 kind : Nat
 alone : Bool
 atom : Int
def Au6 (A : List Int) (off i j : Nat) : Cel := ⟨off + i, off + j, wrd (A[i]?.getD 0), decide (j = i + 1), A[i]?.getD 0⟩
def Ab7 (A : List Int) (off : Nat) : List Nat -> List Cel
 | i :: j :: r => Au6 A off i j :: Ab7 A off (j :: r)
 | _ => []
def Si (A : List Int) (off : Nat) : List Cel := Ab7 A off (cuts A)
theorem F8 (A : List Int) (off : Nat) : ∀ L : List Nat, (Ab7 A off L).length = L.length - 1
 | [] => rfl
 | [_] => rfl
 | i :: j :: r => by rw [Ab7, List.length_cons, F8 A off (j :: r)]; simp
theorem Ah8 (A : List Int) (off : Nat) : ∀ (L : List Nat) (m i j : Nat), L[m]? = some i -> L[m + 1]? = some j -> (Ab7 A off L)[m]? = some (Au6 A off i j)
 | [], _, _, _, h, _ => by simp at h
 | [_], m, _, _, _, h => by simp at h
 | i :: j :: r, 0, _, _, h, h' => by
  simp at h h'
  subst h h'
  rfl
 | i :: j :: r, m + 1, x, y, h, h' => by
  rw [Ab7, List.getElem?_cons_succ]
  exact Ah8 A off (j :: r) m x y (by simpa using h) (by simpa using h')
theorem Bz1 (A : List Int) (off : Nat) : ∀ (L : List Nat) (m : Nat) (c : Cel), (Ab7 A off L)[m]? = some c -> ∃ i j, L[m]? = some i /\ L[m + 1]? = some j /\ c = Au6 A off i j := by
 intro L m c h
 have hl := (List.getElem?_eq_some_iff.1 h).1
 rw [F8] at hl
 have h1 : L[m]? = some L[m] := List.getElem?_eq_getElem (by omega)
 have h2 : L[m + 1]? = some L[m + 1] := List.getElem?_eq_getElem (by omega)
 have := Ah8 A off L m _ _ h1 h2
 rw [h] at this
 exact ⟨_, _, h1, h2, Option.some.inj this⟩
theorem F5 (A : List Int) : (cuts A)[0]? = some 0 := by
 unfold cuts Jv
 rw [List.range_succ_eq_map, List.filter_cons_of_pos (Zc A)]
 rfl
theorem At8 {A : List Int} {m n i j : Nat} (hmn : m < n) (h : (cuts A)[m]? = some i) (h' : (cuts A)[n]? = some j) : i < j := by
 have hp := Ch8 (A := A)
 obtain ⟨h1, rfl⟩ := List.getElem?_eq_some_iff.1 h
 obtain ⟨h2, rfl⟩ := List.getElem?_eq_some_iff.1 h'
 exact List.pairwise_iff_getElem.1 hp m n h1 h2 hmn
theorem U2 {A : List Int} {m i : Nat} (h : (cuts A)[m]? = some i) : bk A i = true := Ar7.1 (List.mem_of_getElem? h)
theorem E8 (A : List Int) : (cuts A)[(cuts A).length - 1]? = some A.length := by
 have h : A.length ∈ cuts A := Ar7.2 (An6 A)
 obtain ⟨m, hm⟩ := List.getElem?_of_mem h
 have hl := (List.getElem?_eq_some_iff.1 hm).1
 by_cases he : m = (cuts A).length - 1
 ·rw [← he]; exact hm
 ·have h2 : (cuts A)[(cuts A).length - 1]? = some (cuts A)[(cuts A).length - 1] := List.getElem?_eq_getElem (by omega)
  have := At8 (by omega) hm h2
  have := Av2 (U2 h2)
  omega
theorem Aa9 (A : List Int) : 0 < (cuts A).length := by
 have := (List.getElem?_eq_some_iff.1 (F5 A)).1
 exact this
structure Ct1 (A : List Int) (off m : Nat) (c : Cel) : Prop where
 ex : ∃ i j, (cuts A)[m]? = some i /\ (cuts A)[m + 1]? = some j /\ i < j /\ j <= A.length /\ c.from_ = off + i /\ c.to_ = off + j /\ bk A i = true /\ bk A j = true /\ A[i]? = some c.atom /\ c.kind = wrd c.atom /\ (c.alone = true ↔ j = i + 1)
theorem Ph {A : List Int} {off m : Nat} {c : Cel} (h : (Si A off)[m]? = some c) : Ct1 A off m c := by
 obtain ⟨i, j, h1, h2, rfl⟩ := Bz1 A off _ m c h
 have hij := At8 (by omega) h1 h2
 have hj := Av2 (U2 h2)
 have ha : A[i]? = some A[i] := List.getElem?_eq_getElem (by omega)
 refine ⟨i, j, h1, h2, hij, hj, rfl, rfl, U2 h1, U2 h2, ?_, rfl, by simp [Au6]⟩
 simp [Au6, ha]
theorem Qx (A : List Int) (off : Nat) : (Si A off).length = (cuts A).length - 1 := F8 A off _
theorem Bp0 {A : List Int} {off m : Nat} {c d : Cel} (h : (Si A off)[m]? = some c) (h' : (Si A off)[m + 1]? = some d) : c.to_ = d.from_ := by
 obtain ⟨i, j, h1, h2, h3, h4, h5, h6, _⟩ := (Ph h).ex
 obtain ⟨i', j', g1, g2, g3, g4, g5, g6, _⟩ := (Ph h').ex
 rw [h2] at g1
 have : j = i' := Option.some.inj g1
 omega
theorem Bc7 {A : List Int} {off : Nat} {c : Cel} (h : (Si A off)[0]? = some c) : c.from_ = off := by
 obtain ⟨i, j, h1, h2, h3, h4, h5, h6, _⟩ := (Ph h).ex
 rw [F5] at h1
 have : 0 = i := Option.some.inj h1
 omega
theorem Bp1 {A : List Int} {off m : Nat} {c : Cel} (h : (Si A off)[m]? = some c) (hm : m + 1 = (Si A off).length) : c.to_ = off + A.length := by
 obtain ⟨i, j, h1, h2, h3, h4, h5, h6, _⟩ := (Ph h).ex
 have := Aa9 A
 rw [Qx] at hm
 have e : m + 1 = (cuts A).length - 1 := hm
 rw [e, E8] at h2
 have : A.length = j := Option.some.inj h2
 omega
theorem Ci2 (A : List Int) (off : Nat) : (Si A off).length <= A.length := by
 rw [Qx]
 have := Ab0 A A.length
 unfold cuts; omega
def Dw (C : List Cel) (at_ : Int) : Nat := C.findIdx λ c => decide (at_ < (c.to_ : Int))
theorem D7 (C : List Cel) (at_ : Int) : Dw C at_ <= C.length := List.findIdx_le_length
theorem D8 {C : List Cel} {at_ : Int} {i : Nat} (hi : i <= C.length) (h1 : ∀ (j : Nat) (c : Cel), j < i -> C[j]? = some c -> (c.to_ : Int) <= at_) (h2 : ∀ c, C[i]? = some c -> at_ < (c.to_ : Int)) : Dw C at_ = i := by
 unfold Dw
 by_cases he : i = C.length
 ·subst he
  rw [List.findIdx_eq_length]
  intro c hc
  obtain ⟨j, hj⟩ := List.getElem?_of_mem hc
  have := h1 j c (List.getElem?_eq_some_iff.1 hj).1 hj
  rw [decide_eq_false_iff_not]; omega
 ·have hlt : i < C.length := by omega
  rw [List.findIdx_eq hlt]
  refine ⟨decide_eq_true (h2 _ (List.getElem?_eq_getElem hlt)), λ j hj => ?_⟩
  have := h1 j _ hj (List.getElem?_eq_getElem (by omega))
  rw [decide_eq_false_iff_not]; omega
theorem Pg {C : List Cel} {at_ : Int} : (∀ (j : Nat) (c : Cel), j < Dw C at_ -> C[j]? = some c -> (c.to_ : Int) <= at_) /\ (∀ c, C[Dw C at_]? = some c -> at_ < (c.to_ : Int)) := by
 constructor
 ·intro j c hj hc
  have := List.not_of_lt_findIdx hj
  obtain ⟨h, rfl⟩ := List.getElem?_eq_some_iff.1 hc
  simpa using this
 ·intro c hc
  obtain ⟨h, rfl⟩ := List.getElem?_eq_some_iff.1 hc
  have := List.findIdx_getElem (w := h)
  exact of_decide_eq_true this
end Obx
end Go.Proofs.YtolhlldgnfbemaaGreatDoor
namespace Go.Proofs.YtolhlldgnfbemaaGreatDoor
open Trx Gly Clu Lns Obx
namespace Obx
def Bg8 (A : List Int) (l : Ln) : List Cel := Si ((A.drop l.from_).take (l.to_ - l.from_)) l.from_
end Obx
namespace Obx
def frm (C : List Cel) (j : Nat) : Nat := (C[j]?.map (·.from_)).getD 0
theorem Ir {C : List Cel} {j : Nat} {c : Cel} (h : C[j]? = some c) : frm C j = c.from_ := by unfold frm; rw [h]; rfl
structure Df7 (A : List Int) (l : Ln) (c : Cel) (ci cj : Nat) : Prop where
 from_ : c.from_ = l.from_ + ci
 to_ : c.to_ = l.from_ + cj
 lt : ci < cj
 le : c.to_ <= l.to_
 atom : A[c.from_]? = some c.atom
 kind : c.kind = wrd c.atom
 alone : c.alone = decide (c.to_ = c.from_ + 1)
theorem Yk {A : List Int} {l : Ln} (h1 : l.from_ <= l.to_) (h2 : l.to_ <= A.length) {i : Nat} {c : Cel} (hc : (Bg8 A l)[i]? = some c) : ∃ ci cj, (cuts ((A.drop l.from_).take (l.to_ - l.from_)))[i]? = some ci /\ (cuts ((A.drop l.from_).take (l.to_ - l.from_)))[i + 1]? = some cj /\ Df7 A l c ci cj := by
 obtain ⟨ci, cj, g1, g2, g3, g4, g5, g6, _, _, g9, g10, g11⟩ := (Ph hc).ex
 rw [List.length_take, List.length_drop] at g4
 refine ⟨ci, cj, g1, g2, g5, g6, g3, by omega, ?_, g10, ?_⟩
 ·rw [List.getElem?_take, if_pos (by omega), List.getElem?_drop] at g9
  rw [g5]; exact g9
 ·rw [Bool.eq_iff_iff, g11]; simp; omega
end Obx
namespace Obx
structure Chain (C : List Cel) : Prop where
 pos : ∀ (i : Nat) c, C[i]? = some c -> c.from_ < c.to_
 next : ∀ (i : Nat) c d, C[i]? = some c -> C[i + 1]? = some d -> c.to_ = d.from_
theorem Chain.mono {C : List Cel} (h : Chain C) : ∀ (d i : Nat) c e, C[i]? = some c -> C[i + 1 + d]? = some e -> c.to_ <= e.from_
 | 0, i, c, e, h1, h2 => Nat.le_of_eq (h.next i c e h1 h2)
 | d + 1, i, c, e, h1, h2 => by
  obtain ⟨x, hx⟩ : ∃ x, C[i + 1]? = some x := ⟨_, List.getElem?_eq_getElem (by have := (List.getElem?_eq_some_iff.1 h2).1; omega)⟩
  have e1 := h.next i c x h1 hx
  have := h.mono d (i + 1) x e hx (by rw [show i + 1 + 1 + d = i + 1 + (d + 1) by omega]; exact h2)
  have := h.pos _ x hx
  omega
theorem Chain.lt {C : List Cel} (h : Chain C) {i j : Nat} {c e : Cel} (hij : i < j) (h1 : C[i]? = some c) (h2 : C[j]? = some e) : c.to_ <= e.from_ := h.mono (j - i - 1) i c e h1 (by rw [show i + 1 + (j - i - 1) = j by omega]; exact h2)
theorem Bc8 (A : List Int) (off : Nat) : Chain (Si A off) := ⟨λ i c h => by obtain ⟨a, b, _, _, g, _, g1, g2, _⟩ := (Ph h).ex; omega, λ i c d h h' => Bp0 h h'⟩
end Obx
namespace Mot
def Ba (A : List Int) (i : Nat) : Ln := (Kw A i).getD ⟨0, 0, 0, 0⟩
def Ag (A : List Int) (i : Nat) : List Cel := Bg8 A (Ba A i)
def inT (A : List Int) (x : Int) : Nat := (min (max x 0) (A.length : Int)).toNat
def ofI (A : List Int) (x : Int) : Nat := nb A (inT A x)
def Dk (A : List Int) (x : Int) (tail : Bool) : Nat := if tail then ofI A x else min (ofI A x) (lnN A - 1)
def Bf (A : List Int) (i : Nat) (c : Int) : Nat := if c.toNat < (Ag A i).length then frm (Ag A i) c.toNat else (Ba A i).to_
def Az (A : List Int) (x : Int) (past : Bool) : Nat :=
 if (Ba A (Dk A x past)).to_ <= inT A x then (if past then (Ba A (Dk A x past)).to_ else Bf A (Dk A x past) (((Ag A (Dk A x past)).length : Int) - 1))
 else Bf A (Dk A x past) ((Dw (Ag A (Dk A x past)) (inT A x : Int) : Nat) : Int)
def U3 (A : List Int) (x : Int) : Nat := Dw (Ag A (ofI A x)) x
def kOf (count : Int) : Nat := if 0 < count then (min count 9999).toNat else 1
abbrev Ld := (Int × Int × Int) × Int
def Dv (A : List Int) (x : Nat) (kind : Int) : Ld := (((x : Int), kind, (U3 A (x : Int) : Int)), 0)
def noP (e : Int) : Ld := ((0, 0, 0), e)
def Gv (C : List Cel) (a : Int) (L : List Nat) (k : Nat) : Option Nat := (L.filter λ j => decide (C[j]?.map (·.atom) = some a))[k - 1]?
def upL (n c : Nat) : List Nat := List.range' (c + 1) (n - (c + 1))
def Qw (c : Nat) : List Nat := (List.range c).reverse
def V6 (A : List Int) (i : Nat) : Nat := if (Ag A i).findIdx (λ c => c.kind != 0) < (Ag A i).length then (Ag A i).findIdx (λ c => c.kind != 0) else (Ag A i).length - 1
def Df (A : List Int) (x kind count arg : Int) (past : Bool) : Ld :=
 let s := Az A x past
 let i := Dk A (s : Int) past
 let n := (Ag A i).length
 let c := Dw (Ag A i) (s : Int)
 let most := if past then n else n - 1
 let k := kOf count
 if kind = 1 then (if c = 0 then noP 80 else Dv A (Bf A i ((c : Int) - k)) 0) else
 if kind = 2 then (if c = most then noP 80 else Dv A (Bf A i (min ((c : Int) + k) most)) 0) else
 if kind = 3 then Dv A (Ba A i).from_ 0 else
 if kind = 4 then Dv A (Bf A i (V6 A i)) 0 else
 if kind = 5 then
  let j := if i < lnN A - 1 /\ 1 < k then min (i + k - 1) (lnN A - 1) else i
  (((Bf A j (((Ag A j).length : Int) - 1) : Nat), 1, 100000), 0) else
 if kind = 6 then Dv A (Bf A i (min ((k : Int) - 1) most)) 0 else
 if kind = 7 \/ kind = 9 then (match Gv (Ag A i) arg (upL n c) k with
  | none => noP 80
  | some j => Dv A (Bf A i (if kind = 9 then (j : Int) - 1 else j)) 1) else
 if kind = 8 \/ kind = 10 then (match Gv (Ag A i) arg (Qw c) k with
  | none => noP 80
  | some j => Dv A (Bf A i (if kind = 10 then (j : Int) + 1 else j)) 0) else noP 1
def rowP (A : List Int) (i : Nat) : List (Nat × Nat) := if (Ag A i).length = 0 then [(i, 0)] else (List.range (Ag A i).length).map λ c => (i, c)
def Ae0 (A : List Int) : List (Nat × Nat) := (List.range (lnN A)).flatMap (rowP A)
def Cb (A : List Int) (p : Nat × Nat) : Nat := Bf A p.1 (p.2 : Int)
def Fg (C : List Cel) (j : Nat) (big : Bool) : Nat := if big then min ((C[j]?.map (·.kind)).getD 0) 1 else (C[j]?.map (·.kind)).getD 0
def Ol (A : List Int) (big : Bool) (p : Nat × Nat) : Bool := (Ag A p.1).length == 0 || (Fg (Ag A p.1) p.2 big != 0 && (p.2 == 0 || Fg (Ag A p.1) (p.2 - 1) big != Fg (Ag A p.1) p.2 big))
def Qv (A : List Int) (big : Bool) (p : Nat × Nat) : Bool := (Ag A p.1).length == 0 || (decide (p.2 < (Ag A p.1).length) && Fg (Ag A p.1) p.2 big != 0 && (p.2 + 1 == (Ag A p.1).length || Fg (Ag A p.1) (p.2 + 1) big != Fg (Ag A p.1) p.2 big))
def Md (A : List Int) (big : Bool) (p : Nat × Nat) : Bool := (Ag A p.1).length != 0 && Qv A big p
def Bo (A : List Int) (f : Nat × Nat -> Bool) : List Nat := ((Ae0 A).filter f).map (Cb A)
def Gn (l : List Nat) (least k : Nat) : Option Nat := (l.filter λ x => decide (least <= x))[k - 1]?
def beforeL (l : List Nat) (below k : Nat) : Option Nat := (l.filter λ x => decide (x < below)).reverse[k - 1]?
def Gm (A : List Int) : Nat := Bf A (lnN A - 1) (((Ag A (lnN A - 1)).length : Int) - 1)
def Xa (A : List Int) (x kind count : Int) (past : Bool) : Ld :=
 let s := Az A x past
 let k := kOf count
 let big := decide ((25 <= kind /\ kind <= 28) \/ kind = 30)
 if kind = 21 \/ kind = 25 then
  let to := (Gn (Bo A (Ol A big)) (s + 1) k).getD (if past then (Ba A (lnN A - 1)).to_ else Gm A)
  if to <= s then noP 80 else Dv A to 0 else
 if kind = 22 \/ kind = 26 then (if s = 0 then noP 80 else Dv A ((beforeL (Bo A (Ol A big)) s k).getD 0) 0) else
 if kind = 23 \/ kind = 27 then
  let to := (Gn (Bo A (Md A big)) (s + 1) k).getD (Gm A)
  if to <= s then noP 80 else Dv A to 1 else
 if kind = 24 \/ kind = 28 then (if s = 0 then noP 80 else Dv A ((beforeL (Bo A (Qv A big)) s k).getD 0) 1) else
 if kind = 29 \/ kind = 30 then Dv A ((Gn (Bo A (Md A big)) s k).getD (max (Gm A) s)) 1 else noP 1
end Mot
namespace Mot
variable {A : List Int} {i : Nat}
theorem Ve (h : i <= brs A) : Kw A i = some (Ba A i) := by
 obtain ⟨l, hl⟩ := Bg6 h
 unfold Ba; rw [hl]; rfl
theorem Dq (h : i <= brs A) : Co3 A i (Ba A i) := Bv5 (Ve h)
theorem Me (A : List Int) : brs A <= A.length := by rw [Jk]; exact Ar2 _ _
theorem Bq (A : List Int) : 1 <= lnN A /\ lnN A <= brs A + 1 := by
 unfold lnN
 by_cases h : ended A = true
 ·rw [if_pos h]
  unfold ended at h
  rw [Bool.and_eq_true, decide_eq_true_eq, beq_iff_eq] at h
  refine ⟨?_, by omega⟩
  rcases Nat.eq_zero_or_pos (brs A) with q | q
  ·rw [q, Aj7] at h
   have := Option.some.inj h.2
   omega
  ·omega
 ·rw [if_neg h]; omega
theorem Al8 (A : List Int) : brs A <= lnN A := by unfold lnN; omega
theorem Vj (A : List Int) (n : Nat) : nb A n <= brs A := by
 rw [Jk]
 rcases Nat.lt_or_ge n A.length with h | h
 ·exact Js A _ _ (by omega)
 ·rw [Y8 A n h, ← Jk]; exact Nat.le_refl _
theorem Bb0 (A : List Int) (x : Int) : inT A x <= A.length := by unfold inT; omega
theorem Xj {A : List Int} {n : Nat} (h : n <= A.length) : inT A (n : Int) = n := by unfold inT; omega
theorem Zr (A : List Int) (x : Int) : ofI A x <= brs A := Vj A _
theorem Vf (A : List Int) (x : Int) (tail : Bool) : Dk A x tail <= brs A := by
 unfold Dk
 split
 ·exact Zr A x
 ·have := Zr A x; omega
theorem Hy (A : List Int) (i : Nat) : Chain (Ag A i) := Bc8 _ _
theorem Xz (h : i <= brs A) : ((A.drop (Ba A i).from_).take ((Ba A i).to_ - (Ba A i).from_)).length = (Ba A i).to_ - (Ba A i).from_ := by
 have ok := Dq h
 have := ok.ft; have := ok.tn; have := ok.nl
 rw [List.length_take, List.length_drop]; omega
theorem X3 {c : Cel} (hc : (Ag A i)[0]? = some c) : c.from_ = (Ba A i).from_ := Bc7 hc
theorem Af1 (h : i <= brs A) {c : Cel} {m : Nat} (hc : (Ag A i)[m]? = some c) (hm : m + 1 = (Ag A i).length) : c.to_ = (Ba A i).to_ := by
 have := Bp1 hc hm
 rw [Xz h] at this
 have := (Dq h).ft
 omega
theorem Xy (h : i <= brs A) {c : Cel} {m : Nat} (hc : (Ag A i)[m]? = some c) : (Ba A i).from_ <= c.from_ /\ c.from_ < c.to_ /\ c.to_ <= (Ba A i).to_ := by
 obtain ⟨ci, cj, _, _, q⟩ := Yk (Dq h).ft (by have := (Dq h).tn; have := (Dq h).nl; omega) hc
 have := q.from_; have := q.to_; have := q.le; have := q.lt
 omega
theorem Nz (h : i <= brs A) : (Ag A i).length <= (Ba A i).to_ - (Ba A i).from_ := by
 have := Ci2 ((A.drop (Ba A i).from_).take ((Ba A i).to_ - (Ba A i).from_)) (Ba A i).from_
 rw [Xz h] at this; exact this
theorem Xx (h : i <= brs A) : (Ag A i).length = 0 ↔ (Ba A i).from_ = (Ba A i).to_ := by
 have ft := (Dq h).ft
 constructor
 ·intro h0
  have hl := Qx ((A.drop (Ba A i).from_).take ((Ba A i).to_ - (Ba A i).from_)) (Ba A i).from_
  have hcl := E8 ((A.drop (Ba A i).from_).take ((Ba A i).to_ - (Ba A i).from_))
  have hch := F5 ((A.drop (Ba A i).from_).take ((Ba A i).to_ - (Ba A i).from_))
  have hl2 : (cuts ((A.drop (Ba A i).from_).take ((Ba A i).to_ - (Ba A i).from_))).length - 1 = 0 := by rw [← hl]; exact h0
  rw [hl2, hch, Xz h] at hcl
  have := Option.some.inj hcl
  omega
 ·intro he
  have := Nz h
  omega
theorem Ea {C : List Cel} {j : Nat} (h : j < C.length) : ∃ c, C[j]? = some c := ⟨_, List.getElem?_eq_getElem h⟩
theorem Fj {c : Nat} (hc : c < (Ag A i).length) : Bf A i (c : Int) = frm (Ag A i) c := by
 unfold Bf; rw [Int.toNat_natCast, if_pos hc]
theorem Gq {c : Int} (hc : (Ag A i).length <= c.toNat) : Bf A i c = (Ba A i).to_ := by
 unfold Bf; rw [if_neg (by omega)]
theorem Jg {c : Int} (hc : c <= 0) : Bf A i c = Bf A i 0 := by
 unfold Bf
 rw [show c.toNat = 0 by omega]; rfl
theorem Kr (h : i <= brs A) (c : Int) : (Ba A i).from_ <= Bf A i c /\ Bf A i c <= (Ba A i).to_ := by
 have ft := (Dq h).ft
 unfold Bf
 by_cases hc : c.toNat < (Ag A i).length
 ·obtain ⟨x, hx⟩ := Ea hc
  rw [if_pos hc, Ir hx]
  have := Xy h hx
  omega
 ·rw [if_neg hc]; omega
theorem I9 (h : i <= brs A) : Bf A i 0 = (Ba A i).from_ := by
 by_cases h0 : (Ag A i).length = 0
 ·rw [Gq (by omega)]
  exact ((Xx h).1 h0).symm
 ·obtain ⟨x, hx⟩ := Ea (C := Ag A i) (j := 0) (by omega)
  have := Fj (A := A) (i := i) (c := 0) (by omega)
  rw [show ((0 : Nat) : Int) = 0 from rfl] at this
  rw [this, Ir hx]
  exact X3 hx
theorem Ue (h : i <= brs A) {c d : Nat} (hcd : c < d) (hd : d <= (Ag A i).length) : Bf A i (c : Int) < Bf A i (d : Int) := by
 obtain ⟨x, hx⟩ := Ea (C := Ag A i) (j := c) (by omega)
 rw [Fj (by omega), Ir hx]
 by_cases hd2 : d < (Ag A i).length
 ·obtain ⟨y, hy⟩ := Ea hd2
  rw [Fj hd2, Ir hy]
  have := (Hy A i).lt hcd hx hy
  have := (Hy A i).pos _ x hx
  omega
 ·rw [Gq (by omega)]
  have := Xy h hx
  omega
theorem Vp (h : i <= brs A) {c : Nat} (hc : c <= (Ag A i).length) : Dw (Ag A i) (Bf A i (c : Int) : Int) = c := by
 refine D8 hc (λ j x hj hx => ?_) λ x hx => ?_
 ·have hle : x.to_ <= Bf A i (c : Int) := by
   by_cases hc2 : c < (Ag A i).length
   ·obtain ⟨y, hy⟩ := Ea hc2
    rw [Fj hc2, Ir hy]
    exact (Hy A i).lt hj hx hy
   ·rw [Gq (by omega)]
    exact (Xy h hx).2.2
  omega
 ·have hlt := (List.getElem?_eq_some_iff.1 hx).1
  rw [Fj hlt, Ir hx]
  have := (Hy A i).pos _ x hx
  omega
theorem Xw {j : Nat} (hij : i < j) (hj : j <= brs A) : (Ba A i).next <= (Ba A j).from_ := by
 induction j with
 | zero => omega
 | succ j ih =>
  have h1 := Ve (A := A) (i := j) (by omega)
  have h2 := Ve (A := A) hj
  have hs := (Qp h2).2
  have hst := ((Bv5 h1).brk _ hs).1
  by_cases he : i = j
  ·subst he; omega
  ·have := ih (by omega) (by omega)
   have ok := Dq (A := A) (i := j) (by omega)
   have := ok.ft; have := ok.tn
   omega
theorem row_of {n : Nat} (hn : n <= A.length) : (Ba A (nb A n)).from_ <= n /\ (n < (Ba A (nb A n)).next \/ (nb A n = brs A /\ (Ba A (nb A n)).next = A.length)) := by
 obtain ⟨l, hl, h1, h2⟩ := Cq7 A hn
 have : Ba A (nb A n) = l := by unfold Ba; rw [hl]; rfl
 rw [this]
 refine ⟨h1, h2.imp id λ ⟨hs, h3⟩ => ⟨?_, h3⟩⟩
 have hb := Vj A n
 rcases Nat.lt_or_ge (nb A n) (brs A) with q | q
 ·obtain ⟨x, hx⟩ := Ae7 (A := A) (k := nb A n + 1) (by omega)
  rw [hx] at hs; cases hs
 ·omega
theorem Cq3 (h : i <= brs A) {n : Nat} (h1 : (Ba A i).from_ <= n) (h2 : n <= (Ba A i).to_) : nb A n = i := by
 have ok := Dq h
 have := ok.tn; have := ok.nl
 rcases Nat.lt_or_ge n (Ba A i).next with q | q
 ·exact ok.nbf n h1 q
 ·have hn : n = (Ba A i).next /\ n = (Ba A i).to_ := by omega
  cases hx : sk A (i + 1) with
  | none =>
   obtain ⟨_, h3, h4⟩ := ok.tail hx
   by_cases hf : (Ba A i).from_ < n
   ·have h5 := ok.nbf (n - 1) (by omega) (by omega)
    have h6 := Oy A (n - 1)
    have hno : isb A (n - 1) = false := by
     obtain ⟨a, ha⟩ : ∃ a, A[n - 1]? = some a := ⟨_, List.getElem?_eq_getElem (by omega)⟩
     have hp := ok.plain (n - 1) a (by omega) (by omega) ha
     cases hb : isb A (n - 1) with
     | false => rfl
     | true =>
      rcases (Il ha).1 hb with q | q
      ·exact absurd q hp.1
      ·exact absurd q.1 hp.2
    rw [hno, show n - 1 + 1 = n by omega] at h6
    simp at h6
    omega
   ·have : n = (Ba A i).from_ := by omega
    rw [this]; exact ok.nbF
  | some x =>
   have := (ok.brk x hx).2.1
   omega
theorem Bu4 (h : i <= brs A) (c : Int) : nb A (Bf A i c) = i := Cq3 h (Kr h c).1 (Kr h c).2
theorem Ob (h : i <= brs A) (c : Int) : Bf A i c <= A.length := by
 have := (Kr h c).2
 have ok := Dq h
 have := ok.tn; have := ok.nl
 omega
theorem Vh (h : i <= brs A) (c : Int) : ofI A (Bf A i c : Int) = i := by
 unfold ofI
 rw [Xj (Ob h c)]; exact Bu4 h c
end Mot
namespace Mot
variable {A : List Int} {p q : Nat × Nat}
def Jr (A : List Int) (p : Nat × Nat) : Option (Nat × Nat) := if p.2 + 1 < (Ag A p.1).length then some (p.1, p.2 + 1) else if lnN A <= p.1 + 1 then none else some (p.1 + 1, 0)
def Jz (A : List Int) (p : Nat × Nat) : Option (Nat × Nat) := if 0 < p.2 then some (p.1, p.2 - 1) else if p.1 = 0 then none else some (p.1 - 1, (Ag A (p.1 - 1)).length - 1)
def aft (A : List Int) (p : Nat × Nat) : List (Nat × Nat) := ((List.range' (p.2 + 1) ((Ag A p.1).length - (p.2 + 1))).map λ c => (p.1, c)) ++ (List.range' (p.1 + 1) (lnN A - (p.1 + 1))).flatMap (rowP A)
def bef (A : List Int) (p : Nat × Nat) : List (Nat × Nat) := ((List.range p.2).reverse.map λ c => (p.1, c)) ++ (List.range p.1).reverse.flatMap λ i => (rowP A i).reverse
theorem Bk3 (A : List Int) (i : Nat) : rowP A i = (i, 0) :: (List.range' 1 ((Ag A i).length - 1)).map λ c => (i, c) := by
 unfold rowP
 by_cases h : (Ag A i).length = 0
 ·rw [if_pos h, h]; rfl
 ·rw [if_neg h]
  obtain ⟨n, hn⟩ : ∃ n, (Ag A i).length = n + 1 := ⟨(Ag A i).length - 1, by omega⟩
  rw [hn, List.range_eq_range', List.range'_succ, List.map_cons]; rfl
theorem Bs5 (A : List Int) (i : Nat) : (rowP A i).reverse = (i, (Ag A i).length - 1) :: (List.range ((Ag A i).length - 1)).reverse.map λ c => (i, c) := by
 unfold rowP
 by_cases h : (Ag A i).length = 0
 ·rw [if_pos h, h]; rfl
 ·rw [if_neg h]
  obtain ⟨n, hn⟩ : ∃ n, (Ag A i).length = n + 1 := ⟨(Ag A i).length - 1, by omega⟩
  rw [hn, List.range_succ, List.map_append, List.reverse_append, Nat.add_sub_cancel, List.map_reverse]; rfl
theorem Ze (h : Jr A p = some q) : aft A p = q :: aft A q := by
 unfold Jr at h
 unfold aft
 split at h
 ·rename_i hc
  cases h
  obtain ⟨n, hn⟩ : ∃ n, (Ag A p.1).length - (p.2 + 1) = n + 1 := ⟨(Ag A p.1).length - (p.2 + 1) - 1, by omega⟩
  rw [hn, List.range'_succ, List.map_cons, List.cons_append]
  dsimp only
  rw [show (Ag A p.1).length - (p.2 + 1 + 1) = n by omega]
 ·rename_i hc
  split at h
  ·cases h
  ·rename_i hl
   cases h
   rw [show (Ag A p.1).length - (p.2 + 1) = 0 by omega]
   obtain ⟨n, hn⟩ : ∃ n, lnN A - (p.1 + 1) = n + 1 := ⟨lnN A - (p.1 + 1) - 1, by omega⟩
   rw [hn, List.range'_succ, List.flatMap_cons, Bk3]
   dsimp only
   rw [show lnN A - (p.1 + 1 + 1) = n by omega]
   simp
theorem Cb6 (h : Jr A p = none) : aft A p = [] := by
 unfold Jr at h
 unfold aft
 split at h
 ·cases h
 ·rename_i hc
  split at h
  ·rename_i hl
   rw [show (Ag A p.1).length - (p.2 + 1) = 0 by omega, show lnN A - (p.1 + 1) = 0 by omega]; rfl
  ·cases h
theorem Zd (h : Jz A p = some q) : bef A p = q :: bef A q := by
 unfold Jz at h
 unfold bef
 split at h
 ·rename_i hc
  cases h
  obtain ⟨n, hn⟩ : ∃ n, p.2 = n + 1 := ⟨p.2 - 1, by omega⟩
  rw [hn, List.range_succ, List.reverse_append]
  simp
 ·rename_i hc
  split at h
  ·cases h
  ·rename_i hl
   cases h
   obtain ⟨n, hn⟩ : ∃ n, p.1 = n + 1 := ⟨p.1 - 1, by omega⟩
   rw [show p.2 = 0 by omega, hn, List.range_succ, List.reverse_append, Nat.add_sub_cancel]
   show ([] : List (Nat × Nat)) ++ (n :: (List.range n).reverse).flatMap _ = _
   rw [List.nil_append, List.flatMap_cons, Bs5]
   simp
theorem Ca3 (h : Jz A p = none) : bef A p = [] := by
 unfold Jz at h
 unfold bef
 split at h
 ·cases h
 ·rename_i hc
  split at h
  ·rename_i hl
   rw [show p.2 = 0 by omega, hl]; rfl
  ·cases h
structure On (A : List Int) (p : Nat × Nat) : Prop where
 row : p.1 <= brs A
 col : p.2 <= (Ag A p.1).length
theorem Yh (h : On A p) (hq : Jr A p = some q) : On A q /\ q.1 < lnN A /\ (q.2 < (Ag A q.1).length \/ ((Ag A q.1).length = 0 /\ q.2 = 0)) /\ p.1 <= q.1 := by
 have hb := Bq A
 have hg := Al8 A
 have hr := h.row
 unfold Jr at hq
 split at hq
 ·rename_i hc
  cases hq
  refine ⟨⟨h.row, by dsimp only; omega⟩, ?_, .inl hc, Nat.le_refl _⟩
  dsimp only
  rcases Nat.lt_or_ge p.1 (lnN A) with u | u
  ·exact u
  ·exfalso
   have hp : p.1 = lnN A /\ lnN A = brs A := by omega
   have := tail_len (A := A) (by omega)
   rw [hp.1, hp.2] at hc
   omega
 ·split at hq
  ·cases hq
  ·rename_i hl
   cases hq
   refine ⟨⟨by dsimp only; omega, Nat.zero_le _⟩, by dsimp only; omega, ?_, by dsimp only; omega⟩
   dsimp only
   rcases Nat.eq_zero_or_pos (Ag A (p.1 + 1)).length with u | u
   ·exact .inr ⟨u, rfl⟩
   ·exact .inl u
where
  tail_len {A : List Int} (h : lnN A = brs A) : (Ag A (brs A)).length = 0 := by
    rw [Xx (Nat.le_refl _)]
    unfold lnN at h
    have he : ended A = true := by
      by_cases h1 : ended A = true
      · exact h1
      · rw [if_neg h1] at h; omega
    unfold ended at he
    rw [Bool.and_eq_true, beq_iff_eq] at he
    have hf := (Qp (Ve (A := A) (Nat.le_refl _))).2
    rw [he.2] at hf
    have e1 := Option.some.inj hf
    have ok := Dq (A := A) (i := brs A) (Nat.le_refl _)
    have := ok.ft; have := ok.tn; have := ok.nl
    omega
theorem tail_nil {A : List Int} (h : lnN A = brs A) : (Ag A (brs A)).length = 0 := Yh.tail_len h
structure Plc (A : List Int) (p : Nat × Nat) : Prop where
 row : p.1 < lnN A
 col : p.2 < (Ag A p.1).length \/ ((Ag A p.1).length = 0 /\ p.2 = 0)
theorem Plc.on (h : Plc A p) : On A p := ⟨by have := Bq A; have := h.row; omega, by have := h.col; omega⟩
theorem Lr {i : Nat} : q ∈ rowP A i ↔ q.1 = i /\ (q.2 < (Ag A i).length \/ ((Ag A i).length = 0 /\ q.2 = 0)) := by
 unfold rowP
 by_cases h : (Ag A i).length = 0
 ·rw [if_pos h, List.mem_singleton]
  constructor
  ·rintro rfl; exact ⟨rfl, .inr ⟨h, rfl⟩⟩
  ·rintro ⟨h1, h2⟩
   rcases h2 with h2 | h2
   ·omega
   ·exact Prod.ext h1 h2.2
 ·rw [if_neg h, List.mem_map]
  constructor
  ·rintro ⟨c, hc, rfl⟩
   exact ⟨rfl, .inl (List.mem_range.1 hc)⟩
  ·rintro ⟨h1, h2⟩
   refine ⟨q.2, List.mem_range.2 (by omega), ?_⟩
   rw [← h1]
theorem Ce7 : q ∈ aft A p ↔ (q.1 = p.1 /\ p.2 < q.2 /\ q.2 < (Ag A p.1).length) \/ (p.1 < q.1 /\ q.1 < lnN A /\ (q.2 < (Ag A q.1).length \/ ((Ag A q.1).length = 0 /\ q.2 = 0))) := by
 unfold aft
 rw [List.mem_append, List.mem_map, List.mem_flatMap]
 constructor
 ·rintro (⟨c, hc, rfl⟩ | ⟨i, hi, hq⟩)
  ·rw [List.mem_range'_1] at hc
   exact .inl ⟨rfl, by dsimp only; omega, by dsimp only; omega⟩
  ·rw [List.mem_range'_1] at hi
   obtain ⟨h1, h2⟩ := Lr.1 hq
   subst h1
   exact .inr ⟨by omega, by omega, h2⟩
 ·rintro (⟨h1, h2, h3⟩ | ⟨h1, h2, h3⟩)
  ·refine .inl ⟨q.2, by rw [List.mem_range'_1]; omega, ?_⟩
   rw [← h1]
  ·exact .inr ⟨q.1, by rw [List.mem_range'_1]; omega, Lr.2 ⟨rfl, h3⟩⟩
theorem Ce5 : q ∈ bef A p ↔ (q.1 = p.1 /\ q.2 < p.2) \/ (q.1 < p.1 /\ (q.2 < (Ag A q.1).length \/ ((Ag A q.1).length = 0 /\ q.2 = 0))) := by
 unfold bef
 rw [List.mem_append, List.mem_map, List.mem_flatMap]
 constructor
 ·rintro (⟨c, hc, rfl⟩ | ⟨i, hi, hq⟩)
  ·rw [List.mem_reverse, List.mem_range] at hc
   exact .inl ⟨rfl, hc⟩
  ·rw [List.mem_reverse, List.mem_range] at hi
   rw [List.mem_reverse] at hq
   obtain ⟨h1, h2⟩ := Lr.1 hq
   subst h1
   exact .inr ⟨hi, h2⟩
 ·rintro (⟨h1, h2⟩ | ⟨h1, h2⟩)
  ·refine .inl ⟨q.2, by rw [List.mem_reverse, List.mem_range]; exact h2, ?_⟩
   rw [← h1]
  ·exact .inr ⟨q.1, by rw [List.mem_reverse, List.mem_range]; exact h1, by rw [List.mem_reverse]; exact Lr.2 ⟨rfl, h2⟩⟩
theorem Ar0 (hp : On A p) (hq : On A q) (h : p.1 < q.1) : Cb A p < Cb A q := by
 have h1 := (Kr hp.row (p.2 : Int)).2
 have h2 := (Kr hq.row (q.2 : Int)).1
 have h3 := Xw h hq.row
 have hr := hq.row
 obtain ⟨x, hx⟩ := Ae7 (A := A) (k := p.1 + 1) (by omega)
 have := ((Dq hp.row).brk x hx).2.1
 unfold Cb; omega
theorem Zq (hp : On A p) (hq : On A q) (h : p.1 < q.1 \/ (p.1 = q.1 /\ p.2 < q.2)) : Cb A p < Cb A q := by
 rcases h with h | ⟨h1, h2⟩
 ·exact Ar0 hp hq h
 ·unfold Cb
  rw [h1]
  exact Ue hq.row h2 hq.col
theorem Ao1 (hp : On A p) (hq : q ∈ aft A p) : Cb A p < Cb A q := by
 have hb := Bq A
 rcases Ce7.1 hq with ⟨h1, h2, h3⟩ | ⟨h1, h2, h3⟩
 ·exact Zq hp ⟨by rw [h1]; exact hp.row, by rw [h1]; omega⟩ (.inr ⟨h1.symm, h2⟩)
 ·exact Zq hp ⟨by omega, by omega⟩ (.inl h1)
theorem An7 (hp : On A p) (hq : q ∈ bef A p) : Cb A q < Cb A p := by
 have hr := hp.row
 rcases Ce5.1 hq with ⟨h1, h2⟩ | ⟨h1, h2⟩
 ·exact Zq ⟨by omega, by rw [h1]; have := hp.col; omega⟩ hp (.inr ⟨h1, h2⟩)
 ·exact Zq ⟨by omega, by omega⟩ hp (.inl h1)
theorem Aa3 (A : List Int) {i n : Nat} (h : i < n) : (List.range n).flatMap (rowP A) = (List.range i).flatMap (rowP A) ++ (rowP A i ++ (List.range' (i + 1) (n - (i + 1))).flatMap (rowP A)) := by
 have e : List.range n = List.range i ++ (i :: List.range' (i + 1) (n - (i + 1))) := by
  rw [List.range_eq_range', List.range_eq_range', ← List.range'_succ]
  have := @List.range'_append_1 0 i (n - (i + 1) + 1)
  rw [Nat.zero_add] at this
  rw [this]
  congr 1; omega
 rw [e, List.flatMap_append, List.flatMap_cons]
theorem Ac1 (A : List Int) (i : Nat) : ((List.range i).reverse.flatMap λ i => (rowP A i).reverse).reverse = (List.range i).flatMap (rowP A) := by
 induction i with
 | zero => rfl
 | succ i ih =>
  rw [List.range_succ, List.reverse_append, List.flatMap_append]
  show (([i].reverse).flatMap _ ++ _).reverse = _
  rw [List.flatMap_append, List.reverse_append, ih]
  simp
theorem G5 (h : Plc A p) : Ae0 A = (bef A p).reverse ++ p :: aft A p := by
 unfold Ae0
 rw [Aa3 A h.row]
 unfold bef aft
 rw [List.reverse_append, Ac1, List.append_assoc]
 congr 1
 rw [← List.cons_append, ← List.append_assoc]
 congr 1
 unfold rowP
 rcases h.col with hc | ⟨hc, h0⟩
 ·rw [if_neg (by omega), List.map_reverse, List.reverse_reverse]
  have e : List.range (Ag A p.1).length = List.range p.2 ++ (p.2 :: List.range' (p.2 + 1) ((Ag A p.1).length - (p.2 + 1))) := by
   rw [List.range_eq_range', List.range_eq_range', ← List.range'_succ]
   have := @List.range'_append_1 0 p.2 ((Ag A p.1).length - (p.2 + 1) + 1)
   rw [Nat.zero_add] at this
   rw [this]
   congr 1; omega
  rw [e, List.map_append, List.map_cons]
 ·rw [if_pos hc, hc, h0]
  show [(p.1, 0)] = _
  have : p = (p.1, 0) := Prod.ext rfl h0
  simp [← this]
theorem Ac4 (h : On A p) (hn : ¬ Plc A p) : Ae0 A = (bef A p).reverse ++ aft A p := by
 have hb := Bq A
 have hg := Al8 A
 have hr := h.row; have hc := h.col
 by_cases h1 : p.1 < lnN A
 ·have h2 : 0 < (Ag A p.1).length /\ p.2 = (Ag A p.1).length := by
   rcases Nat.eq_zero_or_pos (Ag A p.1).length with u | u
   ·exact absurd ⟨h1, .inr ⟨u, by omega⟩⟩ hn
   ·refine ⟨u, ?_⟩
    rcases Nat.lt_or_ge p.2 (Ag A p.1).length with v | v
    ·exact absurd ⟨h1, .inl v⟩ hn
    ·omega
  unfold Ae0
  rw [Aa3 A h1]
  unfold bef aft
  rw [List.reverse_append, Ac1, List.append_assoc, List.map_reverse, List.reverse_reverse]
  congr 1
  rw [show (Ag A p.1).length - (p.2 + 1) = 0 by omega]
  unfold rowP
  rw [if_neg (by omega), h2.2]; rfl
 ·have hp : p.1 = lnN A /\ lnN A = brs A := by omega
  have hz := tail_nil hp.2
  unfold Ae0 bef aft
  rw [List.reverse_append, Ac1]
  have h0 : p.2 = 0 := by rw [hp.1, hp.2] at hc; omega
  rw [show lnN A - (p.1 + 1) = 0 by omega, h0, hp.1]
  rw [show (Ag A (lnN A)).length - (0 + 1) = 0 by rw [hp.2]; omega]
  simp
end Mot
namespace Mot
variable {A : List Int} {p q : Nat × Nat}
theorem As9 {i n : Nat} (h : i <= brs A) (h1 : (Ba A i).from_ <= n) (h2 : n < (Ba A i).to_) : Dw (Ag A i) (n : Int) < (Ag A i).length /\ Bf A i ((Dw (Ag A i) (n : Int) : Nat) : Int) <= n := by
 obtain ⟨s1, s2⟩ := Pg (C := Ag A i) (at_ := (n : Int))
 have hle := D7 (Ag A i) (n : Int)
 have hlt : Dw (Ag A i) (n : Int) < (Ag A i).length := by
  rcases Nat.lt_or_ge (Dw (Ag A i) (n : Int)) (Ag A i).length with q | q
  ·exact q
  ·exfalso
   have hn : (Ag A i).length ≠ 0 := λ h0 => by have := (Xx h).1 h0; omega
   obtain ⟨z, hz⟩ := Ea (C := Ag A i) (j := (Ag A i).length - 1) (by omega)
   have := s1 _ z (by omega) hz
   have := Af1 h hz (by omega)
   omega
 refine ⟨hlt, ?_⟩
 rw [Fj hlt]
 obtain ⟨c, hc⟩ := Ea hlt
 rw [Ir hc]
 cases hf : Dw (Ag A i) (n : Int) with
 | zero =>
  rw [hf] at hc
  have := X3 hc
  omega
 | succ m =>
  rw [hf] at hc
  obtain ⟨d, hd⟩ := Ea (C := Ag A i) (j := m) (by omega)
  have := s1 m d (by omega) hd
  have := (Hy A i).next m d c hd hc
  omega
theorem Ab6 (A : List Int) (x : Int) (past : Bool) : ∃ c : Nat, c <= (Ag A (Dk A x past)).length /\ (past = false -> c < (Ag A (Dk A x past)).length \/ (Ag A (Dk A x past)).length = 0) /\ Az A x past = Bf A (Dk A x past) (c : Int) := by
 have hi := Vf A x past
 unfold Az
 by_cases h : (Ba A (Dk A x past)).to_ <= inT A x
 ·rw [if_pos h]
  cases past with
  | true => exact ⟨_, Nat.le_refl _, (λ h => by cases h), by rw [if_pos rfl]; exact (Gq (by omega)).symm⟩
  | false =>
   rw [if_neg (by decide)]
   refine ⟨(Ag A (Dk A x false)).length - 1, by omega, λ _ => by omega, ?_⟩
   rcases Nat.eq_zero_or_pos (Ag A (Dk A x false)).length with u | u
   ·rw [u]
    exact Jg (by omega)
   ·rw [show ((Ag A (Dk A x false)).length : Int) - 1 = (((Ag A (Dk A x false)).length - 1 : Nat) : Int) by omega]
 ·rw [if_neg h]
  have hf : (Ba A (Dk A x past)).from_ <= inT A x := by
   have hro := (row_of (A := A) (Bb0 A x)).1
   unfold Dk at h ⊢
   cases past with
   | true => exact hro
   | false =>
    rw [if_neg (by decide)] at h ⊢
    rcases Nat.lt_or_ge (lnN A - 1) (ofI A x) with u | u
    ·exfalso
     rw [Nat.min_eq_right (by omega)] at h
     have hb := Bq A
     have hro2 := Xw (A := A) (i := lnN A - 1) (j := ofI A x) u (Zr A x)
     have ok := Dq (A := A) (i := lnN A - 1) (by omega)
     have := ok.tn
     unfold ofI at hro2
     omega
    ·rw [Nat.min_eq_left u]; exact hro
  obtain ⟨g1, g2⟩ := As9 hi hf (by omega)
  exact ⟨_, by omega, λ _ => .inl g1, rfl⟩
def Ar (A : List Int) (x : Int) (past : Bool) : Nat × Nat := (Dk A x past, Dw (Ag A (Dk A x past)) (Az A x past : Int))
theorem Jp (A : List Int) (x : Int) (past : Bool) : Dk A (Az A x past : Int) past = Dk A x past := by
 obtain ⟨c, _, _, hc⟩ := Ab6 A x past
 have hi := Vf A x past
 rw [hc]
 have ho := Vh hi (c : Int)
 show (if past then ofI A _ else min (ofI A _) (lnN A - 1)) = _
 rw [ho]
 cases past with
 | true => rfl
 | false =>
  rw [if_neg (by decide)]
  unfold Dk
  rw [if_neg (by decide)]; omega
theorem Xf (A : List Int) (x : Int) (past : Bool) : On A (Ar A x past) /\ Cb A (Ar A x past) = Az A x past /\ (past = false -> Plc A (Ar A x past)) := by
 obtain ⟨c, h1, h2, hc⟩ := Ab6 A x past
 have hi := Vf A x past
 have hcol : Dw (Ag A (Dk A x past)) (Az A x past : Int) = c := by rw [hc]; exact Vp hi h1
 unfold Ar
 rw [hcol]
 refine ⟨⟨hi, h1⟩, hc.symm, λ hp => ⟨?_, ?_⟩⟩
 ·subst hp
  have hb := Bq A
  show Dk A x false < _
  unfold Dk
  rw [if_neg (by decide)]; omega
 ·rcases h2 hp with q | q
  ·exact .inl q
  ·exact .inr ⟨q, by dsimp only at h1 ⊢; omega⟩
theorem By7 (A : List Int) (x : Int) (past : Bool) : Az A x past <= A.length := by
 obtain ⟨c, _, _, hc⟩ := Ab6 A x past
 rw [hc]; exact Ob (Vf A x past) _
theorem By6 {i c : Nat} (h : i <= brs A) (hc : c <= (Ag A i).length) : Az A (Bf A i (c : Int) : Int) true = Bf A i (c : Int) := by
 have hr : Dk A (Bf A i (c : Int) : Int) true = i := by unfold Dk; rw [if_pos rfl]; exact Vh h _
 unfold Az
 rw [hr, Xj (Ob h _), if_pos rfl]
 by_cases hl : (Ba A i).to_ <= Bf A i (c : Int)
 ·rw [if_pos hl]
  have := (Kr h (c : Int)).2; omega
 ·rw [if_neg hl, Vp h hc]
theorem By8 {i c : Nat} (h : i < lnN A) (hc : c < (Ag A i).length \/ ((Ag A i).length = 0 /\ c = 0)) : Az A (Bf A i (c : Int) : Int) false = Bf A i (c : Int) := by
 have hb := Bq A
 have hi : i <= brs A := by omega
 have hr : Dk A (Bf A i (c : Int) : Int) false = i := by unfold Dk; rw [if_neg (by decide), Vh hi]; omega
 unfold Az
 rw [hr, Xj (Ob hi _), if_neg (show ¬ (false = true) by decide)]
 rcases hc with hc | ⟨h0, rfl⟩
 ·have h1 := Ue hi hc (Nat.le_refl _)
  rw [Gq (c := ((Ag A i).length : Int)) (by omega)] at h1
  rw [if_neg (by omega), Vp hi (by omega)]
 ·have e1 : Bf A i ((0 : Nat) : Int) = (Ba A i).to_ := Gq (by omega)
  rw [e1, if_pos (Nat.le_refl _), h0, Jg (by omega)]
  exact e1
theorem Bm7 (f : Nat × Nat -> Bool) (h : On A p) : (Bo A f).filter (λ x => decide (Cb A p + 1 <= x)) = ((aft A p).filter f).map (Cb A) := by
 have hA : ∀ l : List (Nat × Nat), (∀ q ∈ l, Cb A q <= Cb A p) -> ((l.filter f).map (Cb A)).filter (λ x => decide (Cb A p + 1 <= x)) = [] := λ l hl => by
  rw [List.filter_eq_nil_iff]
  intro x hx
  obtain ⟨q, hq, rfl⟩ := List.mem_map.1 hx
  have := hl q (List.mem_filter.1 hq).1
  simp; omega
 have hB : ((aft A p).filter f).map (Cb A) = (((aft A p).filter f).map (Cb A)).filter (λ x => decide (Cb A p + 1 <= x)) := by
  refine (List.filter_eq_self.2 λ x hx => ?_).symm
  obtain ⟨q, hq, rfl⟩ := List.mem_map.1 hx
  have := Ao1 h (List.mem_filter.1 hq).1
  simp; omega
 have hC : ∀ q ∈ (bef A p).reverse, Cb A q <= Cb A p := λ q hq => Nat.le_of_lt (An7 h (List.mem_reverse.1 hq))
 unfold Bo
 by_cases hp : Plc A p
 ·rw [G5 hp]
  have e : (bef A p).reverse ++ p :: aft A p = ((bef A p).reverse ++ [p]) ++ aft A p := by simp
  rw [e, List.filter_append, List.map_append, List.filter_append, hA _ (λ q hq => by
   rcases List.mem_append.1 hq with hq | hq
   ·exact hC q hq
   ·rw [List.mem_singleton.1 hq]; exact Nat.le_refl _), List.nil_append, ← hB]
 ·rw [Ac4 h hp, List.filter_append, List.map_append, List.filter_append, hA _ hC, List.nil_append, ← hB]
theorem Bm6 (f : Nat × Nat -> Bool) (h : On A p) : ((Bo A f).filter (λ x => decide (x < Cb A p))).reverse = ((bef A p).filter f).map (Cb A) := by
 have hA : ∀ l : List (Nat × Nat), (∀ q ∈ l, Cb A p <= Cb A q) -> ((l.filter f).map (Cb A)).filter (λ x => decide (x < Cb A p)) = [] := λ l hl => by
  rw [List.filter_eq_nil_iff]
  intro x hx
  obtain ⟨q, hq, rfl⟩ := List.mem_map.1 hx
  have := hl q (List.mem_filter.1 hq).1
  simp; omega
 have hB : ((((bef A p).reverse).filter f).map (Cb A)).filter (λ x => decide (x < Cb A p)) = (((bef A p).reverse).filter f).map (Cb A) := by
  refine List.filter_eq_self.2 λ x hx => ?_
  obtain ⟨q, hq, rfl⟩ := List.mem_map.1 hx
  have := An7 h (List.mem_reverse.1 (List.mem_filter.1 hq).1)
  simp; omega
 have hC : ∀ q ∈ aft A p, Cb A p <= Cb A q := λ q hq => Nat.le_of_lt (Ao1 h hq)
 have fin : ((((bef A p).reverse).filter f).map (Cb A)).reverse = ((bef A p).filter f).map (Cb A) := by
  rw [List.filter_reverse, List.map_reverse, List.reverse_reverse]
 unfold Bo
 by_cases hp : Plc A p
 ·rw [G5 hp, List.filter_append, List.map_append, List.filter_append, hB, hA (p :: aft A p) (λ q hq => by
   rcases List.mem_cons.1 hq with rfl | hq
   ·exact Nat.le_refl _
   ·exact hC q hq), List.append_nil, fin]
 ·rw [Ac4 h hp, List.filter_append, List.map_append, List.filter_append, hB, hA _ hC, List.append_nil, fin]
theorem Bp8 (f : Nat × Nat -> Bool) (h : On A p) (k : Nat) : Gn (Bo A f) (Cb A p + 1) k = (((aft A p).filter f)[k - 1]?).map (Cb A) := by
 unfold Gn
 rw [Bm7 f h, List.getElem?_map]
theorem Bd3 (f : Nat × Nat -> Bool) (h : On A p) (k : Nat) : beforeL (Bo A f) (Cb A p) k = (((bef A p).filter f)[k - 1]?).map (Cb A) := by
 unfold beforeL
 rw [Bm6 f h, List.getElem?_map]
theorem Ba2 (f : Nat × Nat -> Bool) (h : On A p) (hf : f p = true -> Plc A p) : (Bo A f).filter (λ x => decide (Cb A p <= x)) = ((if f p then [p] else []) ++ (aft A p).filter f).map (Cb A) := by
 have hA : ∀ l : List (Nat × Nat), (∀ q ∈ l, Cb A q < Cb A p) -> ((l.filter f).map (Cb A)).filter (λ x => decide (Cb A p <= x)) = [] := λ l hl => by
  rw [List.filter_eq_nil_iff]
  intro x hx
  obtain ⟨q, hq, rfl⟩ := List.mem_map.1 hx
  have := hl q (List.mem_filter.1 hq).1
  simp; omega
 have hB : ∀ l : List (Nat × Nat), (∀ q ∈ l, Cb A p <= Cb A q) -> ((l.filter f).map (Cb A)).filter (λ x => decide (Cb A p <= x)) = (l.filter f).map (Cb A) := λ l hl => by
  refine List.filter_eq_self.2 λ x hx => ?_
  obtain ⟨q, hq, rfl⟩ := List.mem_map.1 hx
  have := hl q (List.mem_filter.1 hq).1
  simp; omega
 have hC : ∀ q ∈ (bef A p).reverse, Cb A q < Cb A p := λ q hq => An7 h (List.mem_reverse.1 hq)
 have hD : ∀ q ∈ aft A p, Cb A p <= Cb A q := λ q hq => Nat.le_of_lt (Ao1 h hq)
 unfold Bo
 by_cases hp : Plc A p
 ·rw [G5 hp, List.filter_append, List.map_append, List.filter_append, hA _ hC, List.nil_append, hB (p :: aft A p) (λ q hq => by
   rcases List.mem_cons.1 hq with rfl | hq
   ·exact Nat.le_refl _
   ·exact hD q hq)]
  cases hfp : f p with
  | true => rw [List.filter_cons_of_pos hfp, if_pos rfl]; rfl
  | false => rw [List.filter_cons_of_neg (by rw [hfp]; decide), if_neg (by decide)]; rfl
 ·rw [Ac4 h hp, List.filter_append, List.map_append, List.filter_append, hA _ hC, List.nil_append, hB _ hD]
  have : f p = false := by
   cases hfp : f p with
   | false => rfl
   | true => exact absurd (hf hfp) hp
  rw [this, if_neg (by decide), List.nil_append]
end Mot
namespace Mot
variable {A : List Int} {p q : Nat × Nat}
def Stand (A : List Int) (n : Nat) (past : Bool) : Prop := ∃ p, On A p /\ Cb A p = n /\ (past = false -> Plc A p)
theorem Ap9 (A : List Int) (x : Int) (past : Bool) : Stand A (Az A x past) past := by
 obtain ⟨h1, h2, h3⟩ := Xf A x past
 exact ⟨_, h1, h2, h3⟩
theorem Stand.clamp {n : Nat} {past : Bool} (h : Stand A n past) : Az A (n : Int) past = n := by
 obtain ⟨⟨i, c⟩, h1, rfl, h3⟩ := h
 cases past with
 | true => exact By6 h1.row h1.col
 | false => exact By8 (h3 rfl).row (h3 rfl).col
theorem Ae8 {C : List Cel} {a : Int} {L : List Nat} {k j : Nat} (h : Gv C a L k = some j) : j ∈ L /\ ∃ c, C[j]? = some c := by
 unfold Gv at h
 have := List.mem_of_getElem? h
 rw [List.mem_filter, decide_eq_true_eq] at this
 refine ⟨this.1, ?_⟩
 cases hc : C[j]? with
 | none => rw [hc] at this; simp at this
 | some c => exact ⟨c, rfl⟩
theorem Ru (c : Int) : 1 <= kOf c := by unfold kOf; split <;> omega
theorem Z5 (c : Int) : kOf c <= 9999 := by unfold kOf; split <;> omega
theorem Ce6 : p ∈ Ae0 A ↔ Plc A p := by
 unfold Ae0
 rw [List.mem_flatMap]
 constructor
 ·rintro ⟨i, hi, hp⟩
  obtain ⟨h1, h2⟩ := Lr.1 hp
  subst h1
  exact ⟨List.mem_range.1 hi, h2⟩
 ·rintro ⟨h1, h2⟩
  exact ⟨p.1, List.mem_range.2 h1, Lr.2 ⟨rfl, h2⟩⟩
theorem Ax4 {f : Nat × Nat -> Bool} {n : Nat} (h : n ∈ Bo A f) (past : Bool) : Stand A n past := by
 obtain ⟨p, hp, rfl⟩ := List.mem_map.1 h
 have := Ce6.1 (List.mem_filter.1 hp).1
 exact ⟨p, this.on, rfl, λ _ => this⟩
end Mot
namespace Mot
variable {A : List Int}
theorem Cb5 (A : List Int) : (Ae0 A).Pairwise λ p q => Cb A p < Cb A q := by
 have hb := Bq A
 unfold Ae0
 rw [List.pairwise_flatMap]
 refine ⟨λ i hi => ?_, ?_⟩
 ·rw [List.mem_range] at hi
  unfold rowP
  split
  ·exact List.pairwise_singleton _ _
  ·rw [List.pairwise_map]
   refine List.Pairwise.imp_of_mem (λ {a b} ha hc hab => ?_) List.pairwise_lt_range
   rw [List.mem_range] at ha hc
   exact Zq (p := (i, a)) (q := (i, b)) ⟨by dsimp only; omega, by dsimp only; omega⟩ ⟨by dsimp only; omega, by dsimp only; omega⟩ (.inr ⟨rfl, hab⟩)
 ·refine List.Pairwise.imp_of_mem (λ {i j} hi hj hij p hp q hq => ?_) List.pairwise_lt_range
  rw [List.mem_range] at hi hj
  obtain ⟨p1, p2⟩ := Lr.1 hp
  obtain ⟨q1, q2⟩ := Lr.1 hq
  exact Zq (by subst p1; exact (Plc.on ⟨hi, p2⟩)) (by subst q1; exact (Plc.on ⟨hj, q2⟩)) (.inl (by omega))
end Mot
namespace Mot
variable {A : List Int}
theorem Bt4 {p : Nat × Nat} {past : Bool} (h1 : On A p) (h3 : past = false -> Plc A p) : Ar A (Cb A p : Int) past = p := by
 have hb := Bq A
 have hc : Az A (Cb A p : Int) past = Cb A p := Stand.clamp ⟨p, h1, rfl, h3⟩
 have hr : Dk A (Cb A p : Int) past = p.1 := by
  unfold Dk Cb
  rw [Vh h1.row]
  cases past with
  | true => rfl
  | false => rw [if_neg (by decide)]; have := (h3 rfl).row; omega
 unfold Ar
 rw [hc, hr]
 unfold Cb
 rw [Vp h1.row h1.col]
def Iz (A : List Int) (i : Nat) (past : Bool) : Nat := if past then (Ag A i).length else (Ag A i).length - 1
theorem Bt5 (A : List Int) (x : Int) (past : Bool) : (Ar A x past).2 <= Iz A (Ar A x past).1 past /\ Iz A (Ar A x past).1 past <= (Ag A (Ar A x past).1).length := by
 obtain ⟨h1, _, h3⟩ := Xf A x past
 unfold Iz
 cases past with
 | true => exact ⟨h1.col, Nat.le_refl _⟩
 | false => have := (h3 rfl).col; rw [if_neg (by decide)]; omega
theorem Bo9 (A : List Int) (x count arg : Int) (past : Bool) : Df A x 1 count arg past = if (Ar A x past).2 = 0 then noP 80 else Dv A (Cb A ((Ar A x past).1, (Ar A x past).2 - kOf count)) 0 := by
 have e : Df A x 1 count arg past = if Dw (Ag A (Dk A (Az A x past : Int) past)) (Az A x past : Int) = 0 then noP 80 else Dv A (Bf A (Dk A (Az A x past : Int) past) (((Dw (Ag A (Dk A (Az A x past : Int) past)) (Az A x past : Int) : Nat) : Int) - kOf count)) 0 := by
  unfold Df
  try dsimp only
  rw [if_pos rfl]
 rw [e, Jp]
 unfold Ar
 try dsimp only
 split
 ·rfl
 ·congr 1
  unfold Cb
  try dsimp only
  generalize Dw (Ag A (Dk A x past)) (Az A x past : Int) = c
  rcases Nat.le_total c (kOf count) with u | u
  ·rw [Jg (by omega), Jg (c := ((c - kOf count : Nat) : Int)) (by omega)]
  ·congr 1; omega
theorem Ah7 (A : List Int) (x count arg : Int) (past : Bool) : Df A x 2 count arg past = if (Ar A x past).2 = Iz A (Ar A x past).1 past then noP 80 else Dv A (Cb A ((Ar A x past).1, min ((Ar A x past).2 + kOf count) (Iz A (Ar A x past).1 past))) 0 := by
 have e : Df A x 2 count arg past = if Dw (Ag A (Dk A (Az A x past : Int) past)) (Az A x past : Int) = Iz A (Dk A (Az A x past : Int) past) past then noP 80 else Dv A (Bf A (Dk A (Az A x past : Int) past) (min (((Dw (Ag A (Dk A (Az A x past : Int) past)) (Az A x past : Int) : Nat) : Int) + kOf count) (Iz A (Dk A (Az A x past : Int) past) past))) 0 := by
  unfold Df
  try dsimp only
  rw [if_neg (by decide), if_pos rfl]; rfl
 rw [e, Jp]
 unfold Ar
 try dsimp only
 split
 ·rfl
 ·congr 1
  unfold Cb
  try dsimp only
  congr 1; omega
theorem Ba1 (A : List Int) (f : Nat × Nat -> Bool) : (Bo A f).Pairwise (· < ·) := by
 unfold Bo
 rw [List.pairwise_map]
 exact (Cb5 A).filter _
end Mot
namespace Mot
variable {A : List Int}
theorem Stand.len {n : Nat} {past : Bool} (h : Stand A n past) : n <= A.length := by
 obtain ⟨p, h1, rfl, _⟩ := h
 exact Ob h1.row _
end Mot
namespace Mot
variable {A : List Int} {i : Nat}
def rowB (A : List Int) (i : Nat) : List Int := (A.drop (Ba A i).from_).take ((Ba A i).to_ - (Ba A i).from_)
def Rf (A : List Int) (i j : Nat) : Nat := Bf A i (j : Int) - (Ba A i).from_
theorem Ub (h : i <= brs A) : (rowB A i).length = (Ba A i).to_ - (Ba A i).from_ := Xz h
theorem Af2 (A : List Int) (i : Nat) : (Ag A i).length + 1 = (cuts (rowB A i)).length := by
 have h1 : (Ag A i).length = (cuts (rowB A i)).length - 1 := Qx _ _
 have h2 := Aa9 (rowB A i)
 omega
theorem Bs3 (h : i <= brs A) : cuts (rowB A i) = (List.range ((Ag A i).length + 1)).map (Rf A i) := by
 have hn := Af2 A i
 refine List.ext_getElem? λ j => ?_
 rw [List.getElem?_map]
 rcases Nat.lt_or_ge j (Ag A i).length with hj | hj
 ·obtain ⟨c, hc⟩ := Ea hj
  obtain ⟨ci, cj, g1, _, q⟩ := Yk (Dq h).ft (by have := (Dq h).tn; have := (Dq h).nl; omega) hc
  have g1 : (cuts (rowB A i))[j]? = some ci := g1
  rw [g1, List.getElem?_range (by omega)]
  show some ci = some (Rf A i j)
  unfold Rf
  rw [Fj hj, Ir hc, q.from_]
  congr 1; omega
 ·rcases Nat.lt_or_ge (Ag A i).length j with u | u
  ·rw [List.getElem?_eq_none (by omega), List.getElem?_eq_none (by rw [List.length_range]; omega)]; rfl
  ·have hjn : j = (Ag A i).length := by omega
   have hl := E8 (rowB A i)
   rw [← hn, Nat.add_sub_cancel] at hl
   rw [hjn, hl, List.getElem?_range (by omega)]
   show some _ = some (Rf A i _)
   unfold Rf
   rw [Gq (by omega), Ub h]
theorem Ai1 (h : i <= brs A) (c : Nat) : (Ba A i).from_ + Rf A i c = Bf A i (c : Int) := by
 have := (Kr h (c : Int)).1
 unfold Rf; omega
theorem Bz8 (h : i <= brs A) {j : Nat} (hj : j < (Ag A i).length) : (rowB A i)[Rf A i j]? = ((Ag A i)[j]?).map (·.atom) := by
 obtain ⟨c, hc⟩ := Ea hj
 obtain ⟨ci, cj, _, _, q⟩ := Yk (Dq h).ft (by have := (Dq h).tn; have := (Dq h).nl; omega) hc
 have h1 := q.from_; have h2 := q.to_; have h3 := q.lt; have h4 := q.le
 have hb : Rf A i j = ci := by
  unfold Rf
  rw [Fj hj, Ir hc]; omega
 rw [hb, hc]
 unfold rowB
 rw [List.getElem?_take, if_pos (by omega), List.getElem?_drop, ← h1]
 exact q.atom
end Mot
namespace Mot
variable {A : List Int}
theorem Rz (A : List Int) (x count arg : Int) (past : Bool) :
  Df A x 7 count arg past = (match Gv (Ag A (Ar A x past).1) arg (upL (Ag A (Ar A x past).1).length (Ar A x past).2) (kOf count) with | none => noP 80 | some j => Dv A (Bf A (Ar A x past).1 (j : Int)) 1) /\
  Df A x 9 count arg past = (match Gv (Ag A (Ar A x past).1) arg (upL (Ag A (Ar A x past).1).length (Ar A x past).2) (kOf count) with | none => noP 80 | some j => Dv A (Bf A (Ar A x past).1 ((j : Int) - 1)) 1) /\
  Df A x 8 count arg past = (match Gv (Ag A (Ar A x past).1) arg (Qw (Ar A x past).2) (kOf count) with | none => noP 80 | some j => Dv A (Bf A (Ar A x past).1 (j : Int)) 0) /\
  Df A x 10 count arg past = (match Gv (Ag A (Ar A x past).1) arg (Qw (Ar A x past).2) (kOf count) with | none => noP 80 | some j => Dv A (Bf A (Ar A x past).1 ((j : Int) + 1)) 0) := by
 have hr := Jp A x past
 refine ⟨?_, ?_, ?_, ?_⟩
 ·unfold Df Ar
  dsimp only
  rw [hr, if_neg (by decide), if_neg (by decide), if_neg (by decide), if_neg (by decide), if_neg (by decide), if_neg (by decide), if_pos (by decide)]
  all_goals (cases Gv (Ag A (Dk A x past)) arg (upL (Ag A (Dk A x past)).length (Dw (Ag A (Dk A x past)) (Az A x past : Int))) (kOf count) <;> rfl)
 ·unfold Df Ar
  dsimp only
  rw [hr, if_neg (by decide), if_neg (by decide), if_neg (by decide), if_neg (by decide), if_neg (by decide), if_neg (by decide), if_pos (by decide)]
  all_goals (cases Gv (Ag A (Dk A x past)) arg (upL (Ag A (Dk A x past)).length (Dw (Ag A (Dk A x past)) (Az A x past : Int))) (kOf count) <;> rfl)
 ·unfold Df Ar
  dsimp only
  rw [hr, if_neg (by decide), if_neg (by decide), if_neg (by decide), if_neg (by decide), if_neg (by decide), if_neg (by decide), if_neg (by decide), if_pos (by decide)]
  all_goals (cases Gv (Ag A (Dk A x past)) arg (Qw (Dw (Ag A (Dk A x past)) (Az A x past : Int))) (kOf count) <;> rfl)
 ·unfold Df Ar
  dsimp only
  rw [hr, if_neg (by decide), if_neg (by decide), if_neg (by decide), if_neg (by decide), if_neg (by decide), if_neg (by decide), if_neg (by decide), if_pos (by decide)]
  all_goals (cases Gv (Ag A (Dk A x past)) arg (Qw (Dw (Ag A (Dk A x past)) (Az A x past : Int))) (kOf count) <;> rfl)
end Mot
namespace Mot
variable {A : List Int} {p q : Nat × Nat}
def Ju (A : List Int) (f : Nat × Nat -> Bool) (p : Nat × Nat) (k : Nat) : Option (Nat × Nat) := ((aft A p).filter f)[k - 1]?
def Om (A : List Int) (f : Nat × Nat -> Bool) (p : Nat × Nat) (k : Nat) : Option (Nat × Nat) := ((bef A p).filter f)[k - 1]?
theorem Bb4 {f : Nat × Nat -> Bool} {k : Nat} (h : Jr A p = none) : Ju A f p k = none := by unfold Ju; rw [Cb6 h]; rfl
theorem Bw9 {f : Nat × Nat -> Bool} {k : Nat} (h : Jr A p = some q) (hf : f q = false) : Ju A f p k = Ju A f q k := by
 unfold Ju; rw [Ze h, List.filter_cons_of_neg (by rw [hf]; decide)]
theorem Bn7 {f : Nat × Nat -> Bool} (h : Jr A p = some q) (hf : f q = true) : Ju A f p 1 = some q := by
 unfold Ju; rw [Ze h, List.filter_cons_of_pos hf]; rfl
theorem Bb5 {f : Nat × Nat -> Bool} {k : Nat} (h : Jr A p = some q) (hf : f q = true) (hk : 1 <= k) : Ju A f p (k + 1) = Ju A f q k := by
 unfold Ju; rw [Ze h, List.filter_cons_of_pos hf]
 obtain ⟨j, rfl⟩ : ∃ j, k = j + 1 := ⟨k - 1, by omega⟩
 rfl
theorem Bd5 {f : Nat × Nat -> Bool} {k : Nat} (h : Jz A p = none) : Om A f p k = none := by unfold Om; rw [Ca3 h]; rfl
theorem Ca6 {f : Nat × Nat -> Bool} {k : Nat} (h : Jz A p = some q) (hf : f q = false) : Om A f p k = Om A f q k := by
 unfold Om; rw [Zd h, List.filter_cons_of_neg (by rw [hf]; decide)]
theorem Bp7 {f : Nat × Nat -> Bool} (h : Jz A p = some q) (hf : f q = true) : Om A f p 1 = some q := by
 unfold Om; rw [Zd h, List.filter_cons_of_pos hf]; rfl
theorem Bd6 {f : Nat × Nat -> Bool} {k : Nat} (h : Jz A p = some q) (hf : f q = true) (hk : 1 <= k) : Om A f p (k + 1) = Om A f q k := by
 unfold Om; rw [Zd h, List.filter_cons_of_pos hf]
 obtain ⟨j, rfl⟩ : ∃ j, k = j + 1 := ⟨k - 1, by omega⟩
 rfl
def upF (f : Nat -> Bool) (j n k : Nat) : Option Nat := ((List.range' j (n - j)).filter f)[k - 1]?
def dnF (f : Nat -> Bool) (j k : Nat) : Option Nat := ((List.range j).reverse.filter f)[k - 1]?
theorem Br1 {f : Nat -> Bool} {j n k : Nat} (h : n <= j) : upF f j n k = none := by unfold upF; rw [show n - j = 0 by omega]; rfl
theorem Aj1 {j n : Nat} (h : j < n) : List.range' j (n - j) = j :: List.range' (j + 1) (n - (j + 1)) := by
 obtain ⟨m, hm⟩ : ∃ m, n - j = m + 1 := ⟨n - j - 1, by omega⟩
 rw [hm, List.range'_succ, show n - (j + 1) = m by omega]
theorem Ck6 {f : Nat -> Bool} {j n k : Nat} (h : j < n) (hf : f j = false) : upF f j n k = upF f (j + 1) n k := by
 unfold upF; rw [Aj1 h, List.filter_cons_of_neg (by rw [hf]; decide)]
theorem Cc5 {f : Nat -> Bool} {j n : Nat} (h : j < n) (hf : f j = true) : upF f j n 1 = some j := by
 unfold upF; rw [Aj1 h, List.filter_cons_of_pos hf]; rfl
theorem Br2 {f : Nat -> Bool} {j n k : Nat} (h : j < n) (hf : f j = true) (hk : 1 <= k) : upF f j n (k + 1) = upF f (j + 1) n k := by
 unfold upF; rw [Aj1 h, List.filter_cons_of_pos hf]
 obtain ⟨i, rfl⟩ : ∃ i, k = i + 1 := ⟨k - 1, by omega⟩
 rfl
theorem Cn4 {f : Nat -> Bool} {j k : Nat} (hf : f j = false) : dnF f (j + 1) k = dnF f j k := by
 unfold dnF; rw [List.range_succ, List.reverse_append, List.reverse_singleton, List.singleton_append, List.filter_cons_of_neg (by rw [hf]; decide)]
theorem Ch0 {f : Nat -> Bool} {j : Nat} (hf : f j = true) : dnF f (j + 1) 1 = some j := by
 unfold dnF; rw [List.range_succ, List.reverse_append, List.reverse_singleton, List.singleton_append, List.filter_cons_of_pos hf]; rfl
theorem By0 {f : Nat -> Bool} {j k : Nat} (hf : f j = true) (hk : 1 <= k) : dnF f (j + 1) (k + 1) = dnF f j k := by
 unfold dnF; rw [List.range_succ, List.reverse_append, List.reverse_singleton, List.singleton_append, List.filter_cons_of_pos hf]
 obtain ⟨i, rfl⟩ : ∃ i, k = i + 1 := ⟨k - 1, by omega⟩
 rfl
theorem Cd3 {i c : Nat} {x : Cel} (hx : (Ag A i)[c]? = some x) (hk : x.kind ≠ 0) (h0 : ∀ (j : Nat) y, j < c -> (Ag A i)[j]? = some y -> y.kind = 0) : V6 A i = c := by
 have hl := (List.getElem?_eq_some_iff.1 hx).1
 have e : (Ag A i).findIdx (λ c => c.kind != 0) = c := by
  rw [List.findIdx_eq hl]
  refine ⟨?_, λ j hj => ?_⟩
  ·rw [List.getElem?_eq_getElem hl] at hx
   rw [Option.some.inj hx]; simpa using hk
  ·have := h0 j _ hj (List.getElem?_eq_getElem (by omega))
   simpa using this
 unfold V6
 rw [e, if_pos hl]
theorem Bj9 {i : Nat} (h0 : ∀ (j : Nat) y, (Ag A i)[j]? = some y -> y.kind = 0) : V6 A i = (Ag A i).length - 1 := by
 have e : (Ag A i).findIdx (λ c => c.kind != 0) = (Ag A i).length := by
  rw [List.findIdx_eq_length]
  intro c hc
  obtain ⟨j, hj⟩ := List.getElem?_of_mem hc
  have := h0 j c hj
  simpa using this
 unfold V6
 rw [e, if_neg (Nat.lt_irrefl _)]
end Mot
end Go.Proofs.YtolhlldgnfbemaaGreatDoor
namespace Go.Proofs.YtolhlldgnfbemaaGreatDoor
open Go Go.Vx
def F34 (a0 : Option Addr) (a1 : Int) (a2 : Bool) (K : Int -> Wp) : Wp := Aa Tryz.prog 78 #[(.pointer a0), (vI a1), (.bool a2)] (.one (.agg Bg)) λ (x1 : (Int × Int × Int × Int × Int × Sl × Sl × Unit)) => Af (.cells #[(vI 0), (vI 0), (vI 0), (vI 0), (vI 0), (.slice none 0 0), (.slice none 0 0)] 135) λ b2 => Ad (at0 b2) (vA Bg x1) 7 <| cN 23 #[(.pointer a0)] λ x3 => lI (ad b2 1) λ x4 => sif (decide ((if x3 < (if 0 > a1 then 0 else a1) then x3 else (if 0 > a1 then 0 else a1)) >= x4)) ( sif a2 ( lI (ad b2 1) λ x5 => K x5) ( drew <| lds Bg (at0 b2) λ (x6 : (Int × Int × Int × Int × Int × Sl × Sl × Unit)) => lds Bg (at0 b2) λ (x7 : (Int × Int × Int × Int × Int × Sl × Sl × Unit)) => cN 80 #[(vA Bg x7)] λ x8 => keep (λ w => Ak w (at0 b2) 0 (Cells.vals Bg x6)) <| cN 79 #[(vA Bg x6), (vI (W64 (x8 - 1)))] λ x9 => K x9)) ( drew <| lds Bg (at0 b2) λ (x10 : (Int × Int × Int × Int × Int × Sl × Sl × Unit)) => lds Bg (at0 b2) λ (x11 : (Int × Int × Int × Int × Int × Sl × Sl × Unit)) => cN 81 #[(vA Bg x11), (vI (if x3 < (if 0 > a1 then 0 else a1) then x3 else (if 0 > a1 then 0 else a1)))] λ x12 => keep (λ w => Ak w (at0 b2) 0 (Cells.vals Bg x10)) <| cN 79 #[(vA Bg x10), (vI x12)] λ x13 => K x13)
def h34 : Hint := (hS (hR 1) (hS (hR 6) (hS (hR 6) (hS (hS (hR 5) (hC (hS (hS (hR 1) (hC (hS (hR 4) hL) hL)) (hS (.region (lR 6) (hO 6)) hL)) hL)) (hS (.region (lR 6) (hO 6)) hL)))))
theorem A34 {a0 : Option Addr} {a1 : Int} {a2 : Bool} {K : Int -> Wp} {w : World} (h : F34 a0 a1 a2 K w) : Aa Tryz.prog 34 #[(.pointer a0), (vI a1), (.bool a2)] rI K w := tied Ai Tryz.func34 h34 _ h
def F38 (a0 : Option Addr) (a1 : Int) (K : Int -> Wp) : Wp := Aa Tryz.prog 78 #[(.pointer a0), (vI a1), (.bool true)] (.one (.agg Bg)) λ (x1 : (Int × Int × Int × Int × Int × Sl × Sl × Unit)) => Af (.cells #[(vI 0), (vI 0), (vI 0), (vI 0), (vI 0), (.slice none 0 0), (.slice none 0 0)] 135) λ b2 => Ad (at0 b2) (vA Bg x1) 7 <| lds Bg (at0 b2) λ (x3 : (Int × Int × Int × Int × Int × Sl × Sl × Unit)) => cN 81 #[(vA Bg x3), (vI a1)] λ x4 => K x4
def h38 : Hint := (hS (hR 1) (hS (hR 5) (hS (hR 4) hL)))
theorem A38 {a0 : Option Addr} {a1 : Int} {K : Int -> Wp} {w : World} (h : F38 a0 a1 K w) : Aa Tryz.prog 38 #[(.pointer a0), (vI a1)] rI K w := tied Ai Tryz.func38 h38 _ h
def F40 (a0 : Option Addr) (a1 : Int) (a2 : I3) (a3 : Bool) (K : (I3 × Int × Unit) -> Wp) : Wp := Af (.cells #[(vI a2.1), (vI a2.2.1), (vI a2.2.2.1)] 48) λ b1 => Af (.cells #[(vI 0), (vI 0), (vI 0)] 83) λ b2 => lds c48 (at0 b1) λ (x3 : I3) => Aa Tryz.prog 89 #[(.func (.func 90) #[] #[]), (.pointer a0), (vI a1), (vI 0), (vA c48 x3), (.bool a3)] (.tup [(.agg c83), (.one cI)]) λ (x4 : (I3 × Int × Unit)) => Ad (at0 b2) (vA c83 x4.1) 3 <| lds c83 (at0 b2) λ (x5 : I3) => K (x5, x4.2.1, ())
def h40 : Hint := (hS (hR 3) (hS (hR 9) hL))
theorem A40 {a0 : Option Addr} {a1 : Int} {a2 : I3} {a3 : Bool} {K : (I3 × Int × Unit) -> Wp} {w : World} (h : F40 a0 a1 a2 a3 K w) : Aa Tryz.prog 40 #[(.pointer a0), (vI a1), (vA c48 a2), (.bool a3)] (.tup [(.agg c83), (.one cI)]) K w := tied Ai Tryz.func40 h40 _ h
def F45 (a0 : Option Addr) (a1 : Int) (a2 : I3) (a3 : Bool) (K : (I3 × Int × Unit) -> Wp) : Wp := Af (.cells #[(vI a2.1), (vI a2.2.1), (vI a2.2.2.1)] 48) λ b1 => Af (.cells #[(vI 0), (vI 0), (vI 0)] 83) λ b2 => lds c48 (at0 b1) λ (x3 : I3) => Aa Tryz.prog 89 #[(.func (.func 97) #[] #[]), (.pointer a0), (vI a1), (vI 0), (vA c48 x3), (.bool a3)] (.tup [(.agg c83), (.one cI)]) λ (x4 : (I3 × Int × Unit)) => Ad (at0 b2) (vA c83 x4.1) 3 <| lds c83 (at0 b2) λ (x5 : I3) => K (x5, x4.2.1, ())
def h45 : Hint := (hS (hR 3) (hS (hR 9) hL))
theorem A45 {a0 : Option Addr} {a1 : Int} {a2 : I3} {a3 : Bool} {K : (I3 × Int × Unit) -> Wp} {w : World} (h : F45 a0 a1 a2 a3 K w) : Aa Tryz.prog 45 #[(.pointer a0), (vI a1), (vA c48 a2), (.bool a3)] (.tup [(.agg c83), (.one cI)]) K w := tied Ai Tryz.func45 h45 _ h
def F78 (a0 : Option Addr) (a1 : Int) (a2 : Bool) (K : (Int × Int × Int × Int × Int × Sl × Sl × Unit) -> Wp) : Wp := Af (.cells #[(vI 0), (vI 0), (vI 0), (vI 0), (vI 0), (.slice none 0 0), (.slice none 0 0)] 135) λ b1 => cN 130 #[(.pointer a0), (vI a1)] λ x2 => jI (λ J3 => sif (!a2) ( cN 87 #[(.pointer a0)] λ x5 => J3 ((if (W64 (x5 - 1)) < x2 then (W64 (x5 - 1)) else x2), ())) ( J3 (x2, ()))) λ s4 => Aa Tryz.prog 86 #[(.pointer a0), (vI s4.1)] (.one (.agg Bg)) λ (x6 : (Int × Int × Int × Int × Int × Sl × Sl × Unit)) => Ad (at0 b1) (vA Bg x6) 7 <| lds Bg (at0 b1) λ (x7 : (Int × Int × Int × Int × Int × Sl × Sl × Unit)) => K x7
def h78 : Hint := (hS (hR 1) (hS (hR 4) (hJ (260224, [(7, tI)]) (hS (hR 2) (hC (hR 6) hL)) (hS (hR 4) hL))))
theorem A78 {a0 : Option Addr} {a1 : Int} {a2 : Bool} {K : (Int × Int × Int × Int × Int × Sl × Sl × Unit) -> Wp} {w : World} (h : F78 a0 a1 a2 K w) : Aa Tryz.prog 78 #[(.pointer a0), (vI a1), (.bool a2)] (.one (.agg Bg)) K w := tied Ai Tryz.func78 h78 _ h
def F79 (a0 : (Int × Int × Int × Int × Int × Sl × Sl × Unit)) (a1 : Int) (K : Int -> Wp) : Wp := Af (.cells #[(vI a0.1), (vI a0.2.1), (vI a0.2.2.1), (vI a0.2.2.2.1), (vI a0.2.2.2.2.1), a0.2.2.2.2.2.1.v, a0.2.2.2.2.2.2.1.v] 135) λ b1 => drew <| lI (at0 b1) λ x2 => ld (.sl) (ad b1 6) λ (x3 : Sl) => lds Bg (at0 b1) λ (x4 : (Int × Int × Int × Int × Int × Sl × Sl × Unit)) => cN 80 #[(vA Bg x4)] λ x5 => keep (λ w => w.cell? (ad b1 6) = some (Cell.val (.sl) x3)) <| keep (λ w => w.cell? (at0 b1) = some (Cell.val cI x2)) <| ixI x3 (if x5 < (if 0 > a1 then 0 else a1) then x5 else (if 0 > a1 then 0 else a1)) 1 λ x7 => K (W64 (x2 + x7))
def h79 : Hint := (hS (hR 2) (hS (.region (lR 14) (hO 14)) hL))
theorem A79 {a0 : (Int × Int × Int × Int × Int × Sl × Sl × Unit)} {a1 : Int} {K : Int -> Wp} {w : World} (h : F79 a0 a1 K w) : Aa Tryz.prog 79 #[(vA Bg a0), (vI a1)] rI K w := tied Ai Tryz.func79 h79 _ h
def F80 (a0 : (Int × Int × Int × Int × Int × Sl × Sl × Unit)) (K : Int -> Wp) : Wp := Af (.cells #[(vI a0.1), (vI a0.2.1), (vI a0.2.2.1), (vI a0.2.2.2.1), (vI a0.2.2.2.2.1), a0.2.2.2.2.2.1.v, a0.2.2.2.2.2.2.1.v] 135) λ b1 => ld (.sl) (ad b1 6) λ (x2 : Sl) => K (W64 (((x2.len : Nat) : Int) - 1))
def h80 : Hint := (hS (hR 2) (hS (hR 5) hL))
theorem A80 {a0 : (Int × Int × Int × Int × Int × Sl × Sl × Unit)} {K : Int -> Wp} {w : World} (h : F80 a0 K w) : Aa Tryz.prog 80 #[(vA Bg a0)] rI K w := tied Ai Tryz.func80 h80 _ h
def F81 (a0 : (Int × Int × Int × Int × Int × Sl × Sl × Unit)) (a1 : Int) (K : Int -> Wp) : Wp := Af (.cells #[(vI a0.1), (vI a0.2.1), (vI a0.2.2.1), (vI a0.2.2.2.1), (vI a0.2.2.2.2.1), a0.2.2.2.2.2.1.v, a0.2.2.2.2.2.2.1.v] 135) λ b1 => lds Bg (at0 b1) λ (x2 : (Int × Int × Int × Int × Int × Sl × Sl × Unit)) => cN 80 #[(vA Bg x2)] λ x3 => jI (λ J4 => sN (λ s6 again7 => sif (decide (s6.1 < s6.2.1)) ( chk ((2 : Int) ≠ 0) <| drew <| lI (at0 b1) λ x8 => ld (.sl) (ad b1 6) λ (x9 : Sl) => ix x9.a x9.len (W64 (Int.tdiv (W64 ((W64 (s6.1 + s6.2.1)) + 1)) 2)) λ p10 => ld cI (p10.add (scaled (Int.toNat (W64 (Int.tdiv (W64 ((W64 (s6.1 + s6.2.1)) + 1)) 2))) 1)) λ (x11 : Int) => sif (decide ((W64 (x8 + x11)) <= a1)) ( again7 ((W64 (Int.tdiv (W64 ((W64 (s6.1 + s6.2.1)) + 1)) 2)), s6.2.1, ())) ( again7 (s6.1, (W64 ((W64 (Int.tdiv (W64 ((W64 (s6.1 + s6.2.1)) + 1)) 2)) - 1)), ()))) ( J4 (s6.1, ()))) (0, x3, ())) λ s5 => K s5.1
def h81 : Hint := (hS (hR 2) (hS (hR 4) (hJ (0xfffffce0, [(5, tI)]) (.block (.loop 0xfffffce0 [(5, tI), (6, tI)] (hS (hS (hR 3) (hC hL hL)) (.block (hS (hR 6) (hS (.region (lR 11) (hO 11)) (hC (hR 2) (hR 3)))))))) (hS (hR 2) hL))))
theorem A81 {a0 : (Int × Int × Int × Int × Int × Sl × Sl × Unit)} {a1 : Int} {K : Int -> Wp} {w : World} (h : F81 a0 a1 K w) : Aa Tryz.prog 81 #[(vA Bg a0), (vI a1)] rI K w := tied Ai Tryz.func81 h81 _ h
def F86 (a0 : Option Addr) (a1 : Int) (K : (Int × Int × Int × Int × Int × Sl × Sl × Unit) -> Wp) : Wp := Af (.cells #[(vI 0), (vI 0), (vI 0), (vI 0), (vI 0), (.slice none 0 0), (.slice none 0 0)] 135) λ b1 => Aa Tryz.prog 106 #[(.pointer a0), (vI a1)] (.tup [(.agg Jj), (.one cI)]) λ (x2 : (I4 × Int × Unit)) => Af (.cells #[(vI 0), (vI 0), (vI 0), (vI 0)] 133) λ b3 => Ad (at0 b3) (vA Jj x2.1) 4 <| join (S := Addr × Unit) (λ J4 => drew <| lds Jj (at0 b3) λ (x6 : I4) => lI (at0 b3) λ x7 => lI (ad b3 1) λ x8 => both ( Af (.cells #[(vI 0), (vI 0), (vI 0), (vI 0), (vI 0), (.slice none 0 0), (.slice none 0 0)] 135) λ b9 => keep (λ w => w.cell? (ad b3 1) = some (Cell.val cI x8)) <| keep (λ w => w.cell? (at0 b3) = some (Cell.val cI x7)) <| keep (λ w => Ak w (at0 b3) 0 (Cells.vals Jj x6)) <| cS 25 #[(.pointer a0), (vI x7), (vI x8)] λ x10 => keep (λ w => Ak w (at0 b3) 0 (Cells.vals Jj x6)) <| Ad (at0 b9) (.agg #[(vI x6.1), (vI x6.2.1), (vI x6.2.2.1), (vI x6.2.2.2.1), (vI a1), x10.v, (.slice none 0 0)]) 7 <| J4 ((at0 b9), ())) <| cS 25 #[(.pointer a0), (vI x7), (vI x8)] λ x11 => keep (λ w => Ak w (at0 b3) 0 (Cells.vals Jj x6)) <| both ( Af (.cells #[(vI 0), (vI 0), (vI 0), (vI 0), (vI 0), (.slice none 0 0), (.slice none 0 0)] 135) λ b12 => keep (λ w => w.cell? (ad b3 1) = some (Cell.val cI x8)) <| keep (λ w => w.cell? (at0 b3) = some (Cell.val cI x7)) <| keep (λ w => Ak w (at0 b3) 0 (Cells.vals Jj x6)) <| Ad (at0 b12) (.agg #[(vI x6.1), (vI x6.2.1), (vI x6.2.2.1), (vI x6.2.2.2.1), (vI a1), x11.v, (.slice none 0 0)]) 7 <| J4 ((at0 b12), ())) <| nothing) λ s5 => ld (.sl) (s5.1.add 5) λ (x13 : Sl) => cS 131 #[x13.v] λ x14 => stC (s5.1.add 6) x14.v <| lds Bg s5.1 λ (x15 : (Int × Int × Int × Int × Int × Sl × Sl × Unit)) => Ad (at0 b1) (vA Bg x15) 7 <| lds Bg (at0 b1) λ (x16 : (Int × Int × Int × Int × Int × Sl × Sl × Unit)) => K x16
def h86 : Hint := (hS (hR 1) (hS (hR 9) (hJ (8372352, [(7, (.one .addr))]) (.region [0, 1, 2, 3, 4, 5, 6, 7, 8, 10] (.float [9] (.ops 7 (.alt none (.plain (hO 3)) (.ops 2 (.alt none (.plain (hO 1)) .stop)))))) (hS (hR 5) (hS (hR 2) hL)))))
theorem A86 {a0 : Option Addr} {a1 : Int} {K : (Int × Int × Int × Int × Int × Sl × Sl × Unit) -> Wp} {w : World} (h : F86 a0 a1 K w) : Aa Tryz.prog 86 #[(.pointer a0), (vI a1)] (.one (.agg Bg)) K w := tied Ai Tryz.func86 h86 _ h
def F87 (a0 : Option Addr) (K : Int -> Wp) : Wp := cN 23 #[(.pointer a0)] λ x1 => cN 132 #[(.pointer a0), (vI x1)] λ x2 => jI (λ J3 => cB 133 #[(.pointer a0)] λ x5 => sif (!x5) ( J3 ((W64 (x2 + 1)), ())) ( J3 (x2, ()))) λ s4 => K s4.1
def h87 : Hint := (hS (hR 1) (hS (hR 5) (hJ (7944, [(3, tI)]) (hS (hR 3) (hC (hR 3) hL)) (hS (hR 2) hL))))
theorem A87 {a0 : Option Addr} {K : Int -> Wp} {w : World} (h : F87 a0 K w) : Aa Tryz.prog 87 #[(.pointer a0)] rI K w := tied Ai Tryz.func87 h87 _ h
def F89 (a0 : Value) (a1 : Option Addr) (a2 : Int) (a3 : Int) (a4 : I3) (a5 : Bool) (K : (I3 × Int × Unit) -> Wp) : Wp := Af (.cells #[(vI a4.1), (vI a4.2.1), (vI a4.2.2.1)] 48) λ b1 => Af (.cells #[(vI 0), (vI 0), (vI 0)] 83) λ b2 => lI (at0 b1) λ x3 => Bv Tryz.prog (do let d ← Deferred.ofValue a0 #[(vI x3)]; invoke d.target d.args : Sem Next) (.one (.one .any)) λ (x4 : Value) => rdB Tryz.prog (do eqGuard .eql 173 (Operand.tmp 21) (Operand.const Value.nilFunc) x4 .nilFunc; binOp .eql 173 x4 .nilFunc : Sem Value) λ r5 => sif r5 ( Ad (at0 b2) (.agg #[(vI 0), (vI 0), (vI 0)]) 3 <| lds c83 (at0 b2) λ (x6 : I3) => K (x6, 1, ())) ( cN 34 #[(.pointer a1), (vI a2), (.bool a5)] λ x7 => drew <| lI (ad b1 2) λ x8 => Aa Tryz.prog 78 #[(.pointer a1), (vI x7), (.bool a5)] (.one (.agg Bg)) λ (x9 : (Int × Int × Int × Int × Int × Sl × Sl × Unit)) => keep (λ w => w.cell? (ad b1 2) = some (Cell.val cI x8)) <| Af (.cells (Value.cells (.agg #[(.pointer a1), (vI x7), (vI 0), (vI 1), (.bool false), (vI x8), (vI (if 0 > a3 then 0 else a3)), (.bool a5), (.bool false), (vI x9.1), (vI x9.2.1), (vI x9.2.2.1), (vI x9.2.2.2.1), (vI x9.2.2.2.2.1), x9.2.2.2.2.2.1.v, x9.2.2.2.2.2.2.1.v])) 176) λ b10 => nn (some (at0 b10)) λ p11 => lds Bg (p11.add 9) λ (x12 : (Int × Int × Int × Int × Int × Sl × Sl × Unit)) => cN 81 #[(vA Bg x12), (vI x7)] λ x13 => nn (some (at0 b10)) λ p14 => stC (p14.add 2) (vI x13) <| jU (λ J15 => lI (at0 b1) λ x17 => sif (decide (x17 >= 25)) ( lI (at0 b1) λ x18 => sif (decide (x18 <= 28)) ( nn (some (at0 b10)) λ p19 => stC (p19.add 8) (.bool true) <| J15 ()) ( lI (at0 b1) λ x20 => nn (some (at0 b10)) λ p21 => stC (p21.add 8) (.bool (x20 == 30)) <| J15 ())) ( lI (at0 b1) λ x22 => nn (some (at0 b10)) λ p23 => stC (p23.add 8) (.bool (x22 == 30)) <| J15 ())) λ s16 => jU (λ J24 => lI (ad b1 1) λ x26 => sif (decide (x26 > 0)) ( lI (ad b1 1) λ x27 => nn (some (at0 b10)) λ p28 => stC (p28.add 3) (vI (if 9999 < x27 then 9999 else x27)) <| nn (some (at0 b10)) λ p29 => stC (p29.add 4) (.bool true) <| J24 ()) ( J24 ())) λ s25 => Bv Tryz.prog (do let d ← Deferred.ofValue x4 #[(.pointer (some (at0 b10)))]; invoke d.target d.args : Sem Next) (.tup [(.agg c83), (.one cI)]) λ (x30 : (I3 × Int × Unit)) => Ad (at0 b2) (vA c83 x30.1) 3 <| lds c83 (at0 b2) λ (x31 : I3) => K (x31, x30.2.1, ()))
def h89 : Hint := (hS (hR 3) (hS (hR 5) (hS (hS (hR 2) (hC (hS (hR 3) hL) hL)) (hS (hR 5) (hS (.region (lR 14) (hO 14)) (hS (hR 10) (hJ ((mR [(50, 66)]), []) (.region [] (.ops 5 (.split 54 (.ops 5 (.split 59 (.skips 3 (hO 4)) (hO 7))) (.skips 3 (hO 9))))) (hJ ((mR [(66, 78)]), []) (hS (hR 3) (hC (hR 11) hL)) (hS (hR 7) hL)))))))))
theorem A89 {a0 : Value} {a1 : Option Addr} {a2 : Int} {a3 : Int} {a4 : I3} {a5 : Bool} {K : (I3 × Int × Unit) -> Wp} {w : World} (h : F89 a0 a1 a2 a3 a4 a5 K w) : Aa Tryz.prog 89 #[a0, (.pointer a1), (vI a2), (vI a3), (vA c48 a4), (.bool a5)] (.tup [(.agg c83), (.one cI)]) K w := tied Ai Tryz.func89 h89 _ h
def F90 (a0 : Int) (K : Value -> Wp) : Wp := sif (a0 == 1) ( K (.func (.func 134) #[] #[])) ( sif (a0 == 2) ( K (.func (.func 135) #[] #[])) ( sif (a0 == 3) ( K (.func (.func 136) #[] #[])) ( sif (a0 == 4) ( K (.func (.func 137) #[] #[])) ( sif (a0 == 5) ( K (.func (.func 138) #[] #[])) ( sif (a0 == 6) ( K (.func (.func 139) #[] #[])) ( sif (a0 == 7) ( K (.func (.func 140) #[] #[])) ( sif (a0 == 8) ( K (.func (.func 141) #[] #[])) ( sif (a0 == 9) ( K (.func (.func 142) #[] #[])) ( sif (a0 == 10) ( K (.func (.func 143) #[] #[])) ( K .nilFunc))))))))))
def h90 : Hint := (hS (hR 1) (hS (hS (hR 1) (.block (hS (hR 2) (hC (hS (hR 1) hL) (hS (hR 2) (hC (hS (hR 1) hL) (hS (hR 2) (hC (hS (hR 1) hL) (hS (hR 2) (hC (hS (hR 1) hL) (hS (hR 2) (hC (hS (hR 1) hL) (hS (hR 2) (hC (hS (hR 1) hL) (hS (hR 2) (hC (hS (hR 1) hL) (hS (hR 2) (hC (hS (hR 1) hL) (hS (hR 2) (hC (hS (hR 1) hL) (hS (hR 2) (hC (hS (hR 1) hL) hL)))))))))))))))))))))) (hS (hR 1) hL)))
theorem A90 {a0 : Int} {K : Value -> Wp} {w : World} (h : F90 a0 K w) : Aa Tryz.prog 90 #[(vI a0)] (.one (.one .any)) K w := tied Ai Tryz.func90 h90 _ h
def F97 (a0 : Int) (K : Value -> Wp) : Wp := jB (λ J1 => sif (a0 == 21) ( J1 ((a0 == 21), ())) ( J1 ((a0 == 25), ()))) λ s2 => sif s2.1 ( K (.func (.func 152) #[] #[])) ( jB (λ J3 => sif (a0 == 22) ( J3 ((a0 == 22), ())) ( J3 ((a0 == 26), ()))) λ s4 => sif s4.1 ( K (.func (.func 153) #[] #[])) ( jB (λ J5 => sif (a0 == 23) ( J5 ((a0 == 23), ())) ( J5 ((a0 == 27), ()))) λ s6 => sif s6.1 ( K (.func (.func 154) #[] #[])) ( jB (λ J7 => sif (a0 == 24) ( J7 ((a0 == 24), ())) ( J7 ((a0 == 28), ()))) λ s8 => sif s8.1 ( K (.func (.func 155) #[] #[])) ( jB (λ J9 => sif (a0 == 29) ( J9 ((a0 == 29), ())) ( J9 ((a0 == 30), ()))) λ s10 => sif s10.1 ( K (.func (.func 156) #[] #[])) ( K .nilFunc)))))
def h97 : Hint := (hS (hR 1) (hS (hS (hR 1) (.block (hJ (112, [(4, tB)]) (hS (hR 2) (hC hL (hR 2))) (hC (hS (hR 1) hL) (hJ (896, [(7, tB)]) (hS (hR 2) (hC hL (hR 2))) (hC (hS (hR 1) hL) (hJ (7168, [(10, tB)]) (hS (hR 2) (hC hL (hR 2))) (hC (hS (hR 1) hL) (hJ (57344, [(13, tB)]) (hS (hR 2) (hC hL (hR 2))) (hC (hS (hR 1) hL) (hJ (458752, [(16, tB)]) (hS (hR 2) (hC hL (hR 2))) (hC (hS (hR 1) hL) hL)))))))))))) (hS (hR 1) hL)))
theorem A97 {a0 : Int} {K : Value -> Wp} {w : World} (h : F97 a0 K w) : Aa Tryz.prog 97 #[(vI a0)] (.one (.one .any)) K w := tied Ai Tryz.func97 h97 _ h
def F106 (a0 : Option Addr) (a1 : Int) (K : (I4 × Int × Unit) -> Wp) : Wp := Af (.cells #[(vI 0), (vI 0), (vI 0), (vI 0)] 133) λ b1 => sif (decide (a1 < 0)) ( Ad (at0 b1) (.agg #[(vI 0), (vI 0), (vI 0), (vI 0)]) 4 <| lds Jj (at0 b1) λ (x2 : I4) => K (x2, 2, ())) ( cN 165 #[(.pointer a0), (vI a1)] λ x3 => sif (decide (x3 < 0)) ( Ad (at0 b1) (.agg #[(vI 0), (vI 0), (vI 0), (vI 0)]) 4 <| lds Jj (at0 b1) λ (x4 : I4) => K (x4, 2, ())) ( cN 23 #[(.pointer a0)] λ x5 => cN 132 #[(.pointer a0), (vI x5)] λ x6 => sif (decide (a1 < x6)) ( cN 165 #[(.pointer a0), (vI (W64 (a1 + 1)))] λ x7 => Aa Tryz.prog 166 #[(.pointer a0), (vI x3), (vI x7)] (.one (.agg Jj)) λ (x8 : I4) => Ad (at0 b1) (vA Jj x8) 4 <| lds Jj (at0 b1) λ (x9 : I4) => K (x9, 0, ())) ( cN 23 #[(.pointer a0)] λ x10 => cN 23 #[(.pointer a0)] λ x11 => Ad (at0 b1) (.agg #[(vI x3), (vI x10), (vI x11), (vI 0)]) 4 <| lds Jj (at0 b1) λ (x12 : I4) => K (x12, 0, ()))))
def De5 : Hint := (hS (hR 2) (hS (hS (hR 2) (hC (hS (hR 3) hL) hL)) (hS (hR 4) (hS (hS (hR 2) (hC (hS (hR 3) hL) hL)) (hS (hS (hR 6) (hC (hS (hR 9) hL) hL)) (hS (hR 8) hL))))))
theorem Ds7 {a0 : Option Addr} {a1 : Int} {K : (I4 × Int × Unit) -> Wp} {w : World} (h : F106 a0 a1 K w) : Aa Tryz.prog 106 #[(.pointer a0), (vI a1)] (.tup [(.agg Jj), (.one cI)]) K w := tied Ai Tryz.func106 De5 _ h
def F130 (a0 : Option Addr) (a1 : Int) (K : Int -> Wp) : Wp := cN 23 #[(.pointer a0)] λ x1 => cN 132 #[(.pointer a0), (vI (if x1 < (if 0 > a1 then 0 else a1) then x1 else (if 0 > a1 then 0 else a1)))] λ x2 => K x2
def Dc7 : Hint := (hS (hR 1) (hS (hR 8) hL))
theorem Dq6 {a0 : Option Addr} {a1 : Int} {K : Int -> Wp} {w : World} (h : F130 a0 a1 K w) : Aa Tryz.prog 130 #[(.pointer a0), (vI a1)] rI K w := tied Ai Tryz.func130 Dc7 _ h
def F133 (a0 : Option Addr) (K : Bool -> Wp) : Wp := cN 23 #[(.pointer a0)] λ x1 => sif (decide (x1 > 0)) ( cN 132 #[(.pointer a0), (vI x1)] λ x2 => cN 165 #[(.pointer a0), (vI x2)] λ x3 => K (x3 == x1)) ( K false)
def Dc4 : Hint := (hS (hR 1) (hS (hR 3) (hS (.region [] (.ops 3 (.split 8 (hO 9) (.skips 7 (hO 2))))) hL)))
theorem Dq3 {a0 : Option Addr} {K : Bool -> Wp} {w : World} (h : F133 a0 K w) : Aa Tryz.prog 133 #[(.pointer a0)] rB K w := tied Ai Tryz.func133 Dc4 _ h
def F134 (a0 : Option Addr) (K : (I3 × Int × Unit) -> Wp) : Wp := Af (.cells #[(vI 0), (vI 0), (vI 0)] 83) λ b1 => nn a0 λ p2 => ld cI (p2.add 2) λ (x3 : Int) => sif (x3 == 0) ( Aa Tryz.prog 179 #[] (.tup [(.agg c83), (.one cI)]) λ (x4 : (I3 × Int × Unit)) => Ad (at0 b1) (vA c83 x4.1) 3 <| lds c83 (at0 b1) λ (x5 : I3) => K (x5, x4.2.1, ())) ( drew <| nn a0 λ p6 => lds Bg (p6.add 9) λ (x7 : (Int × Int × Int × Int × Int × Sl × Sl × Unit)) => nn a0 λ p8 => ld cI (p8.add 2) λ (x9 : Int) => nn a0 λ p10 => ld cI (p10.add 3) λ (x11 : Int) => cN 79 #[(vA Bg x7), (vI (W64 (x9 - x11)))] λ x12 => Aa Tryz.prog 180 #[(.pointer a0), (vI x12), (vI 0)] (.tup [(.agg c83), (.one cI)]) λ (x13 : (I3 × Int × Unit)) => Ad (at0 b1) (vA c83 x13.1) 3 <| lds c83 (at0 b1) λ (x14 : I3) => K (x14, x13.2.1, ()))
def Dc3 : Hint := (hS (hR 2) (hS (hS (hR 5) (hC (hS (hR 5) hL) hL)) (hS (.region (lR 20) (hO 20)) hL)))
theorem Dq2 {a0 : Option Addr} {K : (I3 × Int × Unit) -> Wp} {w : World} (h : F134 a0 K w) : Aa Tryz.prog 134 #[(.pointer a0)] (.tup [(.agg c83), (.one cI)]) K w := tied Ai Tryz.func134 Dc3 _ h
def F135 (a0 : Option Addr) (K : (I3 × Int × Unit) -> Wp) : Wp := Af (.cells #[(vI 0), (vI 0), (vI 0)] 83) λ b1 => drew <| nn a0 λ p2 => ld cI (p2.add 2) λ (x3 : Int) => cN 181 #[(.pointer a0)] λ x4 => keep (λ w => w.cell? (p2.add 2) = some (Cell.val cI x3)) <| sif (x3 == x4) ( Aa Tryz.prog 179 #[] (.tup [(.agg c83), (.one cI)]) λ (x5 : (I3 × Int × Unit)) => Ad (at0 b1) (vA c83 x5.1) 3 <| lds c83 (at0 b1) λ (x6 : I3) => K (x6, x5.2.1, ())) ( drew <| nn a0 λ p7 => lds Bg (p7.add 9) λ (x8 : (Int × Int × Int × Int × Int × Sl × Sl × Unit)) => nn a0 λ p9 => ld cI (p9.add 2) λ (x10 : Int) => nn a0 λ p11 => ld cI (p11.add 3) λ (x12 : Int) => cN 181 #[(.pointer a0)] λ x13 => keep (λ w => w.cell? (p11.add 3) = some (Cell.val cI x12)) <| keep (λ w => w.cell? (p9.add 2) = some (Cell.val cI x10)) <| keep (λ w => Ak w (p7.add 9) 0 (Cells.vals Bg x8)) <| cN 79 #[(vA Bg x8), (vI (if x13 < (W64 (x10 + x12)) then x13 else (W64 (x10 + x12))))] λ x14 => Aa Tryz.prog 180 #[(.pointer a0), (vI x14), (vI 0)] (.tup [(.agg c83), (.one cI)]) λ (x15 : (I3 × Int × Unit)) => Ad (at0 b1) (vA c83 x15.1) 3 <| lds c83 (at0 b1) λ (x16 : I3) => K (x16, x15.2.1, ()))
def Dc2 : Hint := (hS (hR 2) (hS (hS (.region (lR 7) (hO 7)) (hC (hS (hR 5) hL) hL)) (hS (.region (lR 23) (hO 23)) hL)))
theorem Dq1 {a0 : Option Addr} {K : (I3 × Int × Unit) -> Wp} {w : World} (h : F135 a0 K w) : Aa Tryz.prog 135 #[(.pointer a0)] (.tup [(.agg c83), (.one cI)]) K w := tied Ai Tryz.func135 Dc2 _ h
def F136 (a0 : Option Addr) (K : (I3 × Int × Unit) -> Wp) : Wp := Af (.cells #[(vI 0), (vI 0), (vI 0)] 83) λ b1 => nn a0 λ p2 => ld cI (p2.add 9) λ (x3 : Int) => Aa Tryz.prog 180 #[(.pointer a0), (vI x3), (vI 0)] (.tup [(.agg c83), (.one cI)]) λ (x4 : (I3 × Int × Unit)) => Ad (at0 b1) (vA c83 x4.1) 3 <| lds c83 (at0 b1) λ (x5 : I3) => K (x5, x4.2.1, ())
def Dc1 : Hint := (hS (hR 2) (hS (hR 12) hL))
theorem Dq0 {a0 : Option Addr} {K : (I3 × Int × Unit) -> Wp} {w : World} (h : F136 a0 K w) : Aa Tryz.prog 136 #[(.pointer a0)] (.tup [(.agg c83), (.one cI)]) K w := tied Ai Tryz.func136 Dc1 _ h
def F137 (a0 : Option Addr) (K : (I3 × Int × Unit) -> Wp) : Wp := Af (.cells #[(vI 0), (vI 0), (vI 0)] 83) λ b1 => drew <| nn a0 λ p2 => lds Bg (p2.add 9) λ (x3 : (Int × Int × Int × Int × Int × Sl × Sl × Unit)) => nn a0 λ p4 => lds Bg (p4.add 9) λ (x5 : (Int × Int × Int × Int × Int × Sl × Sl × Unit)) => cN 182 #[(vA Bg x5)] λ x6 => keep (λ w => Ak w (p2.add 9) 0 (Cells.vals Bg x3)) <| cN 79 #[(vA Bg x3), (vI x6)] λ x7 => Aa Tryz.prog 180 #[(.pointer a0), (vI x7), (vI 0)] (.tup [(.agg c83), (.one cI)]) λ (x8 : (I3 × Int × Unit)) => Ad (at0 b1) (vA c83 x8.1) 3 <| lds c83 (at0 b1) λ (x9 : I3) => K (x9, x8.2.1, ())
def Dc0 : Hint := (hS (hR 2) (hS (.region (lR 16) (hO 16)) hL))
theorem Dp9 {a0 : Option Addr} {K : (I3 × Int × Unit) -> Wp} {w : World} (h : F137 a0 K w) : Aa Tryz.prog 137 #[(.pointer a0)] (.tup [(.agg c83), (.one cI)]) K w := tied Ai Tryz.func137 Dc0 _ h
def F138 (a0 : Option Addr) (K : (I3 × Int × Unit) -> Wp) : Wp := Af (.cells #[(vI 0), (vI 0), (vI 0)] 83) λ b1 => nn a0 λ p2 => lds Bg (p2.add 9) λ (x3 : (Int × Int × Int × Int × Int × Sl × Sl × Unit)) => Af (.cells #[(vI 0), (vI 0), (vI 0), (vI 0), (vI 0), (.slice none 0 0), (.slice none 0 0)] 135) λ b4 => Ad (at0 b4) (vA Bg x3) 7 <| jU (λ J5 => nn a0 λ p7 => ld (.ptr) p7 λ (x8 : Option Addr) => cN 87 #[(.pointer x8)] λ x9 => jB (λ J10 => lI (ad b4 4) λ x12 => sif (decide (x12 < (W64 (x9 - 1)))) ( nn a0 λ p13 => ld cI (p13.add 3) λ (x14 : Int) => J10 ((decide (x14 > 1)), ())) ( J10 (false, ()))) λ s11 => sif s11.1 ( drew <| nn a0 λ p15 => ld (.ptr) p15 λ (x16 : Option Addr) => lI (ad b4 4) λ x17 => nn a0 λ p18 => ld cI (p18.add 3) λ (x19 : Int) => Aa Tryz.prog 86 #[(.pointer x16), (vI (if (W64 (x9 - 1)) < (W64 ((W64 (x17 + x19)) - 1)) then (W64 (x9 - 1)) else (W64 ((W64 (x17 + x19)) - 1))))] (.one (.agg Bg)) λ (x20 : (Int × Int × Int × Int × Int × Sl × Sl × Unit)) => Ad (at0 b4) (vA Bg x20) 7 <| J5 ()) ( J5 ())) λ s6 => drew <| lds Bg (at0 b4) λ (x21 : (Int × Int × Int × Int × Int × Sl × Sl × Unit)) => lds Bg (at0 b4) λ (x22 : (Int × Int × Int × Int × Int × Sl × Sl × Unit)) => cN 80 #[(vA Bg x22)] λ x23 => keep (λ w => Ak w (at0 b4) 0 (Cells.vals Bg x21)) <| cN 79 #[(vA Bg x21), (vI (W64 (x23 - 1)))] λ x24 => Ad (at0 b1) (.agg #[(vI x24), (vI 1), (vI 100000)]) 3 <| lds c83 (at0 b1) λ (x25 : I3) => K (x25, 0, ())
def Db9 : Hint := (hS (hR 2) (hS (hR 6) (hJ (0x3fffffffc20, []) (hS (hR 7) (hJ (0x7ff0000, [(26, tB)]) (.region [] (.ops 5 (.split 20 (hO 6) (.skips 5 (hO 1))))) (hC (.region (lR 16) (hO 16)) hL))) (hS (.region (lR 8) (hO 8)) hL))))
theorem Dp8 {a0 : Option Addr} {K : (I3 × Int × Unit) -> Wp} {w : World} (h : F138 a0 K w) : Aa Tryz.prog 138 #[(.pointer a0)] (.tup [(.agg c83), (.one cI)]) K w := tied Ai Tryz.func138 Db9 _ h
def F139 (a0 : Option Addr) (K : (I3 × Int × Unit) -> Wp) : Wp := Af (.cells #[(vI 0), (vI 0), (vI 0)] 83) λ b1 => drew <| nn a0 λ p2 => lds Bg (p2.add 9) λ (x3 : (Int × Int × Int × Int × Int × Sl × Sl × Unit)) => nn a0 λ p4 => ld cI (p4.add 3) λ (x5 : Int) => cN 181 #[(.pointer a0)] λ x6 => keep (λ w => w.cell? (p4.add 3) = some (Cell.val cI x5)) <| keep (λ w => Ak w (p2.add 9) 0 (Cells.vals Bg x3)) <| cN 79 #[(vA Bg x3), (vI (if x6 < (W64 (x5 - 1)) then x6 else (W64 (x5 - 1))))] λ x7 => Aa Tryz.prog 180 #[(.pointer a0), (vI x7), (vI 0)] (.tup [(.agg c83), (.one cI)]) λ (x8 : (I3 × Int × Unit)) => Ad (at0 b1) (vA c83 x8.1) 3 <| lds c83 (at0 b1) λ (x9 : I3) => K (x9, x8.2.1, ())
def Db8 : Hint := (hS (hR 2) (hS (.region (lR 19) (hO 19)) hL))
theorem Dp7 {a0 : Option Addr} {K : (I3 × Int × Unit) -> Wp} {w : World} (h : F139 a0 K w) : Aa Tryz.prog 139 #[(.pointer a0)] (.tup [(.agg c83), (.one cI)]) K w := tied Ai Tryz.func139 Db8 _ h
def F140 (a0 : Option Addr) (K : (I3 × Int × Unit) -> Wp) : Wp := Af (.cells #[(vI 0), (vI 0), (vI 0)] 83) λ b1 => Aa Tryz.prog 183 #[(.pointer a0), (vI 1), (vI 0), (vI 1)] (.tup [(.agg c83), (.one cI)]) λ (x2 : (I3 × Int × Unit)) => Ad (at0 b1) (vA c83 x2.1) 3 <| lds c83 (at0 b1) λ (x3 : I3) => K (x3, x2.2.1, ())
def Db7 : Hint := (hS (hR 2) (hS (hR 6) hL))
theorem Dp6 {a0 : Option Addr} {K : (I3 × Int × Unit) -> Wp} {w : World} (h : F140 a0 K w) : Aa Tryz.prog 140 #[(.pointer a0)] (.tup [(.agg c83), (.one cI)]) K w := tied Ai Tryz.func140 Db7 _ h
def F141 (a0 : Option Addr) (K : (I3 × Int × Unit) -> Wp) : Wp := Af (.cells #[(vI 0), (vI 0), (vI 0)] 83) λ b1 => Aa Tryz.prog 183 #[(.pointer a0), (vI (-1)), (vI 0), (vI 0)] (.tup [(.agg c83), (.one cI)]) λ (x2 : (I3 × Int × Unit)) => Ad (at0 b1) (vA c83 x2.1) 3 <| lds c83 (at0 b1) λ (x3 : I3) => K (x3, x2.2.1, ())
def Db6 : Hint := (hS (hR 2) (hS (hR 6) hL))
theorem Dp5 {a0 : Option Addr} {K : (I3 × Int × Unit) -> Wp} {w : World} (h : F141 a0 K w) : Aa Tryz.prog 141 #[(.pointer a0)] (.tup [(.agg c83), (.one cI)]) K w := tied Ai Tryz.func141 Db6 _ h
def F142 (a0 : Option Addr) (K : (I3 × Int × Unit) -> Wp) : Wp := Af (.cells #[(vI 0), (vI 0), (vI 0)] 83) λ b1 => Aa Tryz.prog 183 #[(.pointer a0), (vI 1), (vI (-1)), (vI 1)] (.tup [(.agg c83), (.one cI)]) λ (x2 : (I3 × Int × Unit)) => Ad (at0 b1) (vA c83 x2.1) 3 <| lds c83 (at0 b1) λ (x3 : I3) => K (x3, x2.2.1, ())
def Db5 : Hint := (hS (hR 2) (hS (hR 6) hL))
theorem Dp4 {a0 : Option Addr} {K : (I3 × Int × Unit) -> Wp} {w : World} (h : F142 a0 K w) : Aa Tryz.prog 142 #[(.pointer a0)] (.tup [(.agg c83), (.one cI)]) K w := tied Ai Tryz.func142 Db5 _ h
def F143 (a0 : Option Addr) (K : (I3 × Int × Unit) -> Wp) : Wp := Af (.cells #[(vI 0), (vI 0), (vI 0)] 83) λ b1 => Aa Tryz.prog 183 #[(.pointer a0), (vI (-1)), (vI 1), (vI 0)] (.tup [(.agg c83), (.one cI)]) λ (x2 : (I3 × Int × Unit)) => Ad (at0 b1) (vA c83 x2.1) 3 <| lds c83 (at0 b1) λ (x3 : I3) => K (x3, x2.2.1, ())
def Db4 : Hint := (hS (hR 2) (hS (hR 6) hL))
theorem Dp3 {a0 : Option Addr} {K : (I3 × Int × Unit) -> Wp} {w : World} (h : F143 a0 K w) : Aa Tryz.prog 143 #[(.pointer a0)] (.tup [(.agg c83), (.one cI)]) K w := tied Ai Tryz.func143 Db4 _ h
def F152 (a0 : Option Addr) (K : (I3 × Int × Unit) -> Wp) : Wp := Af (.cells #[(vI 0), (vI 0), (vI 0)] 83) λ b1 => Aa Tryz.prog 187 #[(.pointer a0)] rP λ (x2 : Option Addr) => jI (λ J3 => Aa Tryz.prog 188 #[(.pointer a0), (.pointer x2), (.func (.func 163) #[] #[])] rB λ (x5 : Bool) => sif x5 ( cN 164 #[(.pointer x2)] λ x6 => J3 (x6, ())) ( cN 189 #[(.pointer a0)] λ x7 => nn a0 λ p8 => ld (.bool) (p8.add 7) λ (x9 : Bool) => sif x9 ( drew <| nn a0 λ p10 => ld (.ptr) p10 λ (x11 : Option Addr) => nn a0 λ p12 => ld (.ptr) p12 λ (x13 : Option Addr) => cN 87 #[(.pointer x13)] λ x14 => keep (λ w => w.cell? p10 = some (Cell.val (.ptr) x11)) <| Aa Tryz.prog 86 #[(.pointer x11), (vI (W64 (x14 - 1)))] (.one (.agg Bg)) λ (x15 : (Int × Int × Int × Int × Int × Sl × Sl × Unit)) => J3 (x15.2.1, ())) ( J3 (x7, ())))) λ s4 => nn a0 λ p16 => ld cI (p16.add 1) λ (x17 : Int) => sif (decide (s4.1 <= x17)) ( Aa Tryz.prog 179 #[] (.tup [(.agg c83), (.one cI)]) λ (x18 : (I3 × Int × Unit)) => Ad (at0 b1) (vA c83 x18.1) 3 <| lds c83 (at0 b1) λ (x19 : I3) => K (x19, x18.2.1, ())) ( Aa Tryz.prog 180 #[(.pointer a0), (vI s4.1), (vI 0)] (.tup [(.agg c83), (.one cI)]) λ (x20 : (I3 × Int × Unit)) => Ad (at0 b1) (vA c83 x20.1) 3 <| lds c83 (at0 b1) λ (x21 : I3) => K (x21, x20.2.1, ()))
def Db3 : Hint := (hS (hR 2) (hS (hR 3) (hS (hR 1) (hJ (0xffffff20, [(5, tI)]) (hS (hR 3) (hC (hR 3) (hS (hR 3) (hS (hR 4) (hC (.region (lR 14) (hO 14)) hL))))) (hS (hS (hR 6) (hC (hS (hR 5) hL) hL)) (hS (hR 7) hL))))))
theorem Dp2 {a0 : Option Addr} {K : (I3 × Int × Unit) -> Wp} {w : World} (h : F152 a0 K w) : Aa Tryz.prog 152 #[(.pointer a0)] (.tup [(.agg c83), (.one cI)]) K w := tied Ai Tryz.func152 Db3 _ h
def F153 (a0 : Option Addr) (K : (I3 × Int × Unit) -> Wp) : Wp := Af (.cells #[(vI 0), (vI 0), (vI 0)] 83) λ b1 => Aa Tryz.prog 187 #[(.pointer a0)] rP λ (x2 : Option Addr) => nn a0 λ p3 => ld cI (p3.add 1) λ (x4 : Int) => sif (x4 == 0) ( Aa Tryz.prog 179 #[] (.tup [(.agg c83), (.one cI)]) λ (x5 : (I3 × Int × Unit)) => Ad (at0 b1) (vA c83 x5.1) 3 <| lds c83 (at0 b1) λ (x6 : I3) => K (x6, x5.2.1, ())) ( Aa Tryz.prog 190 #[(.pointer a0), (.pointer x2), (.func (.func 163) #[] #[])] rB λ (x7 : Bool) => sif (!x7) ( Aa Tryz.prog 180 #[(.pointer a0), (vI 0), (vI 0)] (.tup [(.agg c83), (.one cI)]) λ (x8 : (I3 × Int × Unit)) => Ad (at0 b1) (vA c83 x8.1) 3 <| lds c83 (at0 b1) λ (x9 : I3) => K (x9, x8.2.1, ())) ( cN 164 #[(.pointer x2)] λ x10 => Aa Tryz.prog 180 #[(.pointer a0), (vI x10), (vI 0)] (.tup [(.agg c83), (.one cI)]) λ (x11 : (I3 × Int × Unit)) => Ad (at0 b1) (vA c83 x11.1) 3 <| lds c83 (at0 b1) λ (x12 : I3) => K (x12, x11.2.1, ())))
def Db2 : Hint := (hS (hR 2) (hS (hR 3) (hS (hS (hR 5) (hC (hS (hR 5) hL) hL)) (hS (hS (hR 4) (hC (hS (hR 6) hL) hL)) (hS (hR 8) hL)))))
theorem Dp1 {a0 : Option Addr} {K : (I3 × Int × Unit) -> Wp} {w : World} (h : F153 a0 K w) : Aa Tryz.prog 153 #[(.pointer a0)] (.tup [(.agg c83), (.one cI)]) K w := tied Ai Tryz.func153 Db2 _ h
def F154 (a0 : Option Addr) (K : (I3 × Int × Unit) -> Wp) : Wp := Af (.cells #[(vI 0), (vI 0), (vI 0)] 83) λ b1 => Aa Tryz.prog 187 #[(.pointer a0)] rP λ (x2 : Option Addr) => jI (λ J3 => Aa Tryz.prog 188 #[(.pointer a0), (.pointer x2), (.func (.func 191) #[] #[])] rB λ (x5 : Bool) => sif x5 ( cN 164 #[(.pointer x2)] λ x6 => J3 (x6, ())) ( cN 189 #[(.pointer a0)] λ x7 => J3 (x7, ()))) λ s4 => nn a0 λ p8 => ld cI (p8.add 1) λ (x9 : Int) => sif (decide (s4.1 <= x9)) ( Aa Tryz.prog 179 #[] (.tup [(.agg c83), (.one cI)]) λ (x10 : (I3 × Int × Unit)) => Ad (at0 b1) (vA c83 x10.1) 3 <| lds c83 (at0 b1) λ (x11 : I3) => K (x11, x10.2.1, ())) ( Aa Tryz.prog 180 #[(.pointer a0), (vI s4.1), (vI 1)] (.tup [(.agg c83), (.one cI)]) λ (x12 : (I3 × Int × Unit)) => Ad (at0 b1) (vA c83 x12.1) 3 <| lds c83 (at0 b1) λ (x13 : I3) => K (x13, x12.2.1, ()))
def Db1 : Hint := (hS (hR 2) (hS (hR 3) (hS (hR 1) (hJ (32544, [(5, tI)]) (hS (hR 3) (hC (hR 3) (hR 3))) (hS (hS (hR 6) (hC (hS (hR 5) hL) hL)) (hS (hR 7) hL))))))
theorem Dp0 {a0 : Option Addr} {K : (I3 × Int × Unit) -> Wp} {w : World} (h : F154 a0 K w) : Aa Tryz.prog 154 #[(.pointer a0)] (.tup [(.agg c83), (.one cI)]) K w := tied Ai Tryz.func154 Db1 _ h
def F155 (a0 : Option Addr) (K : (I3 × Int × Unit) -> Wp) : Wp := Af (.cells #[(vI 0), (vI 0), (vI 0)] 83) λ b1 => Aa Tryz.prog 187 #[(.pointer a0)] rP λ (x2 : Option Addr) => nn a0 λ p3 => ld cI (p3.add 1) λ (x4 : Int) => sif (x4 == 0) ( Aa Tryz.prog 179 #[] (.tup [(.agg c83), (.one cI)]) λ (x5 : (I3 × Int × Unit)) => Ad (at0 b1) (vA c83 x5.1) 3 <| lds c83 (at0 b1) λ (x6 : I3) => K (x6, x5.2.1, ())) ( Aa Tryz.prog 190 #[(.pointer a0), (.pointer x2), (.func (.func 192) #[] #[])] rB λ (x7 : Bool) => sif (!x7) ( Aa Tryz.prog 180 #[(.pointer a0), (vI 0), (vI 1)] (.tup [(.agg c83), (.one cI)]) λ (x8 : (I3 × Int × Unit)) => Ad (at0 b1) (vA c83 x8.1) 3 <| lds c83 (at0 b1) λ (x9 : I3) => K (x9, x8.2.1, ())) ( cN 164 #[(.pointer x2)] λ x10 => Aa Tryz.prog 180 #[(.pointer a0), (vI x10), (vI 1)] (.tup [(.agg c83), (.one cI)]) λ (x11 : (I3 × Int × Unit)) => Ad (at0 b1) (vA c83 x11.1) 3 <| lds c83 (at0 b1) λ (x12 : I3) => K (x12, x11.2.1, ())))
def Db0 : Hint := (hS (hR 2) (hS (hR 3) (hS (hS (hR 5) (hC (hS (hR 5) hL) hL)) (hS (hS (hR 4) (hC (hS (hR 6) hL) hL)) (hS (hR 8) hL)))))
theorem Do9 {a0 : Option Addr} {K : (I3 × Int × Unit) -> Wp} {w : World} (h : F155 a0 K w) : Aa Tryz.prog 155 #[(.pointer a0)] (.tup [(.agg c83), (.one cI)]) K w := tied Ai Tryz.func155 Db0 _ h
def F156 (a0 : Option Addr) (K : (I3 × Int × Unit) -> Wp) : Wp := Af (.cells #[(vI 0), (vI 0), (vI 0)] 83) λ b1 => Aa Tryz.prog 187 #[(.pointer a0)] rP λ (x2 : Option Addr) => jU (λ J3 => cB 191 #[(.pointer x2)] λ x5 => sif x5 ( nn a0 λ p6 => ld cI (p6.add 3) λ (x7 : Int) => nn a0 λ p8 => stC (p8.add 3) (vI (W64 (x7 - 1))) <| J3 ()) ( J3 ())) λ s4 => Aa Tryz.prog 188 #[(.pointer a0), (.pointer x2), (.func (.func 191) #[] #[])] rB λ (x9 : Bool) => sif x9 ( cN 164 #[(.pointer x2)] λ x10 => Aa Tryz.prog 180 #[(.pointer a0), (vI x10), (vI 1)] (.tup [(.agg c83), (.one cI)]) λ (x11 : (I3 × Int × Unit)) => Ad (at0 b1) (vA c83 x11.1) 3 <| lds c83 (at0 b1) λ (x12 : I3) => K (x12, x11.2.1, ())) ( drew <| nn a0 λ p13 => ld cI (p13.add 1) λ (x14 : Int) => cN 189 #[(.pointer a0)] λ x15 => keep (λ w => w.cell? (p13.add 1) = some (Cell.val cI x14)) <| Aa Tryz.prog 180 #[(.pointer a0), (vI (if x14 > x15 then x14 else x15)), (vI 1)] (.tup [(.agg c83), (.one cI)]) λ (x16 : (I3 × Int × Unit)) => Ad (at0 b1) (vA c83 x16.1) 3 <| lds c83 (at0 b1) λ (x17 : I3) => K (x17, x16.2.1, ()))
def Da9 : Hint := (hS (hR 2) (hS (hR 3) (hJ (65408, []) (hS (hR 2) (hC (hR 8) hL)) (hS (hS (hR 3) (hC (hS (hR 8) hL) hL)) (hS (.region [0, 1, 3, 4, 5, 6, 2, 7, 8, 9, 10, 11, 12] (hO 13)) hL)))))
theorem Do8 {a0 : Option Addr} {K : (I3 × Int × Unit) -> Wp} {w : World} (h : F156 a0 K w) : Aa Tryz.prog 156 #[(.pointer a0)] (.tup [(.agg c83), (.one cI)]) K w := tied Ai Tryz.func156 Da9 _ h
def F161 (a0 : Option Addr) (a1 : Int) (a2 : Bool) (a3 : Bool) (K : Option Addr -> Wp) : Wp := Aa Tryz.prog 78 #[(.pointer a0), (vI a1), (.bool a2)] (.one (.agg Bg)) λ (x1 : (Int × Int × Int × Int × Int × Sl × Sl × Unit)) => Af (.cells #[(vI 0), (vI 0), (vI 0), (vI 0), (vI 0), (.slice none 0 0), (.slice none 0 0)] 135) λ b2 => Ad (at0 b2) (vA Bg x1) 7 <| drew <| lds Bg (at0 b2) λ (x3 : (Int × Int × Int × Int × Int × Sl × Sl × Unit)) => lds Bg (at0 b2) λ (x4 : (Int × Int × Int × Int × Int × Sl × Sl × Unit)) => cN 81 #[(vA Bg x4), (vI a1)] λ x5 => keep (λ w => Ak w (at0 b2) 0 (Cells.vals Bg x3)) <| cN 87 #[(.pointer a0)] λ x6 => keep (λ w => Ak w (at0 b2) 0 (Cells.vals Bg x3)) <| Af (.cells (Value.cells (.agg #[(.pointer a0), (vI x3.1), (vI x3.2.1), (vI x3.2.2.1), (vI x3.2.2.2.1), (vI x3.2.2.2.2.1), x3.2.2.2.2.2.1.v, x3.2.2.2.2.2.2.1.v, (vI x5), (vI (W64 (x6 - 1))), (.bool a3)])) 201) λ b7 => K (some (at0 b7))
def Da8 : Hint := (hS (hR 1) (hS (hR 6) (hS (.region [0, 1, 2, 3, 5, 8, 4, 6, 7, 9, 10, 11] (hO 12)) hL)))
theorem Do7 {a0 : Option Addr} {a1 : Int} {a2 : Bool} {a3 : Bool} {K : Option Addr -> Wp} {w : World} (h : F161 a0 a1 a2 a3 K w) : Aa Tryz.prog 161 #[(.pointer a0), (vI a1), (.bool a2), (.bool a3)] rP K w := tied Ai Tryz.func161 Da8 _ h
def F162 (a0 : Option Addr) (K : Bool -> Wp) : Wp := drew <| nn a0 λ p1 => ld cI (p1.add 8) λ (x2 : Int) => nn a0 λ p3 => lds Bg (p3.add 1) λ (x4 : (Int × Int × Int × Int × Int × Sl × Sl × Unit)) => cN 80 #[(vA Bg x4)] λ x5 => keep (λ w => w.cell? (p1.add 8) = some (Cell.val cI x2)) <| sif (decide ((W64 (x2 + 1)) < x5)) ( nn a0 λ p6 => ld cI (p6.add 8) λ (x7 : Int) => nn a0 λ p8 => stC (p8.add 8) (vI (W64 (x7 + 1))) <| K true) ( drew <| nn a0 λ p9 => ld cI ((p9.add 1).add 4) λ (x10 : Int) => nn a0 λ p11 => ld cI (p11.add 9) λ (x12 : Int) => sif (decide (x10 >= x12)) ( K false) ( drew <| nn a0 λ p13 => ld (.ptr) p13 λ (x14 : Option Addr) => nn a0 λ p15 => ld cI ((p15.add 1).add 4) λ (x16 : Int) => Aa Tryz.prog 86 #[(.pointer x14), (vI (W64 (x16 + 1)))] (.one (.agg Bg)) λ (x17 : (Int × Int × Int × Int × Int × Sl × Sl × Unit)) => nn a0 λ p18 => Ad (p18.add 1) (vA Bg x17) 7 <| nn a0 λ p19 => stC (p19.add 8) (vI 0) <| K true))
def Da7 : Hint := (hS (hR 1) (hS (hS (.region (lR 11) (hO 11)) (hC (hS (hR 8) (hS (hR 1) hL)) hL)) (hS (hS (.region (lR 10) (hO 10)) (hC (hS (hR 1) hL) hL)) (hS (.region (lR 19) (hO 19)) (hS (hR 1) hL)))))
theorem Do6 {a0 : Option Addr} {K : Bool -> Wp} {w : World} (h : F162 a0 K w) : Aa Tryz.prog 162 #[(.pointer a0)] rB K w := tied Ai Tryz.func162 Da7 _ h
def F163 (a0 : Option Addr) (K : Bool -> Wp) : Wp := cB 196 #[(.pointer a0)] λ x1 => sif x1 ( drew <| nn a0 λ p2 => ld cI ((p2.add 1).add 4) λ (x3 : Int) => nn a0 λ p4 => ld cI (p4.add 9) λ (x5 : Int) => K (decide (x3 <= x5))) ( drew <| nn a0 λ p6 => lds Bg (p6.add 1) λ (x7 : (Int × Int × Int × Int × Int × Sl × Sl × Unit)) => nn a0 λ p8 => ld cI (p8.add 8) λ (x9 : Int) => nn a0 λ p10 => ld (.bool) (p10.add 10) λ (x11 : Bool) => cN 197 #[(vA Bg x7), (vI x9), (.bool x11)] λ x12 => drew <| sif (x12 != 0) ( nn a0 λ p13 => ld cI (p13.add 8) λ (x14 : Int) => sif (x14 == 0) ( K true) ( nn a0 λ p15 => lds Bg (p15.add 1) λ (x16 : (Int × Int × Int × Int × Int × Sl × Sl × Unit)) => nn a0 λ p17 => ld cI (p17.add 8) λ (x18 : Int) => nn a0 λ p19 => ld (.bool) (p19.add 10) λ (x20 : Bool) => cN 197 #[(vA Bg x16), (vI (W64 (x18 - 1))), (.bool x20)] λ x21 => K (x21 != x12))) ( K false))
def Da6 : Hint := (hS (hR 1) (hS (hS (hR 2) (hC (hS (.region (lR 11) (hO 11)) hL) hL)) (hS (.region (lR 14) (hO 14)) (hS (.region [0, 1, 2, 3, 4, 5, 6, 7, 8, 9, 10, 11, 12, 13, 14, 15, 16, 17, 18, 19, 20, 21, 23, 22, 24, 25, 26, 27] (.ops 3 (.split 31 (.ops 6 (.split 37 (.skips 16 (hO 3)) (hO 19))) (.skips 23 (hO 2))))) hL))))
theorem Do5 {a0 : Option Addr} {K : Bool -> Wp} {w : World} (h : F163 a0 K w) : Aa Tryz.prog 163 #[(.pointer a0)] rB K w := tied Ai Tryz.func163 Da6 _ h
def F164 (a0 : Option Addr) (K : Int -> Wp) : Wp := drew <| nn a0 λ p1 => lds Bg (p1.add 1) λ (x2 : (Int × Int × Int × Int × Int × Sl × Sl × Unit)) => nn a0 λ p3 => ld cI (p3.add 8) λ (x4 : Int) => cN 79 #[(vA Bg x2), (vI x4)] λ x5 => K x5
def Da5 : Hint := (hS (hR 1) (hS (.region (lR 10) (hO 10)) hL))
theorem Do4 {a0 : Option Addr} {K : Int -> Wp} {w : World} (h : F164 a0 K w) : Aa Tryz.prog 164 #[(.pointer a0)] rI K w := tied Ai Tryz.func164 Da5 _ h
def F166 (a0 : Option Addr) (a1 : Int) (a2 : Int) (K : I4 -> Wp) : Wp := Af (.cells #[(vI 0), (vI 0), (vI 0), (vI 0)] 133) λ b1 => cS 25 #[(.pointer a0), (vI (if (W64 (a2 - 2)) > a1 then (W64 (a2 - 2)) else a1)), (vI a2)] λ x2 => ixI x2 (W64 (((x2.len : Nat) : Int) - 1)) 1 λ x4 => sif (x4 == 13) ( Ad (at0 b1) (.agg #[(vI a1), (vI (W64 (a2 - 1))), (vI a2), (vI 3)]) 4 <| lds Jj (at0 b1) λ (x5 : I4) => K x5) ( jB (λ J6 => sif (decide ((W64 (((x2.len : Nat) : Int) - 1)) > 0)) ( ix x2.a x2.len (W64 ((W64 (((x2.len : Nat) : Int) - 1)) - 1)) λ p8 => ld cI (p8.add (scaled (Int.toNat (W64 ((W64 (((x2.len : Nat) : Int) - 1)) - 1))) 1)) λ (x9 : Int) => J6 ((x9 == 13), ())) ( J6 (false, ()))) λ s7 => sif s7.1 ( Ad (at0 b1) (.agg #[(vI a1), (vI (W64 (a2 - 2))), (vI a2), (vI 2)]) 4 <| lds Jj (at0 b1) λ (x10 : I4) => K x10) ( Ad (at0 b1) (.agg #[(vI a1), (vI (W64 (a2 - 1))), (vI a2), (vI 1)]) 4 <| lds Jj (at0 b1) λ (x11 : I4) => K x11))
def Da3 : Hint := (hS (hR 1) (hS (hR 8) (hS (hR 4) (hS (.block (hS (hR 6) (hC (hS (hR 6) hL) (hJ (0x1ffc0000000, [(30, tB)]) (.region [] (.ops 3 (.split 33 (hO 8) (.skips 6 (hO 2))))) (hC (hS (hR 6) hL) hL))))) (hS (hR 6) hL)))))
theorem Do2 {a0 : Option Addr} {a1 : Int} {a2 : Int} {K : I4 -> Wp} {w : World} (h : F166 a0 a1 a2 K w) : Aa Tryz.prog 166 #[(.pointer a0), (vI a1), (vI a2)] (.one (.agg Jj)) K w := tied Ai Tryz.func166 Da3 _ h
def F179  (K : (I3 × Int × Unit) -> Wp) : Wp := Af (.cells #[(vI 0), (vI 0), (vI 0)] 83) λ b1 => Ad (at0 b1) (.agg #[(vI 0), (vI 0), (vI 0)]) 3 <| lds c83 (at0 b1) λ (x2 : I3) => K (x2, 80, ())
def Cz3 : Hint := (hS (hR 2) (hS (hR 3) hL))
theorem Dn4 {K : (I3 × Int × Unit) -> Wp} {w : World} (h : F179  K w) : Aa Tryz.prog 179 #[] (.tup [(.agg c83), (.one cI)]) K w := tied Ai Tryz.func179 Cz3 _ h
def F180 (a0 : Option Addr) (a1 : Int) (a2 : Int) (K : (I3 × Int × Unit) -> Wp) : Wp := Af (.cells #[(vI 0), (vI 0), (vI 0)] 83) λ b1 => nn a0 λ p2 => ld (.ptr) p2 λ (x3 : Option Addr) => cN 38 #[(.pointer x3), (vI a1)] λ x4 => Ad (at0 b1) (.agg #[(vI a1), (vI a2), (vI x4)]) 3 <| lds c83 (at0 b1) λ (x5 : I3) => K (x5, 0, ())
def Cz2 : Hint := (hS (hR 2) (hS (hR 11) hL))
theorem Ct6 {a0 : Option Addr} {a1 : Int} {a2 : Int} {K : (I3 × Int × Unit) -> Wp} {w : World} (h : F180 a0 a1 a2 K w) : Aa Tryz.prog 180 #[(.pointer a0), (vI a1), (vI a2)] (.tup [(.agg c83), (.one cI)]) K w := tied Ai Tryz.func180 Cz2 _ h
def F181 (a0 : Option Addr) (K : Int -> Wp) : Wp := nn a0 λ p1 => ld (.bool) (p1.add 7) λ (x2 : Bool) => sif x2 ( nn a0 λ p3 => lds Bg (p3.add 9) λ (x4 : (Int × Int × Int × Int × Int × Sl × Sl × Unit)) => cN 80 #[(vA Bg x4)] λ x5 => K x5) ( nn a0 λ p6 => lds Bg (p6.add 9) λ (x7 : (Int × Int × Int × Int × Int × Sl × Sl × Unit)) => cN 80 #[(vA Bg x7)] λ x8 => K (if 0 > (W64 (x8 - 1)) then 0 else (W64 (x8 - 1))))
def Cz1 : Hint := (hS (hR 1) (hS (hS (hR 4) (hC (hS (hR 6) hL) hL)) (hS (hR 8) hL)))
theorem Dn3 {a0 : Option Addr} {K : Int -> Wp} {w : World} (h : F181 a0 K w) : Aa Tryz.prog 181 #[(.pointer a0)] rI K w := tied Ai Tryz.func181 Cz1 _ h
def F182 (a0 : (Int × Int × Int × Int × Int × Sl × Sl × Unit)) (K : Int -> Wp) : Wp := Af (.cells #[(vI a0.1), (vI a0.2.1), (vI a0.2.2.1), (vI a0.2.2.2.1), (vI a0.2.2.2.2.1), a0.2.2.2.2.2.1.v, a0.2.2.2.2.2.2.1.v] 135) λ b1 => jU (λ J2 => lds Bg (at0 b1) λ (x4 : (Int × Int × Int × Int × Int × Sl × Sl × Unit)) => cN 80 #[(vA Bg x4)] λ x5 => sI (λ s6 again7 => sif (decide (s6.1 < x5)) ( lds Bg (at0 b1) λ (x8 : (Int × Int × Int × Int × Int × Sl × Sl × Unit)) => cN 197 #[(vA Bg x8), (vI s6.1), (.bool true)] λ x9 => sif (x9 != 0) ( K s6.1) ( again7 ((W64 (s6.1 + 1)), ()))) ( J2 ())) (0, ())) λ s3 => lds Bg (at0 b1) λ (x10 : (Int × Int × Int × Int × Int × Sl × Sl × Unit)) => cN 80 #[(vA Bg x10)] λ x11 => K (if 0 > (W64 (x11 - 1)) then 0 else (W64 (x11 - 1)))
def Cz0 : Hint := (hS (hR 2) (hJ (32764, []) (hS (hR 3) (.block (.loop 32716 [(6, tI)] (hS (hR 1) (hS (hC hL hL) (hS (.block (hS (hR 2) (hS (hR 4) (hC (hS (hR 2) hL) hL)))) (hR 2))))))) (hS (hR 5) hL)))
theorem Dn2 {a0 : (Int × Int × Int × Int × Int × Sl × Sl × Unit)} {K : Int -> Wp} {w : World} (h : F182 a0 K w) : Aa Tryz.prog 182 #[(vA Bg a0)] rI K w := tied Ai Tryz.func182 Cz0 _ h
def F183 (a0 : Option Addr) (a1 : Int) (a2 : Int) (a3 : Int) (K : (I3 × Int × Unit) -> Wp) : Wp := Af (.cells #[(vI 0), (vI 0), (vI 0)] 83) λ b1 => cN 203 #[(.pointer a0), (vI a1)] λ x2 => sif (decide (x2 < 0)) ( Aa Tryz.prog 179 #[] (.tup [(.agg c83), (.one cI)]) λ (x3 : (I3 × Int × Unit)) => Ad (at0 b1) (vA c83 x3.1) 3 <| lds c83 (at0 b1) λ (x4 : I3) => K (x4, x3.2.1, ())) ( nn a0 λ p5 => lds Bg (p5.add 9) λ (x6 : (Int × Int × Int × Int × Int × Sl × Sl × Unit)) => cN 79 #[(vA Bg x6), (vI (W64 (x2 + a2)))] λ x7 => Aa Tryz.prog 180 #[(.pointer a0), (vI x7), (vI a3)] (.tup [(.agg c83), (.one cI)]) λ (x8 : (I3 × Int × Unit)) => Ad (at0 b1) (vA c83 x8.1) 3 <| lds c83 (at0 b1) λ (x9 : I3) => K (x9, x8.2.1, ()))
def Cy9 : Hint := (hS (hR 2) (hS (hR 4) (hS (hS (hR 2) (hC (hS (hR 5) hL) hL)) (hS (hR 15) hL))))
theorem Ct5 {a0 : Option Addr} {a1 : Int} {a2 : Int} {a3 : Int} {K : (I3 × Int × Unit) -> Wp} {w : World} (h : F183 a0 a1 a2 a3 K w) : Aa Tryz.prog 183 #[(.pointer a0), (vI a1), (vI a2), (vI a3)] (.tup [(.agg c83), (.one cI)]) K w := tied Ai Tryz.func183 Cy9 _ h
def F187 (a0 : Option Addr) (K : Option Addr -> Wp) : Wp := drew <| nn a0 λ p1 => ld (.ptr) p1 λ (x2 : Option Addr) => nn a0 λ p3 => ld cI (p3.add 1) λ (x4 : Int) => nn a0 λ p5 => ld (.bool) (p5.add 7) λ (x6 : Bool) => nn a0 λ p7 => ld (.bool) (p7.add 8) λ (x8 : Bool) => Aa Tryz.prog 161 #[(.pointer x2), (vI x4), (.bool x6), (.bool x8)] rP λ (x9 : Option Addr) => K x9
def Cy8 : Hint := (hS (hR 1) (hS (.region (lR 18) (hO 18)) hL))
theorem Dn1 {a0 : Option Addr} {K : Option Addr -> Wp} {w : World} (h : F187 a0 K w) : Aa Tryz.prog 187 #[(.pointer a0)] rP K w := tied Ai Tryz.func187 Cy8 _ h
def F188 (a0 : Option Addr) (a1 : Option Addr) (a2 : Value) (K : Bool -> Wp) : Wp := jU (λ J1 => nn a0 λ p3 => ld cI (p3.add 3) λ (x4 : Int) => sI (λ s5 again6 => sif (decide (s5.1 > 0)) ( cB 162 #[(.pointer a1)] λ x7 => sif (!x7) ( K false) ( Bv Tryz.prog (do let d ← Deferred.ofValue a2 #[(.pointer a1)]; invoke d.target d.args : Sem Next) rB λ (x8 : Bool) => sif x8 ( again6 ((W64 (s5.1 - 1)), ())) ( again6 (s5.1, ())))) ( J1 ())) (x4, ())) λ s2 => K true
def Cy7 : Hint := (hS (hR 1) (hJ (4194240, []) (hS (hR 5) (.block (.loop 4190400 [(7, tI)] (hS (hS (hR 2) (hC hL hL)) (.block (hS (hS (hR 3) (hC (hS (hR 1) hL) hL)) (hS (hR 3) (hC (hR 3) hL)))))))) (hS (hR 1) hL)))
theorem Dn0 {a0 : Option Addr} {a1 : Option Addr} {a2 : Value} {K : Bool -> Wp} {w : World} (h : F188 a0 a1 a2 K w) : Aa Tryz.prog 188 #[(.pointer a0), (.pointer a1), a2] rB K w := tied Ai Tryz.func188 Cy7 _ h
def F189 (a0 : Option Addr) (K : Int -> Wp) : Wp := drew <| nn a0 λ p1 => ld (.ptr) p1 λ (x2 : Option Addr) => nn a0 λ p3 => ld (.ptr) p3 λ (x4 : Option Addr) => cN 23 #[(.pointer x4)] λ x5 => keep (λ w => w.cell? p1 = some (Cell.val (.ptr) x2)) <| cN 34 #[(.pointer x2), (vI x5), (.bool false)] λ x6 => K x6
def Cy6 : Hint := (hS (hR 1) (hS (.region (lR 11) (hO 11)) hL))
theorem Dm9 {a0 : Option Addr} {K : Int -> Wp} {w : World} (h : F189 a0 K w) : Aa Tryz.prog 189 #[(.pointer a0)] rI K w := tied Ai Tryz.func189 Cy6 _ h
def F190 (a0 : Option Addr) (a1 : Option Addr) (a2 : Value) (K : Bool -> Wp) : Wp := jU (λ J1 => nn a0 λ p3 => ld cI (p3.add 3) λ (x4 : Int) => sI (λ s5 again6 => sif (decide (s5.1 > 0)) ( cB 195 #[(.pointer a1)] λ x7 => sif (!x7) ( K false) ( Bv Tryz.prog (do let d ← Deferred.ofValue a2 #[(.pointer a1)]; invoke d.target d.args : Sem Next) rB λ (x8 : Bool) => sif x8 ( again6 ((W64 (s5.1 - 1)), ())) ( again6 (s5.1, ())))) ( J1 ())) (x4, ())) λ s2 => K true
def Cy5 : Hint := (hS (hR 1) (hJ (4194240, []) (hS (hR 5) (.block (.loop 4190400 [(7, tI)] (hS (hS (hR 2) (hC hL hL)) (.block (hS (hS (hR 3) (hC (hS (hR 1) hL) hL)) (hS (hR 3) (hC (hR 3) hL)))))))) (hS (hR 1) hL)))
theorem Dm8 {a0 : Option Addr} {a1 : Option Addr} {a2 : Value} {K : Bool -> Wp} {w : World} (h : F190 a0 a1 a2 K w) : Aa Tryz.prog 190 #[(.pointer a0), (.pointer a1), a2] rB K w := tied Ai Tryz.func190 Cy5 _ h
def F191 (a0 : Option Addr) (K : Bool -> Wp) : Wp := cB 196 #[(.pointer a0)] λ x1 => sif (!x1) ( cB 192 #[(.pointer a0)] λ x2 => K x2) ( K false)
def Cy4 : Hint := (hS (hR 1) (hS (.region [] (.ops 4 (.split 6 (hO 4) (.skips 2 (hO 2))))) hL))
theorem Dm7 {a0 : Option Addr} {K : Bool -> Wp} {w : World} (h : F191 a0 K w) : Aa Tryz.prog 191 #[(.pointer a0)] rB K w := tied Ai Tryz.func191 Cy4 _ h
def F192 (a0 : Option Addr) (K : Bool -> Wp) : Wp := cB 196 #[(.pointer a0)] λ x1 => sif x1 ( drew <| nn a0 λ p2 => ld cI ((p2.add 1).add 4) λ (x3 : Int) => nn a0 λ p4 => ld cI (p4.add 9) λ (x5 : Int) => K (decide (x3 <= x5))) ( drew <| nn a0 λ p6 => ld cI (p6.add 8) λ (x7 : Int) => nn a0 λ p8 => lds Bg (p8.add 1) λ (x9 : (Int × Int × Int × Int × Int × Sl × Sl × Unit)) => cN 80 #[(vA Bg x9)] λ x10 => keep (λ w => w.cell? (p6.add 8) = some (Cell.val cI x7)) <| sif (decide (x7 >= x10)) ( K false) ( drew <| nn a0 λ p11 => lds Bg (p11.add 1) λ (x12 : (Int × Int × Int × Int × Int × Sl × Sl × Unit)) => nn a0 λ p13 => ld cI (p13.add 8) λ (x14 : Int) => nn a0 λ p15 => ld (.bool) (p15.add 10) λ (x16 : Bool) => cN 197 #[(vA Bg x12), (vI x14), (.bool x16)] λ x17 => drew <| sif (x17 != 0) ( nn a0 λ p18 => ld cI (p18.add 8) λ (x19 : Int) => nn a0 λ p20 => lds Bg (p20.add 1) λ (x21 : (Int × Int × Int × Int × Int × Sl × Sl × Unit)) => cN 80 #[(vA Bg x21)] λ x22 => keep (λ w => w.cell? (p18.add 8) = some (Cell.val cI x19)) <| sif ((W64 (x19 + 1)) == x22) ( K true) ( nn a0 λ p23 => lds Bg (p23.add 1) λ (x24 : (Int × Int × Int × Int × Int × Sl × Sl × Unit)) => nn a0 λ p25 => ld cI (p25.add 8) λ (x26 : Int) => nn a0 λ p27 => ld (.bool) (p27.add 10) λ (x28 : Bool) => cN 197 #[(vA Bg x24), (vI (W64 (x26 + 1))), (.bool x28)] λ x29 => K (x29 != x17))) ( K false)))
def Cy3 : Hint := (hS (hR 1) (hS (hS (hR 2) (hC (hS (.region (lR 11) (hO 11)) hL) hL)) (hS (hS (.region (lR 10) (hO 10)) (hC (hS (hR 1) hL) hL)) (hS (.region (lR 14) (hO 14)) (hS (.region [0, 1, 2, 3, 4, 5, 6, 7, 8, 9, 10, 11, 12, 13, 14, 15, 16, 17, 18, 19, 20, 21, 22, 23, 24, 25, 26, 27, 29, 28, 30, 31, 32, 33] (.ops 3 (.split 41 (.ops 12 (.split 53 (.skips 16 (hO 3)) (hO 19))) (.skips 29 (hO 2))))) hL)))))
theorem Dm6 {a0 : Option Addr} {K : Bool -> Wp} {w : World} (h : F192 a0 K w) : Aa Tryz.prog 192 #[(.pointer a0)] rB K w := tied Ai Tryz.func192 Cy3 _ h
def F195 (a0 : Option Addr) (K : Bool -> Wp) : Wp := nn a0 λ p1 => ld cI (p1.add 8) λ (x2 : Int) => sif (decide (x2 > 0)) ( nn a0 λ p3 => ld cI (p3.add 8) λ (x4 : Int) => nn a0 λ p5 => stC (p5.add 8) (vI (W64 (x4 - 1))) <| K true) ( nn a0 λ p6 => ld cI ((p6.add 1).add 4) λ (x7 : Int) => sif (x7 == 0) ( K false) ( drew <| nn a0 λ p8 => ld (.ptr) p8 λ (x9 : Option Addr) => nn a0 λ p10 => ld cI ((p10.add 1).add 4) λ (x11 : Int) => Aa Tryz.prog 86 #[(.pointer x9), (vI (W64 (x11 - 1)))] (.one (.agg Bg)) λ (x12 : (Int × Int × Int × Int × Int × Sl × Sl × Unit)) => nn a0 λ p13 => Ad (p13.add 1) (vA Bg x12) 7 <| nn a0 λ p14 => lds Bg (p14.add 1) λ (x15 : (Int × Int × Int × Int × Int × Sl × Sl × Unit)) => cN 80 #[(vA Bg x15)] λ x16 => nn a0 λ p17 => stC (p17.add 8) (vI (if 0 > (W64 (x16 - 1)) then 0 else (W64 (x16 - 1)))) <| K true))
def Cy2 : Hint := (hS (hR 1) (hS (hS (hR 5) (hC (hS (hR 8) (hS (hR 1) hL)) hL)) (hS (hS (hR 6) (hC (hS (hR 1) hL) hL)) (hS (.region (lR 15) (hO 15)) (hS (hR 11) (hS (hR 1) hL))))))
theorem Dm5 {a0 : Option Addr} {K : Bool -> Wp} {w : World} (h : F195 a0 K w) : Aa Tryz.prog 195 #[(.pointer a0)] rB K w := tied Ai Tryz.func195 Cy2 _ h
def F196 (a0 : Option Addr) (K : Bool -> Wp) : Wp := nn a0 λ p1 => lds Bg (p1.add 1) λ (x2 : (Int × Int × Int × Int × Int × Sl × Sl × Unit)) => cN 80 #[(vA Bg x2)] λ x3 => K (x3 == 0)
def Cy1 : Hint := (hS (hR 1) (hS (hR 7) hL))
theorem Dm4 {a0 : Option Addr} {K : Bool -> Wp} {w : World} (h : F196 a0 K w) : Aa Tryz.prog 196 #[(.pointer a0)] rB K w := tied Ai Tryz.func196 Cy1 _ h
def F197 (a0 : (Int × Int × Int × Int × Int × Sl × Sl × Unit)) (a1 : Int) (a2 : Bool) (K : Int -> Wp) : Wp := Af (.cells #[(vI a0.1), (vI a0.2.1), (vI a0.2.2.1), (vI a0.2.2.2.1), (vI a0.2.2.2.2.1), a0.2.2.2.2.2.1.v, a0.2.2.2.2.2.2.1.v] 135) λ b1 => lds Bg (at0 b1) λ (x2 : (Int × Int × Int × Int × Int × Sl × Sl × Unit)) => cN 204 #[(vA Bg x2), (vI a1)] λ x3 => cN 205 #[(vI x3)] λ x4 => sif a2 ( K (if 1 < x4 then 1 else x4)) ( K x4)
def Cy0 : Hint := (hS (hR 2) (hS (hR 5) (hS (hS (hR 1) (hC (hS (hR 3) hL) hL)) (hS (hR 2) hL))))
theorem Dm3 {a0 : (Int × Int × Int × Int × Int × Sl × Sl × Unit)} {a1 : Int} {a2 : Bool} {K : Int -> Wp} {w : World} (h : F197 a0 a1 a2 K w) : Aa Tryz.prog 197 #[(vA Bg a0), (vI a1), (.bool a2)] rI K w := tied Ai Tryz.func197 Cy0 _ h
def F203 (a0 : Option Addr) (a1 : Int) (K : Int -> Wp) : Wp := nn a0 λ p1 => ld cI (p1.add 3) λ (x2 : Int) => jU (λ J3 => nn a0 λ p5 => ld cI (p5.add 2) λ (x6 : Int) => sN (λ s7 again8 => jB (λ J9 => sif (decide (s7.2.1 >= 0)) ( nn a0 λ p11 => lds Bg (p11.add 9) λ (x12 : (Int × Int × Int × Int × Int × Sl × Sl × Unit)) => cN 80 #[(vA Bg x12)] λ x13 => J9 ((decide (s7.2.1 < x13)), ())) ( J9 (false, ()))) λ s10 => sif s10.1 ( jI (λ J14 => drew <| nn a0 λ p16 => lds Bg (p16.add 9) λ (x17 : (Int × Int × Int × Int × Int × Sl × Sl × Unit)) => nn a0 λ p18 => ld cI (p18.add 5) λ (x19 : Int) => cN 204 #[(vA Bg x17), (vI s7.2.1)] λ x20 => keep (λ w => w.cell? (p18.add 5) = some (Cell.val cI x19)) <| sif (x20 != x19) ( J14 (s7.1, ())) ( sif ((W64 (s7.1 - 1)) == 0) ( K s7.2.1) ( J14 ((W64 (s7.1 - 1)), ())))) λ s15 => again8 (s15.1, (W64 (s7.2.1 + a1)), ())) ( J3 ())) (x2, (W64 (x6 + a1)), ())) λ s4 => K (-1)
def Cx5 : Hint := (hS (hR 1) (hS (hR 5) (hJ (0x7ffffffff870, []) (hS (hR 7) (.block (.loop 0x7ffffffe0070 [(5, tI), (6, tI)] (hS (hJ (0xffe0000, [(27, tB)]) (.region [] (.ops 3 (.split 19 (hO 8) (.skips 7 (hO 1))))) (hC hL hL)) (hJ (0x7fff80000030, [(5, tI)]) (.block (hS (hS (.region [0, 1, 2, 3, 4, 6, 7, 8, 9, 5, 10] (hO 11)) (hC hL hL)) (hS (hR 3) (hS (hR 2) (hC (hS (hR 2) hL) hL))))) (hR 4)))))) (hS (hR 1) hL))))
theorem Ct4 {a0 : Option Addr} {a1 : Int} {K : Int -> Wp} {w : World} (h : F203 a0 a1 K w) : Aa Tryz.prog 203 #[(.pointer a0), (vI a1)] rI K w := tied Ai Tryz.func203 Cx5 _ h
def F204 (a0 : (Int × Int × Int × Int × Int × Sl × Sl × Unit)) (a1 : Int) (K : Int -> Wp) : Wp := Af (.cells #[(vI a0.1), (vI a0.2.1), (vI a0.2.2.1), (vI a0.2.2.2.1), (vI a0.2.2.2.2.1), a0.2.2.2.2.2.1.v, a0.2.2.2.2.2.2.1.v] 135) λ b1 => drew <| ld (.sl) (ad b1 5) λ (x2 : Sl) => ld (.sl) (ad b1 6) λ (x3 : Sl) => ixI x3 a1 1 λ x5 => ixI x2 x5 1 λ x7 => K x7
def Cx4 : Hint := (hS (hR 2) (hS (.region (lR 10) (hO 10)) hL))
theorem Dl8 {a0 : (Int × Int × Int × Int × Int × Sl × Sl × Unit)} {a1 : Int} {K : Int -> Wp} {w : World} (h : F204 a0 a1 K w) : Aa Tryz.prog 204 #[(vA Bg a0), (vI a1)] rI K w := tied Ai Tryz.func204 Cx4 _ h
end Go.Proofs.YtolhlldgnfbemaaGreatDoor
namespace Go.Proofs.YtolhlldgnfbemaaGreatDoor
open Go Go.Vx Cdc Trx Lns
section
variable {w w' : World} {S : Nat -> Prop} {p : Nat} {e : Enc} {lim na : Nat} {O : Nat -> Prop} {M : Parts}
abbrev lnT (l : Ln) : Cells.T Jj := ((l.from_ : Int), (l.to_ : Int), (l.next : Int), (l.kind : Int), ())
theorem hal (e : Enc) (M : Parts) : (atoms (aOf e M)).length = (aOf e M).length := List.length_map _
theorem Aj9 (A : List Int) (k : Nat) : skI A (k : Int) = match sk A k with | some m => (m : Int) | none => -1 := by
 unfold skI
 rw [if_neg (by omega), Int.toNat_natCast]
 all_goals (cases sk A k <;> rfl)
theorem Au4 (h : Txt w p e lim na O M) {f x : Nat} (hfx : f < x) (hx : x <= (atoms (aOf e M)).length) {K : Cells.T Jj -> Wp} (hK : ∀ w', Ext w w' -> K (lnT (lnC (atoms (aOf e M)) f x)) w') :
  Aa Tryz.prog 166 #[.pointer (some (at0 p)), .int .i64 (f : Int), .int .i64 (x : Int)] (.one (.agg Jj)) K w := by
 refine Do2 ?_
 unfold F166
 have few := h.few; have lims := h.lims
 generalize hA : atoms (aOf e M) = A at *
 have hAl : A.length = (aOf e M).length := by rw [← hA]; exact hal e M
 refine (St.start w).Af λ b1 w1 S1 e1 => ?_
 have ew : W64 ((x : Int) - 2) = (x : Int) - 2 := wrap64 (by omega) (by omega)
 rw [ew]
 obtain ⟨g, hg⟩ : ∃ g : Nat, g = max f (x - 2) := ⟨_, rfl⟩
 have eg : (if (x : Int) - 2 > (f : Int) then (x : Int) - 2 else (f : Int)) = (g : Int) := by split <;> omega
 rw [eg]
 refine Sv (h.ext e1) λ s w2 o2 e2 => ?_
 rw [hA] at o2
 have hsub : sub A (g : Int) (x : Int) = (A.drop g).take (x - g) := by unfold sub; simp
 rw [hsub] at o2
 have hl := o2.len1
 rw [List.length_map, List.length_take, List.length_drop] at hl
 have hsl : s.len = x - g := by omega
 have get : ∀ i, i < x - g -> ((A.drop g).take (x - g))[i]? = A[g + i]? := λ i hi => by rw [List.getElem?_take, if_pos hi, List.getElem?_drop]
 have ew1 : W64 (((s.len : Nat) : Int) - 1) = ((x - g - 1 : Nat) : Int) := by rw [wrap64 (by omega) (by omega)]; omega
 rw [ew1]
 have S2 := S1.ext e2
 obtain ⟨a, ha⟩ : ∃ a, A[x - 1]? = some a := ⟨_, List.getElem?_eq_getElem (by omega)⟩
 have ex1 : W64 ((x : Int) - 1) = ((x - 1 : Nat) : Int) := by rw [wrap64 (by omega) (by omega)]; omega
 have fin : ∀ {l : Ln} {W : World}, St (λ _ => False) w W [(b1, .cells #[.int .i64 0, .int .i64 0, .int .i64 0, .int .i64 0] 133 (0, 0))] -> lnC A f x = l ->
   Ad (at0 b1) (.agg (Cells.vals Jj (lnT l)).toArray) 4 (lds Jj (at0 b1) λ x => K x) W := by
  intro l W SW el
  exact SW.Ad 0 rfl rfl rfl rfl λ w3 S3 _ => S3.lds 0 (lnT l) rfl (by subst el; exact hK w3 S3.upd)
 refine Fh (c := .int .i64) (xs := (A.drop g).take (x - g)) o2.in (by omega) (x := a) (by rw [Int.toNat_natCast, get _ (by omega), ← ha]; congr 1; omega) λ q => Ac (λ hc => ?_) (λ hc => ?_)
 ·simp only [beq_iff_eq] at hc
  rw [ex1]
  exact fin (l := ⟨f, x - 1, x, 3⟩) S2 (by unfold lnC; rw [if_pos (by rw [ha, hc])])
 ·simp only [beq_eq_false_iff_ne] at hc
  have h13 : ¬ A[x - 1]? = some 13 := by rw [ha]; exact λ h => hc (Option.some.inj h)
  refine Ae (λ y W => y = (decide (f + 1 < x /\ A[x - 2]? = some 13), ()) /\ w2 = W) ?_ ?_
  ·refine Ac (λ hd => ?_) (λ hd => ?_)
   ·simp only [decide_eq_true_eq, gt_iff_lt] at hd
    have ew2 : W64 (((x - g - 1 : Nat) : Int) - 1) = ((x - g - 2 : Nat) : Int) := by rw [wrap64 (by omega) (by omega)]; omega
    rw [ew2]
    obtain ⟨b, hb⟩ : ∃ b, A[x - 2]? = some b := ⟨_, List.getElem?_eq_getElem (by omega)⟩
    refine Fh (c := .int .i64) (xs := (A.drop g).take (x - g)) o2.in (by omega) (x := b) (by rw [Int.toNat_natCast, get _ (by omega), ← hb]; congr 1; omega) λ q2 => ⟨Au ?_, rfl⟩
    simp only [beq_iff_eq, decide_eq_true_eq, hb, Option.some.injEq]
    omega
   ·simp only [decide_eq_false_iff_not, gt_iff_lt] at hd
    refine ⟨Au ?_, rfl⟩
    simp only [Bool.false_eq_true, decide_eq_true_eq, false_iff]
    omega
  rintro _ _ ⟨rfl, rfl⟩
  refine Ac (λ hd => ?_) (λ hd => ?_)
  ·simp only [decide_eq_true_eq] at hd
   have ew3 : (x : Int) - 2 = ((x - 2 : Nat) : Int) := by omega
   rw [ew3]
   exact fin (l := ⟨f, x - 2, x, 2⟩) S2 (by unfold lnC; rw [if_neg h13, if_pos hd])
  ·simp only [decide_eq_false_iff_not] at hd
   rw [ex1]
   exact fin (l := ⟨f, x - 1, x, 1⟩) S2 (by unfold lnC; rw [if_neg h13, if_neg hd])
def Cs8 (r : Option Ln) : Cells.T Jj × Int × Unit := match r with
 | some l => (lnT l, 0, ())
 | none => (lnT ⟨0, 0, 0, 0⟩, 2, ())
theorem Bw0 {i : Int} (h : Txt w p e lim na O M) (hi : i < 2 ^ 62) {K : Cells.T Jj × Int × Unit -> Wp} (hK : ∀ w', Ext w w' -> K (Cs8 (lnI (atoms (aOf e M)) i)) w') :
  Aa Tryz.prog 106 #[.pointer (some (at0 p)), .int .i64 i] (.tup [(.agg Jj), (.one (.int .i64))]) K w := by
 refine Ds7 ?_
 unfold F106
 have few := h.few; have lims := h.lims
 have hal := hal e M
 refine (St.start w).Af λ b1 w1 S1 e1 => ?_
 refine Ac (λ hc => ?_) (λ hc => ?_)
 ·simp only [decide_eq_true_eq] at hc
  refine S1.Ad 0 rfl rfl rfl rfl λ w2 S2 _ => S2.lds 0 (lnT ⟨0, 0, 0, 0⟩) rfl ?_
  have := hK w2 S2.upd
  unfold lnI at this
  rw [if_pos hc] at this
  exact this
 simp only [decide_eq_false_iff_not] at hc
 obtain ⟨n, rfl⟩ : ∃ n : Nat, i = (n : Int) := ⟨i.toNat, by omega⟩
 unfold lnI at hK
 rw [if_neg hc, Int.toNat_natCast] at hK
 refine Zj (h.ext e1) λ w2 e2 => ?_
 have S2 := S1.ext e2
 rw [Aj9]
 cases hf : sk (atoms (aOf e M)) n with
 | none =>
  refine Ac (λ _ => ?_) (λ h => by simp at h)
  refine S2.Ad 0 rfl rfl rfl rfl λ w3 S3 _ => S3.lds 0 (lnT ⟨0, 0, 0, 0⟩) rfl ?_
  have := hK w3 S3.upd
  unfold Kw at this
  rw [hf] at this
  exact this
 | some f =>
  refine Ac (λ h => by simp at h; omega) (λ _ => ?_)
  obtain ⟨hnb, hfl, hnf, _⟩ := Nw hf
  refine Jc (h.ext S2.upd) λ w3 e3 => Po (h.ext (S2.ext e3).upd) λ w4 e4 => ?_
  have S4 := (S2.ext e3).ext e4
  rw [Int.toNat_natCast, ← hal, ← Jk]
  refine Ac (λ hlt => ?_) (λ hlt => ?_)
  ·simp only [decide_eq_true_eq] at hlt
   have ew : W64 ((n : Int) + 1) = ((n + 1 : Nat) : Int) := by rw [wrap64 (by omega) (by omega)]; omega
   rw [ew]
   refine Zj (h.ext S4.upd) λ w5 e5 => ?_
   have S5 := S4.ext e5
   rw [Aj9]
   obtain ⟨x, hx⟩ := Ae7 (A := atoms (aOf e M)) (k := n + 1) (by omega)
   obtain ⟨_, hxl, _, _⟩ := Nw hx
   rw [hx]
   refine Au4 (h.ext S5.upd) (Cj3 hf hx (by omega)) hxl λ w6 e6 => (S5.ext e6).Ad 0 rfl rfl rfl rfl λ w7 S7 _ => S7.lds 0 (lnT _) rfl ?_
   have := hK w7 S7.upd
   unfold Kw at this
   rw [hf] at this
   simp only [hx] at this
   exact this
  ·simp only [decide_eq_false_iff_not] at hlt
   refine Jc (h.ext S4.upd) λ w5 e5 => Jc (h.ext (S4.ext e5).upd) λ w6 e6 => ((S4.ext e5).ext e6).Ad 0 rfl rfl rfl rfl λ w7 S7 _ => S7.lds 0 (lnT ⟨f, (aOf e M).length, (aOf e M).length, 0⟩) rfl ?_
   have := hK w7 S7.upd
   unfold Kw at this
   rw [hf] at this
   simp only [Vb (atoms (aOf e M)) (n + 1) (by omega)] at this
   rw [hal] at this
   exact this
theorem Bv4 {at_ : Int} (h : Txt w p e lim na O M) {K : Int -> Wp} (hK : ∀ w', Ext w w' -> K ((nb (atoms (aOf e M)) at_.toNat : Nat) : Int) w') :
  Aa Tryz.prog 130 #[.pointer (some (at0 p)), .int .i64 at_] rI K w := by
 refine Dq6 ?_
 unfold F130
 have hal := hal e M
 refine Jc h λ w1 e1 => Po (h.ext e1) λ w2 e2 => ?_
 have := hK w2 (e1.trans e2)
 have e : nb (atoms (aOf e M)) (if (((aOf e M).length : Nat) : Int) < (if (0 : Int) > at_ then (0 : Int) else at_) then (((aOf e M).length : Nat) : Int) else (if (0 : Int) > at_ then (0 : Int) else at_)).toNat = nb (atoms (aOf e M)) at_.toNat := by
  by_cases h0 : (0 : Int) > at_
  ·rw [if_pos h0, if_neg (by omega)]
   have : at_.toNat = (0 : Int).toNat := by omega
   rw [this]
  ·rw [if_neg h0]
   split
   ·rw [Int.toNat_natCast, Y8 _ _ (by omega), Y8 _ _ (by omega)]
   ·rfl
 rw [e]; exact this
theorem As3 (h : Txt w p e lim na O M) {K : Bool -> Wp} (hK : ∀ w', Ext w w' -> K (ended (atoms (aOf e M))) w') :
  Aa Tryz.prog 133 #[.pointer (some (at0 p))] rB K w := by
 refine Dq3 ?_
 unfold F133
 have hal := hal e M
 unfold ended at hK
 refine Jc h λ w1 e1 => Ac (λ hc => ?_) (λ hc => ?_)
 ·simp only [decide_eq_true_eq, gt_iff_lt] at hc
  refine Po (h.ext e1) λ w2 e2 => Zj (h.ext (e1.trans e2)) λ w3 e3 => ?_
  have := hK w3 ((e1.trans e2).trans e3)
  rw [Int.toNat_natCast, ← hal, ← Jk, Aj9]
  rw [decide_eq_true (by omega), Bool.true_and] at this
  cases hs : sk (atoms (aOf e M)) (brs (atoms (aOf e M))) with
  | none =>
   rw [hs] at this
   have e1 : ((-1 : Int) == (((atoms (aOf e M)).length : Nat) : Int)) = false := by rw [beq_eq_false_iff_ne]; omega
   show K ((-1 : Int) == _) w3
   rw [e1]; exact this
  | some m =>
   rw [hs] at this
   have e1 : ((m : Int) == (((atoms (aOf e M)).length : Nat) : Int)) = (some m == some (atoms (aOf e M)).length) := by rw [Bool.eq_iff_iff, beq_iff_eq, beq_iff_eq, Option.some.injEq]; omega
   show K ((m : Int) == _) w3
   rw [e1]; exact this
 ·simp only [decide_eq_false_iff_not, gt_iff_lt] at hc
  have := hK w1 e1
  rw [decide_eq_false (by omega), Bool.false_and] at this
  exact this
theorem As4 (h : Txt w p e lim na O M) {K : Int -> Wp} (hK : ∀ w', Ext w w' -> K ((lnN (atoms (aOf e M)) : Nat) : Int) w') :
  Aa Tryz.prog 87 #[.pointer (some (at0 p))] rI K w := by
 refine A87 ?_
 unfold F87
 have few := h.few; have lims := h.lims
 have hal := hal e M
 have hb : brs (atoms (aOf e M)) <= (atoms (aOf e M)).length := by rw [Jk]; exact Ar2 _ _
 refine Jc h λ w1 e1 => Po (h.ext e1) λ w2 e2 => ?_
 rw [Int.toNat_natCast, ← hal, ← Jk]
 refine Ae (λ x W => x = (((lnN (atoms (aOf e M)) : Nat) : Int), ()) /\ Ext w W) ?_ (λ x W hx => by obtain ⟨rfl, hx⟩ := hx; exact hK W hx)
 refine As3 (h.ext (e1.trans e2)) λ w3 e3 => ?_
 have e03 := (e1.trans e2).trans e3
 refine Ac (λ hc => ⟨?_, e03⟩) (λ hc => ⟨?_, e03⟩)
 ·simp only [Bool.not_eq_true'] at hc
  unfold lnN
  rw [hc, wrap64 (by omega) (by omega)]
  simp
 ·simp only [Bool.not_eq_false'] at hc
  unfold lnN
  rw [hc]
  simp
end
end Go.Proofs.YtolhlldgnfbemaaGreatDoor
